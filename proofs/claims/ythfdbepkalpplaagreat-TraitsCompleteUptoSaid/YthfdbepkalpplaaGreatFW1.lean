/- Part of the proofs of the statements of this seat. -/
import Derived.Test.YthfdbepkalpplaaGreatFW0
import Derived.Scope
set_option maxRecDepth 10000
set_option linter.unusedVariables false
set_option linter.unusedSimpArgs false
namespace Go.Fr
open Go Go.RowKit
theorem set_comm:∀(L:Loc) {k d:Nat}(o o':Own),k≠d->(L.set k o).set d o'=(L.set d o').set k o:=by
 intro L k d o o' h;have hb:Nat.beq k d=false:=by cases e:Nat.beq k d with | true=>exact vv (aaR e) h | false=>rfl
 have b:Nat.beq d k=false:=by cases e:Nat.beq d k with | true=>exact vv (aaR e).symm h | false=>rfl
 have a:∀{i j:Nat},Nat.beq i j=false->(Nat.ble i j=true/\Nat.ble j i=false)\/(Nat.ble i j=false/\Nat.ble j i=true):=by
  intro i j v;have s:=gK v;rcases Nat.lt_or_gt_of_ne s with z | y
  ·refine .inl ⟨Nat.ble_eq_true_of_le (by omega),?_⟩;cases e:Nat.ble j i with | true=>have:=abb e;omega | false=>rfl
  ·refine .inr ⟨?_,Nat.ble_eq_true_of_le (by omega)⟩;cases e:Nat.ble i j with | true=>have:=abb e;omega | false=>rfl
 induction L with
 | nil =>
  simp only[Loc.set,hb,b];rcases a hb with⟨h1,h2⟩ | ⟨h1,h2⟩<;>simp only[h1,h2,Loc.set]
 | cons p l ih =>
  obtain⟨j,q⟩:=p;cases f:Nat.beq j k with
  | true =>
   have:=aaR f;subst this;have c:Nat.beq j j=true:=by simp
   simp only[Loc.set,c,hb,b];rcases a hb with⟨h1,h2⟩ | ⟨h1,h2⟩
   ·simp only[h1,Loc.set,c]
   ·simp only[h1,h2,Loc.set,c,b]
  | false =>
   cases m:Nat.beq j d with
   | true =>
    have:=aaR m;subst this;have c:Nat.beq j j=true:=by simp
    simp only[Loc.set,c,hb,b];rcases a b with⟨h1,h2⟩ | ⟨h1,h2⟩
    ·simp only[h1,Loc.set,c]
    ·simp only[h1,h2,Loc.set,c,hb]
   | false =>
    simp only[Loc.set,f,m];rcases a f with⟨r,x⟩ | ⟨r,x⟩<;>rcases a m with⟨n,w⟩ | ⟨n,w⟩
    ·simp only[r,n,Loc.set,f,m,ih]
    ·simp only[r,n,Loc.set,f,m,hb,b];have h1:Nat.ble d k=true:=by
      have x1:=abb r;have x2:=abb w;exact Nat.ble_eq_true_of_le (by omega)
     simp only[h1]
    ·simp only[r,n,Loc.set,f,m,hb,b];have h1:Nat.ble k d=true:=by
      have x1:=abb n;have x2:=abb x;exact Nat.ble_eq_true_of_le (by omega)
     simp only[h1]
    ·rcases a hb with⟨t,u⟩ | ⟨t,u⟩
     ·simp only[r,n,Loc.set,f,m,hb,b,t,u]
     ·simp only[r,n,Loc.set,f,m,hb,b,t,u]
theorem put_comm {d a:Option Nat}{v u:SV}{ρ:Env}(h:∀k,d=some k->a≠some k):put d v (put a u ρ)=put a u (put d v ρ):=by
 funext t
 simp only[put_eq];cases d with
 | none=>rfl
 | some k =>
  cases a with
  | none=>rfl
  | some b =>
   have:=h k rfl;simp only[];split<;>split
   ·rename_i h1 h2;subst h1;subst h2;exact vv rfl this
   ·rfl
   ·rfl
   ·rfl
def ct:List X->List Nat
 | []=>[]
 | .t n::l=>n::ct l
 | .mt _ n::l=>n::ct l
 | _::l=>ct l
theorem mC:∀{l:List X}{n:Nat},X.t n∈l->n∈ct l
 | [],n,h=>by cases h
 | .t m::l,n,h=>by
  simp only[ct,aaX];rcases aaX.1 h with h | h
  ·injection h with h;exact .inl h
  ·exact .inr (mC h)
 | .c v::l,n,h=>by
  rcases aaX.1 h with h | h
  ·cases h
  ·exact mC (l:=l) h
 | .fn f::l,n,h=>by
  rcases aaX.1 h with h | h
  ·cases h
  ·exact mC (l:=l) h
 | .mt a m::l,n,h=>by
  simp only[ct,aaX];rcases aaX.1 h with h | h
  ·cases h
  ·exact .inr (mC h)
theorem nW:∀{l:List X}{a:String}{n:Nat},X.mt a n∈l->n∈ct l
 | [],_,n,h=>by cases h
 | .t m::l,a,n,h=>by
  simp only[ct,aaX];rcases aaX.1 h with h | h
  ·cases h
  ·exact .inr (nW h)
 | .c v::l,a,n,h=>by
  rcases aaX.1 h with h | h
  ·cases h
  ·exact nW (l:=l) h
 | .fn f::l,a,n,h=>by
  rcases aaX.1 h with h | h
  ·cases h
  ·exact nW (l:=l) h
 | .mt b m::l,a,n,h=>by
  simp only[ct,aaX];rcases aaX.1 h with h | h
  ·injection h with h1 h2;exact .inl h2
  ·exact .inr (nW h)
theorem fZ {l:List X}{d:Option Nat}{v:SV}{ρ:Env}(h:∀k,d=some k->k∉ct l):∀x∈l,ev (put d v ρ) x=ev ρ x:=by
 intro x a;cases x with
 | t n =>
  simp only[ev,put_eq];cases d with
  | none=>rfl
  | some k =>
   simp only[];rw[o5];intro e;subst e;exact h n rfl (mC a)
 | c v=>rfl
 | fn f=>rfl
 | mt b n =>
  simp only[ev,put_eq];cases d with
  | none=>rfl
  | some k =>
   simp only[];rw[o5];intro e;subst e;exact h n rfl (nW a)
def Vd (L:Loc) (ρ:Env):Prop:=∀t k off,ρ t=.own k off->∃g ty cs,L.get k=some (.box g ty cs)
theorem Vd.ev {L:Loc}{ρ:Env}(h:Vd L ρ) {x:X}{k off:Nat}(e:Fr.ev ρ x=.own k off):∃g ty cs,L.get k=some (.box g ty cs):=by
 cases x with
 | t n=>exact h n k off e
 | c v=>cases e
 | fn f=>cases e
 | mt a n =>
  simp only[Fr.ev,Ui] at e;split at e<;>cases e
def Keeps (L L':Loc):Prop:=∀k g ty cs,L.get k=some (.box g ty cs)->L'.get k=some (.box g ty cs)
theorem Keeps.refl (L:Loc):Keeps L L:=fun _ _ _ _ h=>h
theorem Keeps.trans {L L' L'':Loc}(h:Keeps L L') (a:Keeps L' L''):Keeps L L'':=fun k g ty cs e=>a k g ty cs (h k g ty cs e)
theorem bY {L:Loc}{k j:Nat}{o:Own}(h:j≠k):(L.set k o).get j=L.get j:=by rw[Loc.aac,o5 h]
theorem Keeps.new {L:Loc}{k:Nat}{o:Own}(h:L.get k=none):Keeps L (L.set k o):=fun j g ty cs e=>by
 rw[bY (fun a=>by rw[a,h] at e;cases e)];exact e
theorem Keeps.row {L:Loc}{k:Nat}{v:Value}{t:TypeId}{sz n:Nat}{xs:List Value}{o:Own}(h:L.get k=some (.row v t sz n xs)):Keeps L (L.set k o):=fun j g ty cs e=>by
 rw[bY (fun a=>by rw[a,h] at e;cases e)];exact e
section
variable {P:Program}{F:aA}{L:Loc}{ρ:Env}{K:dI}
theorem CallsA.up {f:Nat}{args:Array Value}{F F1:aA}{R:aA->List Own->Value->Prop}{Lin:List Own}(h:CallsA P f args F Lin R) (j:F.le F1) (x:s6 F):CallsA P f args F1 Lin R:=by
 refine⟨h.ent,h.mono,fun w l=>?_⟩;have q:St F (inp Lin) w:=⟨fun b o e=>l.frz b o (j b o e),l.own,fun k o g e hb=>(by
  cases h1:F g with
  | none=>rfl
  | some t=>have h2:=j g t h1;rw[l.off k o g e hb] at h2;cases h2),l.sep,x⟩
 refine(h.run w q).mono ?_;rintro e w' ⟨v,F',Lo,rfl,c,a,y⟩;have m:∀b o,F1 b=some o->¬(inp Lin).owns b:=by
  rintro b o r ⟨k,o',e,hb⟩;rw[l.off k o' b e hb] at r;cases r
 have n:∀b o,F1 b=some o->w'.heap[b]?=some o:=fun b o e=>by
  have h1:=l.frz b o e;rw[a.same b (Array.getElem?_eq_some_iff.1 h1).1 (m b o e)];exact h1
 have d:F'.le (fun b=>match F' b with | some o=>some o | none=>F1 b):=fun b o e=>by simp only[e]
 refine⟨v,fun b=>match F' b with | some o=>some o | none=>F1 b,Lo,rfl,⟨fun b o e=>?_,c.own,fun k o g e hb=>?_,c.sep,s6.mono d c.glob⟩,⟨fun b o e=>?_,a.os,a.tape,a.output,a.size,a.same,fun b hb=>?_,a.own⟩,h.mono _ _ _ _ d y⟩
 ·split at e
  ·rename_i o' p;injection e with e
   subst e;exact c.frz b _ p
  ·exact n b o e
 ·have h1:=c.off k o g e hb;simp only[h1];cases h2:F1 g with
  | none=>rfl
  | some s =>
   rcases a.own g ⟨k,o,e,hb⟩ with h3 | h3
   ·exact vv h3 (m g s h2)
   ·have:=(Array.getElem?_eq_some_iff.1 (l.frz g s h2)).1;omega
 ·cases h1:F' b with
  | none=>exact e
  | some o' =>
   have h2:=c.frz b o' h1;rw[n b o e] at h2;exact h2.symm
 ·cases h1:F' b with
  | none=>rw[h1] at hb;exact .inl hb
  | some o' =>
   rcases a.frz b (by rw[h1];simp) with h3 | h3 | h3
   ·refine .inl (fun h4=>?_);cases h5:F b with
    | none=>exact h3 h5
    | some u=>have:=j b u h5;rw[h4] at this;cases this
   ·exact .inr (.inl h3)
   ·exact .inr (.inr h3)
theorem Real.glob {F:aA}{L:Loc}(h:Real F L):s6 F:=by obtain⟨w,a⟩:=h;exact a.glob
theorem Real.down {F F':aA}{L L':Loc}(h:Real F' L') (c:F.le F') (f:s6 F) (d:L'.part L):Real F L:=by
 obtain⟨w,a⟩:=h;have a:=a.part d;refine⟨w,⟨fun b o e=>a.frz b o (c b o e),a.own,fun k o g e hb=>?_,a.sep,f⟩⟩;cases j:F g with
 | none=>rfl
 | some o'=>have h1:=c g o' j;rw[a.off k o g e hb] at h1;cases h1
theorem Kg {L:Loc}{k:Nat}{o:Own}(h:L.get k=none):(L.set k o).part L:=fun j p e=>by
 rw[bY (fun a=>by rw[a,h] at e;cases e)];exact e
theorem BX {L L1:Loc}{k:Nat}{o:Own}(h:L1.part L) (b:L.get k=none):(L1.set k o).part (L.set k o):=fun j p e=>by
 rw[Loc.aac] at e ⊢;split
 ·rename_i a;rw[fo a] at e;exact e
 ·rename_i a;rw[o5 a] at e;exact h j p e
def Left (d:Option Nat) (L L':Loc):Prop:=L'=L\/(∃k o,d=some k/\L.get k=none/\L'=L.set k o)\/∃k a t sz n xs,L.get k=some (.row a t sz n xs)/\L'=L.set k (.row (.slice none 0 0) t sz 0 [])
theorem Left.keeps {d:Option Nat}{L L':Loc}(h:Left d L L'):Keeps L L':=by
 rcases h with rfl | ⟨k,o,_,a,rfl⟩ | ⟨k,b,t,sz,n,xs,a,rfl⟩
 ·exact Keeps.refl _
 ·exact Keeps.new a
 ·exact Keeps.row a
theorem z7 {L L1:Loc}{k:Nat}{o:Own}(h:L1.part L):(L1.set k o).part (L.set k o):=fun j p e=>by
 rw[Loc.aac] at e ⊢;split
 ·rename_i a;rw[fo a] at e;exact e
 ·rename_i a;rw[o5 a] at e;exact h j p e
theorem dQ.imp {f:Nat}{args:List Value}{F:aA}{L:Loc}{d:Option Nat}{K K':aA->Loc->Value->Prop}(h:dQ P f args F L d K) (p:∀F' L' v,F.le F'->Left d L L'->Real F' L'->K F' L' v->K' F' L' v):dQ P f args F L d K':=by
 cases h with
 | frz R h1 h2=>exact .frz R h1 fun v F' Lo a e=>⟨(h2 v F' Lo a e).1,fun b=>p F' L v a (.inl rfl) b ((h2 v F' Lo a e).2 b)⟩
 | own R k h1 hd j h2 =>
  refine .own R k h1 hd j fun v F' Lo a e=>?_;obtain⟨o,h3,h4⟩:=h2 v F' Lo a e;exact⟨o,h3,fun b=>p F' _ v a (.inr (.inl ⟨k,o,hd,j,rfl⟩)) b (h4 b)⟩
 | row R l m t sz n xs h1 c h2 =>
  refine .row R l m t sz n xs h1 c fun v F' Lo a e=>?_;obtain⟨h3,h4⟩:=h2 v F' Lo a e;exact⟨h3,fun b=>p F' _ v a (.inr (.inr ⟨l,m,t,sz,n,xs,c,rfl⟩)) b (h4 b)⟩
 | lent R l m t sz n xs h1 c h2=>exact .lent R l m t sz n xs h1 c fun v F' a e b=>p F' L v a (.inl rfl) b (h2 v F' a e b)
theorem dQ.up {f:Nat}{args:List Value}{F F1:aA}{L L1:Loc}{d:Option Nat}{K:aA->Loc->Value->Prop}(h:dQ P f args F L d K) (b:F.le F1) (r:s6 F) (m:L1.part L) (s:∀k,d=some k->L.get k=none->L1.get k=none) :
  dQ P f args F1 L1 d (fun F' L' v=>F1.le F'/\Real F' L'/\((L'=L1/\K F' L v)\/(∃k o,d=some k/\L.get k=none/\L'=L1.set k o/\K F' (L.set k o) v)\/∃k q t sz n xs,L.get k=some (.row q t sz n xs)/\L'=L1.set k (.row (.slice none 0 0) t sz 0 [])/\K F' (L.set k (.row (.slice none 0 0) t sz 0 [])) v)):=by
 cases h with
 | frz R h1 h2 =>
  refine .frz R (h1.up b r) fun v F' Lo a l=>?_;obtain⟨h3,h4⟩:=h2 v F' Lo (aA.le_trans b a) l;exact⟨h3,fun c=>⟨a,c,.inl ⟨rfl,h4 (c.down (aA.le_refl _) c.glob m)⟩⟩⟩
 | own R k h1 hd j h2 =>
  refine .own R k (h1.up b r) hd (s k hd j) fun v F' Lo a l=>?_;obtain⟨o,h3,h4⟩:=h2 v F' Lo (aA.le_trans b a) l;exact⟨o,h3,fun c=>⟨a,c,.inr (.inl ⟨k,o,hd,j,rfl,h4 (c.down (aA.le_refl _) c.glob (BX m j))⟩)⟩⟩
 | row R p q t sz n xs h1 e h2 =>
  refine .row R p q t sz n xs (h1.up b r) (m p _ e) fun v F' Lo a l=>?_;obtain⟨h3,h4⟩:=h2 v F' Lo (aA.le_trans b a) l;exact⟨h3,fun c=>⟨a,c,.inr (.inr ⟨p,q,t,sz,n,xs,e,rfl,h4 (c.down (aA.le_refl _) c.glob (z7 m))⟩)⟩⟩
 | lent R p q t sz n xs h1 e h2 =>
  exact .lent R p q t sz n xs (h1.up b r) (m p _ e) fun v F' a l c=>⟨a,c,.inl ⟨rfl,h2 v F' (aA.le_trans b a) l (c.down (aA.le_refl _) c.glob m)⟩⟩
theorem dQ.some {f:Nat}{args:List Value}{F:aA}{L:Loc}{d:Option Nat}{K:aA->Loc->Value->Prop}(h:dQ P f args F L d K) (hr:Real F L):∃F' L' v,F.le F'/\Left d L L'/\Real F' L'/\K F' L' v:=by
 obtain⟨w,s⟩:=hr;have y:St F (inp []) w:=⟨s.frz,fun k o e=>(by cases e),fun k o g e=>(by cases e),fun k k' o o' g e=>(by cases e),s.glob⟩;cases h with
 | frz R h1 h2 =>
  obtain⟨e,w',fr,⟨v,F',Lo,_,l,b,u⟩,_⟩:=h1.run w y [];obtain⟨rfl,h3⟩:=h2 v F' Lo b.le u;have a:Real F' L:=⟨w',(gF (ks:=[]) (ko:=[]) s rfl List.nodup_nil List.nodup_nil (fun _ h=>(by cases h)) l b rfl).1⟩;exact⟨F',L,v,b.le,.inl rfl,a,h3 a⟩
 | own R k h1 hd x h2 =>
  obtain⟨e,w',fr,⟨v,F',Lo,_,l,b,u⟩,_⟩:=h1.run w y [];obtain⟨o,rfl,h3⟩:=h2 v F' Lo b.le u;have a:Real F' (L.set k o):=⟨w',(gF (ks:=[]) (ko:=[k]) s rfl List.nodup_nil (by simp) (fun j r=>.inr (by simp at r;rw[r];exact x)) l b rfl).1⟩;exact⟨F',_,v,b.le,.inr (.inl ⟨k,o,hd,x,rfl⟩),a,h3 a⟩
 | row R q z t sz n xs h1 m h2 =>
  have c:L.sub [q]=Option.some [.row z t sz n xs]:=by simp only[Loc.sub,m]
  obtain⟨e,w',fr,⟨v,F',Lo,_,l,b,u⟩,_⟩:=h1.run w (s.handed c (by simp)) [];obtain⟨rfl,h3⟩:=h2 v F' Lo b.le u;have hb:=(gF (ks:=[q]) (ko:=[]) s c (by simp) List.nodup_nil (fun _ h=>(by cases h)) l b rfl).1;have a:Real F' (L.set q (.row (.slice none 0 0) t sz 0 [])):=by
   have h5:((L.aaf [q]).puts [] []).get q=none:=by simp only[Loc.aaf,Loc.puts,Loc.aah,fo]
   have h6:=hb.put h5 (o:=.row (.slice none 0 0) t sz 0 []) (World.ownsRow_nil w' 0 t sz) (fun g hg=>by cases hg);refine⟨w',h6.part fun j p e=>?_⟩;rw[Loc.aac] at e ⊢;split at e
   ·rename_i r;rw[fo r];exact e
   ·rename_i r;rw[o5 r];simp only[Loc.aaf,Loc.puts,Loc.aah,o5 r];exact e
  exact⟨F',_,v,b.le,.inr (.inr ⟨q,z,t,sz,n,xs,m,rfl⟩),a,h3 a⟩
 | lent R q z t sz n xs h1 m h2 =>
  have c:L.sub [q]=Option.some [.row z t sz n xs]:=by simp only[Loc.sub,m]
  obtain⟨e,w',fr,⟨v,F',Lo,_,l,b,⟨rfl,u⟩⟩,_⟩:=h1.run w (s.handed c (by simp)) [];have hb:=(gF (ks:=[q]) (ko:=[q]) s c (by simp) (by simp) (fun _ h=>.inl h) l b rfl).1;have a:Real F' L:=by
   refine⟨w',hb.part fun j p e=>?_⟩;simp only[Loc.aaf,Loc.puts,Loc.aac,Loc.aah];split
   ·rename_i r;rw[r,m] at e;exact e
   ·exact e
  exact⟨F',L,v,b.le,.inl rfl,a,h2 v F' b.le u a⟩
theorem qh.imp {F F':aA}{L:Loc}{d:Option Nat}{e sz b:Nat}{s x:Value}{K K':Loc->Value->Prop}(h:qh F L d e sz b s x K) (k:F.le F')
  (u:∀f n xs o j v,(L.get f=some (.row s e sz n xs)\/(d=some f/\L.get f=none))->Real F' (L.set f (.row v e sz o j))->(Real F (L.set f (.row v e sz o j))->K (L.set f (.row v e sz o j)) v)->K' (L.set f (.row v e sz o j)) v):qh F' L d e sz b s x K':=by
 obtain⟨f,n,xs,m,l,h1,⟨p,c,h2,h3,h4⟩,h5,h6,h7,h8⟩:=h;refine⟨f,n,xs,m,l,?_,⟨p,c,h2,h3,?_⟩,h5,h6,h7,fun v z q=>u f n xs _ _ v ?_ q (h8 v z)⟩
 ·rcases h1 with h1 | h1 | ⟨h1,a,p,y,t,r,w⟩
  ·exact .inl h1
  ·exact .inr (.inl h1)
  ·exact .inr (.inr ⟨h1,a,p,y,t,r,w.imp (·.mono k) id⟩)
 ·rcases h4 with h4 | h4
  ·exact .inl (h4.mono k)
  ·exact .inr h4
 ·rcases h1 with h1 | ⟨h1,a,_⟩ | ⟨h1,a,_⟩
  ·exact .inl h1
  ·exact .inr ⟨h1,a⟩
  ·exact .inr ⟨h1,a⟩
theorem Ir {L L1:Loc}{k:Nat}{o:Own}(h:L1.part L):(L1.set k o).part (L.set k o):=fun j p e=>by
 rw[Loc.aac] at e ⊢;split
 ·rename_i a;rw[fo a] at e;exact e
 ·rename_i a;rw[o5 a] at e;exact h j p e
theorem Dq {e sz b:Nat}{zs:List Value}{s x:X}{d:Option Nat}:evalOp P (.appD e sz b zs s x) d F L ρ K=(match ev ρ s,ev ρ x with
  | .v sv,.v a=>qh F L d e sz b sv a fun L1 v=>K F L1 (put d (.v v) ρ)
  | _,_=>False):=rfl
theorem Real.store {F:aA}{L:Loc}{k g:Nat}{t:TypeId}{cs cs':List Value}(c:t≠0) (m:Real F L) (l:L.get k=Option.some (.box g t cs)):Real F (L.set k (.box g t cs')):=by
 obtain⟨w,j⟩:=m;have a:=tF w g cs'.toArray;refine⟨w.setRow g cs'.toArray,j.turn l ?_ (fun b h d=>a.block b h (fun e=>d (by rw[e];rfl))) (fun n f=>.inl f)⟩;show _=_;have h0:w.heap[g]?=Option.some (.cells cs.toArray t (0,0)):=by rw[<-jy c];exact j.own k _ l
 rw[jy c];exact setRow_heap w g cs.toArray _ t _ h0
theorem qh.some {F:aA}{L:Loc}{d:Option Nat}{e sz b:Nat}{s x:Value}{K:Loc->Value->Prop}(h:qh F L d e sz b s x K) (hr:Real F L) :
  ∃f v n' r,((∃n xs,L.get f=some (.row s e sz n xs))\/(d=some f/\L.get f=none))/\Real F (L.set f (.row v e sz n' r))/\K (L.set f (.row v e sz n' r)) v:=by
 obtain⟨f,n,xs,m,a,h1,⟨ad,c,h2,h3,h4⟩,h5,h6,h7,h8⟩:=h;obtain⟨w,hs⟩:=hr;have o:xs.length=n*sz:=by
  rcases h1 with h1 | ⟨_,_,rfl,rfl,_⟩ | ⟨_,_,_,_,_,q,_⟩
  ·exact(hs.own f _ h1).1
  ·simp
  ·exact q
 have u:=lN w (xs++a) e (n+m) sz h6 (by rw[abA,o,h3,Nat.add_mul]);have aa:St F (L.del f) w:=hs.part (fun j p e=>by rw[Loc.aah] at e;split at e;cases e;exact e);have z:(L.del f).get f=none:=by rw[Loc.aah,fo rfl]
 have ab:=(kz aa z (cs:=(xs++a).toArray) (t:=e) (e:=.row (.slice (Option.some ⟨w.heap.size,0,none⟩) (n+m) (n+m)) e sz (n+m) (xs++a)) rfl u).1;have k:Real F (L.set f (.row (.slice (Option.some ⟨w.heap.size,0,none⟩) (n+m) (n+m)) e sz (n+m) (xs++a))) :=
  ⟨_,ab.part (fun j p e=>by
   rw[Loc.aac] at e ⊢;split
   ·rename_i y;rw[fo y] at e;exact e
   ·rename_i y;rw[o5 y] at e;rw[Loc.aah,o5 y];exact e)⟩
 refine⟨f,_,n+m,xs++a,?_,k,h8 _ ⟨_,_,rfl,fun e=>(by cases e)⟩ k⟩;rcases h1 with h1 | ⟨h1,l,_⟩ | ⟨h1,l,_⟩
 ·exact .inl ⟨n,xs,h1⟩
 ·exact .inr ⟨h1,l⟩
 ·exact .inr ⟨h1,l⟩
def Iu (o:dZ):Bool:=cT o||hU o||eF o||pW o
def okD (o:dZ):Bool:=Iu o||iR o
theorem uW {o:dZ}{d:Option Nat}{v:SV}(h:∀k,d=some k->k∉ct (bA o)):Alike o L L ρ (put d v ρ) :=
 fun x a=>⟨fZ h x a,fun _ _ _=>rfl⟩
theorem xY {o:dZ}(ho:okD o=true) {d w:Option Nat}{u:SV}(h:∀k,w=some k->k∉ct (bA o)) (hd:∀k,d=some k->w≠some k)
  (c:evalOp P o d F L ρ (fun F1 L1 ag=>K F1 L1 (put w u ag))):evalOp P o d F L (put w u ρ) K:=by
 by_cases z:cT o=true
 ·rw[cn z] at c ⊢;have:=rf z (aA.le_refl F) (uW (L:=L) (ρ:=ρ) (v:=u) h) c;refine(fp z).mono _ _ (fun v q=>?_) this;rw[put_comm hd];exact q
 ·have q:∀x∈bA o,val L (put w u ρ) x=val L ρ x:=fun x hx=>by simp only[val,fZ h x hx]
  cases o<;>first | (exfalso;revert z ho;simp[okD,Iu,cT,hU,eF,pW,iR];done) | skip
  case boxD t x =>
   have e:=q x (by simp[bA]);simp only[evalOp,e] at c ⊢;split at c
   ·rename_i k;split at c
    ·intro g p;have:=c g p;rw[put_comm hd];exact this
    ·exact c
   ·exact c
  case allocD t zs =>
   simp only[evalOp] at c ⊢;split at c
   ·rename_i k;split at c
    ·intro g p;have:=c g p;rw[put_comm hd];exact this
    ·exact c
   ·exact c
  case mkFD e n sz xs =>
   have m:=ny (sz:=sz) (xs:=xs) q;have y:=cq (xs:=xs) q;simp only[evalOp,m,y] at c ⊢;split at c
   ·intro g F' ac hg p;rw[put_comm hd];exact c g F' ac hg p
   ·exact c
  case callD f args =>
   have m:=dA (xs:=args) q;simp only[evalOp,m] at c ⊢;refine c.imp fun F' L' v _ _ _ h=>?_;rw[put_comm hd];exact h
  case callVD f args =>
   have r:=fZ (v:=u) (ρ:=ρ) h f (by simp[bA]);have m:=dA (xs:=args) (L:=L) (L':=L) (ρ:=ρ) (ρ':=put w u ρ) (fun x hx=>q x (by simp[bA,hx]));simp only[evalOp,r,m] at c ⊢;split at c
   ·refine c.imp fun F' L' v _ _ _ h=>?_;rw[put_comm hd];exact h
   ·exact c
  case appD e sz b zs s x =>
   have r:=fZ (v:=u) (ρ:=ρ) h s (by simp[bA]);have m:=fZ (v:=u) (ρ:=ρ) h x (by simp[bA]);simp only[evalOp,r,m] at c ⊢;split at c
   ·refine c.imp (aA.le_refl F) fun kd n xs n' ao v _ p h=>?_;rw[put_comm hd];exact h p
   ·exact c
  case makeSD e sz n zs =>
   simp only[evalOp] at c ⊢;split at c
   ·rename_i k;split at c
    ·intro g p;have:=c g p;rw[put_comm hd];exact this
    ·exact c
   ·exact c
  case makeSV e sz b zs x =>
   have m:=q x (by simp[bA]);simp only[evalOp,m] at c ⊢;split at c
   ·rename_i k;split at c
    ·intro g p;have:=c g p;rw[put_comm hd];exact this
    ·exact c
   ·exact c
  case storeD n a x =>
   obtain⟨n',a',x',k,off,g,t,cs,j,m,y,e3,e4,e5,c⟩:=iS rfl c;have r:=fZ (v:=u) (ρ:=ρ) h a (by simp[bA]);have l:=q x (by simp[bA]);rcases j with j | j
   ·injection j with q1 q2 q3
    subst q1 q2 q3;exact iH (.inl rfl) (by rw[l];exact m) (by rw[l];exact y) (by rw[r];exact e3) e4 e5 (by rw[l,put_comm hd];exact c)
   ·cases j
  case storeK key n a x =>
   obtain⟨n',a',x',k,off,g,t,cs,j,m,y,e3,e4,e5,c⟩:=iS rfl c;have r:=fZ (v:=u) (ρ:=ρ) h a (by simp[bA]);have l:=q x (by simp[bA]);rcases j with j | j
   ·cases j
   ·injection j with q0 q1 q2 q3
    subst q0 q1 q2 q3;exact iH (.inr rfl) (by rw[l];exact m) (by rw[l];exact y) (by rw[r];exact e3) e4 e5 (by rw[l,put_comm hd];exact c)
def uX:dZ->dZ->Bool
 | .build _ _,_=>true
 | .mkfn _ _ _,_=>true
 | .loadK k _ _ _,.storeK a _ _ _=>match Nat.beq k a with | true=>false | false=>true
 | x,_=>Dn x
theorem rT {x y:dZ}(h:uX x y=true):cT x=true:=by
 unfold uX at h;split at h
 ·rfl
 ·rfl
 ·rfl
 ·exact Dp h
theorem AP {x y:dZ}{k n:Nat}{a z:X}{L L':Loc}{V:SV->Prop}(h:uX x y=true) (d:y=.storeD n a z\/y=.storeK k n a z) (l:∀sv,conc L' sv=conc L sv) (r:∀j,j≠k->L'.get j=L.get j) (c:aK x F L ρ V):aK x F L' ρ V:=by
 unfold uX at h;split at h
 ·rename_i zs ps;have e:=qu (ps:=ps) (zs:=zs) (L:=L) (L':=L') (ρ:=ρ) (ρ':=ρ) (fun p _=>l _);simp only[aK,e] at c ⊢;exact c
 ·rename_i f a b;have q:=dA (xs:=a) (L:=L) (L':=L') (ρ:=ρ) (ρ':=ρ) (fun _ _=>l _);have s:=dA (xs:=b) (L:=L) (L':=L') (ρ:=ρ) (ρ':=ρ) (fun _ _=>l _);simp only[aK,q,s] at c ⊢;exact c
 ·rename_i k1 ag m x t m2 v w;rcases d with d | d
  ·cases d
  ·injection d with q0 q1 q2 q3
   subst q0;split at h
   ·cases h
   ·rename_i hb;have hb:=gK hb;simp only[aK] at c ⊢;split at c
    ·rename_i u off e;split at c
     ·rename_i o;have o:=aaR o;subst o;simp only[r _ hb];exact c
     ·exact c.elim
    ·exact c.elim
 ·exact AL h c
theorem Dr {L:Loc}{k g:Nat}{t:TypeId}{cs cs':List Value}(b:L.get k=some (.box g t cs)) (sv:SV):conc (L.set k (.box g t cs')) sv=conc L sv:=by
 cases sv with
 | v u=>rfl
 | el a j=>rfl
 | own j off =>
  simp only[conc,Loc.aac]
  by_cases e:j=k
  ·subst e;rw[fo rfl,b]
  ·rw[o5 e]
def xZ (x y:dZ):Bool:=(cT x&&Iu y&&(!Kc x||cT y))||(hU x&&eF y)||(pW x&&eF y)||(eF x&&eF y)||(uX x y&&iR y)||(iR x&&uX y x)
inductive Made:dZ->Option Nat->aA->Loc->Env->aA->Loc->SV->Prop
 | box {t:TypeId}{x:X}{k:Nat}{F:aA}{L:Loc}{ρ:Env}(g:Nat):Made (.boxD t x) (some k) F L ρ F (L.set k (.box g t (aM (val L ρ x)))) (.own k 0)
 | alloc {t:TypeId}{zs:List Value}{k:Nat}{F:aA}{L:Loc}{ρ:Env}(g:Nat):Made (.allocD t zs) (some k) F L ρ F (L.set k (.box g t zs)) (.own k 0)
 | mkS {e:TypeId}{sz n:Nat}{zs:List Value}{k:Nat}{F:aA}{L:Loc}{ρ:Env}(g:Nat):Made (.makeSD e sz n zs) (some k) F L ρ F (L.set k (.row (.slice (some ⟨g,0,none⟩) n n) e sz n (List.replicate n zs).flatten)) (.v (.slice (some ⟨g,0,none⟩) n n))
 | mkV {e:TypeId}{sz b:Nat}{zs:List Value}{x:X}{k:Nat}{F:aA}{L:Loc}{ρ:Env}(g n:Nat) (hn:n=mq (val L ρ x)):Made (.makeSV e sz b zs x) (some k) F L ρ F (L.set k (.row (.slice (some ⟨g,0,none⟩) n n) e sz n (List.replicate n zs).flatten)) (.v (.slice (some ⟨g,0,none⟩) n n))
 | mkF {e:TypeId}{n sz:Nat}{xs:List X}{d:Option Nat}{F:aA}{L:Loc}{ρ:Env}(g:Nat) (F':aA) (hle:F.le F') (hg:F' g=some (.cells (cellsOf L ρ xs).toArray e (0,0))) :
   Made (.mkFD e n sz xs) d F L ρ F' L (.v (.slice (some ⟨g,0,none⟩) n n))
def bI:dZ->Option Nat->Loc->Env->Bool
 | .boxD _ _,some k,L,_=>(L.get k).isNone
 | .allocD _ _,some k,L,_=>(L.get k).isNone
 | .makeSD _ sz n zs,some k,L,_=>match L.get k,iz zs sz,Nat.ble n 9223372036854775807 with | none,true,true=>true | _,_,_=>false
 | .makeSV _ sz b zs x,some k,L,ρ=>match L.get k,iz zs sz,tu b (val L ρ x) with | none,true,true=>true | _,_,_=>false
 | .mkFD _ _ sz xs,_,L,ρ=>gC L ρ sz xs
 | _,_,_,_=>false
theorem bQ {o:dZ}(h:eF o=true) {d:Option Nat}:evalOp P o d F L ρ K↔bI o d L ρ=true/\∀F' L' v,Made o d F L ρ F' L' v->Real F' L'->K F' L' (put d v ρ):=by
 cases o<;>first | (exfalso;revert h;simp[eF];done) | skip
 case boxD t x =>
  simp only[evalOp];cases d with
  | none=>simp[bI]
  | some k =>
   simp only[bI];cases l:L.get k with
   | none =>
    simp only[Option.isNone_none,true_and];constructor
    ·rintro h F' L' v c a;cases c with
     | box g=>exact h g a
    ·intro h g a;exact h _ _ _ (.box g) a
   | some p=>simp
 case allocD t zs =>
  simp only[evalOp];cases d with
  | none=>simp[bI]
  | some k =>
   simp only[bI];cases l:L.get k with
   | none =>
    simp only[Option.isNone_none,true_and];constructor
    ·rintro h F' L' v c a;cases c with
     | alloc g=>exact h g a
    ·intro h g a;exact h _ _ _ (.alloc g) a
   | some p=>simp
 case makeSD e sz n zs =>
  simp only[evalOp];cases d with
  | none=>simp[bI]
  | some k =>
   simp only[bI];cases l:L.get k with
   | some p=>simp
   | none =>
    cases h1:iz zs sz with
    | false=>simp
    | true =>
     cases h2:Nat.ble n 9223372036854775807 with
     | false=>simp
     | true =>
      simp only[true_and];constructor
      ·rintro h F' L' v c a;cases c with
       | mkS g=>exact h g a
      ·intro h g a;exact h _ _ _ (.mkS g) a
 case makeSV e sz b zs x =>
  simp only[evalOp];cases d with
  | none=>simp[bI]
  | some k =>
   simp only[bI];cases l:L.get k with
   | some p=>simp
   | none =>
    cases h1:iz zs sz with
    | false=>simp
    | true =>
     cases h2:tu b (val L ρ x) with
     | false=>simp
     | true =>
      simp only[true_and];constructor
      ·rintro h F' L' v c a;cases c with
       | mkV g n m=>subst m;exact h g a
      ·intro h g a;exact h _ _ _ (.mkV g _ rfl) a
 case mkFD e n sz xs =>
  simp only[evalOp,bI];cases q:gC L ρ sz xs with
  | false=>simp
  | true =>
   simp only[true_and];constructor
   ·rintro h F' L' v c a;cases c with
    | mkF g F' f j=>exact h g _ f j a
   ·intro h g F' f j a;exact h _ _ _ (.mkF g F' f j) a
theorem BZ:∀{l:List Value}{n:Nat},l.length=n->iz l n=true
 | [],0,_=>rfl
 | _::l,n+1,h=>BZ (l:=l) (by simpa using h)
theorem nX {e:TypeId}{sz n k:Nat}{zs:List Value}(h:bI (.makeSD e sz n zs) (some k) L ρ=true):L.get k=none/\zs.length=sz/\n<=maxLen:=by
 simp only[bI] at h;split at h
 ·rename_i h1 h2 h3;exact⟨h1,jN h2,abb h3⟩
 ·cases h
theorem nY {e:TypeId}{sz b k:Nat}{zs:List Value}{x:X}(h:bI (.makeSV e sz b zs x) (some k) L ρ=true):L.get k=none/\zs.length=sz/\mq (val L ρ x)<=maxLen/\tu b (val L ρ x)=true:=by
 simp only[bI] at h;split at h
 ·rename_i h1 h2 h3;exact⟨h1,jN h2,Ii h3,h3⟩
 ·cases h
theorem AQ {o:dZ}{d:Option Nat}(r:Real F L) (h:bI o d L ρ=true):∃F' L' v,Made o d F L ρ F' L' v/\F.le F'/\Real F' L':=by
 obtain⟨w,j⟩:=r;have c:∀(e:TypeId) (cs:List Value),∃F',F.le F'/\F' w.heap.size=some (.cells cs.toArray e (0,0))/\Real F' L:=by
  intro e cs;have f:=iF w (.cells cs.toArray e);obtain⟨hf,m⟩:=tD j;exact⟨_,aA.aav (j.alloc (.cells cs.toArray e)) f,fo rfl,⟨_,(j.alloc (.cells cs.toArray e)).freeze f m⟩⟩
 cases o<;>cases d<;>simp only[bI] at h<;>try (cases h;done)
 ·rename_i t x k;rw[Option.isNone_iff_eq_none] at h;refine⟨_,_,_,.box w.heap.size,aA.le_refl F,⟨_,(mr j h (ob:=nG t (aM (val L ρ x))) (e:=.box w.heap.size t (aM (val L ρ x))) rfl ?_).1⟩⟩;show _=_;rw[iF]
 ·rename_i t zs k;rw[Option.isNone_iff_eq_none] at h;refine⟨_,_,_,.alloc w.heap.size,aA.le_refl F,⟨_,(mr j h (ob:=nG t zs) (e:=.box w.heap.size t zs) rfl ?_).1⟩⟩;show _=_;rw[iF]
 ·rename_i e n sz xs;obtain⟨F',h1,h2,h3⟩:=c e (cellsOf L ρ xs);exact⟨F',L,_,.mkF w.heap.size F' h1 h2,h1,h3⟩
 ·rename_i e n sz xs k;obtain⟨F',h1,h2,h3⟩:=c e (cellsOf L ρ xs);exact⟨F',L,_,.mkF w.heap.size F' h1 h2,h1,h3⟩
 ·rename_i e sz n zs k;obtain⟨q,l,p⟩:=nX (ρ:=ρ) (e:=e) h;have a:=lN w (List.replicate n zs).flatten e n sz p (by rw[List.length_flatten];simp[l]);refine⟨_,_,_,.mkS w.heap.size,aA.le_refl F,⟨_,(kz j q (cs:=((List.replicate n zs).flatten).toArray) (t:=e) (e:=.row (.slice (some ⟨w.heap.size,0,none⟩) n n) e sz n (List.replicate n zs).flatten) rfl a).1⟩⟩
 ·rename_i e sz b zs x k;obtain⟨q,l,p,_⟩:=nY (e:=e) h;have a:=lN w (List.replicate (mq (val L ρ x)) zs).flatten e (mq (val L ρ x)) sz p (by rw[List.length_flatten];simp[l]);refine⟨_,_,_,.mkV w.heap.size _ rfl,aA.le_refl F,⟨_,(kz j q (cs:=((List.replicate (mq (val L ρ x)) zs).flatten).toArray) (t:=e) (e:=.row (.slice (some ⟨w.heap.size,0,none⟩) (mq (val L ρ x)) (mq (val L ρ x))) e sz (mq (val L ρ x)) (List.replicate (mq (val L ρ x)) zs).flatten) rfl a).1⟩⟩
theorem Made.le {o:dZ}{d:Option Nat}{F':aA}{L':Loc}{v:SV}(h:Made o d F L ρ F' L' v):F.le F':=by
 cases h with
 | box g=>exact aA.le_refl _
 | alloc g=>exact aA.le_refl _
 | mkS g=>exact aA.le_refl _
 | mkV g n b=>exact aA.le_refl _
 | mkF g F' a c=>exact a
theorem Made.part {o:dZ}{d:Option Nat}{F':aA}{L':Loc}{v:SV}(a:bI o d L ρ=true) (h:Made o d F L ρ F' L' v):L'.part L:=by
 intro j p e;cases h with
 | box g =>
  simp only[bI,Option.isNone_iff_eq_none] at a;rw[bY (fun h=>by rw[h] at e;rw[a] at e;cases e)];exact e
 | alloc g =>
  simp only[bI,Option.isNone_iff_eq_none] at a;rw[bY (fun h=>by rw[h] at e;rw[a] at e;cases e)];exact e
 | mkS g =>
  have a:=(nX a).1;rw[bY (fun h=>by rw[h] at e;rw[a] at e;cases e)];exact e
 | mkV g n c =>
  have a:=(nY a).1;rw[bY (fun h=>by rw[h] at e;rw[a] at e;cases e)];exact e
 | mkF g F' b f=>exact e
theorem Made.get {o:dZ}{d:Option Nat}{F':aA}{L':Loc}{v:SV}(a:bI o d L ρ=true) (h:Made o d F L ρ F' L' v):Keeps L L':=by
 cases h with
 | box g =>
  simp only[bI,Option.isNone_iff_eq_none] at a;exact Keeps.new a
 | alloc g =>
  simp only[bI,Option.isNone_iff_eq_none] at a;exact Keeps.new a
 | mkS g=>exact Keeps.new (nX a).1
 | mkV g n c=>exact Keeps.new (nY a).1
 | mkF g F' b e=>exact Keeps.refl _
theorem Made.frame {o:dZ}{d:Option Nat}{F':aA}{L':Loc}{v:SV}(h:Made o d F L ρ F' L' v):∀j,d≠some j->L'.get j=L.get j:=by
 intro j a;cases h with
 | box g=>exact bY (fun e=>a (by rw[e]))
 | alloc g=>exact bY (fun e=>a (by rw[e]))
 | mkS g=>exact bY (fun e=>a (by rw[e]))
 | mkV g n c=>exact bY (fun e=>a (by rw[e]))
 | mkF g F' b f=>rfl
theorem iU {o:dZ}{d:Option Nat}{L L':Loc}{ρ ρ':Env}(c:∀x∈bA o,val L' ρ' x=val L ρ x) (a:∀k,d=some k->(L'.get k=none->L.get k=none)) (h:bI o d L' ρ'=true):bI o d L ρ=true:=by
 cases o<;>cases d<;>simp only[bI] at h ⊢<;>try (cases h;done)
 ·rename_i t x k;rw[Option.isNone_iff_eq_none] at h ⊢;exact a k rfl h
 ·rename_i t zs k;rw[Option.isNone_iff_eq_none] at h ⊢;exact a k rfl h
 ·rename_i e n sz xs;rw[<-ny (xs:=xs) c];exact h
 ·rename_i e n sz xs k;rw[<-ny (xs:=xs) c];exact h
 ·rename_i e sz n zs k;obtain⟨h1,h2,h3⟩:=nX (L:=L') (ρ:=ρ') (e:=e) h;have h3:Nat.ble n 9223372036854775807=true:=Nat.ble_eq_true_of_le h3;rw[a k rfl h1,BZ h2,h3]
 ·rename_i e sz b zs x k;obtain⟨h1,h2,_,h3⟩:=nY (L:=L') (ρ:=ρ') (e:=e) h;rw[c x (by simp[bA])] at h3;rw[a k rfl h1,BZ h2,h3]
theorem Made.like {o:dZ}{d:Option Nat}{ρ ρ':Env}{F':aA}{L':Loc}{v:SV}(b:∀x∈bA o,val L ρ' x=val L ρ x) (h:Made o d F L ρ' F' L' v):Made o d F L ρ F' L' v:=by
 cases h with
 | box g=>rw[b _ (by simp[bA])];exact .box g
 | alloc g=>exact .alloc g
 | mkS g=>exact .mkS g
 | mkV g n e=>exact .mkV g n (by rw[e,b _ (by simp[bA])])
 | mkF g F' a c =>
  rename_i xs;rw[cq (xs:=xs) b] at c;exact .mkF g F' a c
theorem ga {L L':Loc}{ρ:Env}(b:Vd L ρ) (c:Keeps L L') (x:X):val L' ρ x=val L ρ x:=by
 simp only[val];cases e:ev ρ x with
 | v u=>rfl
 | el a j=>rfl
 | own k off =>
  obtain⟨g,ty,cs,h⟩:=b.ev e;simp only[conc,c k g ty cs h,h]
theorem cL {l:List X}{d:Option Nat}{v:SV}(h:∀k,d=some k->k∉ct l):∀x∈l,val L (put d v ρ) x=val L ρ x:=fun x a=>by simp only[val,fZ h x a]
theorem Iv {x y:dZ}{dx dy:Option Nat}{F1 F2:aA}{L1 L2:Loc}{v1 v2:SV}(r:bI x dx L ρ=true) (az:bI y dy L ρ=true) (d:∀k,dx=some k->k∉ct (bA y)) (aE:∀k,dy=some k->k∉ct (bA x))
  (c:∀k,dx=some k->dy≠some k) (h:Vd L ρ) (h1:Made y dy F L ρ F1 L1 v1) (h2:Made x dx F1 L1 (put dy v1 ρ) F2 L2 v2) :
  ∃Fa La,Made x dx F L ρ Fa La v2/\Made y dy Fa La (put dx v2 ρ) F2 L2 v1:=by
 have ux:∀z∈bA x,val L1 (put dy v1 ρ) z=val L ρ z:=fun z hz=>by
  rw[cL aE z hz,ga h (h1.get az)]
 cases h2 with
 | box b =>
  rw[ux _ (by simp[bA])];rename_i t z k;have fresh:∀{o:Own},Keeps L (L.set k o):=by
   simp only[bI,Option.isNone_iff_eq_none] at r;exact Keeps.new r
  cases h1 with
  | box a =>
   rename_i t' p k';refine⟨F,_,.box b,?_⟩;rw[set_comm L _ _ (fun e=>c k rfl (by rw[e]))];have e:val (L.set k (.box b t (aM (val L ρ z)))) (put (some k) (.own k 0) ρ) p=val L ρ p:=by
    rw[cL d p (by simp[bA]),ga h (fresh)]
   rw[<-e];exact .box a
  | alloc a =>
   rename_i t' ae k';refine⟨F,_,.box b,?_⟩;rw[set_comm L _ _ (fun e=>c k rfl (by rw[e]))];exact .alloc a
  | mkS a =>
   refine⟨F,_,.box b,?_⟩;rw[set_comm L _ _ (fun e=>c k rfl (by rw[e]))];exact .mkS a
  | mkV a n1 j =>
   refine⟨F,_,.box b,?_⟩;rw[set_comm L _ _ (fun e=>c k rfl (by rw[e]))];refine .mkV a n1 ?_;rw[j,cL d _ (by simp[bA]),ga h fresh]
  | mkF a F' f q =>
   rename_i e' n' ab l;refine⟨F,_,.box b,.mkF a _ f ?_⟩;rw[cq (L:=L) (ρ:=ρ) (xs:=l) (fun u w=>by rw[cL d u (by simpa[bA] using w),ga h fresh])];exact q
 | alloc b =>
  rename_i t zs k;have fresh:∀{o:Own},Keeps L (L.set k o):=by
   simp only[bI,Option.isNone_iff_eq_none] at r;exact Keeps.new r
  cases h1 with
  | box a =>
   rename_i t' p k';refine⟨F,_,.alloc b,?_⟩;rw[set_comm L _ _ (fun e=>c k rfl (by rw[e]))];have e:val (L.set k (.box b t zs)) (put (some k) (.own k 0) ρ) p=val L ρ p:=by
    rw[cL d p (by simp[bA]),ga h (fresh)]
   rw[<-e];exact .box a
  | alloc a =>
   rename_i t' ae k';refine⟨F,_,.alloc b,?_⟩;rw[set_comm L _ _ (fun e=>c k rfl (by rw[e]))];exact .alloc a
  | mkS a =>
   refine⟨F,_,.alloc b,?_⟩;rw[set_comm L _ _ (fun e=>c k rfl (by rw[e]))];exact .mkS a
  | mkV a n1 j =>
   refine⟨F,_,.alloc b,?_⟩;rw[set_comm L _ _ (fun e=>c k rfl (by rw[e]))];refine .mkV a n1 ?_;rw[j,cL d _ (by simp[bA]),ga h fresh]
  | mkF a F' f q =>
   rename_i e' n' ab l;refine⟨F,_,.alloc b,.mkF a _ f ?_⟩;rw[cq (L:=L) (ρ:=ρ) (xs:=l) (fun u w=>by rw[cL d u (by simpa[bA] using w),ga h fresh])];exact q
 | mkS b =>
  rename_i t al m zs k;have fresh:∀{o:Own},Keeps L (L.set k o):=by
   exact Keeps.new (nX r).1
  cases h1 with
  | box a =>
   rename_i t' p k';refine⟨F,_,.mkS b,?_⟩;rw[set_comm L _ _ (fun e=>c k rfl (by rw[e]))];have e:val (L.set k (.row (.slice (some ⟨b,0,none⟩) m m) t al m (List.replicate m zs).flatten)) (put (some k) (.v (.slice (some ⟨b,0,none⟩) m m)) ρ) p=val L ρ p:=by
    rw[cL d p (by simp[bA]),ga h (fresh)]
   rw[<-e];exact .box a
  | alloc a =>
   rename_i t' ae k';refine⟨F,_,.mkS b,?_⟩;rw[set_comm L _ _ (fun e=>c k rfl (by rw[e]))];exact .alloc a
  | mkS a =>
   refine⟨F,_,.mkS b,?_⟩;rw[set_comm L _ _ (fun e=>c k rfl (by rw[e]))];exact .mkS a
  | mkV a n1 j =>
   refine⟨F,_,.mkS b,?_⟩;rw[set_comm L _ _ (fun e=>c k rfl (by rw[e]))];refine .mkV a n1 ?_;rw[j,cL d _ (by simp[bA]),ga h fresh]
  | mkF a F' f q =>
   rename_i e' n' ab l;refine⟨F,_,.mkS b,.mkF a _ f ?_⟩;rw[cq (L:=L) (ρ:=ρ) (xs:=l) (fun u w=>by rw[cL d u (by simpa[bA] using w),ga h fresh])];exact q
 | mkV b m an =>
  rename_i t al b0 zs x0 k;have s:m=mq (val L ρ x0):=by rw[an,ux _ (by simp[bA])]
  clear an
  have fresh:∀{o:Own},Keeps L (L.set k o):=by
   exact Keeps.new (nY r).1
  cases h1 with
  | box a =>
   rename_i t' p k';refine⟨F,_,.mkV b m s,?_⟩;rw[set_comm L _ _ (fun e=>c k rfl (by rw[e]))];have e:val (L.set k (.row (.slice (some ⟨b,0,none⟩) m m) t al m (List.replicate m zs).flatten)) (put (some k) (.v (.slice (some ⟨b,0,none⟩) m m)) ρ) p=val L ρ p:=by
    rw[cL d p (by simp[bA]),ga h (fresh)]
   rw[<-e];exact .box a
  | alloc a =>
   rename_i t' ae k';refine⟨F,_,.mkV b m s,?_⟩;rw[set_comm L _ _ (fun e=>c k rfl (by rw[e]))];exact .alloc a
  | mkS a =>
   refine⟨F,_,.mkV b m s,?_⟩;rw[set_comm L _ _ (fun e=>c k rfl (by rw[e]))];exact .mkS a
  | mkV a n1 j =>
   refine⟨F,_,.mkV b m s,?_⟩;rw[set_comm L _ _ (fun e=>c k rfl (by rw[e]))];refine .mkV a n1 ?_;rw[j,cL d _ (by simp[bA]),ga h fresh]
  | mkF a F' f q =>
   rename_i e' n' ab l;refine⟨F,_,.mkV b m s,.mkF a _ f ?_⟩;rw[cq (L:=L) (ρ:=ρ) (xs:=l) (fun u w=>by rw[cL d u (by simpa[bA] using w),ga h fresh])];exact q
 | mkF b F' f q =>
  rename_i e n sz xs;have bb:=cq (xs:=xs) ux;rw[bb] at q;cases h1 with
  | box a =>
   rename_i t' p k';refine⟨F2,L,.mkF b _ f q,?_⟩;have e:=cL (L:=L) (ρ:=ρ) (v:=.v (.slice (some ⟨b,0,none⟩) n n)) d p (by simp[bA]);rw[<-e];exact .box a
  | alloc a=>exact⟨F2,L,.mkF b _ f q,.alloc a⟩
  | mkS a=>exact⟨F2,L,.mkF b _ f q,.mkS a⟩
  | mkV a n1 j=>exact⟨F2,L,.mkF b _ f q,.mkV a n1 (by rw[j,cL d _ (by simp[bA])])⟩
  | mkF a F1' ao aw =>
   rename_i e' n' ab l;refine⟨F2,L,.mkF b _ (aA.le_trans ao f) q,.mkF a _ (aA.le_refl _) ?_⟩;rw[cq (L:=L) (ρ:=ρ) (xs:=l) (fun u w=>by rw[cL d u (by simpa[bA] using w)])];exact f _ _ aw
theorem Kh {x y:dZ}{dx dy:Option Nat}(hr:Real F L) (hc:xZ x y=true) (ab:∀k,dx=some k->k∉ct (bA y)) (ag:∀k,dy=some k->k∉ct (bA x)) (d:∀k,dx=some k->dy≠some k)
  (ar:Vd L ρ) (w:evalOp P x dx F L ρ (fun F1 L1 ci=>evalOp P y dy F1 L1 ci K)):evalOp P y dy F L ρ (fun F1 L1 ci=>evalOp P x dx F1 L1 ci K):=by
 have ea:∀k,dy=some k->dx≠some k:=fun k e e'=>d k e' e;simp only[xZ,abr,aaN] at hc;rcases hc with((((⟨⟨hx,hy⟩,dd⟩ | ⟨hx,hy⟩) | ⟨hx,hy⟩) | ⟨hx,hy⟩) | ⟨hx,hy⟩) | ⟨hx,hy⟩
 ·rw[cn hx] at w;obtain⟨v,hT,p⟩:=(fp hx).ex _ w
  clear w
  have an:∀{F':aA}{L':Loc}{u:SV},F.le F'->Keeps L L'->K F' L' (put dy u (put dx v ρ))->(Kc x=false\/L'=L)->evalOp P x dx F' L' (put dy u ρ) K:=by
   intro F' L' u hF hL hk hR;rw[cn hx];have bl:Alike x L L' ρ (put dy u ρ):=fun z q=>⟨fZ ag z q,fun k off e=>by
    obtain⟨g,ty,cs,h⟩:=ar.ev e;rw[hL k g ty cs h,h]⟩
   refine(fp hx).mono _ _ (fun v' dr=>?_) (rf hx hF bl hT hR);subst dr;rw[put_comm d];exact hk
  have hv:=cL (L:=L) (ρ:=ρ) (v:=v) ab
  by_cases bm:cT y=true
  ·rw[cn bm] at p ⊢;have bl:Alike y L L (put dx v ρ) ρ:=fun z q=>⟨(fZ ab z q).symm,fun _ _ _=>rfl⟩;exact(fp bm).mono _ _ (fun u hu=>an (aA.le_refl F) (Keeps.refl _) hu (.inr rfl)) (rf bm (aA.le_refl F) bl p)
  ·have bz:Kc x=false:=by
    rcases dd with h | h
    ·cases e:Kc x with
     | false=>rfl
     | true=>rw[e] at h;cases h
    ·exact vv h bm
   by_cases cy:eF y=true
   ·rw[bQ cy] at p ⊢;obtain⟨h1,h2⟩:=p;have l:bI y dy L ρ=true:=iU (L':=L) (ρ':=put dx v ρ) hv (fun k _ e=>e) h1;refine⟨l,fun F' L' u hm bk=>an hm.le (hm.get l) (h2 F' L' u ?_ bk) (.inl bz)⟩;exact hm.like fun z q=>(hv z q).symm
   ·cases y<;>first | (exfalso;revert bm cy hy;simp[Iu,cT,hU,eF,pW];done) | skip
    case callD f args =>
     have e1:=dA (xs:=args) hv;simp only[evalOp,e1] at p ⊢;exact p.imp fun F' L' u bd hl _ h=>an bd hl.keeps h (.inl bz)
    case callVD f args =>
     have e0:=fZ (v:=v) (ρ:=ρ) ab f (by simp[bA]);have e1:=dA (xs:=args) (L:=L) (L':=L) (ρ:=ρ) (ρ':=put dx v ρ) (fun z q=>hv z (by simp[bA,q]));simp only[evalOp,e0,e1] at p ⊢;split at p
     ·exact p.imp fun F' L' u bd hl _ h=>an bd hl.keeps h (.inl bz)
     ·exact p.elim
    case appD e sz b zs s z =>
     have e0:=fZ (v:=v) (ρ:=ρ) ab s (by simp[bA]);have e1:=fZ (v:=v) (ρ:=ρ) ab z (by simp[bA]);simp only[evalOp,e0,e1] at p ⊢;split at p
     ·refine p.imp (aA.le_refl F) fun kd n xs n' bs u dE bk h=>an (aA.le_refl F) ?_ (h bk) (.inl bz);rcases dE with h | ⟨_,h⟩
      ·exact Keeps.row h
      ·exact Keeps.new h
     ·exact p.elim
 ·have al:∀{f:Nat}{args:List Value},dQ P f args F L dx (fun F' L' v=>evalOp P y dy F' L' (put dx (.v v) ρ) K) ->
    bI y dy L ρ=true/\∀F' L' u,Made y dy F L ρ F' L' u->dQ P f args F' L' dx (fun F2 L2 v=>K F2 L2 (put dx (.v v) (put dy u ρ))):=by
   intro f args hC;have up:∀{L1:Loc},Left dx L L1->∀{u:SV},∀z∈bA y,val L1 (put dx u ρ) z=val L ρ z:=by
    intro L1 hl u z q;rw[cL ab z q,ga ar hl.keeps]
   have l:bI y dy L ρ=true:=by
    obtain⟨F',L',v,bd,hl,_,h⟩:=hC.some hr;rw[bQ hy] at h;refine iU (L':=L') (ρ':=put dx (.v v) ρ) (up hl) (fun k hk e=>?_) h.1;rcases hl with rfl | ⟨j,o,hj,hn,rfl⟩ | ⟨j,rv,t,sz,n,xs,hj,rfl⟩
    ·exact e
    ·rw[bY (fun ej=>d j hj (by rw[<-ej];exact hk))] at e;exact e
    ·rw[Loc.aac] at e;split at e
     ·cases e
     ·exact e
   refine⟨l,fun F' L' u hm=>(hC.up hm.le hr.glob (hm.part l) (fun k hk hn=>by rw[hm.frame k (d k hk)];exact hn)).imp fun F2 L2 v bd dk aw h=>?_⟩
   clear dk
   obtain⟨h1,dg,h2⟩:=h
   clear dg
   rw[put_comm d];rcases h2 with⟨rfl,h2⟩ | ⟨k,o,hk,hn,rfl,h2⟩ | ⟨kr,rv,t,sz,n,xs,cw,rfl,h2⟩
   ·rw[bQ hy] at h2;refine h2.2 F2 L2 u ?_ aw;have r:=up (L1:=L) (.inl rfl) (u:=.v v)
    clear up h2
    cases hm with
    | box g=>rw[<-r _ (by simp[bA])];exact .box g
    | alloc g=>exact .alloc g
    | mkS g=>exact .mkS g
    | mkV g n hn=>exact .mkV g n (by rw[hn,r _ (by simp[bA])])
    | mkF g F' bc hg =>
     rename_i xs;refine .mkF g _ (aA.le_refl _) ?_;rw[cq (L:=L) (ρ:=ρ) (xs:=xs) (fun z q=>r z (by simpa[bA] using q))];exact h1 _ _ hg
   ·rw[bQ hy] at h2;refine h2.2 F2 _ u ?_ aw;have r:=up (L1:=L.set k o) (.inr (.inl ⟨k,o,hk,hn,rfl⟩)) (u:=.v v)
    clear up h2
    cases hm with
    | box g =>
     rw[set_comm L _ _ (fun e=>d k hk (by rw[e])),<-r _ (by simp[bA])];exact .box g
    | alloc g =>
     rw[set_comm L _ _ (fun e=>d k hk (by rw[e]))];exact .alloc g
    | mkS g =>
     rw[set_comm L _ _ (fun e=>d k hk (by rw[e]))];exact .mkS g
    | mkV g n hn =>
     rw[set_comm L _ _ (fun e=>d k hk (by rw[e]))];exact .mkV g n (by rw[hn,r _ (by simp[bA])])
    | mkF g F' bc hg =>
     rename_i xs;refine .mkF g _ (aA.le_refl _) ?_;rw[cq (L:=L) (ρ:=ρ) (xs:=xs) (fun z q=>r z (by simpa[bA] using q))];exact h1 _ _ hg
   ·rw[bQ hy] at h2;refine h2.2 F2 _ u ?_ aw;have r:=up (L1:=L.set kr (.row (.slice none 0 0) t sz 0 [])) (.inr (.inr ⟨kr,rv,t,sz,n,xs,cw,rfl⟩)) (u:=.v v);have av:∀k,dy=some k->eF y=true->bI y dy L ρ=true->(∀e n' dv bs,y≠.mkFD e n' dv bs)->kr≠k:=by
     intro k hk _ hc dp e;subst hk e;cases y<;>simp only[bI,cw,Option.isNone_some,aa5] at hc;exact dp _ _ _ _ rfl
    clear up h2
    cases hm with
    | box g =>
     rw[set_comm L _ _ (av _ rfl hy l (fun _ _ _ _=>by simp)).symm,<-r _ (by simp[bA])];exact .box g
    | alloc g =>
     rw[set_comm L _ _ (av _ rfl hy l (fun _ _ _ _=>by simp)).symm];exact .alloc g
    | mkS g =>
     rw[set_comm L _ _ (av _ rfl hy l (fun _ _ _ _=>by simp)).symm];exact .mkS g
    | mkV g n hn =>
     rw[set_comm L _ _ (av _ rfl hy l (fun _ _ _ _=>by simp)).symm];exact .mkV g n (by rw[hn,r _ (by simp[bA])])
    | mkF g F' bc hg =>
     rename_i xs;refine .mkF g _ (aA.le_refl _) ?_;rw[cq (L:=L) (ρ:=ρ) (xs:=xs) (fun z q=>r z (by simpa[bA] using q))];exact h1 _ _ hg
  cases x<;>first | (exfalso;revert hx;simp[hU];done) | skip
  case callD f args =>
   simp only[evalOp] at w;obtain⟨h1,h2⟩:=al w;rw[bQ hy];refine⟨h1,fun F' L' u hm _=>?_⟩;have e1:bn L' (put dy u ρ) args=bn L ρ args:=dA fun z q=>by rw[cL ag z (by simpa[bA] using q),ga ar (hm.get h1)]
   simp only[evalOp,e1];exact h2 F' L' u hm
  case callVD f args =>
   simp only[evalOp] at w;split at w
   case h_2=>exact w.elim
   rename_i eg fi ca hf;obtain⟨h1,h2⟩:=al w;rw[bQ hy];refine⟨h1,fun F' L' u hm _=>?_⟩;have e0:=fZ (v:=u) (ρ:=ρ) ag f (by simp[bA]);have e1:bn L' (put dy u ρ) args=bn L ρ args:=dA fun z q=>by rw[cL ag z (by simp[bA,q]),ga ar (hm.get h1)]
   simp only[evalOp,e0,e1,hf];exact h2 F' L' u hm
 ·cases x<;>first | (exfalso;revert hx;simp[pW];done) | skip
  case appD e sz b zs s z =>
   rw[Dq] at w;split at w
   case h_2=>exact w.elim
   rename_i sv xv cF cM;have l:bI y dy L ρ=true:=by
    obtain⟨kd,v,n',bs,h1,_,h⟩:=w.some hr;rw[bQ hy] at h;have cl:Keeps L (L.set kd (.row v e sz n' bs)):=by
     rcases h1 with⟨n,xs,h1⟩ | ⟨_,h1⟩
     ·exact Keeps.row h1
     ·exact Keeps.new h1
    refine iU (L':=_) (ρ':=put dx (.v v) ρ) (fun u hu=>by rw[cL ab u hu,ga ar cl]) (fun k hk e=>?_) h.1;rw[Loc.aac] at e;split at e
    ·cases e
    ·exact e
   rw[bQ hy];refine⟨l,fun F' L' u hm df=>?_⟩
   clear df
   have e0:=fZ (v:=u) (ρ:=ρ) ag s (by simp[bA]);have e1:=fZ (v:=u) (ρ:=ρ) ag z (by simp[bA]);simp only[evalOp,e0,e1,cF,cM];obtain⟨kd,n,xs,m,cd,h1,⟨ad,c,h2,h3,h4⟩,h5,h6,h7,h8⟩:=w;have cl:∀{o:Own},Keeps L (L.set kd o):=by
    rcases h1 with h1 | ⟨_,h1,_⟩ | ⟨_,h1,_⟩
    ·exact Keeps.row h1
    ·exact Keeps.new h1
    ·exact Keeps.new h1
   have av:∀k,dy=some k->L.get k=none->kd≠k:=by
    rintro k hk hn rfl;rcases h1 with h1 | ⟨h1,_⟩ | ⟨h1,_⟩
    ·rw[hn] at h1;cases h1
    ·exact d kd h1 hk
    ·exact d kd h1 hk
   refine⟨kd,n,xs,m,cd,?_,⟨ad,c,h2,h3,?_⟩,h5,h6,h7,fun v hv aw=>?_⟩
   ·rcases h1 with h1 | ⟨h0,h1,dt⟩ | ⟨h0,h1,ad,q1,q2,q3,q4⟩
    ·exact .inl (hm.part l kd _ h1)
    ·exact .inr (.inl ⟨h0,by rw[hm.frame kd (d kd h0)];exact h1,dt⟩)
    ·exact .inr (.inr ⟨h0,by rw[hm.frame kd (d kd h0)];exact h1,ad,q1,q2,q3,q4.imp (·.mono hm.le) id⟩)
   ·rcases h4 with h4 | h4
    ·exact .inl (h4.mono hm.le)
    ·exact .inr h4
   ·have h9:=h8 v hv (aw.down hm.le hr.glob (Ir (hm.part l)));rw[bQ hy] at h9;rw[put_comm d];refine h9.2 F' _ u ?_ aw;have r:∀z∈bA y,val (L.set kd (.row v e sz (n+m) (xs++cd))) (put dx (.v v) ρ) z=val L ρ z:=fun z q=>by
     rw[cL ab z q,ga ar cl]
    clear h8 h9 cF cM e0 e1
    cases hm with
    | box g =>
     rename_i t x k;simp only[bI,Option.isNone_iff_eq_none] at l;rw[set_comm L _ _ (fun e=>av k rfl l e.symm),<-r _ (by simp[bA])];exact .box g
    | alloc g =>
     rename_i t zs k;simp only[bI,Option.isNone_iff_eq_none] at l;rw[set_comm L _ _ (fun e=>av k rfl l e.symm)];exact .alloc g
    | mkS g =>
     rename_i e0 dz n0 zs k;rw[set_comm L _ _ (fun e=>av k rfl (nX l).1 e.symm)];exact .mkS g
    | mkV g n hn =>
     rename_i e0 dz b0 zs x0 k;rw[set_comm L _ _ (fun e=>av k rfl (nY l).1 e.symm)];exact .mkV g n (by rw[hn,r _ (by simp[bA])])
    | mkF g F' bc hg =>
     rename_i dn;refine .mkF g _ bc ?_;rw[cq (L:=L) (ρ:=ρ) (xs:=dn) (fun z q=>r z (by simpa[bA] using q))];exact hg
 ·rw[bQ hx] at w;obtain⟨bj,w⟩:=w;have bv:bI y dy L ρ=true:=by
   obtain⟨F',L',v,hm,bd,bk⟩:=AQ hr bj;have h:=w F' L' v hm bk;rw[bQ hy] at h;refine iU (L':=L') (ρ':=put dx v ρ) (fun z q=>by rw[cL ab z q,ga ar (hm.get bj)]) (fun k hk e=>?_) h.1;rw[hm.frame k (fun e'=>d k e' hk)] at e;exact e
  rw[bQ hy];refine⟨bv,fun F1 L1 v1 ce el=>?_⟩;rw[bQ hx];refine⟨iU (L':=L) (ρ':=ρ) (fun z q=>by rw[cL ag z q,ga ar (ce.get bv)]) (fun k hk e=>by rw[ce.frame k (d k hk)];exact e) bj,fun F2 L2 v2 dl aw=>?_⟩;obtain⟨Fa,La,ha,hb⟩:=Iv bj bv ab ag d ar ce dl;have cz:bI y dy La (put dx v2 ρ)=true :=
   iU (L':=L) (ρ':=ρ) (fun z q=>by rw[cL ab z q,ga ar (ha.get bj)]) (fun k hk e=>by rw[ha.frame k (fun e'=>d k e' hk)];exact e) bv
  have ds:Real Fa La:=aw.down hb.le (hr.glob.mono ha.le) (hb.part cz);have h:=w Fa La v2 ha ds;rw[bQ hy] at h;rw[put_comm d];exact h.2 F2 L2 v1 hb aw
 ·have be:=rT hx;rw[cn be] at w;obtain⟨v,hT,p⟩:=(fp be).ex _ w
  clear w
  obtain⟨n,a,z,k,off,g,t,cs,ho,e1,e2,e3,e4,e5,w⟩:=iS hy p;have ha:a∈bA y:=by rcases ho with rfl | rfl<;>simp[bA]
  have q:z∈bA y:=by rcases ho with rfl | rfl<;>simp[bA]
  have q0:=fZ (v:=v) (ρ:=ρ) ab a ha;have q1:=cL (L:=L) (v:=v) (ρ:=ρ) ab z q;rw[q0] at e3;rw[q1] at e1 e2 w;refine iH ho e1 e2 e3 e4 e5 ?_;have h3:=(fp be).mono _ (fun u=>K F _ (put dx u (put dy (.v undef) ρ))) (fun u hu=>by subst hu;rw[put_comm d];exact w)
   (rf be (aA.le_refl F) (uW (L:=L) (ρ:=ρ) (v:=.v undef) ag) hT)
  rw[cn be];exact AP hx ho (Dr e4) (fun j hj=>bY hj) h3
 ·have bi:=rT hy;obtain⟨n,a,z,k,off,g,t,cs,ho,e1,e2,e3,e4,e5,w⟩:=iS hx w;have ha:a∈bA x:=by rcases ho with rfl | rfl<;>simp[bA]
  have q:z∈bA x:=by rcases ho with rfl | rfl<;>simp[bA]
  rw[cn bi] at w;obtain⟨v,hT,w⟩:=(fp bi).ex _ w;have hT:=AP (L':=L) hy ho (fun sv=>(Dr e4 sv).symm) (fun j hj=>(bY hj).symm) hT;have bl:Alike y L L (put dx (.v undef) ρ) ρ:=fun u hu=>⟨(fZ ab u hu).symm,fun _ _ _=>rfl⟩;have hT:=rf bi (aA.le_refl F) bl hT;rw[cn bi];refine(fp bi).mono _ _ (fun u hu=>?_) hT;subst hu;have q0:=fZ (v:=u) (ρ:=ρ) ag a ha;have q1:=cL (L:=L) (v:=u) (ρ:=ρ) ag z q;refine iH ho (by rw[q1];exact e1) (by rw[q1];exact e2) (by rw[q0];exact e3) e4 e5 ?_;rw[q1,put_comm d];exact w
end
section
variable {P:Program}{F:aA}{L:Loc}{ρ:Env}{K K':dI}
theorem Left.none {d:Option Nat}{L L':Loc}(h:Left d L L') {j:Nat}(c:d≠some j) (e:L.get j=none):L'.get j=none:=by
 rcases h with rfl | ⟨k,o,hd,b,rfl⟩ | ⟨k,f,t,sz,n,xs,b,rfl⟩
 ·exact e
 ·rw[bY (fun a=>c (by rw[a];exact hd))];exact e
 ·rw[bY (fun a=>by rw[a,b] at e;cases e)];exact e
theorem nI {o:dZ}(ho:okD o=true) {d:Option Nat}(hr:Real F L) (y:Vd L ρ) (l:evalOp P o d F L ρ K)
  (hk:∀F1 L1 r,(∃v,r=put d v ρ)->F.le F1->Real F1 L1->Vd L1 r->(∀j,d≠some j->L.get j=none->L1.get j=none)->K F1 L1 r->K' F1 L1 r):evalOp P o d F L ρ K':=by
 have a:∀{L1:Loc}{v:SV},Keeps L L1->(∀k off,v=.own k off->∃g ty cs,L1.get k=some (.box g ty cs))->Vd L1 (put d v ρ):=by
  intro L1 v hL hv t k off e;have p:ρ t=.own k off->∃g ty cs,L1.get k=some (.box g ty cs):=fun e=>by
   obtain⟨g,ty,cs,h⟩:=y t k off e;exact⟨g,ty,cs,hL k g ty cs h⟩
  rw[put_eq] at e;cases d with
  | none=>exact p e
  | some k' =>
   simp only[] at e;split at e
   ·exact hv k off e
   ·exact p e
 by_cases hs:cT o=true
 ·rw[cn hs] at l ⊢;obtain⟨v,hT,hv⟩:=(fp hs).ex _ l;refine(fp hs).mono _ _ (fun u hu=>?_) hT;subst hu;refine hk _ _ _ ⟨_,rfl⟩ (aA.le_refl F) hr (a (Keeps.refl L) fun k off e=>?_) (fun _ _ h=>h) hv;subst e;obtain⟨x,_,m,hx⟩:=Ke hs hT;exact y.ev hx
 ·by_cases ha:eF o=true
  ·rw[bQ ha] at l ⊢;refine⟨l.1,fun F' L' v hm c=>hk _ _ _ ⟨v,rfl⟩ hm.le c (a (hm.get l.1) fun k off e=>?_) (fun j w e=>by rw[hm.frame j w];exact e) (l.2 F' L' v hm c)⟩;cases hm with
   | box g=>injection e with e1 e2;subst e1;exact⟨_,_,_,by rw[Loc.aac,fo rfl]⟩
   | alloc g=>injection e with e1 e2;subst e1;exact⟨_,_,_,by rw[Loc.aac,fo rfl]⟩
   | mkS g=>cases e
   | mkV g n hn=>cases e
   | mkF g F' q hg=>cases e
  ·cases o<;>first | (exfalso;revert hs ha ho;simp[okD,Iu,cT,hU,eF,pW,iR];done) | skip
   case callD f args =>
    simp only[evalOp] at l ⊢;exact l.imp fun F' L' v q hl c h=>hk _ _ _ ⟨_,rfl⟩ q c (a hl.keeps fun k off e=>by cases e) (fun j w e=>hl.none w e) h
   case callVD f args =>
    simp only[evalOp] at l ⊢;split at l
    ·exact l.imp fun F' L' v q hl c h=>hk _ _ _ ⟨_,rfl⟩ q c (a hl.keeps fun k off e=>by cases e) (fun j w e=>hl.none w e) h
    ·exact l.elim
   case appD e sz b zs s z =>
    simp only[evalOp] at l ⊢;split at l
    ·refine l.imp (aA.le_refl F) fun kd n xs n' bk u ag c h=>hk _ _ _ ⟨_,rfl⟩ (aA.le_refl F) c (a ?_ fun k off e=>by cases e) ?_ (h c)
     ·rcases ag with h | ⟨_,h⟩
      ·exact Keeps.row h
      ·exact Keeps.new h
     ·intro j w e;have ao:j≠kd:=by
       rintro rfl;rcases ag with h | ⟨h,_⟩
       ·rw[e] at h;cases h
       ·exact w h
      rw[bY ao];exact e
    ·exact l.elim
   all_goals
    obtain⟨n',a',x',k,off,g,ty,cs,am,e1,e2,e3,e4,e5,l⟩:=iS rfl l;refine iH am e1 e2 e3 e4 e5 (hk _ _ _ ⟨_,rfl⟩ (aA.le_refl F) (Real.store (wS e5) hr e4) ?_ (fun j _ e=>by rw[bY (fun ej=>by rw[ej,e4] at e;cases e)];exact e) l);intro t k' m e;have p:ρ t=.own k' m->∃g' ty' cs',Loc.get (L.set k (.box g ty (bV cs off (aM (val L ρ x'))))) k'=some (.box g' ty' cs'):=fun e=>by
     obtain⟨g',ty',cs',h⟩:=y t k' m e;rw[Loc.aac];split
     ·exact⟨_,_,_,rfl⟩
     ·exact⟨_,_,_,h⟩
    rw[put_eq] at e;cases d with
    | none=>exact p e
    | some k' =>
     simp only[] at e;split at e
     ·cases e
     ·exact p e
theorem jP {o:dZ}(c:okD o=true) {d:Option Nat}(e:Real F L) (b:Vd L ρ) (f:evalOp P o d F L ρ K)
  (h:∀F1 L1 a,(∃v,a=put d v ρ)->F.le F1->Real F1 L1->Vd L1 a->K F1 L1 a->K' F1 L1 a):evalOp P o d F L ρ K' :=
 nI c e b f fun F1 L1 a h1 h2 h3 h4 _ h5=>h F1 L1 a h1 h2 h3 h4 h5
theorem vS {o:dZ}(u:okD o=true) {d:Option Nat}(c:Real F L) (a:evalOp P o d F L ρ K):∃v F1 L1,K F1 L1 (put d v ρ):=by
 by_cases l:cT o=true
 ·rw[cn l] at a;obtain⟨v,_,t⟩:=(fp l).ex _ a;exact⟨v,F,L,t⟩
 ·by_cases m:eF o=true
  ·rw[bQ m] at a;obtain⟨F',L',v,p,_,j⟩:=AQ c a.1;exact⟨v,F',L',a.2 F' L' v p j⟩
  ·cases o<;>first | (exfalso;revert l m u;simp[okD,Iu,cT,hU,eF,pW,iR];done) | skip
   case callD f args =>
    simp only[evalOp] at a;obtain⟨F',L',v,_,_,_,h⟩:=a.some c;exact⟨_,F',L',h⟩
   case callVD f args =>
    simp only[evalOp] at a;split at a
    ·obtain⟨F',L',v,_,_,_,h⟩:=a.some c;exact⟨_,F',L',h⟩
    ·exact a.elim
   case appD e sz b zs s z =>
    simp only[evalOp] at a;split at a
    ·obtain⟨kd,v,q,r,_,_,h⟩:=a.some c;exact⟨_,F,_,h⟩
    ·exact a.elim
   all_goals
    obtain⟨q,a',x',k,off,g,ty,cs,n,y,e2,x,w,e5,a⟩:=iS rfl a;exact⟨_,F,_,a⟩
def iI:dZ:=.mov (.c undef)
def res (g:Option (Nat×Bool)) (ρ:Env) (o:dZ):Option dZ :=
 match g with
 | none=>some o
 | some (s,a)=>match ρ s with
  | .v (.bool b)=>some (if b=a then o else iI)
  | .v (.tuple _)=>some iI
  | _=>none
theorem fP {d:Option Nat}{o:dZ}{g:Option (Nat×Bool)}{c:List ak} :
  aS P (.op d o g::c) F L ρ K↔∃o',res g ρ o=some o'/\evalOp P o' d F L ρ (fun F1 L1 h=>aS P c F1 L1 h K):=by
 cases g with
 | none=>simp only[aS,res,aaO,exists_eq_left']
 | some p =>
  obtain⟨s,f⟩:=p;simp only[aS,res];cases e:ρ s with
  | own k off=>simp
  | el a j=>simp
  | v u =>
   cases u<;>simp only[aaO,exists_eq_left',reduceCtorEq,false_and,exists_false]
   case bool b =>
    cases b<;>cases f<;>simp[zW,kV e,iI,evalOp,aK,ev]
   case tuple vs=>rfl
def looks (o:dZ) (g:Option (Nat×Bool)):List Nat :=
 match g with
 | none=>ct (bA o)
 | some (s,_)=>s::ct (bA o)
def sG (d:Option Nat) (l:List Nat):Bool :=
 match d with
 | none=>true
 | some k=>match fM l k with | true=>false | false=>true
def Dt:Option Nat->Option Nat->Bool
 | some a,some b=>match Nat.beq a b with | true=>false | false=>true
 | _,_=>true
def mD:ak->ak->Bool
 | .op b x c,.op a y d=>okD x&&okD y&&xZ x y&&sG b (looks y d)&&sG a (looks x c)&&Dt b a
 | _,_=>false
theorem kD {d:Option Nat}{l:List Nat}(h:sG d l=true):∀k,d=some k->k∉l:=by
 rintro k rfl a;simp only[sG,cS.2 a] at h;cases h
theorem nZ {d a:Option Nat}(h:Dt d a=true):∀k,d=some k->a≠some k:=by
 rintro k rfl e;subst e;simp[Dt] at h
theorem o6 {g:Option (Nat×Bool)}{o:dZ}{d:Option Nat}{v:SV}(h:∀k,d=some k->k∉looks o g):res g (put d v ρ) o=res g ρ o:=by
 cases g with
 | none=>rfl
 | some p =>
  obtain⟨s,a⟩:=p;have:put d v ρ s=ρ s:=by
   rw[put_eq];cases d with
   | none=>rfl
   | some k =>
    simp only[];rw[o5];intro e;exact h k rfl (by simp[looks,e])
  simp only[res,this]
theorem dB {g:Option (Nat×Bool)}{o o':dZ}(h:res g ρ o=some o'):o'=o\/o'=iI:=by
 cases g with
 | none=>simp only[res,aaO] at h;exact .inl h.symm
 | some p =>
  obtain⟨s,a⟩:=p;simp only[res] at h;split at h
  ·injection h with h
   split at h
   ·exact .inl h.symm
   ·exact .inr h.symm
  ·injection h with h;exact .inr h.symm
  ·cases h
theorem n8 {o:dZ}{g:Option (Nat×Bool)}{k:Nat}(h:k∈ct (bA o)):k∈looks o g:=by
 cases g with
 | none=>exact h
 | some p=>exact abk _ h
theorem Ki {x y:ak}{b:List ak}(w:mD x y=true) (hr:Real F L) (t:Vd L ρ) (h:aS P (x::y::b) F L ρ K):aS P (y::x::b) F L ρ K:=by
 cases x with
 | frz k=>exact vv w (by cases y<;>exact abf)
 | pc d o g=>exact vv w (by cases y<;>exact abf)
 | op dx x gx =>
  cases y with
  | frz k=>exact vv w abf
  | pc d o g=>exact vv w abf
  | op dy y gy =>
   simp only[mD,aaN] at w;obtain⟨⟨⟨⟨⟨ae,c⟩,hc⟩,h1⟩,h2⟩,h3⟩:=w;have h1:=kD h1;have h2:=kD h2;have h3:=nZ h3;have an:∀k,dy=some k->dx≠some k:=fun k e e'=>h3 k e' e;rw[fP] at h;obtain⟨x',s,h⟩:=h;have j:okD iI=true:=rfl;have n:okD x'=true:=by rcases dB s with rfl | rfl;exact ae;exact j
   -- y's guard
   have hy:∃p,res gy ρ y=some p:=by
    obtain⟨v,F1,L1,f⟩:=vS n hr h;rw[fP] at f;obtain⟨p,a,_⟩:=f;rw[o6 h1] at a;exact⟨p,a⟩
   obtain⟨p,a⟩:=hy;have z:okD p=true:=by rcases dB a with rfl | rfl;exact c;exact j
   have hA:evalOp P x' dx F L ρ (fun F1 L1 q=>evalOp P p dy F1 L1 q (fun F2 L2 m=>aS P b F2 L2 m K)):=by
    refine jP n hr t h ?_;rintro F1 L1 q ⟨v,rfl⟩ _ _ _ f;rw[fP] at f;obtain⟨az,l,f⟩:=f;rw[o6 h1,a] at l;injection l with l
    subst l;exact f
   have lx:∀k,dy=some k->k∉ct (bA x'):=by
    intro k e f;rcases dB s with rfl | rfl
    ·exact h2 k e (n8 f)
    ·simp[iI,bA,ct] at f
   have ly:∀k,dx=some k->k∉ct (bA p):=by
    intro k e f;rcases dB a with rfl | rfl
    ·exact h1 k e (n8 f)
    ·simp[iI,bA,ct] at f
   have hB:evalOp P p dy F L ρ (fun F1 L1 q=>evalOp P x' dx F1 L1 q (fun F2 L2 m=>aS P b F2 L2 m K)):=by
    by_cases r:p=iI
    ·subst r;simp only[iI,evalOp,aK,ev];exact xY (K:=fun F2 L2 m=>aS P b F2 L2 m K) (u:=.v undef) n lx h3 hA
    ·have ey:p=y:=by rcases dB a with h | h;exact h;exact vv h r
     subst ey;refine Kh hr ?_ ly lx h3 t hA;rcases dB s with rfl | rfl
     ·exact hc
     ·simp only[okD,abr] at c;rcases c with c | c
      ·simp only[xZ,c,ab5,abr];exact .inl (.inl (.inl (.inl (.inl (by rfl)))))
      ·simp only[xZ,c,ab5,abr];exact .inl (.inr rfl)
   rw[fP];refine⟨p,a,jP z hr t hB ?_⟩;rintro F1 L1 q ⟨v,rfl⟩ _ _ _ f;rw[fP];exact⟨x',by rw[o6 h2];exact s,f⟩
theorem AR {y:ak}{s:List ak}:∀(p:List ak),(∀x∈p,mD x y=true)->∀{F:aA}{L:Loc}{ρ:Env},Real F L->Vd L ρ->aS P (p++y::s) F L ρ K->aS P (y::(p++s)) F L ρ K
 | [],_,F,L,ρ,_,_,h=>h
 | .frz k::p,b,F,L,ρ,_,_,h=>by
  have:=b (.frz k) (by simp);exact vv this (by cases y<;>exact abf)
 | .pc d o g::p,b,F,L,ρ,_,_,h=>by
  have:=b (.pc d o g) (by simp);exact vv this (by cases y<;>exact abf)
 | .op q x r::p,b,F,L,ρ,n,j,h=>by
  have a:=b (.op q x r) (by simp);have w:aS P (.op q x r::y::(p++s)) F L ρ K:=by
   rw[aa3,fP] at h;obtain⟨t,c,h⟩:=h;have m:okD x=true:=by
    cases y with
    | frz k=>exact vv a abf
    | pc d o g=>exact vv a abf
    | op dy y gy=>simp only[mD,aaN] at a;exact a.1.1.1.1.1
   have e:okD t=true:=by rcases dB c with rfl | rfl;exact m;rfl
   rw[fP];refine⟨t,c,jP e n j h ?_⟩;intro F1 L1 v _ _ l f hk;exact AR p (fun z u=>b z (by simp[u])) l f hk
  exact Ki a n j w
end
def Wx (A:cI):Op->Bool
 | .store _ (.tmp i) _=>fM A.co (1000000+i)
 | .mapUpdate _ (.tmp i) _ _=>fM A.co (1000000+i)
 | _=>false
def B0 (P:Program) (A:cI) (a:Array Oper) (i:Nat):Option ak :=
 match a[i]? with
 | none=>none
 | some o=>match iG a o.guard,iE P (A.owned o.dst) o.op,QU A.n o.dst with
  | some g,some s,true=>match A.isX o.dst with
   | true=>match g,s with
    | none,.call f l=>some (.pc o.dst (.call f l) none)
    | none,.callV f l=>some (.pc o.dst (.callV f l) none)
    | _,_=>none
   | false=>match A.isO o.dst||Wx A o.op with
    | true=>match xU s with
     | some s'=>some (.op o.dst s' g)
     | none=>none
    | false=>match uV A.fl A.bk A.bx s with
     | some s'=>match cT s'||hU s'||eF s'||pW s'||iR s' with
      | true=>some (.op o.dst s' g)
      | false=>none
     | none=>none
  | _,_,_=>none
def eP (P:Program) (A:cI) (ops:Array Oper):List Nat->Option (List ak)
 | []=>some []
 | i::is=>match B0 P A ops i,eP P A ops is with
  | some s,some ss=>some (s::ss)
  | _,_=>none
def binding (e:Edge):Bool:=Region.binds .any e
def direct (ops:Array Oper) (i:Nat):List Nat :=
 match ops[i]? with
 | some o=>(o.after.toList.filter binding).map (·.on)
 | none=>[]
def B6:List (List Nat)->Nat->List Nat
 | [],_=>[]
 | l::_,0=>l
 | _::a,n+1=>B6 a n
def Ca (a:List (List Nat)) (x:Nat):List Nat->Bool
 | []=>false
 | z::zs=>match fM (B6 a z) x with | true=>true | false=>Ca a x zs
def Cb (ops:Array Oper) (a:List (List Nat)) (y:Nat):Bool :=
 (direct ops y).all (fun z=>Nat.blt z y)&&(B6 a y).all (fun x=>fM (direct ops y) x||Ca a x (direct ops y))
def Kj (ops:Array Oper) (a:List (List Nat)):Bool:=(List.range ops.size).all (Cb ops a)
def o7 (a:List (List Nat)):List (Nat×ak)->Bool
 | []=>true
 | (x,b)::l=>l.all (fun p=>mD b p.2||fM (B6 a p.1) x)&&o7 a l
def aU:List Nat->Bool
 | []=>true
 | x::l=>!fM l x&&aU l
def Fs (P:Program) (ops:Array Oper) (is:List Nat) (a:List (List Nat)) (ss:List ak):Bool :=
 P.follows .mixedOrders&&Kj ops a&&aU is&&Nat.beq is.length ops.size&&is.all (fun i=>Nat.blt i ops.size)&&(List.range ops.size).all (fM is)&&o7 a (is.zip ss)
theorem cW:∀{l:List Nat},aU l=true->l.Nodup
 | [],_=>List.nodup_nil
 | x::l,h=>by
  simp only[aU,aaN,Bool.not_eq_true'] at h;refine List.nodup_cons.2 ⟨fun a=>?_,cW h.2⟩;rw[cS.2 a] at h;cases h.1
theorem AU {a:List (List Nat)}{x:Nat}:∀{l:List Nat},Ca a x l=true->∃z,z∈l/\x∈B6 a z
 | [],h=>by cases h
 | z::zs,h=>by
  simp only[Ca] at h;split at h
  ·rename_i c;exact⟨z,by simp,cS.1 c⟩
  ·obtain⟨b,h1,h2⟩:=AU h;exact⟨b,by simp[h1],h2⟩
section
variable {P:Program}{K:dI}{Q:Exit->Act->World->Prop}{ops:Array Oper}
theorem vT {f:List (List Nat)}(d:Kj ops f=true) {done:Nat->Prop}(a:∀i,i<ops.size->done i->∀z∈direct ops i,done z):∀y,y<ops.size->(∀z∈direct ops y,done z)->∀x∈B6 f y,done x:=by
 intro y
 induction y using Nat.strongRecOn with
 | _ y k =>
  intro j hd x l;have h:=aa1.1 d y (List.mem_range.2 j);simp only[Cb,aaN] at h;have h2:=aa1.1 h.2 x l;simp only[abr] at h2;rcases h2 with h2 | h2
  ·exact hd x (cS.1 h2)
  ·obtain⟨z,e,c⟩:=AU h2;have b:z<y:=by
    have h3:Nat.blt z y=true:=aa1.1 h.1 z e;simpa using h3
   exact k z b (by omega) (a z (by omega) (hd z e)) x c
theorem qw {A:cI}:∀{is:List Nat}{ss:List ak},eP P A ops is=some ss->ss.length=is.length/\∀p q y,is=p++y::q->∃a b c,ss=a++b::c/\a.length=p.length/\B0 P A ops y=some b/\eP P A ops (p++q)=some (a++c)
 | [],ss,h=>by
  simp only[eP,aaO] at h;subst h;refine⟨rfl,fun p q y e=>?_⟩;cases p<;>cases e
 | i::is,ss,h=>by
  simp only[eP] at h;split at h
  case h_2=>cases h
  rename_i s d h1 h2;injection h with h
  subst h;obtain⟨k,n⟩:=qw h2;refine⟨by simp[k],fun p q y e=>?_⟩;cases p with
  | nil =>
   simp only[abp,List.cons.injEq] at e;obtain⟨rfl,rfl⟩:=e;exact⟨[],s,d,rfl,rfl,h1,by simpa using h2⟩
  | cons x p =>
   simp only[aa3,List.cons.injEq] at e;obtain⟨rfl,rfl⟩:=e;obtain⟨a,b,c,j,f,m,l⟩:=n p q y rfl;refine⟨s::a,b,c,by simp[j],by simp[f],m,?_⟩;simp only[aa3,eP,h1,l]
theorem vU {d:List (List Nat)}:∀{p q:List (Nat×ak)}{y:Nat×ak},o7 d (p++y::q)=true->o7 d (p++q)=true/\∀x∈p,mD x.2 y.2=true\/x.1∈B6 d y.1
 | [],q,y,h=>by
  obtain⟨y1,y2⟩:=y;simp only[abp,o7,aaN] at h ⊢;exact⟨h.2,fun x b=>by cases b⟩
 | (f,e)::p,q,y,h=>by
  simp only[aa3,o7,aaN] at h ⊢;obtain⟨h1,h2⟩:=h;obtain⟨h3,h4⟩:=vU h2;have c:=aa1.1 h1;refine⟨⟨aa1.2 fun z a=>c z ?_,h3⟩,fun x b=>?_⟩
  ·rcases aaV.1 a with a | a
   ·exact aaV.2 (.inl a)
   ·exact aaV.2 (.inr (abk _ a))
  ·rcases aaX.1 b with rfl | b
   ·have:=c y (aaV.2 (.inr (by simp)));simp only[abr] at this;rcases this with h | h
    ·exact .inl h
    ·exact .inr (cS.1 h)
   ·exact h4 x b
theorem aC.same {L L2:Loc}{ρ:Env}{a:Act}(h:aC L ρ a) (b:L.sameAs L2):aC L2 ρ a:=by
 have c:∀sv,conc L2 sv=conc L sv:=by
  intro sv;cases sv with
  | v x=>rfl
  | el a j=>rfl
  | own k off=>simp only[conc,b k]
 exact⟨fun j=>by rw[c];exact h.eq j,fun j k off e=>by rw[b k];exact h.own j k off e,h.el⟩
theorem Step.aaH {F F':aA}{L L' L2:Loc}{w w':World}(h:Step F L w F' L' w') (a:L'.sameAs L2):Step F L w F' L2 w' :=
 ⟨h.le,h.os,h.tape,h.output,h.size,h.same,h.frz,fun b ⟨k,o,e,hb⟩=>h.own b ⟨k,o,by rw[<-a k];exact e,hb⟩⟩
theorem Du {A:cI}{i:Nat}{s:ak}{q:List ak}{F:aA}{L:Loc}{ρ:Env}{a:Act}{w:World}{KK:Act->World->Prop}(hi:i<ops.size) (c:B0 P A ops i=some s) (hs:St F L w) (he:aC L ρ a) (hn:a.tmps.size=A.n)
  (l:aS P (s::q) F L ρ K)
  (hQ:∀a' w' F' L' ρ',St F' L' w'->aC L' ρ' a'->a'.tmps.size=A.n->a'.defers=a.defers->Step F L w F' L' w'->(∀j,((ops[i]?).bind (·.dst))≠some j->a'.tmps.getD j undef=a.tmps.getD j undef)->aS P q F' L' ρ' K->KK a' w') :
  wpOp P ops Q i KK a w:=by
 unfold B0 at c;split at c
 case h_1=>cases c
 rename_i o ae;split at c
 case h_2=>cases c
 rename_i g s0 y ag aa;split at c
 ·split at c
  ·injection c with c
   subst c;simp only[aS] at l
  ·injection c with c
   subst c;simp only[aS] at l
  ·cases c
 have bi:∃s',s=.op o.dst s' g/\((∀{F:aA}{L:Loc}{ρ:Env}{K:dI},evalOp P s' o.dst F L ρ K->evalOp P s0 o.dst F L ρ (fun F' L' ρ'=>Real F' L'->K F' L' ρ')) \/
   ∀{F:aA}{L:Loc}{ρ:Env}{K:dI},evalOp P s' o.dst F L ρ K->evalOp P s0 o.dst F L ρ (fun F' L' ρ'=>∃L2,L'.sameAs L2/\(Real F' L2->K F' L2 ρ'))):=by
  split at c
  ·split at c
   case h_2=>cases c
   rename_i s' z;injection c with c
   exact⟨s',c.symm,.inl fun h=>Np z h⟩
  ·split at c
   case h_2=>cases c
   rename_i s' z;split at c
   case h_2=>cases c
   rename_i al;injection c with c
   cases am:hU s' with
   | true=>exact⟨s',c.symm,.inr fun h=>Kf z am h⟩
   | false=>exact⟨s',c.symm,.inl fun h=>Nu z al am h⟩
 obtain⟨s',bd,r⟩:=bi;subst bd;have hd:∀k,o.dst=some k->k<a.tmps.size:=by
  intro k hk;rw[hk] at aa;rw[hn];have h2:Nat.blt k A.n=true:=aa;simpa using h2
 have az:(ops[i]?).bind (·.dst)=o.dst:=by rw[ae];rfl
 rw[az] at hQ;simp only[wpOp,ae];have t:evalOp P s' o.dst F L ρ (fun F' L' ρ'=>aS P q F' L' ρ' K)->o.wp P a w KK Q:=by
  intro l;rcases r with r | r
  ·have h1:=r l;have:=fN (Q:=Q) hs he hd ag h1;refine Oper.wp_mono ?_ (qt (asg:=[]) this);rintro a' w' ⟨⟨F',L',ρ',g1,g2,g3,g4,g5,g6⟩,ab⟩;exact hQ a' w' F' L' ρ' g1 g2 (by rw[g3,hn]) g4 g5 ab (g6 ⟨w',g1⟩)
  ·have h1:=r l;have:=fN (Q:=Q) hs he hd ag h1;refine Oper.wp_mono ?_ (qt (asg:=[]) this);rintro a' w' ⟨⟨F',L',ρ',g1,g2,g3,g4,g5,L2,g6,g7⟩,ab⟩;have s1:St F' L2 w':=g1.part fun k o e=>by rw[<-g6 k];exact e
   exact hQ a' w' F' L2 ρ' s1 (g2.same g6) (by rw[g3,hn]) g4 (g5.aaH g6) ab (g7 ⟨w',s1⟩)
 have skip:aS P q F L (put o.dst (.v undef) ρ) K->KK (a.put o.dst undef) w:=by
  intro l;exact hQ _ w F L _ hs (he.put hd (v:=undef) (x:=.v undef) rfl cB eZ (tC L)) (by rw[jK,hn]) (gO _ _ _) (Step.refl _ _ _) (fun j hj=>kC hj) l
 cases u:o.guard with
 | none =>
  rw[u] at y;simp only[iG,aaO] at y;subst y;simp only[aS] at l;rw[fo (by simp[Region.wanted,u])];exact .inl (t l)
 | some p =>
  obtain⟨j,m⟩:=p;rw[u] at y;simp only[iG] at y;split at y
  case h_2=>cases y
  rename_i d ac;injection y with y
  subst y;simp only[aS] at l;split at l
  ·rename_i b hb;have f:=he.eq d;rw[hb] at f;have hy:yielded ops a.tmps j=some b:=by
    simp only[yielded,ac,Option.bind_some,qZ f]
   have hw:Region.wanted o (yielded ops a.tmps)=(b == m):=by
    simp only[Region.wanted,u,hy];cases b<;>cases m<;>rfl
   rw[hw];cases b<;>simp only[zW] at l
   ·rw[kV hb] at l;cases m
    ·exact .inl (t l)
    ·exact skip l
   ·rw[kV hb] at l;cases m
    ·exact skip l
    ·exact .inl (t l)
  ·rename_i vs hb;have f:=he.eq d;rw[hb] at f;have hy:yielded ops a.tmps j=none:=by
    simp only[yielded,ac,Option.bind_some];rw[aa9] at f;cases e:a.tmps[d]? with
    | none=>rfl
    | some v=>rw[e] at f;simp only[Option.getD_some,conc] at f;rw[f]
   have hw:Region.wanted o (yielded ops a.tmps)=false:=by
    simp only[Region.wanted,u,hy];rfl
   rw[hw];exact skip l
  ·exact l.elim
theorem aC.vd {L:Loc}{ρ:Env}{a:Act}(he:aC L ρ a):Vd L ρ:=by
 intro t k off e;exact he.own t k off e
theorem tH {l:Array Bool}{z:Nat}(h:z<l.size) (b c:Bool):l.getD z b=l.getD z c:=by
 simp[aa9,h]
theorem min_mem:∀{l:List Nat},l≠[]->∃y,y∈l/\∀z∈l,y<=z
 | [],h=>vv rfl h
 | [x],_=>⟨x,by simp,fun z a=>by simp at a;omega⟩
 | x::b::l,_=>by
  obtain⟨y,h1,h2⟩:=min_mem (l:=b::l) (by simp)
  by_cases h:x<=y
  ·exact⟨x,by simp,fun z a=>by
    rcases aaX.1 a with rfl | a
    ·exact aa2 _
    ·exact abw h (h2 z a)⟩
  ·exact⟨y,abk _ h1,fun z a=>by
    rcases aaX.1 a with rfl | a
    ·omega
    ·exact h2 z a⟩
theorem o9 {i z:Nat}{o:Oper}(a:ops[i]?=some o):z∈direct ops i↔∃e∈o.after,Region.binds .any e=true/\e.on=z:=by
 simp only[direct,a,abq,List.mem_filter,Array.mem_toList_iff,binding];constructor
 ·rintro⟨e,⟨h1,h2⟩,h3⟩;exact⟨e,h1,h2,h3⟩
 ·rintro⟨e,h1,h2,h3⟩;exact⟨e,⟨h1,h2⟩,h3⟩
theorem Iw {A:cI}{cl:List (List Nat)}(bd:Kj ops cl=true):∀(m:Nat) (l:List Nat) (ss:List ak) (b:Array Bool) (F:aA) (L:Loc) (ρ:Env) (a:Act) (w:World),
  eP P A ops l=some ss->b.size=ops.size->l.Nodup->(∀i,i∈l↔i<ops.size/\b.getD i true=false)->l.length<=m->o7 cl (l.zip ss)=true ->
  (∀i,i<ops.size->b.getD i true=true->∀z∈direct ops i,b.getD z true=true) ->
  St F L w->aC L ρ a->a.tmps.size=A.n->aS P ss F L ρ K ->
  (∀a' w',eJ A.n F L w a (dstsOf ops (List.range ops.size)) K a' w'->Q .normal a' w')->wpAny P .any ops Q m b a w:=by
 have r:∀y z,y<ops.size->z∈direct ops y->z<y:=by
  intro y z hy u;have h:=aa1.1 bd y (List.mem_range.2 hy);simp only[Cb,aaN] at h;have h3:Nat.blt z y=true:=aa1.1 h.1 z u;simpa using h3
 intro m
 induction m with
 | zero =>
  intro l ss b F L ρ a w hl ao aE c ab hp d hs he hn hK hQ;have:l=[]:=aby (by omega);subst this;simp only[eP,aaO] at hl;subst hl;refine⟨?_,hQ a w ⟨F,L,ρ,hs,he,hn,rfl,Step.refl _ _ _,fun _ _=>rfl,hK⟩⟩;apply List.eq_nil_iff_forall_not_mem.2;intro i hi;rw[mem_ready] at hi;obtain⟨h1,o,h2,_⟩:=hi;have:=(c i).2 ⟨(Array.getElem?_eq_some_iff.1 h2).1,h1⟩;cases this
 | succ m ih =>
  intro l ss b F L ρ a w hl ao aE c ab hp d hs he hn hK hQ;refine⟨fun hr=>?_,fun y hy=>?_⟩
  ·have:l=[]:=by
    refine Classical.byContradiction fun s=>?_;obtain⟨y,h1,h2⟩:=min_mem s;obtain⟨h3,h4⟩:=(c y).1 h1;have ae:y∈Region.ready .any ops b:=by
     rw[mem_ready];refine⟨h4,ops[y],Array.getElem?_eq_getElem h3,fun e am an=>?_⟩;have u:e.on∈direct ops y:=(o9 (Array.getElem?_eq_getElem h3)).2 ⟨e,am,an,rfl⟩;have ca:=r y e.on h3 u;rw[tH (by omega) false true];cases hd:b.getD e.on true with
     | true=>rfl
     | false =>
      have:=h2 e.on ((c e.on).2 ⟨by omega,hd⟩);omega
    rw[hr] at ae;cases ae
   subst this;simp only[eP,aaO] at hl;subst hl;exact hQ a w ⟨F,L,ρ,hs,he,hn,rfl,Step.refl _ _ _,fun _ _=>rfl,hK⟩
  ·rw[mem_ready] at hy;obtain⟨h1,o,ho,al⟩:=hy;have f:=(Array.getElem?_eq_some_iff.1 ho).1;have ar:=(c y).2 ⟨f,h1⟩;obtain⟨p,q,rfl⟩:=List.append_of_mem ar;obtain⟨df,ba⟩:=qw hl;obtain⟨sp,sy,sq,rfl,aa,ce,bp⟩:=ba p q y rfl;have be:(p++y::q).zip (sp++sy::sq)=p.zip sp++(y,sy)::q.zip sq:=by
    rw[List.zip_append aa.symm];rfl
   rw[be] at hp;obtain⟨cf,bs⟩:=vU hp;have ac:∀z∈direct ops y,b.getD z true=true:=by
    intro z u;have ca:=r y z f u;obtain⟨e,am,an,rfl⟩:=(o9 ho).1 u;rw[tH (by omega) true false];exact al e am an
   have t:∀sx∈sp,mD sx sy=true:=by
    intro sx bu;obtain⟨k,hk⟩:=List.getElem?_of_mem bu;have cy:=(aaT.1 hk).1;have bb:p[k]?=some (p[k]'(by omega)):=aaQ (by omega);have hm:(p[k]'(by omega),sx)∈p.zip sp:=aaU (i:=k) (by rw[List.getElem?_zip_eq_some];exact⟨bb,hk⟩);rcases bs _ hm with h | h
    ·exact h
    ·exfalso;have hd:=vT bd (done:=fun z=>b.getD z true=true) d y f ac _ h;have ci:p[k]'(by omega)∈p++y::q:=aaV.2 (.inl (aaU bb));have:=((c _).1 ci).2;simp only at hd;rw[hd] at this;cases this
   have bo:=AR sp t ⟨w,hs⟩ he.vd hK;refine Du f ce hs he hn bo ?_;intro a' w' F' L' ρ' g1 g2 g3 g4 g5 g6 g7;have v:(p++q).Nodup/\y∉p++q:=by
    have:=(List.perm_middle.nodup_iff).1 aE;rw[List.nodup_cons] at this;exact⟨this.2,this.1⟩
   have ad:∀i,(b.setIfInBounds y true).getD i true=if i=y then true else b.getD i true:=by
    intro i;simp only[aa9,Array.getElem?_setIfInBounds]
    by_cases hi:y=i
    ·subst hi;rw[fo rfl,fo rfl];simp[ao,f]
    ·rw[o5 hi,o5 (fun h=>hi h.symm)]
   refine ih (p++q) (sp++sq) _ F' L' ρ' a' w' bp (by simp[ao]) v.1 (fun i=>?_) (by simp at ab ⊢;omega) ?_ ?_ g1 g2 g3 g7 ?_
   ·rw[ad];have h0:=c i;constructor
    ·intro hi;have s:i≠y:=fun e=>v.2 (e▸hi);rw[o5 s];refine h0.1 ?_;rcases aaV.1 hi with h | h
     ·exact aaV.2 (.inl h)
     ·exact aaV.2 (.inr (abk _ h))
    ·rintro⟨cb,ag⟩;split at ag
     ·cases ag
     ·rename_i s;have:=h0.2 ⟨cb,ag⟩;rcases aaV.1 this with h | h
      ·exact aaV.2 (.inl h)
      ·rcases aaX.1 h with h | h
       ·exact vv h s
       ·exact aaV.2 (.inr h)
   ·rw[List.zip_append aa.symm];exact cf
   ·intro i hi hd z u;rw[ad] at hd ⊢;split
    ·rfl
    ·split at hd
     ·rename_i h;subst h;exact ac z u
     ·exact d i hi hd z u
   ·rintro cd cc ⟨F'',L'',az,k1,k2,k3,k4,k5,k6,k7⟩;refine hQ cd cc ⟨F'',L'',az,k1,k2,k3,k4.trans g4,g5.trans k5,fun j hj=>?_,k7⟩;rw[k6 j hj,g6 j];intro e;apply hj;have:∀(is:List Nat),y∈is->j∈dstsOf ops is:=by
     intro is
     induction is with
     | nil=>intro h;cases h
     | cons x is bi =>
      intro h;simp only[dstsOf];rcases aaX.1 h with rfl | h
      ·rw[e];simp
      ·split
       ·exact abk _ (bi h)
       ·exact bi h
    exact this _ (List.mem_range.2 f)
theorem x5 {A:cI}{r:Nat}{is:List Nat}{t:List (List Nat)}{ss:List ak}{F:aA}{L:Loc}{ρ:Env}{a:Act}{w:World}(l:eP P A ops is=some ss) (e:Fs P ops is t ss=true)
  (v:St F L w) (he:aC L ρ a) (m:a.tmps.size=A.n) (s:aS P ss F L ρ K) (p:∀a' w',eJ A.n F L w a (dstsOf ops (List.range ops.size)) K a' w'->Q .normal a' w') :
  (Code.region r ops true).wp P Q a w:=by
 simp only[Fs,aaN] at e;obtain⟨⟨⟨⟨⟨⟨h1,h2⟩,h3⟩,h4⟩,h5⟩,h7⟩,h6⟩:=e;have h3:=cW h3;have h4:=aaR h4;have c:∀i∈is,i<ops.size:=fun i hi=>by
  have h:Nat.blt i ops.size=true:=aa1.1 h5 i hi;simpa using h
 refine wp_region_any h1 ?_;show wpAny P .any ops Q ops.size (Array.replicate ops.size false) a w.drew;refine Iw h2 ops.size is ss _ F L ρ a w.drew l (by simp) h3 (fun i=>?_) (by omega) h6 ?_ v.drew he m s ?_
 ·constructor
  ·intro hi;refine⟨c i hi,?_⟩;simp[aa9,c i hi]
  ·rintro⟨hi,_⟩;exact cS.1 (aa1.1 h7 i (List.mem_range.2 hi))
 ·intro i hi d;simp[aa9,hi] at d
 ·rintro a' w' ⟨F',L',ρ',f,u,q,k,b,j,o⟩;refine p a' w' ⟨F',L',ρ',f,u,q,k,?_,j,o⟩;exact⟨b.le,b.os,b.tape,b.output,b.size,b.same,b.frz,b.own⟩
end
def kQ (L L':Loc):Prop:=∀k g t cs,L.get k=some (.box g t cs)->∃cs',L'.get k=some (.box g t cs')
def x7 (ks:List Nat) (L L':Loc):Prop:=∀k g t cs,L.get k=some (.box g t cs)->∃cs',L'.get k=some (.box g t cs')/\(k∉ks->cs'=cs)
structure gu (P:Program) (PX:aA->Loc->Value->Prop) (f:Nat) (args:List Value) (F:aA) (L:Loc) (K:aA->Loc->Value->Prop):Prop where
 out:∃(ks ko:List Nat) (Lin:List Own) (R:aA->List Own->Value->Prop) (Pp:aA->List Own->Value->Prop),L.sub ks=some Lin/\ks.Nodup/\ko.Nodup/\(∀k,k∈ko->k∈ks\/L.get k=none)/\wR P f args.toArray F Lin R Pp /\
  (∀v F' Lo,F.le F'->ks.length=Lo.length->x7 ks L ((L.aaf ks).puts ks Lo)->Pp F' Lo v->PX F' ((L.aaf ks).puts ks Lo) v) /\
  ∀v F' Lo,F.le F'->R F' Lo v->ko.length=Lo.length /\
   (∀k g t cs,k∈ks->L.get k=some (.box g t cs)->∃cs',Loc.get ((L.aaf ks).puts ko Lo) k=some (.box g t cs')) /\
   K F' ((L.aaf ks).puts ko Lo) v
section
variable {P:Program}{F:aA}{L:Loc}{ρ:Env}{a:Act}{w:World}{K:dI}{o:Oper}{Q:Exit->Act->World->Prop}
theorem gu.imp {PX:aA->Loc->Value->Prop}{f:Nat}{args:List Value}{K K':aA->Loc->Value->Prop}(h:gu P PX f args F L K) (j:∀F' L' v,K F' L' v->K' F' L' v):gu P PX f args F L K':=by
 obtain⟨ks,ko,l,R,Pp,h1,h2,h3,h4,h5,h6,h7⟩:=h;exact⟨ks,ko,l,R,Pp,h1,h2,h3,h4,h5,h6,fun v F' Lo d e=>let⟨a,b,c⟩:=h7 v F' Lo d e;⟨a,b,j _ _ _ c⟩⟩
theorem Dv {PX:aA->Loc->Value->Prop}{f:Nat}{args:List Value}(hs:St F L w) (he:aC L ρ a) (hd:∀k,o.dst=some k->k<a.tmps.size)
  (hrun:(∃fn,P.funcs[f]?=some fn/\fn.body.isSome=true/\(fn.name == "runtime.NumGoroutine")=false)->(execOp a.eval o).run P w=.ok (.enter f args.toArray) w)
  (hK:gu P PX f args F L fun F' L' v=>K F' L' (put o.dst (.v v) ρ))
  (hQ:∀v ch w' F' L',sj v ch->St F' L' w'->Step F L w F' L' w'->PX F' L' v->Q (.panic ch) a w'):o.wp P a w (bF F L w a K) Q:=by
 obtain⟨ks,ko,l,R,Pp,hsub,hn,hno,hko,hc,hPX,hK⟩:=hK;unfold Oper.wp;rw[hrun hc.ent];rw[Oper.upon_enter];refine(hc.run w (hs.handed hsub hn)).mono ?_;rintro e w' (⟨v,F',lo,rfl,hs',hst,hR⟩ | ⟨v,ch,F',lo,rfl,hch,hs',hst,hlo,hbx,hp⟩)
 ·obtain⟨hlen,hbox,hK⟩:=hK v F' lo hst.le hR;obtain⟨h1,h2⟩:=gF hs hsub hn hno hko hs' hst hlen;refine⟨F',_,_,h1,he.put hd (x:=.v v) rfl cB eZ ?_,jK _ _ _,gO _ _ _,h2,hK⟩;intro k g ty cs e
  by_cases hk:k∈ks
  ·exact hbox k g ty cs hk e
  ·rcases cZ ko lo (L.aaf ks) k hno hlen with⟨h1,h2⟩ | ⟨i,h1,h2,h3⟩
   ·rw[h1,fk,o5 hk];exact⟨cs,e⟩
   ·rcases hko k (aaU h1) with h | h
    ·exact vv h hk
    ·rw[h] at e;cases e
 ·obtain⟨hl,hg⟩:=cE hsub;have hlen:ks.length=lo.length:=by rw[hlo,hl]
  obtain⟨h1,h2⟩:=gF hs hsub hn hn (fun k hk=>.inl hk) hs' hst hlen;refine hQ v ch w' F' _ hch h1 h2 (hPX v _ _ hst.le hlen ?_ hp);intro k g t cs e;rcases cZ ks lo (L.aaf ks) k hn hlen with⟨q1,q2⟩ | ⟨i,q1,q2,q3⟩
  ·rw[q1,fk,o5 q2];exact⟨cs,e,fun _=>rfl⟩
  ·rw[q2];have:=hg i k q1;rw[e] at this;obtain⟨cs',h⟩:=hbx i g t cs this.symm;exact⟨cs',h,fun h=>vv (aaU q1) h⟩
end
section
variable {P:Program}
theorem n9 {y:Operand}{s:dZ}(h:Aw y=some s):∃g,s=.gload g:=by
 cases y with
 | global g =>
  simp only[Aw] at h;split at h
  ·injection h with h;exact⟨_,h.symm⟩
  ·cases h
 | tmp n=>cases h
 | const v=>cases h
 | func f=>cases h
theorem Kk {own:Bool}{op:Op}{f:Nat}{args:List X}(b:iE P own op=some (.call f args)):∃c,op=.call c/\c.callee=.value (.func f)/\gL c.args.toList=some args:=by
 cases op
 case call c =>
  simp only[iE] at b;split at b
  case h_1=>cases b
  rename_i e d;split at b
  ·rename_i l j;split at b
   case h_2=>cases b
   split at b
   case h_2=>cases b
   injection b with b
   injection b with e1 e2
   subst e1 e2;exact⟨c,rfl,j,d⟩
  all_goals (exfalso;revert b;repeat' split)<;>simp
 all_goals (exfalso;revert b;simp only[iE];repeat' split)<;>first | contradiction | (intro h;obtain⟨k,h⟩:=n9 h;cases h;done) | (simp;done) | (rename_i h0;obtain⟨k,rfl⟩:=n9 h0;simp)
theorem Iy {own:Bool}{op:Op}{x:X}{args:List X}(b:iE P own op=some (.callV x args)):∃c,op=.call c/\gL c.args.toList=some args/\((∃y,c.callee=.value y/\bM y=some x)\/∃n j,x=.mt j n):=by
 cases op
 case call c =>
  simp only[iE] at b;split at b
  case h_1=>cases b
  rename_i e d;split at b
  ·exfalso;revert b;(repeat' split)<;>simp
  ·rename_i y _ f;split at b
   case h_2=>cases b
   rename_i h1;injection b with b
   injection b with e1 e2
   subst e1 e2;exact⟨c,rfl,d,.inl ⟨y,f,h1⟩⟩
  ·rename_i n j f;injection b with b
   injection b with e1 e2
   subst e1 e2;exact⟨c,rfl,d,.inr ⟨_,_,rfl⟩⟩
  all_goals (exfalso;revert b;repeat' split)<;>simp
 all_goals (exfalso;revert b;simp only[iE];repeat' split)<;>first | contradiction | (intro h;obtain⟨k,h⟩:=n9 h;cases h;done) | (simp;done) | (rename_i h0;obtain⟨k,rfl⟩:=n9 h0;simp)
theorem Nv {own:Bool}{op:Op}{x:X}(b:iE P own op=some (.pan x)):∃y,op=.panic y/\bM y=some x:=by
 cases op
 case panic y =>
  simp only[iE] at b;split at b
  case h_2=>cases b
  rename_i h1;injection b with b
  injection b with e1
  subst e1;exact⟨y,rfl,h1⟩
 all_goals (exfalso;revert b;simp only[iE];repeat' split)<;>first | contradiction | (intro h;obtain⟨k,h⟩:=n9 h;cases h;done) | (simp;done) | (rename_i h0;obtain⟨k,rfl⟩:=n9 h0;simp)
end
section
variable {P:Program}{F:aA}{L:Loc}{ρ:Env}{a:Act}{w:World}{K:dI}{o:Oper}{Q:Exit->Act->World->Prop}
theorem vV {PX:aA->Loc->Value->Prop}{own:Bool}{f:Nat}{args:List X}(q:St F L w) (he:aC L ρ a) (hd:∀k,o.dst=some k->k<a.tmps.size) (j:iE P own o.op=some (.call f args))
  (p:gu P PX f (bn L ρ args) F L fun F' L' v=>K F' L' (put o.dst (.v v) ρ))
  (l:∀v h w' F' L',sj v h->St F' L' w'->Step F L w F' L' w'->PX F' L' v->Q (.panic h) a w'):o.wp P a w (bF F L w a K) Q:=by
 refine Dv q he hd (fun d=>?_) p l;obtain⟨c,r,n,m⟩:=Kk j;have e:=gN m he;have b:c.args.map a.eval=(bn L ρ args).toArray:=by apply Array.ext';simpa using e
 simp[execOp,r,resolve,n,Deferred.ofValue,Act.eval,invoke,b,iQ d]
theorem tI {PX:aA->Loc->Value->Prop}{own:Bool}{f:Nat}{x:X}{h j:Array Value}{args:List X}(hs:St F L w) (he:aC L ρ a) (hd:∀k,o.dst=some k->k<a.tmps.size) (r:iE P own o.op=some (.callV x args)) (p:ev ρ x=.v (.func (.func f) h j))
  (hK:gu P PX f (h.toList++bn L ρ args++j.toList) F L fun F' L' v=>K F' L' (put o.dst (.v v) ρ))
  (u:∀v m w' F' L',sj v m->St F' L' w'->Step F L w F' L' w'->PX F' L' v->Q (.panic m) a w'):o.wp P a w (bF F L w a K) Q:=by
 refine Dv hs he hd (fun d=>?_) hK u;obtain⟨c,ho,t,⟨y,z,q⟩ | ⟨n,nm,rfl⟩⟩:=Iy r
 rotate_left
 ·exfalso
  revert p
  simp only[ev];cases ρ n<;>simp[Ui,undef]
 have s:=aH q he;have l:=gN t he;have b:c.args.map a.eval=(bn L ρ args).toArray:=by apply Array.ext';simpa using l
 have e:h++((bn L ρ args).toArray++j)=(h.toList++(bn L ρ args++j.toList)).toArray:=by apply Array.ext';simp
 simp[execOp,ho,resolve,z,Deferred.ofValue,s,cR p,invoke,b];rw[iQ d,e]
theorem Iz {PX:aA->Loc->Value->Prop}{own:Bool}{x:X}(l:St F L w) (he:aC L ρ a) (e:iE P own o.op=some (.pan x)) {t:TypeId}{u:Value}(k:val L ρ x=.iface t u) (j:PX F L (.iface t u))
  (h:∀v c w' F' L',sj v c->St F' L' w'->Step F L w F' L' w'->PX F' L' v->Q (.panic c) a w'):o.wp P a w (bF F L w a K) Q:=by
 obtain⟨y,m,d⟩:=Nv e;have f:=aH d he;unfold Oper.wp;have b:(execOp a.eval o).run P w=.halt (.panic (.iface t u)) w:=by
  simp[execOp,m,f,k,Instr.panic,goPanic]
 rw[b];exact h _ _ w F L (sj.one _) l (Step.refl _ _ _) j
end
structure kW (P:Program) (PX:aA->Loc->Value->Prop) (fb:List Nat) (f:Nat) (args:List Value) (F:aA) (L:Loc) (K:aA->Loc->Value->Prop):Prop where
 out:∃(ks:List Nat) (Lin:List Own) (R:aA->List Own->Value->Prop) (Pp:aA->List Own->Value->Prop),L.sub ks=some Lin/\ks.Nodup/\(∀k∈ks,k∉fb)/\wR P f args.toArray F Lin R Pp /\
  (∀v F' L' Lo,F.le F'->L'.sub ks=some Lo->x7 ks L L'->Pp F' Lo v->PX F' L' v) /\
  ∀v F' Lo,F.le F'->R F' Lo v->ks.length=Lo.length/\(∀(i:Nat) g t cs,Lin[i]?=some (.box g t cs)->∃cs',Lo[i]?=some (.box g t cs')) /\
   (Real F' (L.puts ks Lo)->K F' (L.puts ks Lo) v)
def sH (P:Program) (L:Loc) (ρ:Env):dZ->Option (Nat×List Value)
 | .call f args=>some (f,bn L ρ args)
 | .callV f args=>match ev ρ f with
  | .v (.func (.func f) b a)=>some (f,b.toList++bn L ρ args++a.toList)
  | _=>none
 | _=>none
def Cc:dZ->List Nat
 | .call _ args=>ct args
 | .callV f args=>ct (f::args)
 | _=>[]
def Ft:dZ->Bool
 | .call _ _=>true
 | .callV _ _=>true
 | _=>false
def bg (P:Program) (PX:aA->Loc->Value->Prop) (fb:List Nat):List ak->aA->Loc->Env->dI->Prop
 | [],F,L,ρ,K=>K F L ρ
 | .op d o g::a,F,L,ρ,K=>∃o',res g ρ o=some o'/\evalOp P o' d F L ρ fun F' L' ρ'=>bg P PX fb a F' L' ρ' K
 | .frz _::_,_,_,_,_=>False
 | .pc d o g::a,F,L,ρ,K=>match sH P L ρ o,g with
  | some (f,b),none=>kW P PX fb f b F L fun F' L' v=>bg P PX fb a F' L' (put d (.v v) ρ) K
  | _,_=>False
def Kl:dZ->Bool
 | .loadF _ _ _=>true
 | .gload _=>true
 | _=>false
def QW:dZ->Bool
 | .mkfn _ _ _=>true
 | _=>false
def Ud (o:dZ):Bool:=Dn o||Kl o||QW o
def Um (fb:List Nat):dZ->Bool
 | .loadK key _ _ _=>fM fb key
 | _=>false
theorem mE {fb:List Nat}{o:dZ}(h:(Ud o||Um fb o)=true):cT o=true:=by cases o<;>first | rfl | (exact vv h (by decide)) | (simp[Ud,Um,Dn,Kl,QW] at h)
def x9:ak->Option Nat
 | .op d (.allocD _ _) none=>d
 | _=>none
def Aa:ak->Option Nat
 | .op d _ _=>d
 | .frz _=>none
 | .pc d _ _=>d
def jq (fb:List Nat):ak->ak->Bool
 | .op a x c,.op b y d=>mD (.op a x c) (.op b y d)
 | .op a x c,.pc b y none=>Ft y&&(Ud x||Um fb x)&&sG a (Cc y)&&sG b (looks x c)&&Dt a b
 | .pc a x none,.op (some k) (.allocD _ _) none=>Ft x&&sG (some k) (Cc x)&&Dt a (some k)
 | _,_=>false
def Un:ak->Bool
 | .op _ o _=>okD o
 | .pc _ o none=>Ft o
 | _=>false
section
variable {P:Program}{PX:aA->Loc->Value->Prop}{fb:List Nat}{F F':aA}{L L':Loc}{ρ:Env}{K K':dI}
theorem IA {sv:SV}(hb:kQ L L') (b:∀k off,sv=.own k off->∃g t cs,L.get k=some (.box g t cs)):conc L' sv=conc L sv:=by
 cases sv with
 | v x=>rfl
 | el a j=>rfl
 | own k off =>
  obtain⟨g,t,cs,e⟩:=b k off rfl;obtain⟨cs',c⟩:=hb k g t cs e;simp only[conc,e,c]
theorem Km (hb:kQ L L') (a:Vd L ρ) (x:X):val L' ρ x=val L ρ x:=IA hb fun k off e=>a.ev e
theorem sI (hb:kQ L L') (a:Vd L ρ) (xs:List X):bn L' ρ xs=bn L ρ xs:=dA fun x _=>Km hb a x
theorem yc {d:Option Nat}{v:SV}{xs:List X}(h:∀k,d=some k->k∉ct xs):bn L (put d v ρ) xs=bn L ρ xs:=dA fun x a=>by simp only[val,fZ h x a]
theorem Nw {o:dZ}(h:(Ud o||Um fb o)=true) (c:∀j∈fb,L'.get j=L.get j) (d:F.le F') (hb:kQ L L') (f:Vd L ρ) {V:SV->Prop}(a:aK o F L ρ V):aK o F' L' ρ V:=by
 simp only[Ud,abr] at h;rcases h with((h | h) | h) | h
 rotate_right
 ·cases o<;>first | (cases h;done) | skip
  rename_i key m n x;have l:=c key (cS.1 h);simp only[aK] at a ⊢;split at a
  ·rename_i k off e;split at a
   ·rename_i b;have b:=aaR b;subst b;rw[l];exact a
   ·exact a.elim
  ·exact a.elim
 ·exact AL h a
 ·cases o<;>first | (cases h;done) | skip
  ·simp only[aK] at a ⊢;obtain⟨u,t,fr,h1,h2⟩:=a;exact⟨u,t,fr,d _ _ h1,h2⟩
  ·simp only[aK] at a ⊢;split at a
   ·exact a.up d
   ·exact a.up d
   ·exact a.elim
 ·cases o<;>first | (cases h;done) | skip
  simp only[aK,sI hb f] at a ⊢;exact a
theorem kQ.vd (hb:kQ L L') (a:Vd L ρ):Vd L' ρ:=fun t k off e=>let⟨g,ty,cs,h⟩:=a t k off e;let⟨cs',h'⟩:=hb k g ty cs h;⟨g,ty,cs',h'⟩
theorem Vd.aaK (a:Vd L ρ) (d:Option Nat) (v:Value):Vd L (put d (.v v) ρ):=by
 intro t k off e;rw[put_eq] at e;cases d with
 | none=>exact a t k off e
 | some j =>
  simp only[] at e;split at e
  ·cases e
  ·exact a t k off e
theorem uY {ks:List Nat}{Lin Lo:List Own}(d:L.sub ks=some Lin) (f:ks.Nodup) (a:ks.length=Lo.length) (h:∀(i:Nat) g t cs,Lin[i]?=some (.box g t cs)->∃cs',Lo[i]?=some (.box g t cs')) :
  kQ L (L.puts ks Lo)/\(∀j,L.get j=none->(L.puts ks Lo).get j=none)/\∀j,j∉ks->(L.puts ks Lo).get j=L.get j:=by
 obtain⟨o,m⟩:=cE d;refine⟨fun k g t cs e=>?_,fun j e=>?_,fun j n=>?_⟩
 ·rcases cZ ks Lo L k f a with⟨b,c⟩ | ⟨i,b,c,l⟩
  ·rw[b];exact⟨cs,e⟩
  ·rw[c];have:=m i k b;rw[e] at this;exact h i g t cs this.symm
 ·rcases cZ ks Lo L j f a with⟨b,c⟩ | ⟨i,b,c,l⟩
  ·rw[b];exact e
  ·have:=m i j b;rw[e] at this;have h2:=abC.1 this.symm;omega
 ·rcases cZ ks Lo L j f a with⟨b,c⟩ | ⟨i,b,c,l⟩
  ·exact b
  ·exact vv (aaU b) n
theorem kW.imp {f:Nat}{args:List Value}{K K':aA->Loc->Value->Prop}(h:kW P PX fb f args F L K)
  (o:∀F' L' v,F.le F'->kQ L L'->(∀j,L.get j=none->L'.get j=none)->(∀j∈fb,L'.get j=L.get j)->Real F' L'->K F' L' v->K' F' L' v):kW P PX fb f args F L K':=by
 obtain⟨ks,l,R,Pp,h1,h2,h0,h3,h4,h5⟩:=h;refine⟨ks,l,R,Pp,h1,h2,h0,h3,h4,fun v F' Lo e p=>?_⟩;obtain⟨a,b,c⟩:=h5 v F' Lo e p;obtain⟨k1,m,n⟩:=uY h1 h2 a b;exact⟨a,b,fun d=>o _ _ _ e k1 m (fun j k=>n j fun h=>h0 j h k) d (c d)⟩
theorem jl {d:Option Nat}{o:dZ}{g:Option (Nat×Bool)}{a:List ak} :
  bg P PX fb (.op d o g::a) F L ρ K↔∃o',res g ρ o=some o'/\evalOp P o' d F L ρ (fun F1 L1 b=>bg P PX fb a F1 L1 b K):=Iff.rfl
theorem rU:∀(ks:List Nat) (Lo:List Own) (L:Loc) {k:Nat}{o:Own},k∉ks->(L.set k o).puts ks Lo=(L.puts ks Lo).set k o
 | [],Lo,L,k,o,_=>by cases Lo<;>rfl
 | j::ks,[],L,k,o,_=>rfl
 | j::ks,p::Lo,L,k,o,h=>by
  simp only[Loc.puts];rw[set_comm L o p (fun e=>h (by simp[e])),rU ks Lo (L.set j p) (fun a=>h (by simp[a]))]
theorem GH:∀{ks:List Nat}{L:Loc}{k:Nat}{o:Own},k∉ks->(L.set k o).sub ks=L.sub ks
 | [],L,k,o,_=>rfl
 | j::ks,L,k,o,h=>by
  simp only[Loc.sub];rw[bY (fun e=>h (by simp[e])),GH (fun a=>h (by simp[a]))]
theorem Sk {s r:Option Nat}{x y:dZ}{gx gy:Option (Nat×Bool)}{b:List ak}(hp:mD (.op s x gx) (.op r y gy)=true) (hr:Real F L) (t:Vd L ρ) (h:bg P PX fb (.op s x gx::.op r y gy::b) F L ρ K):bg P PX fb (.op r y gy::.op s x gx::b) F L ρ K:=by
  simp only[mD,aaN] at hp;obtain⟨⟨⟨⟨⟨ac,c⟩,hc⟩,h1⟩,h2⟩,h3⟩:=hp;have h1:=kD h1;have h2:=kD h2;have h3:=nZ h3;have an:∀k,r=some k->s≠some k:=fun k e e'=>h3 k e' e;rw[jl] at h;obtain⟨z,q,h⟩:=h;have f:okD iI=true:=rfl;have m:okD z=true:=by rcases dB q with rfl | rfl;exact ac;exact f
  have hy:∃n,res gy ρ y=some n:=by
   obtain⟨v,F1,L1,d⟩:=vS m hr h;rw[jl] at d;obtain⟨n,a,_⟩:=d;rw[o6 h1] at a;exact⟨n,a⟩
  obtain⟨n,a⟩:=hy;have w:okD n=true:=by rcases dB a with rfl | rfl;exact c;exact f
  have hA:evalOp P z s F L ρ (fun F1 L1 o=>evalOp P n r F1 L1 o (fun F2 L2 l=>bg P PX fb b F2 L2 l K)):=by
   refine jP m hr t h ?_;rintro F1 L1 o ⟨v,rfl⟩ _ _ _ d;rw[jl] at d;obtain⟨aw,j,d⟩:=d;rw[o6 h1,a] at j;injection j with j
   subst j;exact d
  have lx:∀k,r=some k->k∉ct (bA z):=by
   intro k e d;rcases dB q with rfl | rfl
   ·exact h2 k e (n8 d)
   ·simp[iI,bA,ct] at d
  have ly:∀k,s=some k->k∉ct (bA n):=by
   intro k e d;rcases dB a with rfl | rfl
   ·exact h1 k e (n8 d)
   ·simp[iI,bA,ct] at d
  have hB:evalOp P n r F L ρ (fun F1 L1 o=>evalOp P z s F1 L1 o (fun F2 L2 l=>bg P PX fb b F2 L2 l K)):=by
   by_cases p:n=iI
   ·subst p;simp only[iI,evalOp,aK,ev];exact xY (K:=fun F2 L2 l=>bg P PX fb b F2 L2 l K) (u:=.v undef) m lx h3 hA
   ·have ey:n=y:=by rcases dB a with h | h;exact h;exact vv h p
    subst ey;refine Kh hr ?_ ly lx h3 t hA;rcases dB q with rfl | rfl
    ·exact hc
    ·simp only[okD,abr] at c;rcases c with c | c
     ·simp only[xZ,c,ab5,abr];exact .inl (.inl (.inl (.inl (.inl rfl))))
     ·simp only[xZ,c,ab5,abr];exact .inl (.inr rfl)
  rw[jl];refine⟨n,a,jP w hr t hB ?_⟩;rintro F1 L1 o ⟨v,rfl⟩ _ _ _ d;rw[jl];exact⟨z,by rw[o6 h2];exact q,d⟩
theorem Fu {f:X}{args:List X}{k:Nat}(h:k∈ct args):k∈ct (f::args):=by
 cases f<;>simp[ct,h]
theorem Dw {d:Option Nat}{v:SV}{o:dZ}(h:∀k,d=some k->k∉Cc o):sH P L (put d v ρ) o=sH P L ρ o:=by
 cases o<;>try rfl
 ·rename_i f args;simp only[sH,yc h]
 ·rename_i f args;have h1:∀k,d=some k->k∉ct args:=fun k e a=>h k e (Fu a);have h2:ev (put d v ρ) f=ev ρ f:=fZ h f (by simp);simp only[sH,yc h1,h2]
theorem IB (hb:kQ L L') (a:Vd L ρ) (o:dZ):sH P L' ρ o=sH P L ρ o:=by
 cases o<;>try rfl
 ·simp only[sH,sI hb a]
 ·simp only[sH,sI hb a]
theorem Sm {f d:Option Nat}{x y:dZ}{t:Option (Nat×Bool)}{b:List ak}(w:jq fb (.op f x t) (.pc d y none)=true) (hr:Real F L) (q:Vd L ρ)
  (h:bg P PX fb (.op f x t::.pc d y none::b) F L ρ K):bg P PX fb (.pc d y none::.op f x t::b) F L ρ K:=by
 simp only[jq,aaN] at w;obtain⟨⟨⟨⟨_,n⟩,h1⟩,h2⟩,h3⟩:=w;have h1:=kD h1;have h2:=kD h2;have h3:=nZ h3;have ab:∀k,d=some k->f≠some k:=fun k e e'=>h3 k e' e;obtain⟨l,c,h⟩:=h;have a:(Ud l||Um fb l)=true:=by rcases dB c with rfl | rfl;exact n;rfl
 rw[cn (mE a)] at h;obtain⟨v,z,j⟩:=(fp (mE a)).ex _ h;simp only[bg,Dw h1] at j ⊢;split at j
 case h_2=>exact j.elim
 refine j.imp fun F' L' u o s _ p aa m=>⟨l,by rw[o6 h2];exact c,?_⟩;rw[cn (mE a)];have lx:∀k,d=some k->k∉ct (bA l):=by
  intro k e m;rcases dB c with rfl | rfl
  ·exact h2 k e (n8 m)
  ·simp[iI,bA,ct] at m
 have r:=rf (mE a) (aA.le_refl F') (uW (L:=L') (ρ:=ρ) (v:=.v u) lx) (Nw a p o s q z);refine(fp (mE a)).mono _ _ (fun v' e=>?_) r;subst e;rw[put_comm h3];exact m
theorem Sn {dx:Option Nat}{k:Nat}{t:TypeId}{zs:List Value}{x:dZ}{n:List ak}(y:jq fb (.pc dx x none) (.op (some k) (.allocD t zs) none)=true) (q:L.get k=none) (hr:Real F L) (ad:Vd L ρ)
  (h:bg P PX fb (.pc dx x none::.op (some k) (.allocD t zs) none::n) F L ρ K):bg P PX fb (.op (some k) (.allocD t zs) none::.pc dx x none::n) F L ρ K:=by
 simp only[jq,aaN] at y;have h1:=kD y.1.2;have h3:=nZ y.2;simp only[bg,res,aaO,exists_eq_left',evalOp,q] at h ⊢;intro g az;split at h
 case h_2=>exact h.elim
 rename_i _ _ f vs w _;obtain⟨ks,l,R,Pp,e1,e2,e0,e3,e4,e5⟩:=h;have r:k∉ks:=by
  intro r;obtain⟨hl,hg⟩:=cE e1;obtain⟨i,hi⟩:=List.getElem?_of_mem r;have:=hg i k hi;rw[q] at this;have h5:=(aaT.1 hi).1;have h6:=abC.1 this.symm;omega
 have o:kQ L (L.set k (.box g t zs)):=fun j s u cs e=>⟨cs,Keeps.new q j s u cs e⟩;have ea:sH P (L.set k (.box g t zs)) (put (some k) (.own k 0) ρ) x=some (f,vs):=by
  rw[Dw h1,IB o ad,w]
 rw[ea];refine⟨ks,l,R,Pp,by rw[GH r];exact e1,e2,e0,e3,fun v F0 L' Lo hF z hb=>e4 v F0 L' Lo hF z fun j s u cs e=>hb j s u cs (Keeps.new q j s u cs e),fun v F' Lo hF hR=>?_⟩;obtain⟨a,b,c⟩:=e5 v F' Lo hF hR;refine⟨a,b,fun m=>?_⟩;rw[rU ks Lo L r] at m ⊢;obtain⟨k1,k2,_⟩:=uY e1 e2 a b;have p:=k2 k q;have c:=c (m.down (aA.le_refl _) m.glob (Kg p));simp only[p] at c;rw[<-put_comm (d:=some k) (fun j e e'=>h3 j e' e)];exact c g m
theorem IE {x y:ak}{a:List ak}(c:jq fb x y=true) (e:∀k,x9 y=some k->L.get k=none) (d:Real F L) (b:Vd L ρ) (h:bg P PX fb (x::y::a) F L ρ K):bg P PX fb (y::x::a) F L ρ K:=by
 unfold jq at c;split at c
 ·exact Sk c d b h
 ·exact Sm c d b h
 ·exact Sn c (e _ rfl) d b h
 ·cases c
theorem Dx {y:ak}{k:Nat}(h:x9 y=some k):Aa y=some k:=by
 unfold x9 at h;split at h
 ·exact h
 ·cases h
theorem Ko {x y:ak}(a:jq fb x y=true) {k:Nat}(h:x9 y=some k):Aa x≠some k:=by
 have hd:=Dx h;unfold jq at a;split at a
 ·simp only[mD,aaN] at a;intro e;exact nZ a.2 k e hd
 ·simp[x9] at h
 ·simp only[aaN] at a;intro e;exact nZ a.2 k e hd
 ·cases a
theorem Ab {x:ak}{c b:List ak}(p:Un x=true) (r:Real F L) (m:Vd L ρ) (h:bg P PX fb (x::c) F L ρ K)
  (q:∀F1 L1 a,F.le F1->Real F1 L1->Vd L1 a->(∀j,Aa x≠some j->L.get j=none->L1.get j=none)->bg P PX fb c F1 L1 a K->bg P PX fb b F1 L1 a K):bg P PX fb (x::b) F L ρ K:=by
 cases x with
 | frz k=>cases p
 | op d o g =>
  obtain⟨o',l,h⟩:=h;have n:okD o'=true:=by rcases dB l with rfl | rfl;exact p;rfl
  exact⟨o',l,nI n r m h fun F1 L1 a _ h2 h3 h4 h5 h6=>q F1 L1 a h2 h3 h4 h5 h6⟩
 | pc d o g =>
  unfold bg at h ⊢;split at h
  ·rename_i f args;refine h.imp fun F' L' v h1 h2 h3 _ h4 h5=>q _ _ _ h1 h4 ((h2.vd m).aaK d v) (fun j _ e=>h3 j e) h5
  ·exact h.elim
theorem yd {y:ak}{s:List ak}:∀(p:List ak),(∀x∈p,jq fb x y=true)->(∀x∈p,Un x=true)->∀{F:aA}{L:Loc}{ρ:Env},(∀k,x9 y=some k->L.get k=none)->Real F L->Vd L ρ->bg P PX fb (p++y::s) F L ρ K->bg P PX fb (y::(p++s)) F L ρ K
 | [],_,_,F,L,ρ,_,_,_,h=>h
 | x::p,c,n,F,L,ρ,m,l,b,h=>by
  refine IE (c x (by simp)) m l b ?_;refine Ab (n x (by simp)) l b h fun F1 L1 o _ j a f q=>?_;exact yd p (fun z d=>c z (by simp[d])) (fun z d=>n z (by simp[d])) (fun k e=>f k (Ko (c x (by simp)) e) (m k e)) j a q
end
section
variable {P:Program}{PX:aA->Loc->Value->Prop}{fb:List Nat}{K:dI}{Q:Exit->Act->World->Prop}{ops:Array Oper}
theorem AV {ks:List Nat}(b:ks.Nodup) {i j:Nat}{hi:i<ks.length}{c:j<ks.length}(h:ks[i]=ks[j]):i=j:=by
 rw[List.nodup_iff_pairwise_ne,List.pairwise_iff_getElem] at b;rcases Nat.lt_trichotomy i j with a | he | a
 ·exact vv h (b i j hi c a)
 ·exact he
 ·exact vv h.symm (b j i c hi a)
theorem ri {L:Loc}{ks:List Nat}{Lo:List Own}(f:ks.Nodup) (a:ks.length=Lo.length):((L.aaf ks).puts ks Lo).sameAs (L.puts ks Lo):=by
 intro j;rcases cZ ks Lo L j f a with⟨c,b⟩ | ⟨i,c,b,l⟩<;>rcases cZ ks Lo (L.aaf ks) j f a with⟨d,e⟩ | ⟨k,d,e,m⟩
 ·rw[c,d,fk,o5 b]
 ·exact vv (aaU d) b
 ·exact vv (aaU c) e
 ·have:i=k:=by
   have h1:=(aaT.1 c);have h2:=(aaT.1 d);obtain⟨h1,h⟩:=h1;obtain⟨h2,h2'⟩:=h2;exact AV f (h.trans h2'.symm)
  subst this;rw[b,e]
theorem ye:∀{ks:List Nat}{L:Loc}{Lo:List Own},ks.length=Lo.length->(∀(i:Nat) k,ks[i]?=some k->L.get k=Lo[i]?)->L.sub ks=some Lo
 | [],L,[],_,_=>rfl
 | [],L,_::_,h,_=>by simp at h
 | _::_,L,[],h,_=>by simp at h
 | k::ks,L,o::Lo,h,a=>by
  have h0:=a 0 k rfl;have h1:L.sub ks=some Lo:=ye (by simpa using h) fun i j e=>by
   have:=a (i+1) j (by rw[abe];exact e);rw[abe] at this;exact this
  have h0:L.get k=some o:=h0;simp only[Loc.sub,h0,h1]
theorem Kq {L:Loc}{ks:List Nat}{Lo:List Own}(d:ks.Nodup) (a:ks.length=Lo.length):(L.puts ks Lo).sub ks=some Lo:=by
 refine ye a fun i k e=>?_;rcases cZ ks Lo L k d a with⟨f,b⟩ | ⟨j,f,b,h⟩
 ·exact vv (aaU e) b
 ·have hi:=aaT.1 e;have l:=aaT.1 f;obtain⟨h1,c⟩:=hi;obtain⟨h2,h2'⟩:=l;have:i=j:=AV d (c.trans h2'.symm);subst this;rw[b,aaQ h]
theorem kW.toX {f:Nat}{args:List Value}{F:aA}{L:Loc}{K:aA->Loc->Value->Prop}(h:kW P PX fb f args F L K):gu P PX f args F L fun F' L' v=>∃L2,L'.sameAs L2/\(Real F' L2->K F' L2 v):=by
 obtain⟨ks,l,R,Pp,h1,h2,h0,h3,h4,h5⟩:=h;refine⟨ks,ks,l,R,Pp,h1,h2,h2,fun k o=>.inl o,h3,fun v F' Lo j d hb m=>h4 v F' _ Lo j (Kq h2 d) hb m,fun v F' Lo j n=>?_⟩;obtain⟨a,b,c⟩:=h5 v F' Lo j n;obtain⟨k1,p,_⟩:=uY h1 h2 a b;refine⟨a,fun k g t cs _ e=>?_,_,ri h2 a,c⟩;rw[<-ri h2 a];exact k1 k g t cs e
theorem Dy {own:Bool}{o:Oper}{s:dZ}{f:Nat}{c:List Value}{F:aA}{L:Loc}{ρ:Env}{a:Act}{w:World}{K:dI}(l:St F L w) (he:aC L ρ a) (hd:∀k,o.dst=some k->k<a.tmps.size) (e:iE P own o.op=some s) (b:sH P L ρ s=some (f,c))
  (j:gu P PX f c F L fun F' L' v=>K F' L' (put o.dst (.v v) ρ))
  (h:∀v d w' F' L',sj v d->St F' L' w'->Step F L w F' L' w'->PX F' L' v->Q (.panic d) a w'):o.wp P a w (bF F L w a K) Q:=by
 cases s with
 | call m args =>
  simp only[sH,aaO,Prod.mk.injEq] at b;obtain⟨rfl,rfl⟩:=b;exact vV l he hd e j h
 | callV x args =>
  simp only[sH] at b;split at b
  case h_2=>cases b
  rename_i m p q n;simp only[aaO,Prod.mk.injEq] at b;obtain⟨rfl,rfl⟩:=b;exact tI l he hd e n j h
 | _=>cases b
theorem IG {A:cI}{i:Nat}{s:ak}{l:List ak}{F:aA}{L:Loc}{ρ:Env}{a:Act}{w:World}{KK:Act->World->Prop}(hi:i<ops.size) (c:B0 P A ops i=some s) (hx:Un s=true) (hs:St F L w) (he:aC L ρ a) (hn:a.tmps.size=A.n)
  (t:bg P PX fb (s::l) F L ρ K)
  (hQ:∀a' w' F' L' ρ',St F' L' w'->aC L' ρ' a'->a'.tmps.size=A.n->a'.defers=a.defers->Step F L w F' L' w'->(∀j,((ops[i]?).bind (·.dst))≠some j->a'.tmps.getD j undef=a.tmps.getD j undef) ->
   (∀j,Aa s≠some j->L.get j=none->L'.get j=none)->bg P PX fb l F' L' ρ' K->KK a' w')
  (hP:∀v ch w' F' L',sj v ch->St F' L' w'->Step F L w F' L' w'->PX F' L' v->Q (.panic ch) a w') :
  wpOp P ops Q i KK a w:=by
 cases s with
 | frz k=>cases hx
 | op d o g =>
  obtain⟨o',u,h⟩:=t;have ar:okD o'=true:=by rcases dB u with rfl | rfl;exact hx;rfl
  have h2:aS P [.op d o g] F L ρ (fun F' L' ρ'=>(∀j,d≠some j->L.get j=none->L'.get j=none)/\bg P PX fb l F' L' ρ' K) :=
   fP.2 ⟨o',u,nI ar ⟨w,hs⟩ he.vd h fun F1 L1 bj _ _ _ _ h5 h6=>⟨h5,h6⟩⟩
  exact Du hi c hs he hn h2 fun a' w' F' L' ρ' z g2 g3 g4 g5 r x=>hQ a' w' F' L' ρ' z g2 g3 g4 g5 r x.1 x.2
 | pc d o g =>
  unfold bg at t;split at t
  case h_2=>exact t.elim
  rename_i f vs ae;unfold B0 at c;split at c
  case h_1=>cases c
  rename_i o q;split at c
  case h_2=>cases c
  rename_i g s0 y av m;rename_i o0 _ _ _ _ _ _;have ad:o.dst=d/\s0=o0/\g=none:=by
   split at c
   ·split at c
    ·injection c with c
     injection c with q1 q2 q3
     exact⟨q1,q2,rfl⟩
    ·injection c with c
     injection c with q1 q2 q3
     exact⟨q1,q2,rfl⟩
    ·cases c
   ·split at c
    ·split at c
     ·cases c
     ·cases c
    ·split at c
     ·split at c<;>cases c
     ·cases c
  obtain⟨rfl,rfl,rfl⟩:=ad;have hd:∀k,o.dst=some k->k<a.tmps.size:=by
   intro k hk;rw[hk] at m;rw[hn];have h2:Nat.blt k A.n=true:=m;simpa using h2
  have aw:(ops[i]?).bind (·.dst)=o.dst:=by rw[q];rfl
  rw[aw] at hQ;simp only[wpOp,q];have ac:o.guard=none:=by
   cases e:o.guard with
   | none=>rfl
   | some p=>obtain⟨j,b⟩:=p;rw[e] at y;simp only[iG] at y;split at y<;>cases y
  rw[fo (by simp[Region.wanted,ac])];refine .inl ?_;have aE:=t.imp (K':=fun F' L' v=>(∀j,L.get j=none->L'.get j=none)/\bg P PX fb l F' L' (put o.dst (.v v) ρ) K) fun F' L' v _ _ h3 _ _ h5=>⟨h3,h5⟩;have:=Dy (K:=fun F' L' ρ'=>∃L2,L'.sameAs L2/\(Real F' L2->(∀j,L.get j=none->L2.get j=none)/\bg P PX fb l F' L2 ρ' K)) hs he hd av ae aE.toX hP;refine Oper.wp_mono ?_ (qt (asg:=[]) this);rintro a' w' ⟨⟨F',L',ρ',z,g2,g3,g4,g5,L2,r,x⟩,al⟩;have s1:St F' L2 w':=z.part fun k o e=>by rw[<-r k];exact e
  obtain⟨g8,g9⟩:=x ⟨w',s1⟩;exact hQ a' w' F' L2 ρ' s1 (g2.same r) (by rw[g3,hn]) g4 (g5.aaH r) al (fun j _ e=>g8 j e) g9
def mF (fb:List Nat) (a:List (List Nat)):List (Nat×ak)->Bool
 | []=>true
 | (x,b)::l=>l.all (fun p=>jq fb b p.2||fM (B6 a p.1) x)&&mF fb a l
def Fv (ss:List ak):List Nat:=ss.filterMap Aa
def Nx (ss:List ak):List Nat:=ss.filterMap fun s=>match s with | .op _ (.loadK key _ _ _) _=>some key | _=>none
def Cd (P:Program) (ops:Array Oper) (is:List Nat) (a:List (List Nat)) (ss:List ak):Bool :=
 P.follows .mixedOrders&&Kj ops a&&aU is&&Nat.beq is.length ops.size&&is.all (fun i=>Nat.blt i ops.size)&&(List.range ops.size).all (fM is)&&mF (Nx ss) a (is.zip ss)&&ss.all Un&&aU (Fv ss)
theorem tJ {d:List (List Nat)}:∀{p q:List (Nat×ak)}{y:Nat×ak},mF fb d (p++y::q)=true->mF fb d (p++q)=true/\∀x∈p,jq fb x.2 y.2=true\/x.1∈B6 d y.1
 | [],q,y,h=>by
  obtain⟨y1,y2⟩:=y;simp only[abp,mF,aaN] at h ⊢;exact⟨h.2,fun x b=>by cases b⟩
 | (f,e)::p,q,y,h=>by
  simp only[aa3,mF,aaN] at h ⊢;obtain⟨h1,h2⟩:=h;obtain⟨h3,h4⟩:=tJ h2;have c:=aa1.1 h1;refine⟨⟨aa1.2 fun z a=>c z ?_,h3⟩,fun x b=>?_⟩
  ·rcases aaV.1 a with a | a
   ·exact aaV.2 (.inl a)
   ·exact aaV.2 (.inr (abk _ a))
  ·rcases aaX.1 b with rfl | b
   ·have:=c y (aaV.2 (.inr (by simp)));simp only[abr] at this;rcases this with h | h
    ·exact .inl h
    ·exact .inr (cS.1 h)
   ·exact h4 x b
theorem Ny {p q:List ak}{y:ak}(h:(Fv (p++y::q)).Nodup):(Fv (p++q)).Nodup/\∀k,Aa y=some k->∀z∈p++q,x9 z≠some k:=by
 have e:Fv (p++y::q)=Fv p++((Aa y).toList++Fv q):=by
  unfold Fv;rw[List.filterMap_append,List.filterMap_cons];cases Aa y<;>rfl
 rw[e] at h;have h2:(Fv p++Fv q).Nodup:=by
  refine List.Sublist.nodup ?_ h;exact List.Sublist.append (List.Sublist.refl _) (List.sublist_append_right _ _)
 refine⟨by unfold Fv at h2 ⊢;rw[List.filterMap_append];exact h2,fun k c z a b=>?_⟩;have hd:=Dx b;rw[c] at h;have h3:k∉Fv p++Fv q:=by
  have:(Fv p++k::Fv q).Nodup:=h;have:=(List.perm_middle.nodup_iff).1 this;rw[List.nodup_cons] at this;exact this.1
 apply h3;rcases aaV.1 a with a | a
 ·exact aaV.2 (.inl (List.mem_filterMap.2 ⟨z,a,hd⟩))
 ·exact aaV.2 (.inr (List.mem_filterMap.2 ⟨z,a,hd⟩))
theorem Kr {A:cI}{i:Nat}{s:ak}(a:B0 P A ops i=some s):(ops[i]?).bind (·.dst)=Aa s:=by
 unfold B0 at a;split at a
 case h_1=>cases a
 rename_i o b;rw[b];split at a
 case h_2=>cases a
 split at a
 ·split at a
  ·injection a with a;subst a;rfl
  ·injection a with a;subst a;rfl
  ·cases a
 ·split at a
  ·split at a
   ·injection a with a;subst a;rfl
   ·cases a
  ·split at a
   ·split at a
    ·injection a with a;subst a;rfl
    ·cases a
   ·cases a
theorem Fw {A:cI}{cl:List (List Nat)}(ca:Kj ops cl=true):∀(m:Nat) (l:List Nat) (ss:List ak) (b:Array Bool) (F:aA) (L:Loc) (ρ:Env) (a:Act) (w:World),
  eP P A ops l=some ss->b.size=ops.size->l.Nodup->(∀i,i∈l↔i<ops.size/\b.getD i true=false)->l.length<=m->mF fb cl (l.zip ss)=true ->
  (∀i,i<ops.size->b.getD i true=true->∀z∈direct ops i,b.getD z true=true) ->
  (∀s∈ss,Un s=true)->(Fv ss).Nodup->(∀s∈ss,∀k,x9 s=some k->L.get k=none) ->
  St F L w->aC L ρ a->a.tmps.size=A.n->bg P PX fb ss F L ρ K ->
  (∀a' w',eJ A.n F L w a (dstsOf ops (List.range ops.size)) K a' w'->Q .normal a' w') ->
  (∀v ch a' w' F' L',sj v ch->St F' L' w'->Step F L w F' L' w'->a'.tmps.size=A.n->a'.defers=a.defers->(∀j,j∉dstsOf ops (List.range ops.size)->a'.tmps.getD j undef=a.tmps.getD j undef)->PX F' L' v->Q (.panic ch) a' w')->wpAny P .any ops Q m b a w:=by
 have t:∀y z,y<ops.size->z∈direct ops y->z<y:=by
  intro y z hy r;have h:=aa1.1 ca y (List.mem_range.2 hy);simp only[Cb,aaN] at h;have h3:Nat.blt z y=true:=aa1.1 h.1 z r;simpa using h3
 intro m
 induction m with
 | zero =>
  intro l ss b F L ρ a w hl bb bm c ag hp f ab bk aE hs he hn hK hQ hP;have:l=[]:=aby (by omega);subst this;simp only[eP,aaO] at hl;subst hl;refine⟨?_,hQ a w ⟨F,L,ρ,hs,he,hn,rfl,Step.refl _ _ _,fun _ _=>rfl,hK⟩⟩;apply List.eq_nil_iff_forall_not_mem.2;intro i hi;rw[mem_ready] at hi;obtain⟨h1,o,h2,_⟩:=hi;have:=(c i).2 ⟨(Array.getElem?_eq_some_iff.1 h2).1,h1⟩;cases this
 | succ m ih =>
  intro l ss b F L ρ a w hl bb bm c ag hp f ab bk aE hs he hn hK hQ hP;refine⟨fun hr=>?_,fun y hy=>?_⟩
  ·have:l=[]:=by
    refine Classical.byContradiction fun u=>?_;obtain⟨y,h1,h2⟩:=min_mem u;obtain⟨h3,h4⟩:=(c y).1 h1;have an:y∈Region.ready .any ops b:=by
     rw[mem_ready];refine⟨h4,ops[y],Array.getElem?_eq_getElem h3,fun e av ba=>?_⟩;have r:e.on∈direct ops y:=(o9 (Array.getElem?_eq_getElem h3)).2 ⟨e,av,ba,rfl⟩;have cx:=t y e.on h3 r;rw[tH (by omega) false true];cases hd:b.getD e.on true with
     | true=>rfl
     | false =>
      have:=h2 e.on ((c e.on).2 ⟨by omega,hd⟩);omega
    rw[hr] at an;cases an
   subst this;simp only[eP,aaO] at hl;subst hl;exact hQ a w ⟨F,L,ρ,hs,he,hn,rfl,Step.refl _ _ _,fun _ _=>rfl,hK⟩
  ·rw[mem_ready] at hy;obtain⟨h1,o,ho,ar⟩:=hy;have d:=(Array.getElem?_eq_some_iff.1 ho).1;have bc:=(c y).2 ⟨d,h1⟩;obtain⟨p,q,rfl⟩:=List.append_of_mem bc;obtain⟨dC,bo⟩:=qw hl;obtain⟨sp,sy,sq,rfl,ae,bv,ci⟩:=bo p q y rfl;have cb:(p++y::q).zip (sp++sy::sq)=p.zip sp++(y,sy)::q.zip sq:=by
    rw[List.zip_append ae.symm];rfl
   rw[cb] at hp;obtain⟨cX,cm⟩:=tJ hp;have al:∀z∈direct ops y,b.getD z true=true:=by
    intro z r;have cx:=t y z d r;obtain⟨e,av,ba,rfl⟩:=(o9 ho).1 r;rw[tH (by omega) true false];exact ar e av ba
   have ac:∀sx∈sp,jq fb sx sy=true:=by
    intro sx cp;obtain⟨k,hk⟩:=List.getElem?_of_mem cp;have dr:=(aaT.1 hk).1;have bt:p[k]?=some (p[k]'(by omega)):=aaQ (by omega);have hm:(p[k]'(by omega),sx)∈p.zip sp:=aaU (i:=k) (by rw[List.getElem?_zip_eq_some];exact⟨bt,hk⟩);rcases cm _ hm with h | h
    ·exact h
    ·exfalso;have hd:=vT ca (done:=fun z=>b.getD z true=true) f y d al _ h;have da:p[k]'(by omega)∈p++y::q:=aaV.2 (.inl (aaU bt));have:=((c _).1 da).2;simp only at hd;rw[hd] at this;cases this
   have cf:=yd sp ac (fun z r=>ab z (by simp[r])) (fun k e=>aE sy (by simp) k e) ⟨w,hs⟩ he.vd hK;obtain⟨bp,cw⟩:=Ny bk;have du:(ops[y]?).bind (·.dst)=Aa sy:=Kr bv;refine IG d bv (ab sy (by simp)) hs he hn cf ?_ (fun v ch w' F' L' hc h1 h2 h3=>hP v ch a w' F' L' hc h1 h2 hn rfl (fun _ _=>rfl) h3);intro a' w' F' L' ρ' g1 g2 g3 g4 g5 g6 g8 g7;have ad:(p++q).Nodup/\y∉p++q:=by
    have:=(List.perm_middle.nodup_iff).1 bm;rw[List.nodup_cons] at this;exact⟨this.2,this.1⟩
   have am:∀i,(b.setIfInBounds y true).getD i true=if i=y then true else b.getD i true:=by
    intro i;simp only[aa9,Array.getElem?_setIfInBounds]
    by_cases hi:y=i
    ·subst hi;rw[fo rfl,fo rfl];simp[bb,d]
    ·rw[o5 hi,o5 (fun h=>hi h.symm)]
   refine ih (p++q) (sp++sq) _ F' L' ρ' a' w' ci (by simp[bb]) ad.1 (fun i=>?_) (by simp at ag ⊢;omega) ?_ ?_ (fun z r=>ab z (by rcases aaV.1 r with h | h<;>simp[h])) bp (fun z r k e=>g8 k (fun e2=>cw k e2 z r e) (aE z (by rcases aaV.1 r with h | h<;>simp[h]) k e)) g1 g2 g3 g7 ?_ ?_
   ·rw[am];have h0:=c i;constructor
    ·intro hi;have u:i≠y:=fun e=>ad.2 (e▸hi);rw[o5 u];refine h0.1 ?_;rcases aaV.1 hi with h | h
     ·exact aaV.2 (.inl h)
     ·exact aaV.2 (.inr (abk _ h))
    ·rintro⟨cF,ao⟩;split at ao
     ·cases ao
     ·rename_i u;have:=h0.2 ⟨cF,ao⟩;rcases aaV.1 this with h | h
      ·exact aaV.2 (.inl h)
      ·rcases aaX.1 h with h | h
       ·exact vv h u
       ·exact aaV.2 (.inr h)
   ·rw[List.zip_append ae.symm];exact cX
   ·intro i hi hd z r;rw[am] at hd ⊢;split
    ·rfl
    ·split at hd
     ·rename_i h;subst h;exact al z r
     ·exact f i hi hd z r
   ·rintro az aw ⟨F'',L'',bl,k1,k2,k3,k4,k5,k6,k7⟩;refine hQ az aw ⟨F'',L'',bl,k1,k2,k3,k4.trans g4,g5.trans k5,fun j hj=>?_,k7⟩;rw[k6 j hj,g6 j];intro e;apply hj;have:∀(is:List Nat),y∈is->j∈dstsOf ops is:=by
     intro is
     induction is with
     | nil=>intro h;cases h
     | cons x is aa =>
      intro h;simp only[dstsOf];rcases aaX.1 h with rfl | h
      ·rw[e];simp
      ·split
       ·exact abk _ (aa h)
       ·exact aa h
    exact this _ (List.mem_range.2 d)
   ·intro v ch az aw F'' L'' kc k1 k2 k3 k4 k5 k6;refine hP v ch az aw F'' L'' kc k1 (g5.trans k2) k3 (k4.trans g4) (fun j hj=>?_) k6;rw[k5 j hj,g6 j];intro e;apply hj;have:∀(is:List Nat),y∈is->j∈dstsOf ops is:=by
     intro is
     induction is with
     | nil=>intro h;cases h
     | cons x is aa =>
      intro h;simp only[dstsOf];rcases aaX.1 h with rfl | h
      ·rw[e];simp
      ·split
       ·exact abk _ (aa h)
       ·exact aa h
    exact this _ (List.mem_range.2 d)
theorem Dz {A:cI}{r:Nat}{is:List Nat}{cl:List (List Nat)}{ss:List ak}{F:aA}{L:Loc}{ρ:Env}{a:Act}{w:World}(u:eP P A ops is=some ss) (t:Cd P ops is cl ss=true)
  (hs:St F L w) (he:aC L ρ a) (x:a.tmps.size=A.n) (q:∀s∈ss,∀k,x9 s=some k->L.get k=none) (z:bg P PX (Nx ss) ss F L ρ K) (y:∀a' w',eJ A.n F L w a (dstsOf ops (List.range ops.size)) K a' w'->Q .normal a' w')
  (hP:∀v d a' w' F' L',sj v d->St F' L' w'->Step F L w F' L' w'->a'.tmps.size=A.n->a'.defers=a.defers->(∀j,j∉dstsOf ops (List.range ops.size)->a'.tmps.getD j undef=a.tmps.getD j undef)->PX F' L' v->Q (.panic d) a' w') :
  (Code.region r ops true).wp P Q a w:=by
 simp only[Cd,aaN] at t;obtain⟨⟨⟨⟨⟨⟨⟨⟨h1,h2⟩,h3⟩,h4⟩,h5⟩,h7⟩,h6⟩,h8⟩,h9⟩:=t;have h3:=cW h3;have h4:=aaR h4;have c:∀i∈is,i<ops.size:=fun i hi=>by
  have h:Nat.blt i ops.size=true:=aa1.1 h5 i hi;simpa using h
 refine wp_region_any h1 ?_;show wpAny P .any ops Q ops.size (Array.replicate ops.size false) a w.drew;refine Fw h2 ops.size is ss _ F L ρ a w.drew u (by simp) h3 (fun i=>?_) (by omega) h6 ?_ (aa1.1 h8) (cW h9) q hs.drew he x z ?_ ?_
 ·constructor
  ·intro hi;refine⟨c i hi,?_⟩;simp[aa9,c i hi]
  ·rintro⟨hi,_⟩;exact cS.1 (aa1.1 h7 i (List.mem_range.2 hi))
 ·intro i hi p;simp[aa9,hi] at p
 ·rintro a' w' ⟨F',L',ρ',e,g2,o,l,b,f,m⟩;refine y a' w' ⟨F',L',ρ',e,g2,o,l,?_,f,m⟩;exact⟨b.le,b.os,b.tape,b.output,b.size,b.same,b.frz,b.own⟩
 ·intro v d a' w' F' L' gc e b o l f m;exact hP v d a' w' F' L' gc e ⟨b.le,b.os,b.tape,b.output,b.size,b.same,b.frz,b.own⟩ o l f m
end
def dR:Code->List Nat
 | .region _ d _=>dstsOf d (List.range d.size)
 | .seq a b=>dR a++dR b
 | .cond _ a b=>dR a++dR b
 | .block _ c | .loop c | .scope c=>dR c
 | _=>[]
def Fx:List Nat->au->au
 | [],x=>x
 | k::l,x=>.seq (.reg (.frz k::l.map .frz)) x
def GI:List ak->Bool
 | []=>true
 | .op _ _ _::l=>GI l
 | _::_=>false
def low (P:Program) (A:cI):Code->Option au
 | .skip=>some .skip
 | .label _=>some .skip
 | .region r d false=>match qq P A r d (List.range d.size) with | some ss=>some (.reg ss) | none=>none
 | .region r d true=>match Kb A.ord r,eP P A d (Dm A.ord r) with
  | some (is,e),some ss=>match GI ss with
   | true=>match Fs P d is e ss with
    | true=>some (Fx (Ka A.frz r 0) (.regD ss))
    | false=>none
   | false=>match Cd P d is e ss with
    | true=>some (.regX ss)
    | false=>none
  | _,_=>none
 | .seq a b=>match low P A a,low P A b with | some x,some y=>some (.seq x y) | _,_=>none
 | .cond c a b=>match bM c,low P A a,low P A b with | some c,some x,some y=>some (.cond c x y) | _,_,_=>none
 | .scope c=>low P A c
 | .block id c=>match low P A c with | some x=>some (.block id x) | none=>none
 | .loop c=>match low P A c with | some x=>some (.loop (dR c) x) | none=>none
 | .exit id=>some (.exit id)
 | .ret=>some .ret
 | _=>none
section
variable {P:Program}{Q:Exit->Act->World->Prop}
def rV (n:Nat) (F:aA) (L:Loc) (w:World) (a:Act) (asg:List Nat) (PX:aA->Loc->Value->Prop) (v:Value) (a':Act) (w':World):Prop :=
 ∃F' L',St F' L' w'/\Step F L w F' L' w'/\a'.tmps.size=n/\a'.defers=a.defers/\(∀j,j∉asg->a'.tmps.getD j undef=a.tmps.getD j undef)/\PX F' L' v
theorem rV.after {n:Nat}{F F1:aA}{L L1:Loc}{w k:World}{a d:Act}{asg asg1 b:List Nat}{PX PX':aA->Loc->Value->Prop}{v:Value}{a':Act}{w':World}(f:Step F L w F1 L1 k) (e:d.defers=a.defers) (c:∀j,j∉asg1->d.tmps.getD j undef=a.tmps.getD j undef)
  (h:rV n F1 L1 k d b PX v a' w') (h1:∀j,j∈asg1->j∈asg) (h2:∀j,j∈b->j∈asg) (t:∀F L,PX F L v->PX' F L v):rV n F L w a asg PX' v a' w':=by
 obtain⟨F',L',m,s,q,p,r,o⟩:=h;exact⟨F',L',m,f.trans s,q,p.trans e,fun j l=>by rw[r j (fun h=>l (h2 j h)),c j (fun h=>l (h1 j h))],t _ _ o⟩
theorem rV.mono {n:Nat}{F:aA}{L:Loc}{w:World}{a:Act}{asg b:List Nat}{PX:aA->Loc->Value->Prop}{v:Value}{a':Act}{w':World}(h:rV n F L w a asg PX v a' w') (c:∀j,j∈asg->j∈b):rV n F L w a b PX v a' w':=by
 obtain⟨F',L',d,o,l,k,m,f⟩:=h;exact⟨F',L',d,o,l,k,fun j e=>m j (fun h=>e (c j h)),f⟩
def QQ (n:Nat) (F:aA) (L:Loc) (w:World) (a:Act) (asg:List Nat) (PX:aA->Loc->Value->Prop) (E:Nat->dI) (R N:dI):Exit->Act->World->Prop
 | .normal,a',w'=>eJ n F L w a asg N a' w'
 | .exit j,a',w'=>eJ n F L w a asg (E j) a' w'
 | .ret,a',w'=>eJ n F L w a asg R a' w'
 | .panic b,a',w'=>∃v,sj v b/\rV n F L w a asg PX v a' w'
 | _,_,_=>False
theorem eJ.mono {n:Nat}{F:aA}{L:Loc}{w:World}{a:Act}{asg b:List Nat}{K:dI}{a':Act}{w':World}(h:eJ n F L w a asg K a' w') (c:∀j,j∈asg->j∈b):eJ n F L w a b K a' w':=by
 obtain⟨F',L',ρ',h1,h2,h3,h4,h5,h6,h7⟩:=h;exact⟨F',L',ρ',h1,h2,h3,h4,h5,fun j e=>h6 j (fun d=>e (c j d)),h7⟩
theorem eJ.after {n:Nat}{F F1:aA}{L L1:Loc}{w k:World}{a d:Act}{asg asg1 b:List Nat}{K:dI}{a':Act}{w':World}(f:Step F L w F1 L1 k) (e:d.defers=a.defers) (c:∀j,j∉asg1->d.tmps.getD j undef=a.tmps.getD j undef)
  (h:eJ n F1 L1 k d b K a' w') (h1:∀j,j∈asg1->j∈asg) (h2:∀j,j∈b->j∈asg):eJ n F L w a asg K a' w':=by
 obtain⟨F',L',ρ',m,t,r,p,s,o,q⟩:=h;exact⟨F',L',ρ',m,t,r,p.trans e,f.trans s,fun j l=>by rw[o j (fun h=>l (h2 j h)),c j (fun h=>l (h1 j h))],q⟩
def nA (P:Program):List ResultVar->Option (List RV)
 | []=>some []
 | .tmp t::l=>match nA P l with | some r=>some ((t,none)::r) | none=>none
 | .cell a t::l=>match P.underlying t,P.info? t,nA P l with
  | some d,some i,some r=>some ((a,some (match fj d with | true=>(true,i.size) | false=>(false,1)))::r)
  | _,_,_=>none
def yg (tmps:Array Value):ResultVar->Sem Value
 | .tmp t=>pure (tmps.getD t undef)
 | .cell a t=>do loadVar t (<-asAddr (tmps.getD a undef))
theorem oe {F:aA}{L:Loc}{ρ:Env}{a:Act}{w:World}(hs:St F L w) (he:aC L ρ a):∀{l:List ResultVar}{rs:List RV}{K:List Value->Prop},nA P l=some rs->nS L ρ rs K ->
  ∃s,(l.mapM (yg a.tmps)).run P w=.ok s w/\K s
 | [],rs,K,h,b=>by simp only[nA,aaO] at h;subst h;exact⟨[],by simp,b⟩
 | .tmp t::l,rs,K,h,b=>by
  simp only[nA] at h;split at h
  case h_2=>cases h
  rename_i r x;injection h with h;subst h
  simp only[nS] at b;obtain⟨s,h1,h2⟩:=oe hs he x b;refine⟨_,?_,h2⟩;simp only[List.mapM_cons,yg,Sem.run_bind,Sem.run_pure,Result.andThen_ok];rw[h1];simp[he.eq t]
 | .cell t ty::l,rs,K,h,b=>by
  simp only[nA] at h;split at h
  case h_2=>cases h
  rename_i d i r hd hi x;injection h with h;subst h
  generalize c:(match fj d with | true=>(true,i.size) | false=>(false,1):Bool×Nat)=p at b;obtain⟨ag,n⟩:=p;have q:ag=fj d:=by cases e:fj d<;>rw[e] at c<;>injection c with h1 h2<;>exact h1.symm
  have hn:n=match fj d with | true=>i.size | false=>1:=by cases e:fj d<;>rw[e] at c<;>injection c with h1 h2<;>exact h2.symm
  simp only[nS] at b;split at b
  case h_2=>exact b.elim
  rename_i k off y;split at b
  case h_2=>exact b.elim
  rename_i g ty' cs hk;split at b
  case h_2=>exact b.elim
  rename_i u;have z:=wS u;have u:=jN (BV u);obtain⟨s,h1,h2⟩:=oe hs he x b;refine⟨_,?_,h2⟩;have o:=hs.own k _ hk;have m:∀j v,((cs.drop off).take n)[j]?=some v->w.cell? ((⟨g,off,none⟩:Addr).add j)=some v:=by
   intro j v hv;rw[dw,qo z o];have hj:j<n:=by
    have:=aaT.1 hv;obtain⟨h,_⟩:=this;omega
   rw[List.getElem?_take_of_lt hj,abE] at hv;exact hv
  have hy:a.tmps.getD t undef=.pointer (some ⟨g,off,none⟩):=by rw[he.eq t];simp only[y,conc,hk]
  have f:=oW hd hi m u hn;simp only[Instr.loadAt,Instr.sureAddr,Sem.run_bind,Sem.run_pure,Result.andThen_ok] at f;simp only[List.mapM_cons,yg,hy,asAddr,Sem.run_bind,Sem.run_pure,Result.andThen_ok,f];rw[h1,q];simp
theorem pq (fn:Func) (tmps:Array Value):results fn tmps=(do let b <-fn.results.mapM (yg tmps);pure (if h:b.size=1 then b[0] else .tuple b)):=by
 unfold results;have h:(fun(r:ResultVar)=>match r with | .tmp t=>(pure (tmps.getD t undef):Sem Value) | .cell a t=>do loadVar t (<-asAddr (tmps.getD a undef)))=yg tmps:=by
  funext r
  cases r<;>rfl
 rw[<-h];rfl
theorem yh:∀(a:List SV) (k j:Nat),Da k a j=if k<=j then(a[j-k]?).getD (.v undef) else .v undef
 | [],k,j=>by simp[Da]
 | v::a,k,j=>by
  simp only[Da,put_eq]
  by_cases h:j=k
  ·subst h;simp
  ·rw[o5 h,yh a (k+1) j]
   by_cases h1:k<=j
   ·rw[fo (by omega),fo h1,show j-k=(j-(k+1))+1 by omega,abe]
   ·rw[o5 (by omega),o5 h1]
def ax (P:Program) (A:cI) (fn:Func):Option (au×Nat×List RV×Bool) :=
 match fn.body with
 | some c=>match low P A c,nA P fn.results.toList with
  | some sc,some rs=>some (sc,fn.ntmps,rs,fn.name == "runtime.NumGoroutine")
  | _,_=>none
 | none=>none
end
inductive G where
 | int (k:IntKind) (n:Int)
 | bool (b:Bool)
 | str (s:ByteArray)
 | sl (sz:Nat) (l:List G)
 | st (l:List G)
mutual
def Rd (F:aA):G->List Value->Prop
 | .int k n,cs=>cs=[.int k n]/\(Lit.int k n).wf=true
 | .bool b,cs=>cs=[.bool b]
 | .str s,cs=>cs=[.string s]
 | .sl sz l,cs=>∃a c,cs=[.slice a l.length c]/\l.length<=c/\c<=maxLen/\(a=none->l=[]/\c=0)/\tK F a sz 0 l
 | .st l,cs=>mG F l cs
def tK (F:aA) (a:Option Addr) (sz:Nat):Nat->List G->Prop
 | _,[]=>True
 | i,x::l=>(∃es,es.length=sz/\dO F a (i*sz) es/\Rd F x es)/\tK F a sz (i+1) l
def mG (F:aA):List G->List Value->Prop
 | [],cs=>cs=[]
 | x::l,cs=>∃c1 c2,cs=c1++c2/\Rd F x c1/\mG F l c2
end
mutual
theorem Rd.mono {F F':aA}(hle:F.le F'):∀{g:G}{cs:List Value},Rd F g cs->Rd F' g cs
 | .int k n,cs,h=>h
 | .bool b,cs,h=>h
 | .str s,cs,h=>h
 | .sl sz l,cs,h=>by
  simp only[Rd] at h ⊢;obtain⟨a,c,h1,h2,h3,h4,h5⟩:=h;exact⟨a,c,h1,h2,h3,h4,tK.mono hle h5⟩
 | .st l,cs,h=>by
  simp only[Rd] at h ⊢;exact mG.mono hle h
theorem tK.mono {F F':aA}(hle:F.le F') {a:Option Addr}{sz:Nat}:∀{i:Nat}{l:List G},tK F a sz i l->tK F' a sz i l
 | _,[],h=>by simp only[tK]
 | i,x::l,h=>by
  simp only[tK] at h ⊢;obtain⟨⟨es,h1,h2,h3⟩,h4⟩:=h;exact⟨⟨es,h1,h2.mono hle,Rd.mono hle h3⟩,tK.mono hle h4⟩
theorem mG.mono {F F':aA}(hle:F.le F'):∀{l:List G}{cs:List Value},mG F l cs->mG F' l cs
 | [],cs,h=>by simp only[mG] at h ⊢;exact h
 | x::l,cs,h=>by
  simp only[mG] at h ⊢;obtain⟨c1,c2,h1,h2,h3⟩:=h;exact⟨c1,c2,h1,Rd.mono hle h2,mG.mono hle h3⟩
end
theorem yj {F:aA}{a:Option Addr}{sz:Nat}:∀{l:List G}{i:Nat},tK F a sz i l↔∀j x,l[j]?=some x->∃es,es.length=sz/\dO F a ((i+j)*sz) es/\Rd F x es
 | [],i=>by simp[tK]
 | x::l,i=>by
  simp only[tK,yj (l:=l)];constructor
  ·rintro⟨h1,h2⟩ j y b;cases j with
   | zero=>simp only[aa4,aaO] at b;subst b;simpa using h1
   | succ j =>
    simp only[abe] at b;have:=h2 j y b
    rwa [show i+1+j=i+(j+1) by omega] at this
  ·intro h;refine⟨by simpa using h 0 x (by simp),fun j y b=>?_⟩;have:=h (j+1) y (by simpa using b)
   rwa [show i+(j+1)=i+1+j by omega] at this
structure Sl (F:aA) (sz:Nat) (l:List G) (a:Option Addr) (c:Nat):Prop where
 cap:l.length<=c
 max:c<=maxLen
 nil:a=none->l=[]/\c=0
 elems:∀j x,l[j]?=some x->∃es,es.length=sz/\dO F a (j*sz) es/\Rd F x es
theorem Sl.mono {F F':aA}{sz:Nat}{l:List G}{a:Option Addr}{c:Nat}(h:Sl F sz l a c) (b:F.le F'):Sl F' sz l a c :=
 ⟨h.cap,h.max,h.nil,fun j x d=>let⟨es,h1,h2,h3⟩:=h.elems j x d;⟨es,h1,h2.mono b,h3.mono b⟩⟩
theorem QX {F:aA}{sz:Nat}{l:List G}{cs:List Value}:Rd F (.sl sz l) cs↔∃a c,cs=[.slice a l.length c]/\Sl F sz l a c:=by
 simp only[Rd];constructor
 ·rintro⟨a,c,h1,h2,h3,h4,h5⟩;exact⟨a,c,h1,h2,h3,h4,fun j x b=>by have:=yj.1 h5 j x b;simpa using this⟩
 ·rintro⟨a,c,h1,h2⟩;exact⟨a,c,h1,h2.cap,h2.max,h2.nil,yj.2 fun j x b=>by have:=h2.elems j x b;simpa using this⟩
theorem Sl.ne {F:aA}{sz:Nat}{l:List G}{a:Option Addr}{c:Nat}(h:Sl F sz l a c) (b:l≠[]):a≠none:=fun e=>b (h.nil e).1
theorem Sl.load {F F':aA}{L:Loc}{sz:Nat}{l:List G}{a:Option Addr}{c:Nat}{j:Nat}{x:G}{K:List Value->Prop}(h:Sl F sz l a c) (b:F.le F') (e:l[j]?=some x)
  (d:∀es,es.length=sz->Rd F' x es->K es):kx F' L a (j*sz) sz K:=by
 obtain⟨es,h1,h2,h3⟩:=h.elems j x e;exact⟨es,h1,.inl (h2.mono b),d es h1 (h3.mono b)⟩
theorem Sl.loadD {F F':aA}{sz:Nat}{l:List G}{a:Option Addr}{c:Nat}{j:Nat}{x:G}{K:List Value->Prop}(h:Sl F sz l a c) (b:F.le F') (e:l[j]?=some x)
  (d:∀es,es.length=sz->Rd F' x es->K es):jo F' a (j*sz) sz K:=by
 obtain⟨es,h1,h2,h3⟩:=h.elems j x e;exact⟨es,h1,.inl (h2.mono b),d es h1 (h3.mono b)⟩
theorem aq {b:Bool}{A B:Prop}(h:b=true->A) (k:b=false->B):zW b A B:=by cases b;exact k rfl;exact h rfl
theorem ah {p:Prop}[Decidable p] {A B:Prop}(h:p->A) (k:¬p->B):zW (decide p) A B:=by
 by_cases a:p
 ·simp only[a,decide_true];exact h a
 ·simp only[a,decide_false];exact k a
theorem Fit.aae {n:Int}{K:Int->Prop}(h1:-9223372036854775808<=n) (h2:n<=9223372036854775807) (h:K n):Fit .i64 n K:=by
 refine⟨?_⟩;have:IntKind.wrap .i64 n=n:=by
  simp only[IntKind.wrap,IntKind.bits,IntKind.signed,aaW,aa0,ge_iff_le,Nat.reduceSub,Int.reducePow];split<;>omega
 rw[this];exact h
def Sq (x:Value):aA->List Own->Value->Prop:=fun _ Lo v=>Lo=[]/\v=x
theorem Sq.mono {x:Value}:∀F G L v,aA.le F G->Sq x F L v->Sq x G L v:=fun _ _ _ _ _ h=>h
theorem wf_i64 {n:Int}(h:(Lit.int .i64 n).wf=true):-9223372036854775808<=n/\n<=9223372036854775807:=by
 simpa[Lit.wf,IntKind.min,IntKind.max,IntKind.bits,IntKind.signed] using h
end Go.Fr
namespace Go.Fr.T
open Go Go.RowKit Go.Fr
inductive C where
 | int (k:IntKind) (n:Int)
 | bool (b:Bool)
 | str (s:ByteArray)
 | sl (els:List (List C))
 | slx (els:List (List C))
 | nils
 | rw(k:Nat)
 | own (k off:Nat)
 | ownv (k off:Nat)
 | pt (es:List C) (off:Nat)
 | elr (k j off:Nat)
 | fn (f:Nat) (fi ca:List C)
 | agg (cs:List C)
 | tup (cs:List C)
 | nilp
 | nilf
 | ifc (t:TypeId) (c:C)
 | opq (k:Nat)
 | mval (nm:String) (c:C)
 | mof (t:TypeId) (nm:String)
 | mpr (k:Nat)
 | und
 | any
 deriving Inhabited
inductive TO where
 | box (t:TypeId) (cs:List C)
 | row (t:TypeId) (sz:Nat) (els:List (List C))
 | map (es:List (C×C))
abbrev TL:=List (Nat×TO)
def TL.get:TL->Nat->Option TO
 | [],_=>none
 | (j,o)::l,k=>match Nat.beq j k with | true=>some o | false=>TL.get l k
def TL.set:TL->Nat->TO->TL
 | [],k,o=>[(k,o)]
 | (j,p)::l,k,o=>match Nat.beq j k with
  | true=>(k,o)::l
  | false=>match Nat.ble j k with
   | true=>(j,p)::TL.set l k o
   | false=>(k,o)::(j,p)::l
def TL.del:TL->Nat->TL
 | [],_=>[]
 | (j,o)::l,k=>match Nat.beq j k with | true=>TL.del l k | false=>(j,o)::TL.del l k
def TL.sub (L:TL):List Nat->Option (List TO)
 | []=>some []
 | k::ks=>match L.get k,TL.sub L ks with
  | some o,some l=>some (o::l)
  | _,_=>none
def TL.aaf (L:TL):List Nat->TL
 | []=>L
 | k::ks=>TL.aaf (L.del k) ks
def TL.puts (L:TL):List Nat->List TO->TL
 | k::ks,o::l=>TL.puts (L.set k o) ks l
 | _,_=>L
def qx:Nat->List TO->TL
 | _,[]=>[]
 | k,o::l=>(k,o)::qx (k+1) l
def cO (l:List TO):TL:=qx 1000 l
def C.one:C->Bool
 | .int _ _=>true
 | .bool _=>true
 | .str _=>true
 | .sl _=>true
 | .slx _=>true
 | .nils=>true
 | .rw _=>true
 | .own _ _=>true
 | .pt _ _=>true
 | .fn _ _ _=>true
 | .nilp=>true
 | .nilf=>true
 | .ifc _ _=>true
 | .opq _=>true
 | .mval _ _=>true
 | .mof _ _=>true
 | .mpr _=>true
 | _=>false
def eW:List C->Bool
 | []=>true
 | c::l=>match c.one with | true=>eW l | false=>false
def C.aal:C->Bool
 | .int _ _=>true
 | .bool _=>true
 | .str _=>true
 | .sl _=>true
 | .slx _=>true
 | .nils=>true
 | .pt _ _=>true
 | .nilp=>true
 | .nilf=>true
 | .ifc _ _=>true
 | .opq _=>true
 | .mval _ _=>true
 | .mof _ _=>true
 | _=>false
def ju:List C->Bool
 | []=>true
 | c::l=>match c.aal with | true=>ju l | false=>false
def C.pure:C->Bool
 | .fn _ b a=>match ju b with | true=>ju a | false=>false
 | c=>c.aal
def ja:List C->Bool
 | []=>true
 | c::l=>match c.pure with | true=>ja l | false=>false
def C.mp (g:C->C):Nat->C->C
 | _,.int k n=>g (.int k n)
 | _,.bool b=>g (.bool b)
 | _,.str s=>g (.str s)
 | _,.sl els=>g (.sl els)
 | _,.slx els=>g (.slx els)
 | _,.nils=>g .nils
 | _,.rw j=>g (.rw j)
 | _,.own j o=>g (.own j o)
 | _,.ownv j o=>g (.ownv j o)
 | _,.pt es o=>g (.pt es o)
 | _,.elr j a b=>g (.elr j a b)
 | _,.nilp=>g .nilp
 | _,.nilf=>g .nilf
 | _,.ifc t c=>g (.ifc t c)
 | _,.opq k=>g (.opq k)
 | _,.mval d c=>g (.mval d c)
 | _,.mof t d=>g (.mof t d)
 | _,.mpr j=>g (.mpr j)
 | _,.und=>g .und
 | _,.any=>g .any
 | 0,.fn _ _ _=>.any
 | 0,.agg _=>.any
 | 0,.tup _=>.any
 | n+1,.fn f h e=>.fn f (h.map (C.mp g n)) (e.map (C.mp g n))
 | n+1,.agg cs=>.agg (cs.map (C.mp g n))
 | n+1,.tup cs=>.tup (cs.map (C.mp g n))
def gG (k:Nat):C->C
 | .int k n=>.int k n
 | .bool b=>.bool b
 | .str s=>.str s
 | .sl els=>.sl els
 | .slx els=>.slx els
 | .nils=>.nils
 | .rw j=>match Nat.beq j k with | true=>.any | false=>.rw j
 | .own j o=>.own j o
 | .ownv j o=>.ownv j o
 | .pt es o=>.pt es o
 | .elr j a b=>match Nat.beq j k with | true=>.any | false=>.elr j a b
 | .fn f h e=>.fn f h e
 | .agg cs=>.agg cs
 | .tup cs=>.tup cs
 | .nilp=>.nilp
 | .nilf=>.nilf
 | .ifc t c=>.ifc t c
 | .opq k=>.opq k
 | .mval d c=>.mval d c
 | .mof t d=>.mof t d
 | .mpr j=>.mpr j
 | .und=>.und
 | .any=>.any
def C.kill (k:Nat) (c:C):C:=C.mp (gG k) 3 c
def C.kills:List Nat->C->C
 | [],c=>c
 | k::ks,c=>C.kills ks (c.kill k)
def qy:C->C
 | .int k n=>.int k n
 | .bool b=>.bool b
 | .str s=>.str s
 | .sl els=>.sl els
 | .slx els=>.slx els
 | .nils=>.nils
 | .rw j=>.any
 | .own j o=>.own j o
 | .ownv j o=>.ownv j o
 | .pt es o=>.pt es o
 | .elr j a b=>.any
 | .fn f h e=>.fn f h e
 | .agg cs=>.agg cs
 | .tup cs=>.tup cs
 | .nilp=>.nilp
 | .nilf=>.nilf
 | .ifc t c=>.ifc t c
 | .opq k=>.opq k
 | .mval d c=>.mval d c
 | .mof t d=>.mof t d
 | .mpr j=>.mpr j
 | .und=>.und
 | .any=>.any
def C.aaL (c:C):C:=C.mp qy 3 c
def nB (k:Nat) (l:List (List C)):C->C
 | .int k n=>.int k n
 | .bool b=>.bool b
 | .str s=>.str s
 | .sl els=>.sl els
 | .slx els=>.slx els
 | .nils=>.nils
 | .rw j=>match Nat.beq j k with | true=>.sl l | false=>.rw j
 | .own j o=>.own j o
 | .ownv j o=>.ownv j o
 | .pt es o=>.pt es o
 | .elr j a b=>match Nat.beq j k with | true=>.any | false=>.elr j a b
 | .fn f h e=>.fn f h e
 | .agg cs=>.agg cs
 | .tup cs=>.tup cs
 | .nilp=>.nilp
 | .nilf=>.nilf
 | .ifc t c=>.ifc t c
 | .opq k=>.opq k
 | .mval d c=>.mval d c
 | .mof t d=>.mof t d
 | .mpr j=>.mpr j
 | .und=>.und
 | .any=>.any
def C.frz (k:Nat) (els:List (List C)) (c:C):C:=C.mp (nB k els) 3 c
def rj (k:Nat) (es:List C):C->C
 | .int k n=>.int k n
 | .bool b=>.bool b
 | .str s=>.str s
 | .sl els=>.sl els
 | .slx els=>.slx els
 | .nils=>.nils
 | .rw j=>.rw j
 | .own j o=>match Nat.beq j k with | true=>.pt es o | false=>.own j o
 | .ownv j o=>match Nat.beq j k with | true=>.pt es o | false=>.ownv j o
 | .pt es o=>.pt es o
 | .elr j a b=>.elr j a b
 | .fn f h e=>.fn f h e
 | .agg cs=>.agg cs
 | .tup cs=>.tup cs
 | .nilp=>.nilp
 | .nilf=>.nilf
 | .ifc t c=>.ifc t c
 | .opq k=>.opq k
 | .mval d c=>.mval d c
 | .mof t d=>.mof t d
 | .mpr j=>match Nat.beq j k with | true=>.any | false=>.mpr j
 | .und=>.und
 | .any=>.any
def C.frb (k:Nat) (es:List C) (c:C):C:=C.mp (rj k es) 3 c
def wW (r:Nat->Option Nat):C->C
 | .int k n=>.int k n
 | .bool b=>.bool b
 | .str s=>.str s
 | .sl els=>.sl els
 | .slx els=>.slx els
 | .nils=>.nils
 | .rw j=>match r j with | some i=>.rw i | none=>.any
 | .own j o=>match r j with | some i=>.own i o | none=>.any
 | .ownv j o=>match r j with | some i=>.own i o | none=>.any
 | .pt es o=>.pt es o
 | .elr j a b=>.any
 | .fn f h e=>.fn f h e
 | .agg cs=>.agg cs
 | .tup cs=>.tup cs
 | .nilp=>.nilp
 | .nilf=>.nilf
 | .ifc t c=>.ifc t c
 | .opq k=>.opq k
 | .mval d c=>.mval d c
 | .mof t d=>.mof t d
 | .mpr j=>match r j with | some i=>.mpr i | none=>.any
 | .und=>.und
 | .any=>.any
def C.ren (f:Nat->Option Nat) (c:C):C:=C.mp (wW f) 3 c
def TO.aad (g:C->C):TO->TO
 | .box t cs=>.box t (cs.map g)
 | .row t sz els=>.row t sz els
 | .map es=>.map es
def TL.aad (g:C->C):TL->TL
 | []=>[]
 | (k,o)::l=>(k,o.aad g)::TL.aad g l
def bh:List Nat->Nat->Nat->Option Nat
 | [],_,_=>none
 | k::ks,i,j=>match Nat.beq j k with | true=>some i | false=>bh ks (i+1) j
def aN (ko:List Nat) (j:Nat):Option Nat:=match Nat.ble 1000 j with | true=>ko[j-1000]? | false=>none
def C.can:C->C
 | .int k n=>.int k n
 | .bool b=>.bool b
 | .str s=>.str s
 | .sl els=>.sl els
 | .slx els=>.sl els
 | .nils=>.sl []
 | .rw j=>.rw j
 | .own j o=>.own j o
 | .ownv j o=>.ownv j o
 | .pt es o=>.pt es o
 | .elr j a b=>.elr j a b
 | .fn f h e=>.fn f h e
 | .agg cs=>.agg cs
 | .tup cs=>.tup cs
 | .nilp=>.nilp
 | .nilf=>.nilf
 | .ifc t c=>.ifc t c
 | .opq k=>.opq k
 | .mval d c=>.mval d c
 | .mof t d=>.mof t d
 | .mpr j=>.mpr j
 | .und=>.und
 | .any=>.any
def C.aaj:C->C
 | .int k n=>.int k n
 | .bool b=>.bool b
 | .str s=>.str s
 | .sl els=>.sl els
 | .slx els=>.sl els
 | .nils=>.sl []
 | .rw j=>.rw j
 | .own j o=>.own j o
 | .ownv j o=>.ownv j o
 | .pt es o=>.pt es o
 | .elr j a b=>.elr j a b
 | .fn f h e=>.fn f h e
 | .agg cs=>.agg (cs.map C.can)
 | .tup cs=>.tup cs
 | .nilp=>.nilp
 | .nilf=>.nilf
 | .ifc t c=>.ifc t c
 | .opq k=>.opq k
 | .mval d c=>.mval d c
 | .mof t d=>.mof t d
 | .mpr j=>.mpr j
 | .und=>.und
 | .any=>.any
def C.aao:C->C
 | .int k n=>.int k n
 | .bool b=>.bool b
 | .str s=>.str s
 | .sl els=>.sl els
 | .slx els=>.sl els
 | .nils=>.sl []
 | .rw j=>.rw j
 | .own j o=>.own j o
 | .ownv j o=>.ownv j o
 | .pt es o=>.pt es o
 | .elr j a b=>.elr j a b
 | .fn f h e=>.fn f h e
 | .agg cs=>.agg (cs.map C.can)
 | .tup cs=>.tup (cs.map C.aaj)
 | .nilp=>.nilp
 | .nilf=>.nilf
 | .ifc t c=>.ifc t c
 | .opq k=>.opq k
 | .mval d c=>.mval d c
 | .mof t d=>.mof t d
 | .mpr j=>.mpr j
 | .und=>.und
 | .any=>.any
abbrev aG:=Nat->C
def bq (d:Option Nat) (c:C) (ρ:aG):aG :=
 match d with
 | some d=>fun j=>match Nat.beq j d with | true=>c | false=>ρ j
 | none=>ρ
def rW:Value->C
 | .int k n=>match(Lit.int k n).wf with | true=>.int k n | false=>.any
 | .bool b=>.bool b
 | .string s=>match Nat.ble s.size maxLen with | true=>.str s | false=>.any
 | .slice none 0 0=>.nils
 | .pointer none=>.nilp
 | .nilFunc=>.nilf
 | .nilIface=>.opq 0
 | .func (.methodOf t a) ⟨[]⟩ ⟨[]⟩=>.mof t a
 | _=>.any
def YL (a:String) (c:C):C :=
 match c with
 | .ifc t c=>.mval a (.ifc t c)
 | _=>.any
def cv:Value->C
 | .agg cs=>.agg (cs.toList.map rW)
 | v=>rW v
def dm (ρ:aG):X->C
 | .t n=>ρ n
 | .c v=>cv v
 | .fn f=>.fn f [] []
 | .mt a n=>YL a (ρ n)
def C.cel:C->C
 | .int k n=>.int k n
 | .bool b=>.bool b
 | .str s=>.str s
 | .sl els=>.sl els
 | .slx els=>.slx els
 | .nils=>.nils
 | .rw j=>.rw j
 | .own j o=>.own j o
 | .ownv j o=>.own j o
 | .pt es o=>.pt es o
 | .elr j a b=>.any
 | .fn f h e=>.fn f h e
 | .agg cs=>.agg cs
 | .tup cs=>.tup cs
 | .nilp=>.nilp
 | .nilf=>.nilf
 | .ifc t c=>.ifc t c
 | .opq k=>.opq k
 | .mval d c=>.mval d c
 | .mof t d=>.mof t d
 | .mpr j=>.mpr j
 | .und=>.und
 | .any=>.any
def C.slt:C->C
 | .int k n=>.int k n
 | .bool b=>.bool b
 | .str s=>.str s
 | .sl els=>.sl els
 | .slx els=>.slx els
 | .nils=>.nils
 | .rw j=>.rw j
 | .own j o=>.ownv j o
 | .ownv j o=>.ownv j o
 | .pt es o=>.pt es o
 | .elr j a b=>.elr j a b
 | .fn f h e=>.fn f h e
 | .agg cs=>.agg cs
 | .tup cs=>.tup cs
 | .nilp=>.nilp
 | .nilf=>.nilf
 | .ifc t c=>.ifc t c
 | .opq k=>.opq k
 | .mval d c=>.mval d c
 | .mof t d=>.mof t d
 | .mpr j=>.mpr j
 | .und=>.und
 | .any=>.any
def C.aaE:C->C
 | .int k n=>.int k n
 | .bool b=>.bool b
 | .str s=>.str s
 | .sl els=>.sl els
 | .slx els=>.slx els
 | .nils=>.nils
 | .rw j=>.rw j
 | .own j o=>.own j o
 | .ownv j o=>.own j o
 | .pt es o=>.pt es o
 | .elr j a b=>.elr j a b
 | .fn f h e=>.fn f h e
 | .agg cs=>.agg cs
 | .tup cs=>.tup cs
 | .nilp=>.nilp
 | .nilf=>.nilf
 | .ifc t c=>.ifc t c
 | .opq k=>.opq k
 | .mval d c=>.mval d c
 | .mof t d=>.mof t d
 | .mpr j=>.mpr j
 | .und=>.und
 | .any=>.any
def C.okc:C->Bool
 | .any=>false
 | .und=>false
 | .elr _ _ _=>false
 | .tup _=>false
 | _=>true
def cP:C->List C
 | .int k n=>[.int k n]
 | .bool b=>[.bool b]
 | .str s=>[.str s]
 | .sl els=>[.sl els]
 | .slx els=>[.slx els]
 | .nils=>[.nils]
 | .rw j=>[.rw j]
 | .own j o=>[.own j o]
 | .ownv j o=>[.own j o]
 | .pt es o=>[.pt es o]
 | .elr j a b=>[.any]
 | .fn f h e=>[.fn f h e]
 | .agg cs=>cs
 | .tup cs=>[.tup cs]
 | .nilp=>[.nilp]
 | .nilf=>[.nilf]
 | .ifc t c=>[.ifc t c]
 | .opq k=>[.opq k]
 | .mval d c=>[.mval d c]
 | .mof t d=>[.mof t d]
 | .mpr j=>[.mpr j]
 | .und=>[.und]
 | .any=>[.any]
def fG:List C->Nat->Bool
 | [],0=>true
 | _::l,n+1=>fG l n
 | _,_=>false
def Fy (agg:Bool) (cs:List C):C :=
 match agg,cs with
 | true,cs=>.agg cs
 | false,[c]=>c.slt
 | false,_=>.any
def fI (ρ:aG):List X->List C
 | []=>[]
 | x::xs=>(dm ρ x).cel::fI ρ xs
def uZ (ρ:aG):List X->List (List C)
 | []=>[]
 | x::xs=>(cP (dm ρ x)).map C.can::uZ ρ xs
def qz (ρ:aG) (sz:Nat):List X->Bool
 | []=>true
 | x::xs=>match(dm ρ x).okc,fG (cP (dm ρ x)) sz,eW (cP (dm ρ x)),ja (cP (dm ρ x)) with
  | true,true,true,true=>qz ρ sz xs
  | _,_,_,_=>false
def jr (cs:List C) (off:Nat) (a:List C):List C:=cs.take off++a++cs.drop (off+a.length)
def u4 (ρ:aG):List C->List (Nat×Nat×X)->Option (List C)
 | zs,[]=>some zs
 | zs,(off,n,x)::ps=>match(dm ρ x).okc,fG (cP (dm ρ x)) n with
  | true,true=>u4 ρ (jr zs off (cP (dm ρ x))) ps
  | _,_=>none
def Nz (ρ:aG) (d:Int):Option X->Option Int
 | none=>some d
 | some x=>match dm ρ x with | .int _ i=>some i | _=>none
def V8 (mx:Bool):Int->List C->Option Int
 | a,[]=>some a
 | a,.int _ b::l=>V8 mx (match mx with | true=>if b>a then b else a | false=>if b<a then b else a) l
 | _,_=>none
abbrev Ks (b:UInt8):C:=.int .u8 b.toNat
def Fz (a:List UInt8):List (List C):=a.map fun b=>[Ks b]
def fc (c:C) (K:C->Prop):Prop :=
 match c with
 | .int k n=>K (.int k n)
 | .bool b=>K (.bool b)
 | .str s=>K (.str s)
 | .sl els=>K (.sl els)
 | .slx els=>K (.slx els)
 | .nils=>K .nils
 | .rw k=>K (.rw k)
 | .own k off=>K (.own k off)
 | .ownv k off=>K (.ownv k off)
 | .pt es off=>K (.pt es off)
 | .elr k j off=>K (.elr k j off)
 | .fn f e d=>K (.fn f e d)
 | .agg cs=>K (.agg cs)
 | .tup cs=>K (.tup cs)
 | .nilp=>K .nilp
 | .nilf=>K .nilf
 | .ifc t c=>K (.ifc t c)
 | .opq k=>K (.opq k)
 | .mval a c=>K (.mval a c)
 | .mof t a=>K (.mof t a)
 | .mpr j=>K (.mpr j)
 | .und=>K .und
 | .any=>K .any
def fl:List C->(List C->Prop)->Prop
 | [],K=>K []
 | c::cs,K=>fc c fun c=>fl cs fun cs=>K (c::cs)
def fO:TO->(TO->Prop)->Prop
 | .box t cs,K=>fl cs fun cs=>K (.box t cs)
 | .row t sz els,K=>K (.row t sz els)
 | .map es,K=>K (.map es)
def fT:TL->(TL->Prop)->Prop
 | [],K=>K []
 | (k,o)::l,K=>fO o fun o=>fT l fun l=>K ((k,o)::l)
def AW (c:C) (K:C->Prop):Prop :=
 match c with
 | .agg cs=>fl cs fun cs=>K (.agg cs)
 | c=>fc c K
theorem QY {c:C}{K:C->Prop}:fc c K=K c:=by cases c<;>rfl
theorem fH:∀{cs:List C}{K:List C->Prop},fl cs K=K cs
 | [],K=>rfl
 | c::cs,K=>by simp only[fl,QY,fH]
theorem Uo {o:TO}{K:TO->Prop}:fO o K=K o:=by cases o<;>simp only[fO,fH]
theorem gH:∀{L:TL}{K:TL->Prop},fT L K=K L
 | [],K=>rfl
 | (k,o)::l,K=>by simp only[fT,Uo,gH]
theorem fq {c:C}{K:C->Prop}:AW c K=K c:=by cases c<;>simp only[AW,fH,QY]
mutual
/-- the bounds that all data of the machine keeps -/
def Wf:C->Prop
 | .int k n=>(Lit.int k n).wf=true
 | .str s=>s.size<=maxLen
 | .sl els=>els.length<=maxLen/\yp els
 | .slx els=>els.length<=maxLen/\yp els
 | .pt es _=>uT es
 | .fn _ fi ca=>uT fi/\uT ca
 | .agg cs=>uT cs
 | .tup cs=>uT cs
 | _=>True
def uT:List C->Prop
 | []=>True
 | c::l=>Wf c/\uT l
def yp:List (List C)->Prop
 | []=>True
 | es::l=>uT es/\yp l
end
def Wy:List (C×C)->Prop
 | []=>True
 | (k,v)::l=>Wf k/\Wf v/\Wy l
def TO.Wf:TO->Prop
 | .box _ cs=>uT cs
 | .row _ _ els=>yp els
 | .map es=>Wy es
structure tL (els:List (List C)) (i:Int) (sz:Nat) (K:List C->Prop):Prop where
 out:∃es,0<=i/\els[i.toNat]?=some es/\fG es sz=true/\K es
structure FA (els:List (List C)) (j off n:Nat) (K:List C->Prop):Prop where
 out:∃es,els[j]?=some es/\fG ((es.drop off).take n) n=true/\K ((es.drop off).take n)
structure Wz (els:List (List C)) (K:List UInt8->Prop):Prop where
 out:∃bs,els=Fz bs/\K bs
structure Uq (l h:Int) (els:List (List C)) (sz:Nat) (K:Nat->Nat->Prop):Prop where
 lo:0<=l
 le:l<=h
 hi:h<=els.length
 sizes:∀es∈els,es.length=sz
 out:K l.toNat h.toNat
structure wH (els news:List (List C)) (sz bytes:Nat) (K:Prop):Prop where
 sizes:∀es∈news,es.length=sz
 max:els.length+news.length<=maxLen
 room:(els.length+news.length)*bytes<=140737488355328
 out:K
def jQ:Bool->C->C->Option Bool
 | false,.int .i64 a,.int .i64 b=>some (decide (a=b))
 | true,.str a,.str b=>some (decide (a.data.toList=b.data.toList))
 | _,_,_=>none
def Kt:Bool->C->Bool
 | false,.int .i64 _=>true
 | true,.str _=>true
 | _,_=>false
def vW (str:Bool) (key:C):List (C×C)->Option (Option C)
 | []=>some none
 | (k,v)::l=>match jQ str key k with
  | some true=>some (some v)
  | some false=>vW str key l
  | none=>none
def FB (str:Bool) (key val:C):List (C×C)->Option (List (C×C))
 | []=>some [(key,val)]
 | (k,v)::l=>match jQ str key k with
  | some true=>some ((key,val)::l)
  | some false=>match FB str key val l with | some l'=>some ((k,v)::l') | none=>none
  | none=>none
structure yq (str:Bool) (es:List (C×C)) (key:C) (Y:C->Prop) (N:Prop):Prop where
 out:(∃v,vW str key es=some (some v)/\Y v)\/(vW str key es=some none/\N)
structure QZ (str:Bool) (es:List (C×C)) (key val:C) (K:List (C×C)->Prop):Prop where
 out:∃es',FB str key val es=some es'/\K es'
structure WA (i:Int) (K:Nat->Prop):Prop where
 out:∃m:Nat,i=m/\K m
def yt:List Nat->TL->aG->List C->(TL->aG->List C->Prop)->Prop
 | [],L,ρ,a,K=>K L ρ a
 | k::ks,L,ρ,a,K=>match L.get k with
  | some (.row _ _ els)=>yt ks ((L.del k).aad (C.frz k els)) (fun j=>(ρ j).frz k els) (a.map (C.frz k els)) K
  | _=>False
def rm (L:TL):C->Bool
 | .rw k=>match L.get k with | some (.row _ _ _)=>true | _=>false
 | .own k _=>match L.get k with | some (.box _ _)=>true | _=>false
 | .mpr k=>match L.get k with | some (.map _)=>true | _=>false
 | .ownv _ _=>false
 | .elr _ _ _=>false
 | _=>true
def fQ (L:TL):Nat->C->Bool
 | n+1,.agg cs=>cs.all (fQ L n)
 | n+1,.tup cs=>cs.all (fQ L n)
 | n+1,.fn _ b a=>b.all (fQ L n)&&a.all (fQ L n)
 | 0,.agg _=>false
 | 0,.tup _=>false
 | 0,.fn _ _ _=>false
 | _,c=>rm L c
def NA (L L1:TL) (c a:C):Prop :=
 a=.any\/(c=a/\fQ L1 3 a=true)\/(c=.nils/\a=.sl [])\/(c=.nils/\∃k t sz,a=.rw k/\L.get k=none/\L1.get k=some (.row t sz []))\/∃els,c=.slx els/\a=.sl els
def Ku (L L1:TL):List C->List C->Prop
 | [],l=>l=[]
 | c::cs,l=>∃a cs',l=a::cs'/\NA L L1 c a/\Ku L L1 cs cs'
def Q0 (L1:TL):TO->Bool
 | .box _ cs=>cs.all (fQ L1 3)
 | .row _ _ _=>true
 | .map _=>true
def WB (L L1:TL) (o o':TO):Prop:=(o=o'/\Q0 L1 o'=true)\/∃t cs cs',o=.box t cs/\o'=.box t cs'/\Ku L L1 cs cs'
def gives (L L1:TL):TL->Prop
 | []=>True
 | (k,o)::l=>((∃p,L.get k=some p/\WB L L1 p o)\/(L.get k=none/\∃t sz,o=.row t sz []))/\gives L L1 l
def nJ (L L1:TL):List Nat->List C->aG->Prop
 | k::ks,v::a,ρ=>NA L L1 (ρ k) v/\nJ L L1 ks a ρ
 | _,_,_=>True
def qA:List Nat->List C->aG->aG
 | k::ks,v::a,ρ=>bq (some k) v (qA ks a ρ)
 | _,_,ρ=>ρ
def aU:List Nat->Bool
 | []=>true
 | k::ks=>match fM ks k with | true=>false | false=>aU ks
def NC (F:aA) (b o off:Nat) (d:List Value):Prop :=
 ∃a c t fr,F b=some (.cells c t fr)/\o=a+off/\∀(i:Nat) (v:Value),d[i]?=some v->c[a+i]?=some v
mutual
def Rel (F:aA):Loc->C->Value->Prop
 | _,.int k n,v=>v=.int k n/\(Lit.int k n).wf=true
 | _,.bool b,v=>v=.bool b
 | _,.str s,v=>v=.string s/\s.size<=maxLen
 | _,.sl els,v=>∃a c,v=.slice a els.length c/\els.length<=c/\els.length<=maxLen/\(a=none->els=[]/\c=0)/\∃sz,gP F a sz 0 els
 | _,.slx els,v=>∃a,v=.slice (some a) els.length els.length/\els.length<=maxLen/\∃sz,gP F (some a) sz 0 els
 | _,.nils,v=>v=.slice none 0 0
 | L,.rw k,v=>∃a c t sz n xs,v=.slice a n c/\L.get k=some (.row v t sz n xs)
 | L,.own k off,v=>∃g t cs,L.get k=some (.box g t cs)/\v=.pointer (some ⟨g,off,none⟩)
 | _,.pt es off,v=>∃b o vs,v=.pointer (some ⟨b,o,none⟩)/\NC F b o off vs/\eW es=true/\aB F [] es vs
 | L,.fn f fi ca,v=>∃fi' ca',v=.func (.func f) fi'.toArray ca'.toArray/\aB F L fi fi'/\aB F L ca ca'
 | L,.agg cs,v=>∃vs,v=.agg vs.toArray/\aB F L cs vs
 | L,.tup cs,v=>∃vs,v=.tuple vs.toArray/\aB F L cs vs
 | _,.nilp,v=>v=.pointer none
 | _,.nilf,v=>v=.nilFunc
 | _,.ifc t c,v=>∃u,v=.iface t u/\Rel F [] c u
 | _,.opq k,v=>gZ k F v
 | _,.mval nm c,v=>∃u,v=.func (.method nm) #[u] #[]/\Rel F [] c u
 | _,.mof t nm,v=>v=.func (.methodOf t nm) #[] #[]
 | L,.mpr k,v=>∃g cs,L.get k=some (.box g 0 cs)/\v=.map (some g)
 | _,.und,v=>v=undef
 | _,.any,_=>True
 | _,.ownv _ _,_=>False
 | _,.elr _ _ _,_=>False
def aB (F:aA):Loc->List C->List Value->Prop
 | _,[],vs=>vs=[]
 | L,c::cs,vs=>∃v vs',vs=v::vs'/\Rel F L c v/\aB F L cs vs'
def gP (F:aA) (a:Option Addr) (sz:Nat):Nat->List (List C)->Prop
 | _,[]=>True
 | i,es::l=>(∃vs,vs.length=sz/\dO F a (i*sz) vs/\eW es=true/\aB F [] es vs)/\gP F a sz (i+1) l
end
def aQ (F:aA) (sz:Nat):List (List C)->List Value->Prop
 | [],xs=>xs=[]
 | es::l,xs=>∃b a,xs=b++a/\b.length=sz/\eW es=true/\aB F [] es b/\aQ F sz l a
def tyOk (t g a:Nat):Prop:=a<1048576/\(t=a\/t=(g+1)*1048576+a)/\a≠0
def gb (F:aA):List (C×C)->List Value->Prop
 | [],b=>b=[]
 | (k,c)::l,b=>∃kv v a,b=.agg #[kv,v]::a/\Rel F [] k kv/\Rel F [] c v/\gb F l a
def cN (F:aA) (L:Loc):TO->Own->Prop
 | .box t cs,.box g b e=>tyOk t g b/\aB F L cs e
 | .row t sz els,.row v b d n xs=>t=b/\sz=d/\n=els.length/\(n<=maxLen/\∃a c,v=.slice a n c/\(a=none->n=0))/\aQ F sz els xs
 | .map es,.box g b e=>b=0/\gb F es e
 | _,_=>False
def Ac (F:aA) (L:Loc):Option TO->Option Own->Prop
 | none,none=>True
 | some to,some o=>cN F L to o
 | _,_=>False
def bT (F:aA) (L:Loc) (M:TL):Prop:=∀k,Ac F L (M.get k) (L.get k)
def V9 (sv:SV) (v:Value):Prop:=sv=.v v\/∃b o j,sv=.el (some ⟨b,o,none⟩) j/\v=.pointer (some ⟨b,o+j,none⟩)
def aL (F:aA) (L:Loc):C->SV->Prop
 | .own k off,sv=>sv=.own k off/\∃g t cs,L.get k=some (.box g t cs)
 | .pt es off,sv=>∃b o j a,(sv=.v (.pointer (some ⟨b,o,none⟩))/\j=0\/sv=.el (some ⟨b,o,none⟩) j)/\NC F b (o+j) off a/\eW es=true/\aB F [] es a
 | .elr k j off,sv=>∃d t sz n c xs,sv=.el (some d) (j*sz+off)/\L.get k=some (.row (.slice (some d) n c) t sz n xs)
 | .ownv k off,sv=>∃v,V9 sv v/\Rel F L (.own k off) v
 | .any,_=>True
 | c,sv=>∃v,sv=.v v/\Rel F L c v
def Kp (G:Nat->Option (Nat×TypeId)) (L:Loc):Prop:=∀k g t,G k=some (g,t)->∃cs,L.get k=some (.box g t cs)
structure TS (G:Nat->Option (Nat×TypeId)) (F:aA) (L:Loc) (ρ:Env) (M:TL) (τ:aG):Prop where
 tl:bT F L M
 env:∀j,aL F L (τ j) (ρ j)
 kp:Kp G L
 glob:s6 F
def Own.like:Own->Own->Prop
 | .box g t _,.box b e _=>g=b/\t=e
 | .row v _ sz n _,.row c _ a d _=>v=c/\sz=a/\n=d
 | _,_=>False
theorem Own.aai:∀o:Own,Own.like o o
 | .box ..=>⟨rfl,rfl⟩
 | .row ..=>⟨rfl,rfl,rfl⟩
theorem NC.mono {F F':aA}(h:F.le F') {b o off:Nat}{e:List Value}(c:NC F b o off e):NC F' b o off e:=by
 obtain⟨a,d,t,fr,h1,h2⟩:=c;exact⟨a,d,t,fr,h _ _ h1,h2⟩
mutual
theorem Rel.mono {F F':aA}(h:F.le F'):∀{L:Loc}{c:C}{v:Value},Rel F L c v->Rel F' L c v
 | _,.int k n,v,r=>r
 | _,.bool b,v,r=>r
 | _,.str s,v,r=>r
 | _,.sl els,v,r=>by
  simp only[Rel] at r ⊢;obtain⟨a,c,h1,h2,h3,h4,sz,h5⟩:=r;exact⟨a,c,h1,h2,h3,h4,sz,gP.mono h h5⟩
 | _,.slx els,v,r=>by
  simp only[Rel] at r ⊢;obtain⟨a,h1,h2,sz,h5⟩:=r;exact⟨a,h1,h2,sz,gP.mono h h5⟩
 | _,.nils,v,r=>r
 | L,.rw k,v,r=>by simp only[Rel] at r ⊢;exact r
 | L,.own k off,v,r=>by simp only[Rel] at r ⊢;exact r
 | _,.pt es off,v,r=>by
  simp only[Rel] at r ⊢;obtain⟨b,o,vs,h1,h2,h3,h4⟩:=r;exact⟨b,o,vs,h1,h2.mono h,h3,aB.mono h h4⟩
 | L,.fn f fi ca,v,r=>by
  simp only[Rel] at r ⊢;obtain⟨fi',ca',h1,h2,h3⟩:=r;exact⟨fi',ca',h1,aB.mono h h2,aB.mono h h3⟩
 | L,.agg cs,v,r=>by
  simp only[Rel] at r ⊢;obtain⟨vs,h1,h2⟩:=r;exact⟨vs,h1,aB.mono h h2⟩
 | L,.tup cs,v,r=>by
  simp only[Rel] at r ⊢;obtain⟨vs,h1,h2⟩:=r;exact⟨vs,h1,aB.mono h h2⟩
 | _,.nilp,v,r=>r
 | _,.nilf,v,r=>r
 | _,.ifc t c,v,r=>by
  simp only[Rel] at r ⊢;obtain⟨u,h1,h2⟩:=r;exact⟨u,h1,Rel.mono h h2⟩
 | _,.opq k,v,r=>by
  simp only[Rel] at r ⊢;exact r.mono h
 | _,.mval nm c,v,r=>by
  simp only[Rel] at r ⊢;obtain⟨u,h1,h2⟩:=r;exact⟨u,h1,Rel.mono h h2⟩
 | _,.mof t nm,v,r=>r
 | L,.mpr k,v,r=>by simp only[Rel] at r ⊢;exact r
 | _,.und,v,r=>r
 | _,.any,v,r=>trivial
 | _,.ownv _ _,v,r=>r
 | _,.elr _ _ _,v,r=>r
theorem aB.mono {F F':aA}(h:F.le F'):∀{L:Loc}{cs:List C}{vs:List Value},aB F L cs vs->aB F' L cs vs
 | _,[],vs,r=>by simp only[aB] at r ⊢;exact r
 | L,c::cs,vs,r=>by
  simp only[aB] at r ⊢;obtain⟨v,vs',h1,h2,h3⟩:=r;exact⟨v,vs',h1,Rel.mono h h2,aB.mono h h3⟩
theorem gP.mono {F F':aA}(h:F.le F') {a:Option Addr}{sz:Nat}:∀{i:Nat}{l:List (List C)},gP F a sz i l->gP F' a sz i l
 | _,[],r=>by simp only[gP]
 | i,es::l,r=>by
  simp only[gP] at r ⊢;obtain⟨⟨vs,h1,h2,h3,h4⟩,h5⟩:=r;exact⟨⟨vs,h1,h2.mono h,h3,aB.mono h h4⟩,gP.mono h h5⟩
end
theorem aQ.mono {F F':aA}(h:F.le F') {sz:Nat}:∀{l:List (List C)}{xs:List Value},aQ F sz l xs->aQ F' sz l xs
 | [],xs,r=>r
 | es::l,xs,r=>by
  simp only[aQ] at r ⊢;obtain⟨b,a,h1,h2,h3,h4,h5⟩:=r;exact⟨b,a,h1,h2,h3,h4.mono h,aQ.mono h h5⟩
theorem gb.mono {F F':aA}(h:F.le F'):∀{l:List (C×C)}{a:List Value},gb F l a->gb F' l a
 | [],a,r=>r
 | (k,c)::l,a,r=>by
  simp only[gb] at r ⊢;obtain⟨kv,v,b,h1,h2,h3,h4⟩:=r;exact⟨kv,v,b,h1,h2.mono h,h3.mono h,gb.mono h h4⟩
theorem cN.mono {F F':aA}(h:F.le F') {L:Loc}:∀{o:TO}{p:Own},cN F L o p->cN F' L o p
 | .box t cs,.box g a b,r=>⟨r.1,r.2.mono h⟩
 | .row t sz els,.row v a c n xs,r=>⟨r.1,r.2.1,r.2.2.1,r.2.2.2.1,r.2.2.2.2.mono h⟩
 | .box _ _,.row ..,r=>r.elim
 | .row ..,.box ..,r=>r.elim
 | .map _,.row ..,r=>r.elim
 | .map es,.box g a b,r=>⟨r.1,r.2.mono h⟩
theorem bT.mono {F F':aA}(h:F.le F') {L:Loc}{M:TL}(r:bT F L M):bT F' L M:=by
 intro k;have:=r k
 revert this
 cases M.get k<;>cases L.get k<;>simp only[Ac]<;>first | exact fun h=>h | exact fun r=>r.mono h
theorem aL.mono {F F':aA}(h:F.le F') {L:Loc}{c:C}{sv:SV}(r:aL F L c sv):aL F' L c sv:=by
 cases c<;>simp only[aL] at r ⊢
 case own=>exact r
 case pt =>
  obtain⟨b,o,j,a,h1,h2,h3,h4⟩:=r;exact⟨b,o,j,a,h1,h2.mono h,h3,h4.mono h⟩
 case elr=>exact r
 all_goals
  obtain⟨v,h1,h2⟩:=r;exact⟨v,h1,h2.mono h⟩
theorem mH {F:aA}{L:Loc}:∀{cs:List C}{a:List Value},aB F L cs a↔a.length=cs.length/\∀(i:Nat) c v,cs[i]?=some c->a[i]?=some v->Rel F L c v
 | [],a=>by
  simp only[aB];constructor
  ·rintro rfl;simp
  ·rintro⟨h,_⟩;exact List.length_eq_zero_iff.1 (by simpa using h)
 | c::cs,a=>by
  simp only[aB,mH (cs:=cs)];constructor
  ·rintro⟨v,b,rfl,h1,h2,h3⟩;refine⟨by simp[h2],fun i f j d e=>?_⟩;cases i with
   | zero=>simp only[aa4,aaO] at d e;subst d e;exact h1
   | succ i=>exact h3 i f j (by simpa using d) (by simpa using e)
  ·rintro⟨h1,h2⟩
   match a,h1 with
   | v::b,h1=>exact⟨v,b,rfl,h2 0 c v (by simp) (by simp),by simpa using h1,fun i f j d e=>h2 (i+1) f j (by simpa using d) (by simpa using e)⟩
theorem aB.len {F:aA}{L:Loc}{cs:List C}{a:List Value}(h:aB F L cs a):a.length=cs.length:=(mH.1 h).1
theorem aB.at {F:aA}{L:Loc}{cs:List C}{a:List Value}(h:aB F L cs a) {i:Nat}{c:C}{v:Value}(b:cs[i]?=some c) (d:a[i]?=some v):Rel F L c v:=(mH.1 h).2 i c v b d
theorem aB.append {F:aA}{L:Loc}{cs ds:List C}{a us:List Value}(h:aB F L cs a) (k:aB F L ds us):aB F L (cs++ds) (a++us):=by
 induction cs generalizing a with
 | nil=>simp only[aB] at h;subst h;exact k
 | cons c cs d =>
  simp only[aB] at h;obtain⟨v,b,rfl,h1,h2⟩:=h;simp only[aa3,aB];exact⟨v,_,rfl,h1,d h2⟩
theorem aB.drop {F:aA}{L:Loc}{cs:List C}{a:List Value}(h:aB F L cs a) (n:Nat):aB F L (cs.drop n) (a.drop n):=by
 rw[mH] at h ⊢;refine⟨by simp[h.1],fun i c v b d=>?_⟩;rw[abE] at b d;exact h.2 _ _ _ b d
theorem aB.take {F:aA}{L:Loc}{cs:List C}{d:List Value}(h:aB F L cs d) (n:Nat):aB F L (cs.take n) (d.take n):=by
 rw[mH] at h ⊢;refine⟨by simp[h.1],fun i c v a b=>?_⟩;rw[abL] at a b;split at a
 ·rw[fo (by assumption)] at b;exact h.2 _ _ _ a b
 ·cases a
theorem og {F:aA}{a:Option Addr}{sz:Nat}:∀{l:List (List C)}{i:Nat},gP F a sz i l↔∀(j:Nat) es,l[j]?=some es->∃c,c.length=sz/\dO F a ((i+j)*sz) c/\eW es=true/\aB F [] es c
 | [],i=>by simp[gP]
 | x::l,i=>by
  simp only[gP,og (l:=l)];constructor
  ·rintro⟨h1,h2⟩ j y b;cases j with
   | zero=>simp only[aa4,aaO] at b;subst b;simpa using h1
   | succ j =>
    simp only[abe] at b;have:=h2 j y b
    rwa [show i+1+j=i+(j+1) by omega] at this
  ·intro h;refine⟨by simpa using h 0 x (by simp),fun j y b=>?_⟩;have:=h (j+1) y (by simpa using b)
   rwa [show i+(j+1)=i+1+j by omega] at this
theorem iJ {F:aA}{sz:Nat}:∀{l:List (List C)}{xs:List Value},aQ F sz l xs->xs.length=l.length*sz
 | [],xs,h=>by simp only[aQ] at h;subst h;simp
 | es::l,xs,h=>by
  simp only[aQ] at h;obtain⟨b,a,rfl,h2,_,_,h5⟩:=h;simp only[abA,iJ h5,h2,aa8,Nat.add_mul];omega
theorem aQ.append {F:aA}{sz:Nat}:∀{l m:List (List C)}{xs a:List Value},aQ F sz l xs->aQ F sz m a->aQ F sz (l++m) (xs++a)
 | [],m,xs,a,h,k=>by simp only[aQ] at h;subst h;exact k
 | es::l,m,xs,a,h,k=>by
  simp only[aQ] at h;obtain⟨c,b,rfl,h2,h3,h4,h5⟩:=h;simp only[aa3,aQ];exact⟨c,b++a,by simp,h2,h3,h4,aQ.append h5 k⟩
theorem aQ.at {F:aA}{sz:Nat}:∀{l:List (List C)}{xs:List Value},aQ F sz l xs->∀{j:Nat}{es:List C},l[j]?=some es->∃a,a.length=sz/\eW es=true/\aB F [] es a/\∀(i:Nat) v,a[i]?=some v->xs[j*sz+i]?=some v
 | [],xs,h,j,es,e=>by simp at e
 | x::l,xs,h,j,es,e=>by
  simp only[aQ] at h;obtain⟨a,f,rfl,h2,h3,h4,h5⟩:=h;cases j with
  | zero =>
   simp only[aa4,aaO] at e;subst e;refine⟨a,h2,h3,h4,fun i v b=>?_⟩;have:i<a.length:=(aaT.1 b).1;rw[Nat.zero_mul,Nat.zero_add,abH this];exact b
  | succ j =>
   obtain⟨us,k1,c,d,k⟩:=aQ.at h5 (by simpa using e);refine⟨us,k1,c,d,fun i v b=>?_⟩;rw[abI (by rw[h2,Nat.add_mul];omega),show(j+1)*sz+i-a.length=j*sz+i by rw[h2,Nat.add_mul];omega];exact k i v b
theorem aQ.frz {F:aA}{sz:Nat}{l:List (List C)}{xs:List Value}(h:aQ F sz l xs) {a:Addr}(hf:dO F (some a) 0 xs):gP F (some a) sz 0 l:=by
 rw[og];intro j es he;obtain⟨d,h1,h2,h3,h4⟩:=h.at he;refine⟨d,h1,?_,h2,h3⟩;obtain⟨f,b,t,fr,e,hb,c,k⟩:=hf;refine⟨f,b,t,fr,e,hb,c,fun i v m=>?_⟩;have:=k (j*sz+i) v (h4 i v m);simpa[Nat.add_assoc] using this
theorem oh:∀{l:List C},eW l=true↔∀c∈l,c.one=true
 | []=>by simp[eW]
 | c::l=>by
  simp only[eW];cases h:c.one
  ·simp[h]
  ·simp[h,oh]
theorem yu:∀{l:List C},ja l=true↔∀c∈l,c.pure=true
 | []=>by simp[ja]
 | c::l=>by
  simp only[ja];cases h:c.pure
  ·simp[h]
  ·simp[h,yu]
theorem qB:∀{l:List C},ju l=true↔∀c∈l,c.aal=true
 | []=>by simp[ju]
 | c::l=>by
  simp only[ju];cases h:c.aal
  ·simp[h]
  ·simp[h,qB]
theorem Rel.one {F:aA}{L:Loc}{c:C}{v:Value}(h:Rel F L c v) (d:c.one=true):v.oneCell'=true:=by
 cases c<;>simp only[C.one,aa5] at d<;>simp only[Rel] at h
 case int=>obtain⟨rfl,_⟩:=h;rfl
 case bool=>subst h;rfl
 case str=>obtain⟨rfl,_⟩:=h;rfl
 case sl=>obtain⟨a,c,rfl,_⟩:=h;rfl
 case slx=>obtain⟨a,rfl,_⟩:=h;rfl
 case nils=>subst h;rfl
 case own=>obtain⟨g,t,cs,_,rfl⟩:=h;rfl
 case pt=>obtain⟨b,o,e,rfl,_⟩:=h;rfl
 case fn=>obtain⟨a,b,rfl,_⟩:=h;rfl
 case nilp=>subst h;rfl
 case nilf=>subst h;rfl
 case ifc=>obtain⟨u,rfl,_⟩:=h;rfl
 case opq=>exact h.one
 case mval=>obtain⟨u,rfl,_⟩:=h;rfl
 case mof=>subst h;rfl
 case mpr=>obtain⟨g,cs,_,rfl⟩:=h;rfl
 case rw=>obtain⟨a,c,t,sz,n,xs,rfl,_⟩:=h;rfl
mutual
theorem Rel.wf {F:aA}:∀{L:Loc}{c:C}{v:Value},Rel F L c v->Wf c
 | _,.int k n,v,r=>by simp only[Rel] at r;simp only[Wf];exact r.2
 | _,.bool b,v,r=>by simp only[Wf]
 | _,.str s,v,r=>by simp only[Rel] at r;simp only[Wf];exact r.2
 | _,.sl els,v,r=>by
  simp only[Rel] at r;obtain⟨a,c,h1,h2,h3,h4,sz,h5⟩:=r;simp only[Wf];exact⟨h3,gP.wf h5⟩
 | _,.slx els,v,r=>by
  simp only[Rel] at r;obtain⟨a,h1,h2,sz,h5⟩:=r;simp only[Wf];exact⟨h2,gP.wf h5⟩
 | _,.nils,v,r=>by simp only[Wf]
 | L,.rw k,v,r=>by simp only[Wf]
 | L,.own k off,v,r=>by simp only[Wf]
 | _,.pt es off,v,r=>by
  simp only[Rel] at r;obtain⟨b,o,vs,h1,h2,h3,h4⟩:=r;simp only[Wf];exact aB.wf h4
 | L,.fn f fi ca,v,r=>by
  simp only[Rel] at r;obtain⟨fi',ca',h1,h2,h3⟩:=r;simp only[Wf];exact⟨aB.wf h2,aB.wf h3⟩
 | L,.agg cs,v,r=>by
  simp only[Rel] at r;obtain⟨vs,h1,h2⟩:=r;simp only[Wf];exact aB.wf h2
 | L,.tup cs,v,r=>by
  simp only[Rel] at r;obtain⟨vs,h1,h2⟩:=r;simp only[Wf];exact aB.wf h2
 | _,.nilp,v,r=>by simp only[Wf]
 | _,.nilf,v,r=>by simp only[Wf]
 | _,.ifc _ _,v,r=>by simp only[Wf]
 | _,.opq _,v,r=>by simp only[Wf]
 | _,.mval _ _,v,r=>by simp only[Wf]
 | _,.mof _ _,v,r=>by simp only[Wf]
 | _,.mpr _,v,r=>by simp only[Wf]
 | _,.und,v,r=>by simp only[Wf]
 | _,.any,v,r=>by simp only[Wf]
 | _,.ownv _ _,v,r=>by simp only[Wf]
 | _,.elr _ _ _,v,r=>by simp only[Wf]
theorem aB.wf {F:aA}:∀{L:Loc}{cs:List C}{vs:List Value},aB F L cs vs->uT cs
 | _,[],vs,r=>by simp only[uT]
 | L,c::cs,vs,r=>by
  simp only[aB] at r;obtain⟨v,vs',h1,h2,h3⟩:=r;simp only[uT];exact⟨Rel.wf h2,aB.wf h3⟩
theorem gP.wf {F:aA}{a:Option Addr}{sz:Nat}:∀{i:Nat}{l:List (List C)},gP F a sz i l->yp l
 | _,[],r=>by simp only[yp]
 | i,es::l,r=>by
  simp only[gP] at r;obtain⟨⟨vs,h1,h2,h3,h4⟩,h5⟩:=r;simp only[yp];exact⟨aB.wf h4,gP.wf h5⟩
end
theorem aQ.wf {F:aA}{sz:Nat}:∀{l:List (List C)}{xs:List Value},aQ F sz l xs->yp l
 | [],xs,r=>by simp only[yp]
 | es::l,xs,r=>by
  simp only[aQ] at r;obtain⟨b,a,h1,h2,h3,h4,h5⟩:=r;simp only[yp];exact⟨h4.wf,h5.wf⟩
theorem gb.wf {F:aA}:∀{l:List (C×C)}{a:List Value},gb F l a->Wy l
 | [],a,r=>trivial
 | (k,c)::l,a,r=>by
  simp only[gb] at r;obtain⟨kv,v,b,h1,h2,h3,h4⟩:=r;exact⟨h2.wf,h3.wf,gb.wf h4⟩
theorem cN.wf {F:aA}{L:Loc}:∀{o:TO}{p:Own},cN F L o p->o.Wf
 | .box t cs,.box g a c,r=>r.2.wf
 | .row t sz els,.row v a b n xs,r=>r.2.2.2.2.wf
 | .box _ _,.row ..,r=>r.elim
 | .row ..,.box ..,r=>r.elim
 | .map _,.row ..,r=>r.elim
 | .map es,.box g a c,r=>r.2.wf
def C.leaf:C->Bool
 | .fn _ _ _=>false
 | .agg _=>false
 | .tup _=>false
 | _=>true
theorem wX {g:C->C}{n:Nat}{c:C}(h:c.leaf=true):C.mp g n c=g c:=by
 cases c<;>first | (cases n<;>rfl;done) | cases h
theorem aB.map {F F':aA}{L L':Loc}{g:C->C}:∀{cs:List C}{a:List Value},(∀c∈cs,∀v,Rel F L c v->Rel F' L' (g c) v)->aB F L cs a->aB F' L' (cs.map g) a
 | [],a,d,h=>by simp only[aB] at h;subst h;simp only[abJ,aB]
 | c::cs,a,d,h=>by
  simp only[aB] at h;obtain⟨v,b,rfl,h1,h2⟩:=h;simp only[aaZ,aB];exact⟨v,b,rfl,d c (by simp) v h1,aB.map (fun c e=>d c (by simp[e])) h2⟩
theorem Rel.mp {F F':aA}{L L':Loc}{g:C->C}(b:∀c v,c.leaf=true->Rel F L c v->Rel F' L' (g c) v):∀(n:Nat) {c:C}{v:Value},Rel F L c v->Rel F' L' (C.mp g n c) v
 | 0,c,v,h=>by
  cases a:c.leaf
  ·cases c<;>simp only[C.leaf,Bool.true_eq_false] at a<;>simp only[C.mp,Rel]
  ·rw[wX a];exact b c v a h
 | n+1,c,v,h=>by
  cases a:c.leaf
  ·cases c<;>simp only[C.leaf,Bool.true_eq_false] at a<;>simp only[Rel] at h<;>simp only[C.mp,Rel]
   ·obtain⟨f,e,h1,h2,h3⟩:=h;exact⟨f,e,h1,h2.map fun c _ v=>Rel.mp b n,h3.map fun c _ v=>Rel.mp b n⟩
   ·obtain⟨d,h1,h2⟩:=h;exact⟨d,h1,h2.map fun c _ v=>Rel.mp b n⟩
   ·obtain⟨d,h1,h2⟩:=h;exact⟨d,h1,h2.map fun c _ v=>Rel.mp b n⟩
  ·rw[wX a];exact b c v a h
theorem aL.mp {F F':aA}{L L':Loc}{g:C->C}(b:∀c v,c.leaf=true->Rel F L c v->Rel F' L' (g c) v) (d:∀c sv,c.leaf=true->aL F L c sv->aL F' L' (g c) sv) (n:Nat) {c:C}{sv:SV}
  (h:aL F L c sv):aL F' L' (C.mp g n c) sv:=by
 cases a:c.leaf
 ·have e:∃v,sv=.v v/\Rel F L c v:=by cases c<;>simp only[C.leaf,Bool.true_eq_false] at a<;>exact h
  obtain⟨v,rfl,h1⟩:=e;have h2:=Rel.mp b n h1;cases n with
  | zero=>cases c<;>simp only[C.leaf,Bool.true_eq_false] at a<;>simp only[C.mp,aL]
  | succ n=>cases c<;>simp only[C.leaf,Bool.true_eq_false] at a<;>exact⟨v,rfl,h2⟩
 ·rw[wX a];exact d c sv a h
def Ext (L L':Loc):Prop:=∀k o,L.get k=some o->∃o',L'.get k=some o'/\Own.like o o'
theorem Ext.refl (L:Loc):Ext L L:=fun k o h=>⟨o,h,Own.aai o⟩
theorem bJ {F F':aA}{L L':Loc}(d:F.le F') {c:C}{v:Value}(e:∀k,(∃off,c=.own k off)\/c=.rw k\/c=.mpr k->∀o,L.get k=some o->∃o',L'.get k=some o'/\Own.like o o') (p:c.leaf=true) (h:Rel F L c v):Rel F' L' c v:=by
 cases c<;>simp only[C.leaf,aa5] at p
 case rw k =>
  simp only[Rel] at h ⊢;obtain⟨a,c,t,sz,n,xs,rfl,h⟩:=h;obtain⟨o',h1,h2⟩:=e k (.inr (.inl rfl)) _ h;cases o' with
  | box=>exact h2.elim
  | row s f l r m=>obtain⟨rfl,rfl,rfl⟩:=h2;exact⟨_,_,_,_,_,_,rfl,h1⟩
 case mpr k =>
  simp only[Rel] at h ⊢;obtain⟨g,cs,h,rfl⟩:=h;obtain⟨o',h1,h2⟩:=e k (.inr (.inr rfl)) _ h;cases o' with
  | row=>exact h2.elim
  | box q f cs'=>obtain⟨rfl,rfl⟩:=h2;exact⟨_,_,h1,rfl⟩
 case own k off =>
  simp only[Rel] at h ⊢;obtain⟨g,t,cs,h,rfl⟩:=h;obtain⟨o',h1,h2⟩:=e k (.inl ⟨off,rfl⟩) _ h;cases o' with
  | row=>exact h2.elim
  | box q f cs'=>obtain⟨rfl,rfl⟩:=h2;exact⟨_,_,_,h1,rfl⟩
 case sl =>
  simp only[Rel] at h ⊢;obtain⟨a,c,h1,h2,h3,h4,sz,h5⟩:=h;exact⟨a,c,h1,h2,h3,h4,sz,h5.mono d⟩
 case slx =>
  simp only[Rel] at h ⊢;obtain⟨a,h1,h2,sz,h5⟩:=h;exact⟨a,h1,h2,sz,h5.mono d⟩
 case pt =>
  simp only[Rel] at h ⊢;obtain⟨b,o,j,h1,h2,h3,h4⟩:=h;exact⟨b,o,j,h1,h2.mono d,h3,h4.mono d⟩
 case ifc =>
  simp only[Rel] at h ⊢;obtain⟨u,h1,h2⟩:=h;exact⟨u,h1,h2.mono d⟩
 case opq =>
  simp only[Rel] at h ⊢;exact h.mono d
 case mval =>
  simp only[Rel] at h ⊢;obtain⟨u,h1,h2⟩:=h;exact⟨u,h1,h2.mono d⟩
 all_goals
  first
   | exact h
   | (simp only[Rel] at h ⊢;done)
mutual
theorem Rel.ext {F F':aA}(hF:F.le F') {L L':Loc}(hk:Ext L L'):∀{c:C}{v:Value},Rel F L c v->Rel F' L' c v
 | .fn f fi ca,v,r=>by
  simp only[Rel] at r ⊢;obtain⟨fi',ca',h1,h2,h3⟩:=r;exact⟨fi',ca',h1,aB.ext hF hk h2,aB.ext hF hk h3⟩
 | .agg cs,v,r=>by
  simp only[Rel] at r ⊢;obtain⟨vs,h1,h2⟩:=r;exact⟨vs,h1,aB.ext hF hk h2⟩
 | .tup cs,v,r=>by
  simp only[Rel] at r ⊢;obtain⟨vs,h1,h2⟩:=r;exact⟨vs,h1,aB.ext hF hk h2⟩
 | .int _ _,v,r=>bJ hF (fun k _=>hk k) rfl r
 | .bool _,v,r=>bJ hF (fun k _=>hk k) rfl r
 | .str _,v,r=>bJ hF (fun k _=>hk k) rfl r
 | .sl _,v,r=>bJ hF (fun k _=>hk k) rfl r
 | .slx _,v,r=>bJ hF (fun k _=>hk k) rfl r
 | .nils,v,r=>bJ hF (fun k _=>hk k) rfl r
 | .rw _,v,r=>bJ hF (fun k _=>hk k) rfl r
 | .own _ _,v,r=>bJ hF (fun k _=>hk k) rfl r
 | .pt _ _,v,r=>bJ hF (fun k _=>hk k) rfl r
 | .nilp,v,r=>bJ hF (fun k _=>hk k) rfl r
 | .nilf,v,r=>bJ hF (fun k _=>hk k) rfl r
 | .ifc _ _,v,r=>bJ hF (fun k _=>hk k) rfl r
 | .opq _,v,r=>bJ hF (fun k _=>hk k) rfl r
 | .mval _ _,v,r=>bJ hF (fun k _=>hk k) rfl r
 | .mof _ _,v,r=>bJ hF (fun k _=>hk k) rfl r
 | .mpr _,v,r=>bJ hF (fun k _=>hk k) rfl r
 | .und,v,r=>bJ hF (fun k _=>hk k) rfl r
 | .any,v,r=>by simp only[Rel]
 | .ownv _ _,v,r=>r.elim
 | .elr _ _ _,v,r=>r.elim
theorem aB.ext {F F':aA}(hF:F.le F') {L L':Loc}(hk:Ext L L'):∀{cs:List C}{vs:List Value},aB F L cs vs->aB F' L' cs vs
 | [],vs,r=>by simp only[aB] at r ⊢;exact r
 | c::cs,vs,r=>by
  simp only[aB] at r ⊢;obtain⟨v,vs',h1,h2,h3⟩:=r;exact⟨v,vs',h1,Rel.ext hF hk h2,aB.ext hF hk h3⟩
end
theorem Ext.nil (L:Loc):Ext [] L:=fun k o h=>by cases h
theorem aB.lift {F:aA}{L:Loc}{cs:List C}{a:List Value}(h:aB F [] cs a):aB F L cs a:=h.ext (aA.le_refl F) (Ext.nil L)
theorem Rel.lift {F:aA}{L:Loc}{c:C}{v:Value}(h:Rel F [] c v):Rel F L c v:=h.ext (aA.le_refl F) (Ext.nil L)
theorem dL {F F':aA}{L L':Loc}(f:F.le F') {c:C}{sv:SV}(l:∀k,(∃off,c=.own k off)\/(∃off,c=.ownv k off)\/c=.rw k\/(∃j off,c=.elr k j off)\/c=.mpr k->∀o,L.get k=some o->∃o',L'.get k=some o'/\Own.like o o') (s:c.leaf=true) (h:aL F L c sv):aL F' L' c sv:=by
 cases c<;>simp only[C.leaf,aa5] at s
 case own k off =>
  simp only[aL] at h ⊢;obtain⟨rfl,g,t,cs,h⟩:=h;obtain⟨o',h1,h2⟩:=l k (.inl ⟨off,rfl⟩) _ h;cases o' with
  | row=>exact h2.elim
  | box z w cs'=>exact⟨rfl,_,_,_,h1⟩
 case ownv k off =>
  simp only[aL] at h ⊢;obtain⟨v,u,h⟩:=h;refine⟨v,u,bJ f (fun m a=>l m ?_) rfl h⟩;rcases a with⟨d,e⟩ | e | e
  ·injection e with e1 e2;subst e1;exact .inr (.inl ⟨off,rfl⟩)
  ·cases e
  ·cases e
 case pt =>
  simp only[aL] at h ⊢;obtain⟨b,o,j,p,h1,h2,h3,h4⟩:=h;exact⟨b,o,j,p,h1,h2.mono f,h3,h4.mono f⟩
 case elr k j off =>
  simp only[aL] at h ⊢;obtain⟨x,t,sz,n,c,xs,rfl,h⟩:=h;obtain⟨o',h1,h2⟩:=l k (.inr (.inr (.inr (.inl ⟨_,_,rfl⟩)))) _ h;cases o' with
  | box=>exact h2.elim
  | row v' w q y r =>
   obtain⟨rfl,rfl,rfl⟩:=h2;exact⟨_,_,_,_,_,_,rfl,h1⟩
 all_goals first | (simp only[aL];done) | skip
 all_goals
  simp only[aL] at h ⊢;obtain⟨v,rfl,h⟩:=h;refine⟨v,rfl,bJ f (fun m a=>l m ?_) rfl h⟩;rcases a with⟨d,e⟩ | e | e
  ·cases e
  ·first | cases e;exact .inr (.inr (.inl rfl)) | cases e
  ·first | cases e;exact .inr (.inr (.inr (.inr rfl))) | cases e
theorem aL.ext {F F':aA}{L L':Loc}(b:F.le F') (d:Ext L L') {c:C}{sv:SV}(h:aL F L c sv):aL F' L' c sv:=by
 cases a:c.leaf
 ·have e:∃v,sv=.v v/\Rel F L c v:=by cases c<;>simp only[C.leaf,Bool.true_eq_false] at a<;>exact h
  obtain⟨v,rfl,h1⟩:=e;have h2:=h1.ext b d;cases c<;>simp only[C.leaf,Bool.true_eq_false] at a<;>exact⟨v,rfl,h2⟩
 ·exact dL b (fun k _=>d k) a h
theorem cN.ext {F F':aA}{L L':Loc}(a:F.le F') (d:Ext L L'):∀{o:TO}{p:Own},cN F L o p->cN F' L' o p
 | .box t cs,.box g b c,r=>⟨r.1,r.2.ext a d⟩
 | .row t sz els,.row v b e n xs,r=>⟨r.1,r.2.1,r.2.2.1,r.2.2.2.1,r.2.2.2.2.mono a⟩
 | .box _ _,.row ..,r=>r.elim
 | .row ..,.box ..,r=>r.elim
 | .map _,.row ..,r=>r.elim
 | .map es,.box g b c,r=>⟨r.1,r.2.mono a⟩
def gQ (Li:List Own) (R:List TO->C->Prop):aA->List Own->Value->Prop:=fun F Lo v =>
 ∃Mo c,Mo.length=Lo.length/\bT F (inp Lo) (cO Mo)/\Rel F (inp Lo) c v/\(∀(i:Nat) g t cs,Li[i]?=some (.box g t cs)->∃cs',Lo[i]?=some (.box g t cs'))/\R Mo c
structure CallsT (P:Program) (f:Nat) (args:List C) (Lin:List TO) (R:List TO->C->Prop):Prop where
 out:∀(F:aA) (Li:List Own) (vs:List Value),Li.length=Lin.length->bT F (inp Li) (cO Lin)->aB F (inp Li) args vs->CallsA P f vs.toArray F Li (gQ Li R)
structure CallsTX (P:Program) (f:Nat) (args:List C) (Lin:List TO) (R:List TO->C->Prop) (Pp:Value->Prop):Prop where
 out:∀(F:aA) (Li:List Own) (vs:List Value),Li.length=Lin.length->bT F (inp Li) (cO Lin)->aB F (inp Li) args vs->oP P f vs.toArray F Li (gQ Li R) Pp
theorem CallsT.toX {P:Program}{f:Nat}{args:List C}{Lin:List TO}{R:List TO->C->Prop}{Pp:Value->Prop}(h:CallsT P f args Lin R):CallsTX P f args Lin R Pp:=⟨fun F Li a h1 h2 h3=>(h.out F Li a h1 h2 h3).toX⟩
def aJ:List TO->List Nat->List Nat->Bool
 | .box _ _::l,k::ks,a::ko=>match Nat.beq k a with | true=>aJ l ks ko | false=>false
 | .box _ _::_,_,_=>false
 | .map _::l,k::ks,a::ko=>match Nat.beq k a with | true=>aJ l ks ko | false=>false
 | .map _::_,_,_=>false
 | .row _ _ _::l,_::ks,_::ko=>aJ l ks ko
 | .row _ _ _::l,_::ks,[]=>aJ l ks []
 | .row _ _ _::_,[],_=>false
 | [],_,_=>true
def kE (L:TL) (ks:List Nat):List Nat->Bool
 | []=>true
 | k::ko=>match fM ks k,L.get k with
  | true,_=>kE L ks ko
  | false,none=>kE L ks ko
  | false,some _=>false
def covers:TL->TL->Bool
 | [],_=>true
 | (k,_)::l,L1=>match L1.get k with | some _=>covers l L1 | none=>false
def pu:TL->TL->Bool
 | [],_=>true
 | (k,.box _ _)::l,L1=>match L1.get k with | some (.box _ _)=>pu l L1 | _=>false
 | (k,.map _)::l,L1=>match L1.get k with | some (.map _)=>pu l L1 | _=>false
 | (_,.row _ _ _)::l,L1=>pu l L1
def TL.kills (ks:List Nat) (L:TL):TL:=match ks with | []=>L | _=>L.aad (C.kills ks)
def ef (ks:List Nat) (ρ:aG):aG:=match ks with | []=>ρ | _=>fun j=>(ρ j).kills ks
def rowsOf (L:TL):List Nat->List Nat
 | []=>[]
 | k::ks=>match L.get k with
  | some (.row _ _ _)=>k::rowsOf L ks
  | _=>rowsOf L ks
def Sr (Li Lo:List Own):Prop:=Lo.length=Li.length/\∀(i:Nat) o,Li[i]?=some o->∃o',Lo[i]?=some o'/\Own.like o o'
structure iw (P:Program) (f:Nat) (args:List C) (Lin:List TO) (R:List TO->C->Prop):Prop where
 out:∀(F:aA) (Li:List Own) (vs:List Value),Li.length=Lin.length->bT F (inp Li) (cO Lin)->aB F (inp Li) args vs->CallsA P f vs.toArray F Li (fun F' Lo v=>gQ Li R F' Lo v/\Sr Li Lo)
inductive kX (P:Program) (f:Nat) (args:List C) (L:TL) (ρ:aG) (K:TL->aG->C->Prop):Prop
 | mk (out:∃(fz ks ko:List Nat),yt fz L ρ args fun L ρ args =>
  ∃(L1:TL) (Lin:List TO) (R:List TO->C->Prop),(L1=L\/(gives L L1 L1/\covers L L1=true))/\L1.sub ks=some Lin/\aU ks=true/\aU ko=true/\kE L1 ks ko=true/\aJ Lin ks ko=true /\
   CallsT P f (args.map fun c=>c.aaj.ren (bh ks 1000)) (Lin.map (TO.aad (C.ren (bh ks 1000)))) R /\
   ∀v Mo,R Mo v->Wf v->(∀o∈Mo,o.Wf)->ko.length=Mo.length /\
    K (((L1.aaf ks).kills (rowsOf L1 ks)).puts ko (Mo.map (TO.aad (C.ren (aN ko))))) (ef (rowsOf L1 ks) ρ) (v.ren (aN ko)).slt)
 | inpl (ks:List Nat) (Lin:List TO) (R:List TO->C->Prop) (hs:L.sub ks=some Lin) (hn:aU ks=true) (h:iw P f (args.map fun c=>c.aaj.ren (bh ks 1000)) (Lin.map (TO.aad (C.ren (bh ks 1000)))) R)
   (k:∀v Mo,R Mo v->Wf v->(∀o∈Mo,o.Wf)->ks.length=Mo.length/\K ((L.aaf ks).puts ks (Mo.map (TO.aad (C.ren (aN ks))))) ρ (v.ren (aN ks)).slt)
structure qa where
 ps:Value->Prop
 hb:List (Nat×Nat):=[]
 st:Option (TL->Value->Prop):=none
def kY (L:TL) (ks:List Nat):List (Nat×Nat)->Bool
 | []=>true
 | (k,n)::l=>match fM ks k,L.get k with
  | false,some (.box _ cs)=>match fG cs n with | true=>kY L ks l | false=>false
  | _,_=>false
structure pz (P:Program) (PS:qa) (f:Nat) (args:List C) (L:TL) (ρ:aG) (K:TL->aG->C->Prop):Prop where
 out:∃(fz ks ko:List Nat),yt fz L ρ args fun L ρ args =>
  ∃(L1:TL) (Lin:List TO) (R:List TO->C->Prop) (Pp:Value->Prop),(L1=L\/(gives L L1 L1/\covers L L1=true))/\L1.sub ks=some Lin/\aU ks=true/\aU ko=true/\kE L1 ks ko=true/\aJ Lin ks ko=true/\kY L1 ks PS.hb=true /\
   CallsTX P f (args.map fun c=>c.aaj.ren (bh ks 1000)) (Lin.map (TO.aad (C.ren (bh ks 1000)))) R Pp/\(∀v,Pp v->PS.ps v) /\
   ∀v Mo,R Mo v->Wf v->(∀o∈Mo,o.Wf)->ko.length=Mo.length /\
    K (((L1.aaf ks).kills (rowsOf L1 ks)).puts ko (Mo.map (TO.aad (C.ren (aN ko))))) (ef (rowsOf L1 ks) ρ) (v.ren (aN ko)).slt
structure CallsTS (P:Program) (f:Nat) (args:List C) (Lin:List TO) (R:List TO->C->Prop) (Pp:List TO->Value->Prop):Prop where
 out:∀(F:aA) (Li:List Own) (vs:List Value),Li.length=Lin.length->bT F (inp Li) (cO Lin)->aB F (inp Li) args vs->wR P f vs.toArray F Li (gQ Li R) (fun F' Lo v=>∃Mo,Mo.length=Lo.length/\bT F' (inp Lo) (cO Mo)/\Pp Mo v)
structure FC (P:Program) (ps:Value->Prop) (hb:List (Nat×Nat)) (st:TL->Value->Prop) (f:Nat) (args:List C) (L:TL) (ρ:aG) (K:TL->aG->C->Prop):Prop where
 out:∃(ks ko:List Nat) (L1:TL) (Lin:List TO) (R:List TO->C->Prop) (Pp:List TO->Value->Prop),(L1=L\/(gives L L1 L1/\covers L L1=true))/\L1.sub ks=some Lin/\aU ks=true/\aU ko=true/\kE L1 ks ko=true/\aJ Lin ks ko=true/\kY L1 ks hb=true /\
   CallsTS P f (args.map fun c=>c.aaj.ren (bh ks 1000)) (Lin.map (TO.aad (C.ren (bh ks 1000)))) R Pp /\
   (∀v Mo,Pp Mo v->(∀o∈Mo,o.Wf)->ks.length=Mo.length->ps v/\st (((L1.aaf ks).kills (rowsOf L1 ks)).puts ks (Mo.map (TO.aad (C.ren (aN ks))))) v) /\
   ∀v Mo,R Mo v->Wf v->(∀o∈Mo,o.Wf)->ko.length=Mo.length /\
    K (((L1.aaf ks).kills (rowsOf L1 ks)).puts ko (Mo.map (TO.aad (C.ren (aN ko))))) (ef (rowsOf L1 ks) ρ) (v.ren (aN ko)).slt
def yw:List C->Option (List Value)
 | []=>some []
 | .int k n::l=>match yw l with | some vs=>some (.int k n::vs) | none=>none
 | .bool b::l=>match yw l with | some vs=>some (.bool b::vs) | none=>none
 | .str s::l=>match yw l with | some vs=>some (.string s::vs) | none=>none
 | _=>none
def DA:C->Option Value
 | .ifc t (.int k n)=>some (.iface t (.int k n))
 | .ifc t (.bool b)=>some (.iface t (.bool b))
 | .ifc t (.str s)=>some (.iface t (.string s))
 | .ifc t (.agg cs)=>match yw cs with | some vs=>some (.iface t (.agg vs.toArray)) | none=>none
 | _=>none
structure Ur (PS:qa) (L:TL) (c:C):Prop where
 out:∃v,DA c=some v/\kY L [] PS.hb=true/\PS.ps v
structure WC (ps:Value->Prop) (hb:List (Nat×Nat)) (st:TL->Value->Prop) (L:TL) (c:C):Prop where
 out:∃v,DA c=some v/\kY L [] hb=true/\ps v/\st L v
inductive FD (P:Program) (f:Nat) (args:List C) (L:TL) (ρ:aG) (K:TL->aG->C->Prop):Prop
 | mk (out:∃(ks ko:List Nat) (Lin:List TO) (R:List TO->C->Prop),L.sub ks=some Lin/\aU ks=true/\aU ko=true/\kE L ks ko=true/\aJ Lin ks ko=true /\
   CallsT P f (args.map fun c=>c.aaj.ren (bh ks 1000)) (Lin.map (TO.aad (C.ren (bh ks 1000)))) R /\
   ∀v Mo,R Mo v->Wf v->(∀o∈Mo,o.Wf)->ko.length=Mo.length /\
    K (((L.aaf ks).kills (rowsOf L ks)).puts ko (Mo.map (TO.aad (C.ren (aN ko))))) (ef (rowsOf L ks) ρ) (v.ren (aN ko)).slt)
 | inpl (ks:List Nat) (Lin:List TO) (R:List TO->C->Prop) (hs:L.sub ks=some Lin) (hn:aU ks=true) (h:iw P f (args.map fun c=>c.aaj.ren (bh ks 1000)) (Lin.map (TO.aad (C.ren (bh ks 1000)))) R)
   (k:∀v Mo,R Mo v->Wf v->(∀o∈Mo,o.Wf)->ks.length=Mo.length/\K ((L.aaf ks).puts ks (Mo.map (TO.aad (C.ren (aN ks))))) ρ (v.ren (aN ks)).slt)
def rX:List Nat->List Nat->Bool
 | [],_=>true
 | k::ks,fb=>match fM fb k with | true=>false | false=>rX ks fb
structure rp (P:Program) (PS:qa) (fb:List Nat) (f:Nat) (args:List C) (L:TL) (ρ:aG) (K:TL->aG->C->Prop):Prop where
 out:∃(ks:List Nat) (Lin:List TO) (R:List TO->C->Prop) (Pp:Value->Prop),L.sub ks=some Lin/\aU ks=true/\rX ks fb=true/\aJ Lin ks ks=true/\kY L ks PS.hb=true /\
   CallsTX P f (args.map fun c=>c.aaj.ren (bh ks 1000)) (Lin.map (TO.aad (C.ren (bh ks 1000)))) R Pp/\(∀v,Pp v->PS.ps v) /\
   ∀v Mo,R Mo v->Wf v->(∀o∈Mo,o.Wf)->ks.length=Mo.length /\
    K (((L.aaf ks).kills (rowsOf L ks)).puts ks (Mo.map (TO.aad (C.ren (aN ks))))) (ef (rowsOf L ks) ρ) (v.ren (aN ks)).slt
structure tM (P:Program) (ps:Value->Prop) (hb:List (Nat×Nat)) (st:TL->Value->Prop) (fb:List Nat) (f:Nat) (args:List C) (L:TL) (ρ:aG) (K:TL->aG->C->Prop):Prop where
 out:∃(ks:List Nat) (Lin:List TO) (R:List TO->C->Prop) (Pp:List TO->Value->Prop),L.sub ks=some Lin/\aU ks=true/\rX ks fb=true/\aJ Lin ks ks=true/\kY L ks hb=true /\
   CallsTS P f (args.map fun c=>c.aaj.ren (bh ks 1000)) (Lin.map (TO.aad (C.ren (bh ks 1000)))) R Pp /\
   (∀v Mo,Pp Mo v->(∀o∈Mo,o.Wf)->ks.length=Mo.length->ps v/\st (TL.puts [] ks (Mo.map (TO.aad (C.ren (aN ks))))) v) /\
   ∀v Mo,R Mo v->Wf v->(∀o∈Mo,o.Wf)->ks.length=Mo.length /\
    K (((L.aaf ks).kills (rowsOf L ks)).puts ks (Mo.map (TO.aad (C.ren (aN ks))))) (ef (rowsOf L ks) ρ) (v.ren (aN ks)).slt
def vX (P:Program) (f:Nat):Prop:=∃fn,P.funcs[f]?=some fn/\fn.body.isSome=true/\(fn.name == "runtime.NumGoroutine")=false
structure Us (P:Program) (f:Nat) (args:List C) (t sz:Nat) (els:List (List C)) (x:C):Prop where
 out:∀(F:aA) (rv:Value) (xs vs:List Value),cN F (inp [.row rv t sz els.length xs]) (.row t sz els) (.row rv t sz els.length xs)->aB F (inp [.row rv t sz els.length xs]) args vs ->
  CallsA P f vs.toArray F [.row rv t sz els.length xs] (fun F' Lo v=>Lo=[.row rv t sz els.length xs]/\Rel F' (inp []) x v)
inductive pA (P:Program) (f:Nat) (args:List C) (L:TL) (ρ:aG) (d:Option Nat) (K:TL->aG->C->Prop):Prop
 | frz (R:List TO->C->Prop) (h:CallsT P f (args.map fun c=>c.aaj.ren (bh [] 1000)) [] R) (k:∀v Mo,R Mo v->Wf v->Mo=[]/\K L ρ v.slt)
 | own (R:List TO->C->Prop) (k:Nat) (h:CallsT P f (args.map fun c=>c.aaj.ren (bh [] 1000)) [] R) (hd:d=some k) (hk:L.get k=none)
   (kk:∀v Mo,R Mo v->Wf v->(∀o∈Mo,o.Wf)->∃o,Mo=[o]/\K (L.set k (o.aad (C.ren (aN [k])))) ρ (v.ren (aN [k])).slt)
 | row (R:List TO->C->Prop) (kr t sz:Nat) (els:List (List C)) (he:vX P f) (hk:L.get kr=some (.row t sz els)) (h:CallsT P f (args.map fun c=>(c.frz kr els).aaj.ren (bh [] 1000)) [] R)
   (kk:∀v Mo,R Mo v->Wf v->Mo=[]/\K ((L.aad (C.kill kr)).set kr (.row t sz [])) (fun j=>(ρ j).kill kr) v.slt)
 | lent (kr t sz:Nat) (els:List (List C)) (x:C) (hk:L.get kr=some (.row t sz els)) (h:Us P f (args.map fun c=>c.aaj.ren (bh [kr] 1000)) t sz els x) (k:Wf x->K L ρ x.slt)
def Ss:Value->C
 | .int k n=>.int k n
 | .bool b=>.bool b
 | .string s=>.str s
 | _=>.any
def isNil:X->Bool
 | .c (.slice none 0 0)=>true
 | _=>false
def u5:List Bool->List C->List C->Bool->Option Bool
 | [],[],[],c=>some c
 | true::ks,.int k a::l,.int e b::d,c=>match qi k e with | true=>u5 ks l d (c&&decide (a=b)) | false=>none
 | false::ks,.bool a::l,.bool b::d,c=>u5 ks l d (c&&decide (a=b))
 | _,_,_,_=>none
structure Sv (P:Program) (t:TypeId) (nm:String) (K:Nat->Prop):Prop where
 out:∃f,tj P t nm=some f/\K f
def Q5 (P:Program) (t:TypeId):Bool:=match P.underlying t with | some (.interface _)=>true | _=>false
def Ce (ρ:aG):List (Nat×Nat×X)->List C->(List C->Prop)->Prop
 | [],zs,K=>K zs
 | (off,n,x)::ps,zs,K=>match(dm ρ x).okc,fG (cP (dm ρ x)) n with
  | true,true=>fl (cP (dm ρ x)) fun a=>fl (jr zs off a) fun zs=>Ce ρ ps zs K
  | _,_=>False
theorem u6 {ρ:aG}:∀{ps:List (Nat×Nat×X)}{zs:List C}{K:List C->Prop},Ce ρ ps zs K->∃cs,u4 ρ zs ps=some cs/\K cs
 | [],zs,K,h=>⟨zs,rfl,h⟩
 | (off,n,x)::ps,zs,K,h=>by
  simp only[Ce] at h;simp only[u4];split at h
  ·rename_i h1 h2;rw[fH,fH] at h
   first
   | exact u6 h
   | (rw[h1,h2];exact u6 h)
  ·exact h.elim
structure Kv (k:Nat) (K:Nat->Prop):Prop where
 out:∃n,si k=some n/\n<=9223372036854775807/\K n
def Ue (t:Nat):Bool:=match Nat.beq t 0 with | true=>false | false=>Nat.ble t 1048575
def outT (o:dZ) (L:TL) (ρ:aG) (V:C->Prop):Prop :=
 match o with
 | .mov x=>V (dm ρ x)
 | .pick c a b=>match dm ρ c with
  | .bool t=>zW t (V (dm ρ a)) (V (dm ρ b))
  | _=>False
 | .build zs ps=>fl (zs.map rW) fun zs=>Ce ρ ps zs fun cs=>V (.agg cs)
 | .load agg n x=>match dm ρ x with
  | .own k off=>match L.get k with
   | some (.box _ cs)=>match fG ((cs.drop off).take n) n with
    | true=>V (Fy agg ((cs.drop off).take n))
    | false=>False
   | _=>False
  | .pt es off=>match fG ((es.drop off).take n) n with
   | true=>V (Fy agg ((es.drop off).take n))
   | false=>False
  | .ownv k off=>match L.get k with
   | some (.box _ cs)=>match fG ((cs.drop off).take n) n with
    | true=>V (Fy agg ((cs.drop off).take n))
    | false=>False
   | _=>False
  | .elr k j off=>match L.get k with
   | some (.row _ _ els)=>FA els j off n fun cs=>V (Fy agg cs)
   | _=>False
  | _=>False
 | .loadR agg n x=>match dm ρ x with
  | .own k off=>match L.get k with
   | some (.box _ cs)=>match fG ((cs.drop off).take n) n with
    | true=>V (Fy agg ((cs.drop off).take n))
    | false=>False
   | _=>False
  | .pt es off=>match fG ((es.drop off).take n) n with
   | true=>V (Fy agg ((es.drop off).take n))
   | false=>False
  | .ownv k off=>match L.get k with
   | some (.box _ cs)=>match fG ((cs.drop off).take n) n with
    | true=>V (Fy agg ((cs.drop off).take n))
    | false=>False
   | _=>False
  | .elr k j off=>match L.get k with
   | some (.row _ _ els)=>FA els j off n fun cs=>V (Fy agg cs)
   | _=>False
  | _=>False
 | .loadD agg n x=>match dm ρ x with
  | .own k off=>match L.get k with
   | some (.box _ cs)=>match fG ((cs.drop off).take n) n with
    | true=>V (Fy agg ((cs.drop off).take n))
    | false=>False
   | _=>False
  | .pt es off=>match fG ((es.drop off).take n) n with
   | true=>V (Fy agg ((es.drop off).take n))
   | false=>False
  | _=>False
 | .gload g=>match wQ g with
  | some k=>V (.opq k)
  | none=>False
 | .loadF agg n x=>match dm ρ x with
  | .pt es off=>match fG ((es.drop off).take n) n with
   | true=>V (Fy agg ((es.drop off).take n))
   | false=>False
  | _=>False
 | .loadK key agg n x=>match dm ρ x with
  | .own k off=>match Nat.beq k key with
   | true=>match L.get k with
    | some (.box _ cs)=>match fG ((cs.drop off).take n) n with
     | true=>V (Fy agg ((cs.drop off).take n))
     | false=>False
    | _=>False
   | false=>False
  | _=>False
 | .nilck x=>match dm ρ x with
  | .own k off=>V (.own k off)
  | .pt es off=>V (.pt es off)
  | .ownv k off=>V (.ownv k off)
  | .fn f d e=>V (.fn f d e)
  | .mval q c=>match c with
   | .ifc t c=>Uj R0 t q=true/\V (.mval q (.ifc t c))
   | _=>False
  | _=>False
 | .bin op x y=>match dm ρ x,dm ρ y with
  | .int k a,.int u b=>match JO op with
   | true=>shI op k a b fun v=>V (Ss v)
   | false=>match qi k u with
    | true=>binI op k a b fun v=>V (Ss v)
    | false=>False
  | .str a,.str b=>binS op a b fun v=>V (Ss v)
  | _,_=>False
 | .eqB neg x y=>match dm ρ x,dm ρ y with
  | .bool a,.bool b=>V (.bool (tq neg (decide (a=b))))
  | _,_=>False
 | .eqS neg x y=>match isNil y,dm ρ x with
  | true,.sl els=>∀b,(els≠[]->b=false)->V (.bool (tq neg b))
  | true,.slx _=>V (.bool (tq neg false))
  | true,.nils=>V (.bool (tq neg true))
  | _,_=>False
 | .eqN neg x=>match dm ρ x with
  | .ifc _ _=>V (.bool (tq neg false))
  | .opq k=>match Fg k with
   | some b=>V (.bool (tq neg b))
   | none=>False
  | _=>False
 | .eqA neg ks x y=>match dm ρ x,dm ρ y with
  | .agg cs,.agg ds=>match u5 ks cs ds true with
   | some b=>V (.bool (tq neg b))
   | none=>False
  | _,_=>False
 | .mkif t x=>match dm ρ x with
  | .int k n=>V (.ifc t (.int k n))
  | .bool b=>V (.ifc t (.bool b))
  | .str s=>V (.ifc t (.str s))
  | .pt es off=>V (.ifc t (.pt es off))
  | .agg cs=>match ja cs with
   | true=>fl cs fun cs=>V (.ifc t (.agg cs))
   | false=>False
  | _=>False
 | .un op x=>match op,dm ρ x with
  | .not,.bool b=>V (.bool (!b))
  | .neg,.int k n=>Fit k (0-n) fun m=>V (.int k m)
  | .xor,.int k n=>V (.int k (k.wrap (BitVec.ofInt k.bits (if k.signed then -1 else k.max) ^^^ BitVec.ofInt k.bits n).toNat))
  | _,_=>False
 | .conv k x=>match dm ρ x with
  | .int _ n=>Fit k n fun m=>V (.int k m)
  | _=>False
 | .mkfn f d e=>V (.fn f (fI ρ d) (fI ρ e))
 | .slc sz x lo hi=>match(dm ρ x).can with
  | .sl els=>match Nz ρ 0 lo,Nz ρ els.length hi with
   | some l,some h=>Uq l h els sz fun l h=>V (.sl ((els.drop l).take (h-l)))
   | _,_=>False
  | _=>False
 | .fieldA off x=>match dm ρ x with
  | .own k o=>V (.own k (o+off))
  | .pt es o=>V (.pt es (o+off))
  | .elr k j o=>V (.elr k j (o+off))
  | .ownv k o=>V (.ownv k (o+off))
  | _=>False
 | .idxA sz x i=>match(dm ρ x).can,dm ρ i with
  | .sl els,.int _ i=>tL els i sz fun es=>V (.pt es 0)
  | .rw k,.int _ i=>match L.get k with
   | some (.row _ p els)=>match Nat.beq sz p with
    | true=>zV i els.length (V (.elr k i.toNat 0))
    | false=>False
   | _=>False
  | _,_=>False
 | .extr x i=>match dm ρ x with
  | .tup r=>match r[i]? with
   | some v=>V v.slt
   | none=>False
  | _=>False
 | .len x=>match(dm ρ x).can with
  | .sl els=>V (.int .i64 els.length)
  | .rw k=>match L.get k with
   | some (.row _ _ els)=>V (.int .i64 els.length)
   | _=>False
  | .opq k=>Kv k fun n=>V (.int .i64 n)
  | _=>False
 | .mlook str ok z x i=>match dm ρ x with
  | .mpr k=>match L.get k with
   | some (.map es)=>yq str es (dm ρ i) (fun v=>match ok with | true=>V (.tup [v,.bool true]) | false=>V v.slt) (match ok with | true=>V (.tup [cv z,.bool false]) | false=>V (cv z))
   | _=>False
  | _=>False
 | .mm mx args=>match args.map (dm ρ) with
  | .int k a::l=>match V8 mx a l with
   | some m=>(Lit.int k m).wf=true/\V (.int k m)
   | none=>False
  | _=>False
 | _=>False
abbrev TK:=TL->aG->Prop
def storeT (b:Bool) (n:Nat) (a x:X) (d:Option Nat) (L:TL) (ρ:aG) (K:TK):Prop :=
 match(dm ρ x).okc,fG (cP (dm ρ x)) n,eW (cP (dm ρ x)),dm ρ a with
 | true,true,true,.own k off=>match L.get k with
  | some (.box t cs)=>match fG ((cs.drop off).take n) n with
   | true=>fl (jr cs off (cP (dm ρ x))) fun cs=>K (L.set k (.box t cs)) (bq d .und ρ)
   | false=>False
  | _=>False
 | true,true,true,.elr k j off=>match b,L.get k,ja (cP (dm ρ x)) with
  | false,some (.row t sz els),true=>Nat.ble (off+n) sz=true/\FA els j off n fun _=>∀es,els[j]?=some es->K (L.set k (.row t sz (els.set j (jr es off ((cP (dm ρ x)).map C.can))))) (bq d .und ρ)
  | _,_,_=>False
 | _,_,_,_=>False
def ND (e sz bytes:Nat) (s x:C) (d:Option Nat) (L:TL) (ρ:aG) (K:TK):Prop :=
 match s,x.can,d with
 | .rw k,.sl a,_=>match L.get k with
  | some (.row l c els)=>match Nat.beq e l,Nat.beq sz c with
   | true,true=>wH els a sz bytes (fT ((L.aad (C.kill k)).set k (.row e sz (els++a))) fun L=>K L (bq d (.rw k) fun j=>(ρ j).kill k))
   | _,_=>False
  | _=>False
 | .nils,.sl a,some k=>match L.get k with
  | none=>wH [] a sz bytes (fT (L.set k (.row e sz a)) fun L=>K L (bq d (.rw k) ρ))
  | some _=>False
 | .slx els,.sl a,some k=>match L.get k with
  | none=>0<a.length/\(∀es∈els,es.length=sz)/\wH els a sz bytes (fT (L.set k (.row e sz (els++a))) fun L=>K L (bq d (.rw k) ρ))
  | some _=>False
 | .rw k,.rw f,_=>match L.get k,L.get f with
  | some (.row l c els),some (.row h b a)=>match Nat.beq e l,Nat.beq sz c,Nat.beq sz b with
   | true,true,true=>wH els a sz bytes (fT ((L.aad (C.kill k)).set k (.row e sz (els++a))) fun L=>K L (bq d (.rw k) fun j=>(ρ j).kill k))
   | _,_,_=>False
  | _,_=>False
 | .nils,.rw f,some k=>match L.get k,L.get f with
  | none,some (.row h b a)=>match Nat.beq sz b with
   | true=>wH [] a sz bytes (K (L.set k (.row e sz a)) (bq d (.rw k) ρ))
   | false=>False
  | _,_=>False
 | _,_,_=>False
def bS (P:Program) (o:dZ) (d:Option Nat) (L:TL) (ρ:aG) (K:TK):Prop :=
 match o with
 | .box t x=>match d with
  | some k=>match L.get k,(dm ρ x).okc,Ue t with
   | none,true,true=>fl (cP (dm ρ x)) fun cs=>K (L.set k (.box t cs)) (bq d (.own k 0) ρ)
   | _,_,_=>False
  | none=>False
 | .boxD t x=>match d with
  | some k=>match L.get k,(dm ρ x).okc,Ue t with
   | none,true,true=>fl (cP (dm ρ x)) fun cs=>K (L.set k (.box t cs)) (bq d (.own k 0) ρ)
   | _,_,_=>False
  | none=>False
 | .boxF t x=>match(dm ρ x).okc,eW (cP (dm ρ x)),ja (cP (dm ρ x)) with
  | true,true,true=>fl ((cP (dm ρ x)).map C.can) fun cs=>K L (bq d (.pt cs 0) ρ)
  | _,_,_=>False
 | .alloc t zs=>match d with
  | some k=>match L.get k,Ue t with
   | none,true=>fl (zs.map rW) fun cs=>K (L.set k (.box t cs)) (bq d (.own k 0) ρ)
   | _,_=>False
  | none=>False
 | .allocD t zs=>match d with
  | some k=>match L.get k,Ue t with
   | none,true=>fl (zs.map rW) fun cs=>K (L.set k (.box t cs)) (bq d (.own k 0) ρ)
   | _,_=>False
  | none=>False
 | .mkF e n sz xs=>match qz ρ sz xs,Nat.beq xs.length n,Nat.ble n 9223372036854775807 with
  | true,true,true=>K L (bq d (.slx (uZ ρ xs)) ρ)
  | _,_,_=>False
 | .mkFD e n sz xs=>match qz ρ sz xs,Nat.beq xs.length n,Nat.ble n 9223372036854775807 with
  | true,true,true=>K L (bq d (.slx (uZ ρ xs)) ρ)
  | _,_,_=>False
 | .mkR e n sz xs=>match qz ρ sz xs,Nat.beq xs.length n,Nat.ble n 9223372036854775807,d with
  | true,true,true,some k=>match L.get k with
   | none=>K (L.set k (.row e sz (uZ ρ xs))) (bq d (.rw k) ρ)
   | some _=>False
  | _,_,_,_=>False
 | .makeS e sz bytes zs l c=>match dm ρ l,dm ρ c,d with
  | .int _ n,.int _ m,some k=>match L.get k,fG (zs.map rW) sz,eW (zs.map rW) with
   | none,true,true=>oQ n m bytes fun n=>K (L.set k (.row e sz (List.replicate n ((zs.map rW).map C.can)))) (bq d (.rw k) ρ)
   | _,_,_=>False
  | _,_,_=>False
 | .makeSD e sz n zs=>match d with
  | some k=>match L.get k,fG (zs.map rW) sz,(Nat.beq n 0||eW (zs.map rW)),Nat.ble n 9223372036854775807 with
   | none,true,true,true=>K (L.set k (.row e sz (List.replicate n ((zs.map rW).map C.can)))) (bq d (.rw k) ρ)
   | _,_,_,_=>False
  | none=>False
 | .makeSV e sz bytes zs x=>match dm ρ x,d with
  | .int _ n,some k=>match L.get k,fG (zs.map rW) sz,eW (zs.map rW) with
   | none,true,true=>oQ n n bytes fun n=>K (L.set k (.row e sz (List.replicate n ((zs.map rW).map C.can)))) (bq d (.rw k) ρ)
   | _,_,_=>False
  | _,_=>False
 | .storeK key n a x=>match dm ρ a with
  | .own k _=>match Nat.beq k key with
   | true=>storeT true n a x d L ρ K
   | false=>False
  | _=>False
 | .storeX n a x=>storeT false n a x d L ρ K
 | .store n a x=>storeT false n a x d L ρ K
 | .storeD n a x=>storeT true n a x d L ρ K
 | .call f args=>fl (fI ρ args) fun args=>kX P f args L ρ fun L' ρ' v=>fT L' fun L'=>AW v fun v=>K L' (bq d v ρ')
 | .callV f args=>match dm ρ f with
  | .fn f q r=>fl (q++fI ρ args++r) fun args=>kX P f args L ρ fun L' ρ' v=>fT L' fun L'=>AW v fun v=>K L' (bq d v ρ')
  | .mval p c=>match c with
   | .ifc t c=>Sv P t p fun f=>fl (fI ρ args) fun args=>kX P f (c::args) L ρ fun L' ρ' v=>fT L' fun L'=>AW v fun v=>K L' (bq d v ρ')
   | _=>False
  | .mof t p=>match Q5 P t,fI ρ args with
   | true,.ifc y c::h=>Sv P y p fun f=>fl h fun h=>kX P f (c::h) L ρ fun L' ρ' v=>fT L' fun L'=>AW v fun v=>K L' (bq d v ρ')
   | _,_=>False
  | _=>False
 | .callD f args=>fl (fI ρ args) fun args=>pA P f args L ρ d fun L' ρ' v=>fT L' fun L'=>AW v fun v=>K L' (bq d v ρ')
 | .callVD f args=>match dm ρ f with
  | .fn f q r=>fl (q++fI ρ args++r) fun args=>pA P f args L ρ d fun L' ρ' v=>fT L' fun L'=>AW v fun v=>K L' (bq d v ρ')
  | .mval p c=>match c with
   | .ifc t c=>Sv P t p fun f=>fl (fI ρ args) fun args=>pA P f (c::args) L ρ d fun L' ρ' v=>fT L' fun L'=>AW v fun v=>K L' (bq d v ρ')
   | _=>False
  | _=>False
 | .callO f args=>fl (fI ρ args) fun args=>FD P f args L ρ fun L' ρ' v=>fT L' fun L'=>AW v fun v=>K L' (bq d v ρ')
 | .callVO f args=>match dm ρ f with
  | .fn f q r=>fl (q++fI ρ args++r) fun args=>FD P f args L ρ fun L' ρ' v=>fT L' fun L'=>AW v fun v=>K L' (bq d v ρ')
  | _=>False
 | .mkmap=>match d with
  | some k=>match L.get k with
   | none=>K (L.set k (.map [])) (bq d (.mpr k) ρ)
   | some _=>False
  | none=>False
 | .mupd str x i v=>match dm ρ x with
  | .mpr k=>match L.get k,Kt str (dm ρ i),(dm ρ v).okc,ja (cP (dm ρ v)) with
   | some (.map es),true,true,true=>QZ str es (dm ρ i) ((dm ρ v).cel.aaj) fun es=>K (L.set k (.map es)) (bq d .und ρ)
   | _,_,_,_=>False
  | _=>False
 | .app e sz bytes _ s x=>ND e sz bytes (dm ρ s) (dm ρ x) d L ρ K
 | .appX e sz bytes _ s x=>ND e sz bytes (dm ρ s) (dm ρ x) d L ρ K
 | .appD e sz bytes _ s x=>match dm ρ s,(dm ρ x).can,d with
  | .rw k,.sl b,_=>match L.get k with
   | some (.row w u els)=>match Nat.beq e w,Nat.beq sz u with
    | true,true=>wH els b sz bytes (fT ((L.aad (C.kill k)).set k (.row e sz (els++b))) fun L=>K L (bq d (.rw k) fun j=>(ρ j).kill k))
    | _,_=>False
   | _=>False
  | .nils,.sl b,some k=>match L.get k with
   | none=>wH [] b sz bytes (fT (L.set k (.row e sz b)) fun L=>K L (bq d (.rw k) ρ))
   | some _=>False
  | .slx els,.sl b,some k=>match L.get k with
   | none=>0<b.length/\(∀es∈els,es.length=sz)/\wH els b sz bytes (fT (L.set k (.row e sz (els++b))) fun L=>K L (bq d (.rw k) ρ))
   | some _=>False
  | _,_,_=>False
 | o=>outT o L ρ fun v=>AW v fun v=>K L (bq d v ρ)
def u7 (P:Program) (PS:qa) (o:dZ) (d:Option Nat) (L:TL) (ρ:aG) (K:TK):Prop :=
 match o with
 | .call f args=>fl (fI ρ args) fun args=>match PS.st with
  | none=>pz P PS f args L ρ fun L' ρ' v=>fT L' fun L'=>AW v fun v=>K L' (bq d v ρ')
  | some s=>FC P PS.ps PS.hb s f args L ρ fun L' ρ' v=>fT L' fun L'=>AW v fun v=>K L' (bq d v ρ')
 | .callV f args=>match dm ρ f with
  | .fn f a b=>fl (a++fI ρ args++b) fun args=>match PS.st with
   | none=>pz P PS f args L ρ fun L' ρ' v=>fT L' fun L'=>AW v fun v=>K L' (bq d v ρ')
   | some s=>FC P PS.ps PS.hb s f args L ρ fun L' ρ' v=>fT L' fun L'=>AW v fun v=>K L' (bq d v ρ')
  | _=>False
 | .pan x=>match PS.st with
  | none=>Ur PS L (dm ρ x)
  | some s=>WC PS.ps PS.hb s L (dm ρ x)
 | _=>False
def FE (P:Program) (PS:qa) (fb:List Nat) (o:dZ) (d:Option Nat) (L:TL) (ρ:aG) (K:TK):Prop :=
 match o with
 | .call f args=>fl (fI ρ args) fun args=>match PS.st with
  | some s=>tM P PS.ps PS.hb s fb f args L ρ fun L' ρ' v=>fT L' fun L'=>AW v fun v=>K L' (bq d v ρ')
  | none=>rp P PS fb f args L ρ fun L' ρ' v=>fT L' fun L'=>AW v fun v=>K L' (bq d v ρ')
 | .callV f args=>match dm ρ f with
  | .fn f a b=>fl (a++fI ρ args++b) fun args=>match PS.st with
   | some s=>tM P PS.ps PS.hb s fb f args L ρ fun L' ρ' v=>fT L' fun L'=>AW v fun v=>K L' (bq d v ρ')
   | none=>rp P PS fb f args L ρ fun L' ρ' v=>fT L' fun L'=>AW v fun v=>K L' (bq d v ρ')
  | _=>False
 | _=>False
def AX:List ak->TL->Bool
 | [],_=>true
 | s::l,L=>match x9 s with
  | none=>AX l L
  | some k=>match L.get k with | none=>AX l L | some _=>false
def rY (d:Option Nat) (ρ:aG):aG :=
 match d with
 | some k=>fun j=>match Nat.beq j k with | true=>(ρ k).aaE | false=>ρ j
 | none=>ρ
def Kw (a:Bool) (d:Option Nat) (ρ:aG):aG:=match a with | true=>ρ | false=>rY d ρ
def stepT (P:Program) (PS:qa) (e:Bool) (s:ak) (c:TL->aG->TK->Prop) (L:TL) (ρ:aG) (K:TK):Prop :=
 match s with
 | .op d o none=>bS P o d L ρ fun L' ρ'=>c L' (Kw e d ρ') K
 | .op d o (some (s,a))=>match ρ s with
  | .bool b=>zW b
    (match a with
     | true=>bS P o d L (bq (some s) (.bool true) ρ) fun L' ρ'=>c L' (Kw e d ρ') K
     | false=>c L (bq d .und (bq (some s) (.bool true) ρ)) K)
    (match a with
     | false=>bS P o d L (bq (some s) (.bool false) ρ) fun L' ρ'=>c L' (Kw e d ρ') K
     | true=>c L (bq d .und (bq (some s) (.bool false) ρ)) K)
  | .und=>c L (bq d .und ρ) K
  | _=>False
 | .frz k=>match e,L.get k with
  | false,some (.row _ _ els)=>fT ((L.del k).aad (C.frz k els)) fun L=>c L (fun j=>(ρ j).frz k els) K
  | false,some (.box _ cs)=>match eW cs,ja cs,Nat.blt k 1000,fM (PS.hb.map (·.1)) k with
   | true,true,true,false=>fT ((L.del k).aad (C.frb k cs)) fun L=>c L (fun j=>(ρ j).frb k cs) K
   | _,_,_,_=>False
  | _,_=>False
 | .pc d o none=>match e with
  | true=>False
  | false=>u7 P PS o d L ρ fun L' ρ'=>c L' (rY d ρ') K
 | .pc d o (some (s,a))=>match e,ρ s with
  | false,.bool b=>zW b
    (match a with
     | true=>u7 P PS o d L (bq (some s) (.bool true) ρ) fun L' ρ'=>c L' (rY d ρ') K
     | false=>c L (bq d .und (bq (some s) (.bool true) ρ)) K)
    (match a with
     | false=>u7 P PS o d L (bq (some s) (.bool false) ρ) fun L' ρ'=>c L' (rY d ρ') K
     | true=>c L (bq d .und (bq (some s) (.bool false) ρ)) K)
  | false,.und=>c L (bq d .und ρ) K
  | _,_=>False
def AY (P:Program) (PS:qa) (fb:List Nat) (s:ak) (a:TL->aG->TK->Prop) (L:TL) (ρ:aG) (K:TK):Prop :=
 match s with
 | .pc d o none=>FE P PS fb o d L ρ fun L' ρ'=>a L' ρ' K
 | s=>stepT P PS true s a L ρ K
noncomputable def dD (P:Program) (PS:qa) (b:Bool) (ss:List ak):TL->aG->TK->Prop :=
 List.rec (motive:=fun _=>TL->aG->TK->Prop) (fun L ρ K=>K L ρ) (fun s _ a L ρ K=>stepT P PS b s a L ρ K) ss
noncomputable def kF (P:Program) (PS:qa) (fb:List Nat) (ss:List ak):TL->aG->TK->Prop :=
 List.rec (motive:=fun _=>TL->aG->TK->Prop) (fun L ρ K=>K L ρ) (fun s _ a L ρ K=>AY P PS fb s a L ρ K) ss
theorem jT {P:Program}{PS:qa}{fb:List Nat}{s:ak}{a:List ak}{L:TL}{ρ:aG}{K:TK}:kF P PS fb (s::a) L ρ K=AY P PS fb s (kF P PS fb a) L ρ K:=rfl
theorem eX {P:Program}{PS:qa}{b:Bool}{s:ak}{a:List ak}{L:TL}{ρ:aG}{K:TK}:dD P PS b (s::a) L ρ K=stepT P PS b s (dD P PS b a) L ρ K:=rfl
def gU:List C->C
 | [v]=>v
 | l=>.tup l
def gV (L:TL) (ρ:aG):List RV->(List C->Prop)->Prop
 | [],K=>K []
 | (t,none)::l,K=>gV L ρ l fun a=>K ((ρ t).cel::a)
 | (t,some (agg,n))::l,K=>match ρ t with
  | .own k off=>match L.get k with
   | some (.box _ cs)=>match fG ((cs.drop off).take n) n with
    | true=>gV L ρ l fun a=>K ((Fy agg ((cs.drop off).take n)).cel::a)
    | false=>False
   | _=>False
  | _=>False
structure eS (Lin:List TO) (L:TL) (v:C) (R:List TO->C->Prop):Prop where
 out:∃(fz ko:List Nat),yt fz L (fun _=>.any) [v] fun L _ vs =>
  ∃(L1:TL) (c c1:C) (Mo:List TO),vs=[c]/\((L1=L/\c1=c)\/(gives L L1 L1/\NA L L1 c c1))/\L1.sub ko=some Mo/\aU ko=true/\aJ Lin (List.range' 1000 Lin.length) ko=true /\
   (uT [c1]->R (Mo.map (TO.aad (C.ren (bh ko 1000)))) (c1.aao.ren (bh ko 1000)))
def tN (asg:List Nat) (ρ:aG):aG:=fun j=>match fM asg j with | true=>.any | false=>(ρ j).aaL
structure vY (body:TL->aG->TK->Prop) (asg:List Nat) (L:TL) (ρ:aG):Prop where
 out:∃(σ:Type) (x0:σ) (Inv:σ->Prop) (ls:List Nat) (lv:σ->List C) (Lf:σ->TL) (μ:σ->Nat),
  Inv x0/\nJ L (Lf x0) ls (lv x0) ρ/\gives L (Lf x0) (Lf x0)/\(∀x,pu L (Lf x)=true)/\(∀x,(lv x).length=ls.length) /\
  ∀x,Inv x->uT (lv x)->(∀k o,(Lf x).get k=some o->o.Wf)->body (Lf x) (qA ls (lv x) (tN asg ρ)) fun L' ρ' =>
   ∃x',Inv x'/\nJ L' (Lf x') ls (lv x') ρ'/\gives L' (Lf x') (Lf x')/\μ x'<μ x
def dF:List ak->List Nat
 | []=>[]
 | .frz k::l=>k::dF l
 | .op _ _ _::l=>dF l
 | .pc _ _ _::l=>dF l
def gA:au->List Nat
 | .reg d=>dF d
 | .regD d=>dF d
 | .regX d=>dF d
 | .seq a b=>gA a++gA b
 | .cond _ a b=>gA a++gA b
 | .block _ c=>gA c
 | .loop _ c=>gA c
 | _=>[]
def sJ (L:TL):List Nat->Bool
 | []=>true
 | k::ks=>match L.get k with | some (.box _ _)=>false | some (.map _)=>false | _=>sJ L ks
noncomputable def evalTC (P:Program) (PS:qa) (c:au):(Nat->TK)->TK->TK->TK :=
 au.rec (motive:=fun _=>(Nat->TK)->TK->TK->TK)
  (fun _ _ N L ρ=>N L ρ)
  (fun a _ _ N L ρ=>dD P PS false a L ρ N)
  (fun a _ _ N L ρ=>dD P PS true a L ρ N)
  (fun a _ _ N L ρ=>match AX a L with | true=>kF P PS (Nx a) a L ρ N | false=>False)
  (fun _ _ d b E R N L ρ=>d E R (fun L ρ=>b E R N L ρ) L ρ)
  (fun c _ _ d b E R N L ρ=>match dm ρ c with
   | .bool t=>zW t (d E R N L ρ) (b E R N L ρ)
   | _=>False)
  (fun id _ e E R N L ρ=>e (fun j=>match Nat.beq j id with | true=>N | false=>E j) R N L ρ)
  (fun asg c e E R _ L ρ=>match sJ L (gA c) with | true=>vY (fun L ρ K=>e E R K L ρ) asg L ρ | false=>False)
  (fun id E _ _ L ρ=>E id L ρ)
  (fun _ R _ L ρ=>R L ρ) c
section
variable {P:Program}{PS:qa}{E:Nat->TK}{R N:TK}{L:TL}{ρ:aG}
theorem kZ:evalTC P PS .skip E R N L ρ=N L ρ:=rfl
theorem mJ {a:List ak}:evalTC P PS (.reg a) E R N L ρ=dD P PS false a L ρ N:=rfl
theorem ld {a:List ak}:evalTC P PS (.regD a) E R N L ρ=dD P PS true a L ρ N:=rfl
theorem DB {a:List ak}:evalTC P PS (.regX a) E R N L ρ=(match AX a L with | true=>kF P PS (Nx a) a L ρ N | false=>False):=rfl
theorem mK {a b:au}:evalTC P PS (.seq a b) E R N L ρ=evalTC P PS a E R (fun L ρ=>evalTC P PS b E R N L ρ) L ρ:=rfl
theorem lf {c:X}{a b:au}:evalTC P PS (.cond c a b) E R N L ρ=(match dm ρ c with
   | .bool t=>zW t (evalTC P PS a E R N L ρ) (evalTC P PS b E R N L ρ)
   | _=>False):=rfl
theorem jU {id:Nat}{c:au}:evalTC P PS (.block id c) E R N L ρ=evalTC P PS c (fun j=>match Nat.beq j id with | true=>N | false=>E j) R N L ρ:=rfl
theorem lg {asg:List Nat}{c:au}:evalTC P PS (.loop asg c) E R N L ρ=(match sJ L (gA c) with | true=>vY (fun L ρ K=>evalTC P PS c E R K L ρ) asg L ρ | false=>False):=rfl
theorem lm {id:Nat}:evalTC P PS (.exit id) E R N L ρ=E id L ρ:=rfl
theorem mL:evalTC P PS .ret E R N L ρ=R L ρ:=rfl
end
def kG:Nat->List C->aG
 | _,[]=>fun _=>.und
 | k,v::l=>bq (some k) v (kG (k+1) l)
theorem wf_wrap (k:IntKind) (n:Int):(Lit.int k (k.wrap n)).wf=true:=by
 cases k<;>simp[Lit.wf,IntKind.wrap,IntKind.min,IntKind.max,IntKind.bits,IntKind.signed]<;>(try split)<;>omega
theorem FG (k:IntKind) (n:Int):(Lit.int k n).wf=true↔k.min<=n/\n<=k.max:=by simp[Lit.wf]
theorem GJ (k:IntKind):k.min<=0:=by cases k<;>simp[IntKind.min,IntKind.bits,IntKind.signed]
theorem GK (k:IntKind):127<=k.max:=by cases k<;>simp[IntKind.max,IntKind.bits,IntKind.signed]
def okB:Value->Prop
 | .int k n=>(Lit.int k n).wf=true
 | .bool _=>True
 | .string s=>s.size<=maxLen
 | _=>False
section
variable {P:Program}{G:Nat->Option (Nat×TypeId)}{F:aA}{L:Loc}{ρ:Env}{M:TL}{τ:aG}
theorem yx {v:Value}(h:okB v):aL F L (Ss v) (.v v):=by
 cases v
 case int k n=>exact⟨.int k n,rfl,by simp only[Ss,Rel];exact⟨trivial,h⟩⟩
 case bool b=>exact⟨.bool b,rfl,by simp only[Ss,Rel]⟩
 case string b=>exact⟨.string b,rfl,by simp only[Ss,Rel];exact⟨trivial,h⟩⟩
 all_goals exact h.elim
theorem NE {k:IntKind}{a b:Int}(h:(Lit.int k a).wf=true):(Lit.int k (a.tmod b)).wf=true:=by
 rw[FG] at h ⊢;have h0:=GJ k;have h1:=GK k
 by_cases c:0<=a
 ·have:=Int.tmod_nonneg b c;have h2:a.tmod b<=a:=by
   have:(a.tmod b).natAbs<=a.natAbs:=by rw[Int.natAbs_tmod];exact Nat.mod_le _ _
   omega
  omega
 ·have h2:(a.tmod b).natAbs<=a.natAbs:=by rw[Int.natAbs_tmod];exact Nat.mod_le _ _
  have h3:a.tmod b<=0:=by
   have:=Int.tmod_nonneg b (show 0<=-a by omega);rw[Int.neg_tmod] at this;omega
  omega
theorem NF {k:IntKind}{a:Int}{m:Nat}(h:(Lit.int k a).wf=true):(Lit.int k (a.fdiv (2 ^ m))).wf=true:=by
 rw[FG] at h ⊢;have h0:=GJ k;have h1:=GK k;have b:(0:Int)<2 ^ m:=Int.pow_pos (by omega);rw[Int.fdiv_eq_ediv_of_nonneg _ (by omega)]
 by_cases c:0<=a
 ·have h2:=Int.ediv_nonneg c (Int.le_of_lt b);have h3:=Int.ediv_le_self (2 ^ m) c;omega
 ·have h2:a / 2 ^ m<0:=Int.ediv_neg_of_neg_of_pos (by omega) b;have h3:a<=a / 2 ^ m:=by
   have:a*1<=a / 2 ^ m:=by
    apply Int.le_ediv_of_mul_le b;rw[Int.mul_one];have:a*2 ^ m<=a*1:=Int.mul_le_mul_of_nonpos_left (by omega) (by omega);omega
   omega
  omega
theorem II {op:BinOp}{k:IntKind}{a b:Int}{K K':Value->Prop}(d:(Lit.int k a).wf=true) (h:binI op k a b K) (c:∀v,okB v->K v->K' v):binI op k a b K':=by
 cases op<;>simp only[binI] at h ⊢<;>first
  | exact h.elim
  | exact⟨c _ (wf_wrap _ _) h.out⟩
  | exact⟨h.ne,⟨c _ (wf_wrap _ _) h.out.out⟩⟩
  | exact⟨h.ne,c _ (NE d) h.out⟩
  | exact c _ (wf_wrap _ _) h
  | exact c _ trivial h
theorem Kx {op:BinOp}{k:IntKind}{a b:Int}{K K':Value->Prop}(d:(Lit.int k a).wf=true) (h:shI op k a b K) (c:∀v,okB v->K v->K' v):shI op k a b K':=by
 cases op<;>simp only[shI] at h ⊢<;>first
  | exact h.elim
  | exact⟨h.1,⟨c _ (wf_wrap _ _) h.2.out⟩⟩
  | exact⟨h.1,c _ (NF d) h.2⟩
theorem IJ {op:BinOp}{a b:ByteArray}{K K':Value->Prop}(h:binS op a b K) (c:∀v,okB v->K v->K' v):binS op a b K':=by
 cases op<;>simp only[binS] at h ⊢<;>first
  | exact h.elim
  | exact c _ trivial h
  | exact⟨h.1,c _ (by
    have h1:=h.1;simp[IntKind.max,IntKind.bits,IntKind.signed] at h1;show(a++b).size<=maxLen;rw[ByteArray.size_append];simp only[maxLen];omega) h.2⟩
theorem Cf (v:Value):Rel F L (rW v) v:=by
 unfold rW;split
 ·split
  ·rename_i h;simp only[Rel];exact⟨trivial,h⟩
  ·simp only[Rel]
 ·simp only[Rel]
 ·split
  ·rename_i h;simp only[Rel];exact⟨trivial,abb h⟩
  ·simp only[Rel]
 ·simp only[Rel]
 ·simp only[Rel]
 ·simp only[Rel]
 ·simp only[Rel];exact MU
 ·simp only[Rel]
 ·simp only[Rel]
theorem lp:∀a:List Value,aB F L (a.map rW) a
 | []=>by simp only[abJ,aB]
 | v::a=>by simp only[aaZ,aB];exact⟨v,a,rfl,Cf v,lp a⟩
theorem Ut (v:Value):aL F L (rW v) (.v v):=by
 have h:=Cf (F:=F) (L:=L) v
 revert h
 unfold rW;split
 ·split
  ·exact fun h=>⟨_,rfl,h⟩
  ·exact fun h=>trivial
 ·exact fun h=>⟨_,rfl,h⟩
 ·split
  ·exact fun h=>⟨_,rfl,h⟩
  ·exact fun h=>trivial
 ·exact fun h=>⟨_,rfl,h⟩
 ·exact fun h=>⟨_,rfl,h⟩
 ·exact fun h=>⟨_,rfl,h⟩
 ·exact fun h=>⟨_,rfl,h⟩
 ·exact fun h=>⟨_,rfl,h⟩
 ·exact fun h=>trivial
theorem Uu (v:Value):aL F L (cv v) (.v v):=by
 unfold cv;split
 ·rename_i cs;exact⟨_,rfl,by simp only[Rel];exact⟨cs.toList,by simp,lp _⟩⟩
 ·exact Ut v
theorem eC (h:∀j,aL F L (τ j) (ρ j)) (x:X):aL F L (dm τ x) (ev ρ x):=by
 cases x with
 | t n=>exact h n
 | c v=>exact Uu v
 | fn f=>exact⟨_,rfl,by simp only[dm,Rel];exact⟨[],[],by simp,by simp only[aB],by simp only[aB]⟩⟩
 | mt k n =>
  have a:=h n;simp only[dm,ev,YL];split
  ·rename_i t c e;rw[e] at a;simp only[aL] at a ⊢;obtain⟨v,d,b⟩:=a;rw[d];refine⟨_,rfl,?_⟩;simp only[Rel] at b ⊢;exact⟨v,rfl,b⟩
  ·simp only[aL]
theorem gR {x:X}{k:IntKind}{n:Int}(h:∀j,aL F L (τ j) (ρ j)) (e:dm τ x=.int k n):ev ρ x=.v (.int k n)/\(Lit.int k n).wf=true:=by
 have:=eC h x;rw[e] at this;simp only[aL,Rel] at this;obtain⟨v,h1,rfl,h2⟩:=this;exact⟨h1,h2⟩
theorem jm {x:X}{b:Bool}(h:∀j,aL F L (τ j) (ρ j)) (e:dm τ x=.bool b):ev ρ x=.v (.bool b):=by
 have:=eC h x;rw[e] at this;simp only[aL,Rel] at this;obtain⟨v,h1,rfl⟩:=this;exact h1
theorem wY {x:X}{s:ByteArray}(h:∀j,aL F L (τ j) (ρ j)) (e:dm τ x=.str s):ev ρ x=.v (.string s)/\s.size<=maxLen:=by
 have:=eC h x;rw[e] at this;simp only[aL,Rel] at this;obtain⟨v,h1,rfl,h2⟩:=this;exact⟨h1,h2⟩
theorem Sw {x:X}{els:List (List C)}(h:∀j,aL F L (τ j) (ρ j)) (e:dm τ x=.sl els) :
  ∃a c sz,ev ρ x=.v (.slice a els.length c)/\els.length<=c/\els.length<=maxLen/\(a=none->els=[]/\c=0)/\gP F a sz 0 els:=by
 have:=eC h x;rw[e] at this;simp only[aL,Rel] at this;obtain⟨v,h1,a,c,rfl,h2,h3,h4,sz,h5⟩:=this;exact⟨a,c,sz,h1,h2,h3,h4,h5⟩
theorem tO {x:X}(h:∀j,aL F L (τ j) (ρ j)) (e:dm τ x=.nils):ev ρ x=.v (.slice none 0 0):=by
 have:=eC h x;rw[e] at this;simp only[aL,Rel] at this;obtain⟨v,h1,rfl⟩:=this;exact h1
theorem FH {x:X}{k:Nat}(h:∀j,aL F L (τ j) (ρ j)) (e:dm τ x=.rw k):∃a c t sz n xs,ev ρ x=.v (.slice a n c)/\L.get k=some (.row (.slice a n c) t sz n xs):=by
 have:=eC h x;rw[e] at this;simp only[aL,Rel] at this;obtain⟨v,h1,a,c,t,sz,n,xs,rfl,h2⟩:=this;exact⟨a,c,t,sz,n,xs,h1,h2⟩
theorem js {x:X}{k off:Nat}(h:∀j,aL F L (τ j) (ρ j)) (e:dm τ x=.own k off):ev ρ x=.own k off/\∃g t cs,L.get k=some (.box g t cs):=by
 have:=eC h x;rw[e] at this;simp only[aL] at this;exact this
theorem tP {x:X}{k off:Nat}(h:∀j,aL F L (τ j) (ρ j)) (e:dm τ x=.ownv k off):∃g t cs,L.get k=some (.box g t cs)/\V9 (ev ρ x) (.pointer (some ⟨g,off,none⟩)):=by
 have:=eC h x;rw[e] at this;simp only[aL,Rel] at this;obtain⟨v,h1,g,t,cs,h2,rfl⟩:=this;exact⟨g,t,cs,h2,h1⟩
theorem u9 {x:X}{f:Nat}{d c:List C}(h:∀j,aL F L (τ j) (ρ j)) (e:dm τ x=.fn f d c):∃b a,ev ρ x=.v (.func (.func f) b.toArray a.toArray)/\aB F L d b/\aB F L c a:=by
 have:=eC h x;rw[e] at this;simp only[aL,Rel] at this;obtain⟨v,h1,b,a,rfl,h2,h3⟩:=this;exact⟨b,a,h1,h2,h3⟩
theorem Cg {x:X}{cs:List C}(h:∀j,aL F L (τ j) (ρ j)) (e:dm τ x=.agg cs):∃a,ev ρ x=.v (.agg a.toArray)/\aB F L cs a:=by
 have:=eC h x;rw[e] at this;simp only[aL,Rel] at this;obtain⟨v,h1,a,rfl,h2⟩:=this;exact⟨a,h1,h2⟩
theorem NG {x:X}{cs:List C}(h:∀j,aL F L (τ j) (ρ j)) (e:dm τ x=.tup cs):∃a,ev ρ x=.v (.tuple a.toArray)/\aB F L cs a:=by
 have:=eC h x;rw[e] at this;simp only[aL,Rel] at this;obtain⟨v,h1,a,rfl,h2⟩:=this;exact⟨a,h1,h2⟩
theorem NH {x:X}{t:TypeId}{c:C}(h:∀j,aL F L (τ j) (ρ j)) (e:dm τ x=.ifc t c):∃u,ev ρ x=.v (.iface t u)/\Rel F [] c u:=by
 have:=eC h x;rw[e] at this;simp only[aL,Rel] at this;obtain⟨v,h1,u,rfl,h2⟩:=this;exact⟨u,h1,h2⟩
theorem GL {x:X}{k:Nat}(h:∀j,aL F L (τ j) (ρ j)) (e:dm τ x=.opq k):∃v,ev ρ x=.v v/\gZ k F v:=by
 have:=eC h x;rw[e] at this;simp only[aL,Rel] at this;exact this
theorem yA {x:X}{a:String}{c:C}(h:∀j,aL F L (τ j) (ρ j)) (e:dm τ x=.mval a c):∃u,ev ρ x=.v (.func (.method a) #[u] #[])/\Rel F [] c u:=by
 have:=eC h x;rw[e] at this;simp only[aL,Rel] at this;obtain⟨v,h1,u,rfl,h2⟩:=this;exact⟨u,h1,h2⟩
theorem NI {x:X}{t:TypeId}{a:String}(h:∀j,aL F L (τ j) (ρ j)) (e:dm τ x=.mof t a):ev ρ x=.v (.func (.methodOf t a) #[] #[]):=by
 have:=eC h x;rw[e] at this;simp only[aL,Rel] at this;obtain⟨v,h1,rfl⟩:=this;exact h1
theorem sK {x:X}{es:List C}{off:Nat}(h:∀j,aL F L (τ j) (ρ j)) (e:dm τ x=.pt es off) :
  ∃b o j a,(ev ρ x=.v (.pointer (some ⟨b,o,none⟩))/\j=0\/ev ρ x=.el (some ⟨b,o,none⟩) j)/\NC F b (o+j) off a/\eW es=true/\aB F [] es a:=by
 have:=eC h x;rw[e] at this;simp only[aL] at this;exact this
theorem wZ {x:X}{k j off:Nat}(h:∀j,aL F L (τ j) (ρ j)) (e:dm τ x=.elr k j off) :
  ∃a t sz n c xs,ev ρ x=.el (some a) (j*sz+off)/\L.get k=some (.row (.slice (some a) n c) t sz n xs):=by
 have:=eC h x;rw[e] at this;simp only[aL] at this;exact this
theorem lH (h:bT F L M) {k:Nat}{t:TypeId}{cs:List C}(e:M.get k=some (.box t cs)):∃g b a,L.get k=some (.box g b a)/\aB F L cs a/\tyOk t g b:=by
 have:=h k;rw[e] at this;cases c:L.get k with
 | none=>rw[c] at this;exact this.elim
 | some o =>
  rw[c] at this;cases o with
  | row=>exact this.elim
  | box g b a=>obtain⟨h1,h2⟩:=this;exact⟨g,b,a,rfl,h2,h1⟩
theorem mM (h:bT F L M) {k:Nat}{t:TypeId}{sz:Nat}{els:List (List C)}(e:M.get k=some (.row t sz els)) :
  ∃v xs,L.get k=some (.row v t sz els.length xs)/\(els.length<=maxLen/\∃a c,v=.slice a els.length c/\(a=none->els.length=0))/\aQ F sz els xs:=by
 have:=h k;rw[e] at this;cases b:L.get k with
 | none=>rw[b] at this;exact this.elim
 | some o =>
  rw[b] at this;cases o with
  | box=>exact this.elim
  | row v f d n xs=>obtain⟨rfl,rfl,rfl,h2,h3⟩:=this;exact⟨v,xs,rfl,h2,h3⟩
theorem cj (h:bT F L M) {k:Nat}(e:M.get k=none):L.get k=none:=by
 have:=h k;rw[e] at this;cases a:L.get k with
 | none=>rfl
 | some o=>rw[a] at this;exact this.elim
theorem bZ:∀{l:List C}{n:Nat},fG l n=true->l.length=n
 | [],0,_=>rfl
 | [],n+1,h=>by simp[fG] at h
 | _::l,0,h=>by simp[fG] at h
 | _::l,n+1,h=>by simp only[fG] at h;simp[bZ h]
theorem jv:∀{l:List Value}{n:Nat},l.length=n->iz l n=true
 | [],0,_=>rfl
 | [],n+1,h=>by simp at h
 | _::l,0,h=>by simp at h
 | _::l,n+1,h=>by simp only[iz];exact jv (by simpa using h)
theorem kR {c:C}{v:Value}(h:Rel F L c v):aL F L c.slt (.v v):=by
 cases c<;>(try simp only[C.slt])<;>try exact⟨v,rfl,h⟩
 case any=>trivial
 case pt es off =>
  simp only[Rel] at h;obtain⟨b,o,a,rfl,h2,h3⟩:=h;exact⟨b,o,0,a,.inl ⟨rfl,rfl⟩,h2,h3⟩
 case own=>exact⟨v,.inl rfl,h⟩
 case ownv=>exact h.elim
 case elr=>exact h.elim
theorem eT {agg:Bool}{cs:List C}{a:List Value}(h:aB F L cs a):aL F L (Fy agg cs) (.v (iD agg a)):=by
 cases agg with
 | true=>exact⟨_,rfl,by simp only[Fy,iD,Rel];exact⟨a,rfl,h⟩⟩
 | false =>
  match cs,a,h with
  | [],a,h=>trivial
  | [c],a,h =>
   simp only[aB] at h;obtain⟨v,b,rfl,h1,rfl⟩:=h;exact kR h1
  | _::_::_,a,h=>trivial
theorem V9.conc {sv:SV}{v:Value}(h:V9 sv v):Fr.conc L sv=v:=by
 rcases h with rfl | ⟨b,o,j,rfl,rfl⟩
 ·rfl
 ·simp only[Fr.conc,dw]
theorem NJ {c:C}{sv:SV}(h:aL F L c sv) (e:c.one=true\/(∃k o,c=.ownv k o)\/c=.any\/(∃k j o,c=.elr k j o)\/(∃l,c=.agg l)\/(∃l,c=.tup l)\/c=.und):Rel F L c.cel (conc L sv):=by
 cases c<;>simp only[C.cel]<;>simp only[aL] at h
 case own k off =>
  obtain⟨rfl,g,t,cs,h⟩:=h;simp only[Rel,conc,h];exact⟨g,t,cs,rfl,rfl⟩
 case ownv k off =>
  obtain⟨v,d,h⟩:=h;rw[d.conc];exact h
 case pt es off =>
  obtain⟨b,o,j,a,h1,h2,h3,h4⟩:=h;simp only[Rel];rcases h1 with⟨rfl,rfl⟩ | rfl
  ·exact⟨b,o,a,rfl,h2,h3,h4⟩
  ·exact⟨b,o+j,a,by simp only[conc,dw],h2,h3,h4⟩
 case elr=>simp only[Rel]
 case any=>simp only[Rel]
 all_goals
  obtain⟨v,rfl,h⟩:=h;simpa only[conc] using h
theorem mN {c:C}{sv:SV}(h:aL F L c sv):Rel F L c.cel (conc L sv):=by
 apply NJ h;cases c<;>simp[C.one]
theorem Ch (h:∀j,aL F L (τ j) (ρ j)) (x:X):Rel F L (dm τ x).cel (val L ρ x):=mN (eC h x)
theorem dV (h:∀j,aL F L (τ j) (ρ j)):∀xs:List X,aB F L (fI τ xs) (bn L ρ xs)
 | []=>by simp only[fI,bn,aB]
 | x::xs=>by simp only[fI,bn,aB];exact⟨_,_,rfl,Ch h x,dV h xs⟩
theorem FI {c:C}{sv:SV}(h:aL F L c sv) (a:c.okc=true):aB F L (cP c) (aM (conc L sv)):=by
 have h1:=mN h;cases c<;>simp only[C.okc,aa5] at a<;>simp only[cP]<;>simp only[C.cel] at h1 ⊢
 case agg cs =>
  simp only[Rel] at h1;obtain⟨b,h2,h3⟩:=h1;rw[h2];simpa only[aM] using h3
 all_goals
  simp only[aB];refine⟨_,[],?_,h1,rfl⟩
  revert h1
  generalize conc L sv=v;intro h1;simp only[Rel] at h1
  first
   | (have h2:=gZ.one h1;cases v<;>first | rfl | (exact vv h2 (by decide)) | (simp[Value.oneCell'] at h2))
   | (obtain⟨rfl,_⟩:=h1;rfl)
   | (subst h1;rfl)
   | (obtain⟨_,rfl,_⟩:=h1;rfl)
   | (obtain⟨_,_,rfl,_⟩:=h1;rfl)
   | (obtain⟨_,_,_,rfl,_⟩:=h1;rfl)
   | (obtain⟨_,_,_,_,_,_,rfl,_⟩:=h1;rfl)
   | (obtain⟨_,_,_,_,rfl⟩:=h1;rfl)
theorem iK (h:∀j,aL F L (τ j) (ρ j)) {x:X}(a:(dm τ x).okc=true):aB F L (cP (dm τ x)) (aM (val L ρ x)):=FI (eC h x) a
theorem nC {cs:List C}{a:List Value}{off:Nat}{ds:List C}{us:List Value}(h:aB F L cs a) (k:aB F L ds us):aB F L (jr cs off ds) (bV a off us):=by
 simp only[jr,bV];rw[<-k.len];exact((h.take off).append k).append (h.drop _)
theorem AZ (h:∀j,aL F L (τ j) (ρ j)):∀(ps:List (Nat×Nat×X)) {zs:List C}{a:List Value}{cs:List C},aB F L zs a->u4 τ zs ps=some cs->∃us,built L ρ a ps=some us/\aB F L cs us
 | [],zs,a,cs,b,hb=>by
  simp only[u4,aaO] at hb;subst hb;exact⟨a,rfl,b⟩
 | (off,n,x)::ps,zs,a,cs,b,hb=>by
  simp only[u4] at hb;split at hb
  case h_2=>cases hb
  rename_i h1 h2;have c:=iK h h1;have d:iz (aM (val L ρ x)) n=true:=jv (by rw[c.len];exact bZ h2);simp only[built,d];exact AZ h ps (nC b c) hb
theorem GN (h:∀j,aL F L (τ j) (ρ j)) {d i:Int}{x:Option X}(e:Nz τ d x=some i):nR ρ d x=some i:=by
 cases x with
 | none=>exact e
 | some x =>
  simp only[Nz] at e;split at e
  case h_2=>cases e
  rename_i k j a;injection e with e
  subst e;simp only[nR,(gR h a).1]
theorem Ky (h:∀j,aL F L (τ j) (ρ j)) (mx:Bool):∀(args:List X) {a m:Int},V8 mx a (args.map (dm τ))=some m->QR mx a (args.map (ev ρ))=some m
 | [],a,m,e=>e
 | x::args,a,m,e=>by
  simp only[aaZ] at e ⊢;cases b:dm τ x<;>rw[b] at e<;>simp only[V8,reduceCtorEq] at e;rw[(gR h b).1];exact Ky h mx args e
theorem Kz {a:Option Addr}{sz:Nat}{els:List (List C)}{c l h:Nat}(k:gP F a sz 0 els) (u:a=none->els=[]/\c=0) (s:l<=h) (y:h<=els.length) (w:els.length<=c) :
  gP F (if c=l then a else a.map (·.add (l*sz))) sz 0 ((els.drop l).take (h-l)):=by
 rw[og] at k ⊢;intro j es he;rw[abL] at he;split at he
 case isFalse=>cases he
 rename_i r;rw[abE] at he;obtain⟨m,h1,h2,h3,h4⟩:=k _ es he;have p:l+j<els.length:=(aaT.1 he).1;rw[o5 (by omega)];refine⟨m,h1,?_,h3,h4⟩;obtain⟨n,f,t,fr,e,hb,d,q⟩:=h2;subst e;obtain⟨b,o,x⟩:=n;simp only at d;subst d;refine⟨⟨b,o+l*sz,none⟩,f,t,fr,by simp only[abt,dw],hb,rfl,fun i v hi=>?_⟩;have:=q i v hi;simp only[Nat.zero_add,Nat.add_mul] at this ⊢;rw[show o+l*sz+j*sz+i=o+(l*sz+j*sz)+i by omega];exact this
theorem lq {b o j off n:Nat}{es:List C}{d:List Value}(f:NC F b (o+j) off d):dO F (some ⟨b,o,none⟩) j ((d.drop off).take n):=by
 obtain⟨e,a,t,fr,h1,h2,h3⟩:=f;refine⟨_,a,t,fr,rfl,h1,rfl,fun i v c=>?_⟩;rw[abL] at c;split at c
 case isFalse=>cases c
 rw[abE] at c;have:=h3 _ _ c;show a[o+j+i]?=_;rw[h2,Nat.add_assoc];exact this
theorem jA {L':Loc}{cs:List C}{e:List Value}(m:ja cs=true) (h:aB F L cs e):aB F L' cs e:=by
 have b:∀(c:C) (v:Value),c.aal=true->Rel F L c v->Rel F L' c v:=by
  intro c v d h;cases c<;>simp only[C.aal,aa5] at d<;>simp only[Rel] at h ⊢<;>exact h
 have a:∀(cs:List C) (e:List Value),ju cs=true->aB F L cs e->aB F L' cs e:=by
  intro cs e d h;rw[mH] at h ⊢;exact⟨h.1,fun i c v h1 h2=>b c v (qB.1 d c (aaU h1)) (h.2 i c v h1 h2)⟩
 rw[mH] at h ⊢;refine⟨h.1,fun i c v h1 h2=>?_⟩;have d:=yu.1 m c (aaU h1);have f:=h.2 i c v h1 h2;cases c<;>first
  | exact b _ _ d f
  | (simp only[C.pure,C.aal,aa5] at d;done)
  | (simp only[C.pure] at d
     split at d
     case h_2=>cases d
     rename_i k;simp only[Rel] at f ⊢;obtain⟨l,j,o,p,n⟩:=f;exact⟨l,j,o,a _ _ k p,a _ _ d n⟩)
theorem ve {els:List (List C)}{v:Value}(h:Rel F L (.slx els) v):Rel F L (.sl els) v:=by
 simp only[Rel] at h ⊢;obtain⟨a,h1,h2,sz,h3⟩:=h;exact⟨some a,els.length,h1,aa2 _,h2,fun e=>(by cases e),sz,h3⟩
theorem tQ {c:C}{v:Value}(h:Rel F L c v):Rel F L c.can v:=by
 cases c<;>first
  | exact h
  | exact ve h
  | (simp only[Rel] at h
     subst h;simp only[C.can,Rel];exact⟨none,0,by simp,by simp,by simp,fun _=>by simp,0,by simp only[gP]⟩)
theorem lu {cs:List C}{a:List Value}(h:aB F L cs a):aB F L (cs.map C.can) a:=h.map fun c _ v=>tQ
theorem jn {c:C}{v:Value}(h:Rel F L c v):Rel F L c.aaj v:=by
 cases c<;>first
  | exact h
  | exact tQ (c:=.nils) h
  | exact ve h
  | (simp only[Rel] at h
     obtain⟨a,h1,h2⟩:=h;simp only[C.aaj,Rel];exact⟨a,h1,lu h2⟩)
theorem KA {c:C}{sv:SV}(h:aL F L c sv):aL F L c.can sv:=by
 cases c<;>first
  | exact h
  | (obtain⟨v,e,a⟩:=h;exact⟨v,e,ve a⟩)
  | (obtain⟨v,e,a⟩:=h;exact⟨v,e,tQ (c:=.nils) a⟩)
theorem lO {x:X}{els:List (List C)}(h:∀j,aL F L (τ j) (ρ j)) (e:(dm τ x).can=.sl els) :
  ∃a c sz,ev ρ x=.v (.slice a els.length c)/\els.length<=c/\els.length<=maxLen/\(a=none->els=[]/\c=0)/\gP F a sz 0 els:=by
 have:=KA (eC h x);rw[e] at this;simp only[aL,Rel] at this;obtain⟨v,h1,a,c,rfl,h2,h3,h4,sz,h5⟩:=this;exact⟨a,c,sz,h1,h2,h3,h4,h5⟩
theorem NK {c:C}{k:Nat}(e:c.can=.opq k):c=.opq k:=by cases c<;>simp only[C.can,reduceCtorEq] at e<;>exact e
theorem Ci {c:C}{k:Nat}(e:c.can=.rw k):c=.rw k:=by cases c<;>simp only[C.can,reduceCtorEq] at e<;>exact e
theorem Cj {x:X}{els:List (List C)}(h:∀j,aL F L (τ j) (ρ j)) (e:dm τ x=.slx els) :
  ∃a sz,ev ρ x=.v (.slice (some a) els.length els.length)/\els.length<=maxLen/\gP F (some a) sz 0 els:=by
 have:=eC h x;rw[e] at this;simp only[aL,Rel] at this;obtain⟨v,h1,a,rfl,h2,sz,h3⟩:=this;exact⟨a,sz,h1,h2,h3⟩
theorem NM {c:C}(h:c.one=true):c.can.one=true:=by cases c<;>first | exact h | rfl
theorem ol {cs:List C}(h:eW cs=true):eW (cs.map C.can)=true:=by
 rw[oh] at h ⊢;intro c a;obtain⟨d,hd,rfl⟩:=abq.1 a;exact NM (h d hd)
theorem om {cs:List C}{b:List Value}(h:aB F L cs b) (c:eW cs=true):∀u∈b,u.oneCell'=true:=by
 intro u d;obtain⟨i,hi⟩:=abh.1 d;have a:i<cs.length:=by rw[<-h.len];exact(aaT.1 hi).1
 have e:=h.at (aaQ a) hi;exact e.one (oh.1 c _ (List.getElem_mem a))
theorem w9:∀{a:List Value},(∀u∈a,u.oneCell'=true)->kg a=true
 | [],_=>rfl
 | v::a,h=>by simp only[kg,h v (by simp)];exact w9 fun u b=>h u (by simp[b])
end
section
variable {P:Program}{G:Nat->Option (Nat×TypeId)}{F:aA}{L:Loc}{ρ:Env}{M:TL}{τ:aG}
theorem mO {k:IntKind}{n:Int}(h:(Lit.int k n).wf=true):aL F L (.int k n) (.v (.int k n)):=⟨_,rfl,by simp only[Rel];exact⟨trivial,h⟩⟩
theorem gI {b:Bool}:aL F L (.bool b) (.v (.bool b)):=⟨_,rfl,by simp only[Rel]⟩
theorem KC {es:List C}{e:List Value}{d:Addr}{j:Nat}{a:Array Value}{t:TypeId}{fr:Nat×Nat}(hb:F d.block=some (.cells a t fr)) (c:d.spot=none)
  (h:∀(i:Nat) v,e[i]?=some v->a[d.off+j+i]?=some v) (h1:eW es=true) (f:aB F [] es e):aL F L (.pt es 0) (.el (some d) j):=by
 obtain⟨b,o,k⟩:=d;simp only at c;subst c;exact⟨b,o,j,e,.inr rfl,⟨o+j,a,t,fr,hb,rfl,h⟩,h1,f⟩
theorem NN {els:List (List C)}{a:Option Addr}{c sz:Nat}(h1:els.length<=c) (h2:els.length<=maxLen) (h3:a=none->els=[]/\c=0) (h4:gP F a sz 0 els):aL F L (.sl els) (.v (.slice a els.length c)) :=
 ⟨_,rfl,by simp only[Rel];exact⟨a,c,rfl,h1,h2,h3,sz,h4⟩⟩
set_option maxHeartbeats 1000000 in
theorem NP:∀{ks:List Bool}{cs ds:List C}{a b:Bool}{d us:List Value},u5 ks cs ds a=some b->aB F L cs d->aB F L ds us->ji ks d.toArray.toList us.toArray.toList a=some b:=by
 intro ks
 induction ks with
 | nil =>
  intro cs ds a b d us h h1 h2;cases cs with
  | cons c cs=>simp[u5] at h
  | nil =>
   cases ds with
   | cons c cs=>simp[u5] at h
   | nil =>
    simp only[aB] at h1 h2;subst h1 h2;simpa[ji,u5] using h
 | cons k ks j =>
  intro cs ds a b d us h h1 h2;cases cs with
  | nil=>cases k<;>simp[u5] at h
  | cons c cs =>
   cases ds with
   | nil=>cases k<;>cases c<;>simp[u5] at h
   | cons l ds =>
    cases k<;>cases c<;>try (simp[u5] at h;done)
    all_goals cases l<;>try (simp[u5] at h;done)
    all_goals simp only[aB,Rel] at h1 h2
    ·obtain⟨v,e,rfl,rfl,h1⟩:=h1;obtain⟨u,f,rfl,rfl,h2⟩:=h2;simp only[u5] at h;have:=j h h1 h2;simp only[ji];exact this
    ·obtain⟨v,e,rfl,⟨rfl,_⟩,h1⟩:=h1;obtain⟨u,f,rfl,⟨rfl,_⟩,h2⟩:=h2;simp only[u5] at h;split at h
     case h_2=>cases h
     rename_i m;have:=j h h1 h2;simp only[ji,m];exact this
theorem Sy (v:Value):Rel F L (cv v) v:=by
 unfold cv;split
 ·rename_i cs;simp only[Rel];exact⟨cs.toList,by simp,lp _⟩
 ·exact Cf v
theorem GP {x:X}{k:Nat}(h:∀j,aL F L (τ j) (ρ j)) (e:dm τ x=.mpr k):∃g cs,ev ρ x=.v (.map (some g))/\L.get k=some (.box g 0 cs):=by
 have:=eC h x;rw[e] at this;simp only[aL,Rel] at this;obtain⟨v,h1,g,cs,h2,rfl⟩:=this;exact⟨g,cs,h1,h2⟩
theorem KD (h:bT F L M) {k:Nat}{es:List (C×C)}(e:M.get k=some (.map es)):∃g a,L.get k=some (.box g 0 a)/\gb F es a:=by
 have:=h k;rw[e] at this;cases b:L.get k with
 | none=>rw[b] at this;exact this.elim
 | some o =>
  rw[b] at this;cases o with
  | row=>exact this.elim
  | box g c a=>obtain⟨rfl,h2⟩:=this;exact⟨g,a,rfl,h2⟩
theorem gb.isMap {es:List (C×C)}{a:List Value}(h:gb F es a):lK a=true:=by
 cases es with
 | nil=>simp only[gb] at h;subst h;rfl
 | cons p l =>
  obtain⟨k,c⟩:=p;simp only[gb] at h;obtain⟨kv,v,b,rfl,_⟩:=h;rfl
theorem gb.len:∀{es:List (C×C)}{a:List Value},gb F es a->a.length=es.length
 | [],a,h=>by simp only[gb] at h;subst h;rfl
 | (k,c)::l,a,h=>by
  simp only[gb] at h;obtain⟨kv,v,b,rfl,_,_,h⟩:=h;simp[gb.len h]
theorem qC {str:Bool}{a b:C}{u v:Value}{r:Bool}{L':Loc}(h:jQ str a b=some r) (c:Rel F L a u) (hb:Rel F L' b v):fA str u v=some r:=by
 unfold jQ at h;split at h
 ·simp only[Rel] at c hb;rw[c.1,hb.1];exact h
 ·simp only[Rel] at c hb;rw[c.1,hb.1];exact h
 ·cases h
theorem yB {str:Bool}{key:C}{kv:Value}(f:∀b v r,jQ str key b=some r->Rel F [] b v->fA str kv v=some r):∀{es:List (C×C)}{a:List Value}{o:Option C}(i:Nat),gb F es a->vW str key es=some o ->
  match o with | some c=>∃j v,mo str kv a i=some (some (j,v))/\Rel F [] c v | none=>mo str kv a i=some none
 | [],a,o,i,h,e=>by
  simp only[gb] at h;subst h;simp only[vW,aaO] at e;subst e;rfl
 | (k,c)::l,a,o,i,h,e=>by
  simp only[gb] at h;obtain⟨u,v,m,rfl,h1,h2,h3⟩:=h;simp only[vW] at e;split at e
  ·rename_i d;injection e with e
   subst e;exact⟨i,v,by simp only[mo,f _ _ _ d h1],h2⟩
  ·rename_i d;have:=yB f (i+1) h3 e;simp only[mo,f _ _ _ d h1];exact this
  ·cases e
theorem Ba {c:C}{v:Value}{b:Bool}(h:Rel F L c v):aL F L (.tup [c,.bool b]) (.v (.tuple #[v,.bool b])) :=
 ⟨_,rfl,by simp only[Rel,aB];exact⟨[v,.bool b],rfl,v,_,rfl,h,_,[],rfl,rfl,rfl⟩⟩
theorem GQ (h:∀j,aL F L (τ j) (ρ j)) {str:Bool}{x:X}:∀b v r,jQ str (dm τ x) b=some r->Rel F [] b v->fA str (val L ρ x) v=some r:=by
 intro b v r a hb;refine qC (F:=F) (L:=L) a ?_ hb;have:=Ch h x
 revert this
 cases c:dm τ x<;>rw[c] at a<;>cases str<;>simp only[jQ,reduceCtorEq] at a<;>simp only[C.cel]<;>exact fun h=>h
theorem WD {o:dZ}{V:C->Prop}(ht:TS G F L ρ M τ) (h:outT o M τ V):aK o F L ρ (fun sv=>∃c,aL F L c sv/\V c):=by
 have he:=ht.env;cases o<;>simp only[outT] at h<;>simp only[aK]
 case mov x=>exact⟨_,eC he x,h⟩
 case pick c a b =>
  split at h
  case h_2=>exact h.elim
  rename_i t hc;rw[jm he hc];cases t
  ·exact⟨_,eC he b,h⟩
  ·exact⟨_,eC he a,h⟩
 case build zs ps =>
  rw[fH] at h;obtain⟨cs,hc,h⟩:=u6 h;obtain⟨us,h1,h2⟩:=AZ he ps (lp zs) hc;rw[h1];exact⟨.agg cs,⟨_,rfl,by simp only[Rel];exact⟨us,rfl,h2⟩⟩,h⟩
 case load agg n x =>
  split at h
  ·rename_i k off p;obtain⟨d,_⟩:=js he p;rw[d];split at h
   case h_2=>exact h.elim
   rename_i t cs hk;obtain⟨g,ty,vs,hL,hr,an⟩:=lH ht.tl hk;split at h
   case h_2=>exact h.elim
   rename_i hl;have w:=(hr.drop off).take n;simp only[hL];rw[oU an.2.2 (jv (by rw[w.len];exact bZ hl))];exact⟨_,eT w,h⟩
  ·rename_i es off p;split at h
   case h_2=>exact h.elim
   rename_i hl;obtain⟨b,o,j,vs,d,hp,ho,hr⟩:=sK he p;have w:aB F L ((es.drop off).take n) ((vs.drop off).take n):=((hr.drop off).take n).lift;rcases d with⟨d,rfl⟩ | d
   ·rw[d];exact⟨_,by rw[w.len];exact bZ hl,.inl (lq (es:=es) hp),_,eT w,h⟩
   ·rw[d];exact⟨_,by rw[w.len];exact bZ hl,.inl (lq (es:=es) hp),_,eT w,h⟩
  ·rename_i k off p;split at h
   case h_2=>exact h.elim
   rename_i t cs hk;obtain⟨g',ty',ch,d,bt⟩:=tP he p;obtain⟨g,ty,vs,hL,hr,an⟩:=lH ht.tl hk;rw[hL] at d;injection d with d
   injection d with q1 q2 q3
   subst q1 q2 q3;split at h
   case h_2=>exact h.elim
   rename_i hl;have w:=(hr.drop off).take n;have am:((vs.drop off).take n).length=n:=by rw[w.len];exact bZ hl
   have be:∀(i:Nat) (u:Value),((vs.drop off).take n)[i]?=some u->vs[off+i]?=some u:=by
    intro i u hu;rw[abL] at hu;split at hu
    case isFalse=>cases hu
    rwa [abE] at hu
   rcases bt with e2 | ⟨b,o,j,e2,e3⟩
   ·rw[e2];exact⟨_,am,.inr (.inr (.inr ⟨k,g,ty,vs,off,hL,an.2.2,rfl,fun i u hu=>by rw[Nat.add_zero];exact be i u hu⟩)),_,eT w,h⟩
   ·injection e3 with e3
    injection e3 with e3
    injection e3 with q1 q2 q3
    subst q1 q2;rw[e2];exact⟨_,am,.inr (.inr (.inr ⟨k,g,ty,vs,o,hL,an.2.2,rfl,fun i u hu=>be i u hu⟩)),_,eT w,h⟩
  ·rename_i k j off p;split at h
   case h_2=>exact h.elim
   rename_i t sz els hk;obtain⟨es,h1,h2,h3⟩:=h;obtain⟨ad,t',av,m,c,bo,d,e2⟩:=wZ he p;obtain⟨v,xs,e3,_,hr⟩:=mM ht.tl hk;rw[e2] at e3;injection e3 with e3
   injection e3 with q1 q2 q3 q4 q5
   subst q2 q3 q5;obtain⟨vs,k1,k2,k3,k4⟩:=hr.at h1;have w:aB F L ((es.drop off).take n) ((vs.drop off).take n):=((k3.drop off).take n).lift;rw[d];refine⟨_,by rw[w.len];exact bZ h2,.inr (.inl ⟨k,_,_,_,_,_,ad,c,e2,rfl,rfl,fun i u hu=>?_⟩),_,eT w,h3⟩;rw[abL] at hu;split at hu
   case isFalse=>cases hu
   rw[abE] at hu;rw[Nat.add_assoc];exact k4 _ _ hu
  ·exact h.elim
 case loadR agg n x =>
  split at h
  ·rename_i k off p;obtain⟨d,_⟩:=js he p;rw[d];split at h
   case h_2=>exact h.elim
   rename_i t cs hk;obtain⟨g,ty,vs,hL,hr,an⟩:=lH ht.tl hk;split at h
   case h_2=>exact h.elim
   rename_i hl;have w:=(hr.drop off).take n;simp only[hL];rw[oU an.2.2 (jv (by rw[w.len];exact bZ hl))];exact⟨_,eT w,h⟩
  ·rename_i es off p;split at h
   case h_2=>exact h.elim
   rename_i hl;obtain⟨b,o,j,vs,d,hp,ho,hr⟩:=sK he p;have w:aB F L ((es.drop off).take n) ((vs.drop off).take n):=((hr.drop off).take n).lift;rcases d with⟨d,rfl⟩ | d
   ·rw[d];exact⟨_,by rw[w.len];exact bZ hl,.inl (lq (es:=es) hp),_,eT w,h⟩
   ·rw[d];exact⟨_,by rw[w.len];exact bZ hl,.inl (lq (es:=es) hp),_,eT w,h⟩
  ·rename_i k off p;split at h
   case h_2=>exact h.elim
   rename_i t cs hk;obtain⟨g',ty',ch,d,bt⟩:=tP he p;obtain⟨g,ty,vs,hL,hr,an⟩:=lH ht.tl hk;rw[hL] at d;injection d with d
   injection d with q1 q2 q3
   subst q1 q2 q3;split at h
   case h_2=>exact h.elim
   rename_i hl;have w:=(hr.drop off).take n;have am:((vs.drop off).take n).length=n:=by rw[w.len];exact bZ hl
   have be:∀(i:Nat) (u:Value),((vs.drop off).take n)[i]?=some u->vs[off+i]?=some u:=by
    intro i u hu;rw[abL] at hu;split at hu
    case isFalse=>cases hu
    rwa [abE] at hu
   rcases bt with e2 | ⟨b,o,j,e2,e3⟩
   ·rw[e2];exact⟨_,am,.inr (.inr (.inr ⟨k,g,ty,vs,off,hL,an.2.2,rfl,fun i u hu=>by rw[Nat.add_zero];exact be i u hu⟩)),_,eT w,h⟩
   ·injection e3 with e3
    injection e3 with e3
    injection e3 with q1 q2 q3
    subst q1 q2;rw[e2];exact⟨_,am,.inr (.inr (.inr ⟨k,g,ty,vs,o,hL,an.2.2,rfl,fun i u hu=>be i u hu⟩)),_,eT w,h⟩
  ·rename_i k j off p;split at h
   case h_2=>exact h.elim
   rename_i t sz els hk;obtain⟨es,h1,h2,h3⟩:=h;obtain⟨ad,t',av,m,c,bo,d,e2⟩:=wZ he p;obtain⟨v,xs,e3,_,hr⟩:=mM ht.tl hk;rw[e2] at e3;injection e3 with e3
   injection e3 with q1 q2 q3 q4 q5
   subst q2 q3 q5;obtain⟨vs,k1,k2,k3,k4⟩:=hr.at h1;have w:aB F L ((es.drop off).take n) ((vs.drop off).take n):=((k3.drop off).take n).lift;rw[d];refine⟨_,by rw[w.len];exact bZ h2,.inr (.inl ⟨k,_,_,_,_,_,ad,c,e2,rfl,rfl,fun i u hu=>?_⟩),_,eT w,h3⟩;rw[abL] at hu;split at hu
   case isFalse=>cases hu
   rw[abE] at hu;rw[Nat.add_assoc];exact k4 _ _ hu
  ·exact h.elim
 case loadD agg n x =>
  split at h
  ·rename_i k off p;obtain⟨d,_⟩:=js he p;rw[d];split at h
   case h_2=>exact h.elim
   rename_i t cs hk;obtain⟨g,ty,vs,hL,hr,an⟩:=lH ht.tl hk;split at h
   case h_2=>exact h.elim
   rename_i hl;have w:=(hr.drop off).take n;simp only[hL];rw[oU an.2.2 (jv (by rw[w.len];exact bZ hl))];exact⟨_,eT w,h⟩
  ·rename_i es off p;split at h
   case h_2=>exact h.elim
   rename_i hl;obtain⟨b,o,j,vs,d,hp,ho,hr⟩:=sK he p;have w:aB F L ((es.drop off).take n) ((vs.drop off).take n):=((hr.drop off).take n).lift;rcases d with⟨d,rfl⟩ | d
   ·rw[d];exact⟨_,by rw[w.len];exact bZ hl,.inl (lq (es:=es) hp),_,eT w,h⟩
   ·rw[d];exact⟨_,by rw[w.len];exact bZ hl,.inl (lq (es:=es) hp),_,eT w,h⟩
  ·exact h.elim
 case gload g =>
  split at h
  case h_2=>exact h.elim
  rename_i k hg;obtain⟨v,t,fr,h1,h2⟩:=JK ht.glob hg;exact⟨v,t,fr,h1,.opq k,⟨_,rfl,by simp only[Rel];exact h2⟩,h⟩
 case loadF agg n x =>
  split at h
  ·rename_i es off p;split at h
   case h_2=>exact h.elim
   rename_i hl;obtain⟨b,o,j,vs,d,hp,ho,hr⟩:=sK he p;have w:aB F L ((es.drop off).take n) ((vs.drop off).take n):=((hr.drop off).take n).lift;rcases d with⟨d,rfl⟩ | d
   ·rw[d];exact⟨_,by rw[w.len];exact bZ hl,.inl (lq (es:=es) hp),_,eT w,h⟩
   ·rw[d];exact⟨_,by rw[w.len];exact bZ hl,.inl (lq (es:=es) hp),_,eT w,h⟩
  ·exact h.elim
 case loadK key agg n x =>
  split at h
  ·rename_i k off p;obtain⟨d,_⟩:=js he p;rw[d];split at h
   case h_2=>exact h.elim
   rename_i hb;simp only[hb];split at h
   case h_2=>exact h.elim
   rename_i t cs hk;obtain⟨g,ty,vs,hL,hr,an⟩:=lH ht.tl hk;split at h
   case h_2=>exact h.elim
   rename_i hl;have w:=(hr.drop off).take n;simp only[hL];rw[oU an.2.2 (jv (by rw[w.len];exact bZ hl))];exact⟨_,eT w,h⟩
  ·exact h.elim
 case mkif t x =>
  split at h
  ·rename_i k n p;obtain⟨d,e2⟩:=gR he p;rw[d];exact⟨.ifc t (.int k n),⟨_,rfl,by simp only[Rel];exact⟨_,rfl,rfl,e2⟩⟩,h⟩
  ·rename_i b p;rw[jm he p];exact⟨.ifc t (.bool b),⟨_,rfl,by simp only[Rel];exact⟨_,rfl,rfl⟩⟩,h⟩
  ·rename_i s p;obtain⟨d,e2⟩:=wY he p;rw[d];exact⟨.ifc t (.str s),⟨_,rfl,by simp only[Rel];exact⟨_,rfl,rfl,e2⟩⟩,h⟩
  ·rename_i es off p;obtain⟨b,o,j,vs,d,hp,ho,hr⟩:=sK he p;rcases d with⟨d,rfl⟩ | d
   ·rw[d];exact⟨.ifc t (.pt es off),⟨_,rfl,by simp only[Rel];exact⟨_,rfl,b,o,vs,rfl,hp,ho,hr⟩⟩,h⟩
   ·rw[d];exact⟨.ifc t (.pt es off),⟨_,rfl,by simp only[Rel];exact⟨_,rfl,b,o+j,vs,by rw[dw],hp,ho,hr⟩⟩,h⟩
  ·rename_i cs p;split at h
   case h_2=>exact h.elim
   rename_i hp;rw[fH] at h;obtain⟨vs,d,e2⟩:=Cg he p;rw[d];exact⟨.ifc t (.agg cs),⟨_,rfl,by simp only[Rel];exact⟨_,rfl,vs,rfl,jA hp e2⟩⟩,h⟩
  ·exact h.elim
 case nilck x =>
  split at h
  ·rename_i k off p;obtain⟨d,e2⟩:=js he p;rw[d];exact⟨.own k off,⟨rfl,e2⟩,h⟩
  ·rename_i es off p;obtain⟨b,o,j,vs,d,hp,ho,hr⟩:=sK he p;rcases d with⟨d,rfl⟩ | d
   ·rw[d];exact⟨.pt es off,⟨b,o,0,vs,.inl ⟨rfl,rfl⟩,hp,ho,hr⟩,h⟩
   ·rw[d];exact⟨by simp,.pt es off,⟨b,o,j,vs,.inr rfl,hp,ho,hr⟩,h⟩
  ·rename_i k off p;obtain⟨g,t,cs,d,e2⟩:=tP he p;rcases e2 with e2 | ⟨b,o,j,e2,e3⟩
   ·rw[e2];exact⟨.ownv k off,⟨_,.inl rfl,by simp only[Rel];exact⟨g,t,cs,d,rfl⟩⟩,h⟩
   ·rw[e2];exact⟨by simp,.ownv k off,⟨_,.inr ⟨b,o,j,rfl,rfl⟩,by simp only[Rel];exact⟨g,t,cs,d,e3.symm⟩⟩,h⟩
  ·rename_i f fi ca p;obtain⟨cM,cm,d,h1,h2⟩:=u9 he p;rw[d];exact⟨.fn f fi ca,⟨_,rfl,by simp only[Rel];exact⟨cM,cm,rfl,h1,h2⟩⟩,h⟩
  ·rename_i nm c p;split at h
   case h_2=>exact h.elim
   rename_i t c;obtain⟨u,d,hr⟩:=yA he p;have db:=hr;simp only[Rel] at hr;obtain⟨u',rfl,hu⟩:=hr;rw[d];exact⟨h.1,.mval nm (.ifc t c),⟨_,rfl,by simp only[Rel];exact⟨_,rfl,_,rfl,hu⟩⟩,h.2⟩
  ·exact h.elim
 case bin op x y =>
  split at h
  ·rename_i k a k' b p hy;obtain⟨d,w1⟩:=gR he p;obtain⟨e2,w2⟩:=gR he hy;rw[d,e2];split at h
   ·rename_i bu;simp only[bu];exact Kx w1 h fun v hv hV=>⟨_,yx hv,hV⟩
   ·rename_i bu;simp only[bu];split at h
    case h_2=>exact h.elim
    rename_i hk;simp only[hk];exact II w1 h fun v hv hV=>⟨_,yx hv,hV⟩
  ·rename_i a b p hy;rw[(wY he p).1,(wY he hy).1];exact IJ h fun v hv hV=>⟨_,yx hv,hV⟩
  ·exact h.elim
 case eqB neg x y =>
  split at h
  case h_2=>exact h.elim
  rename_i a b p hy;rw[jm he p,jm he hy];exact⟨_,gI,h⟩
 case eqS neg x y =>
  have hy:isNil y=true->ev ρ y=.v (.slice none 0 0):=by
   unfold isNil;split
   ·intro _;rfl
   ·intro e;cases e
  split at h
  ·rename_i els h1 p;obtain⟨a,c,sz,d,e2,e3,e4,e5⟩:=Sw he p;rw[d,hy h1];refine⟨_,gI,h _ fun ba=>?_⟩;cases a with
   | none=>exact vv (e4 rfl).1 ba
   | some a=>rfl
  ·rename_i els h1 p;obtain⟨a,sz,d,_⟩:=Cj he p;rw[d,hy h1];exact⟨_,gI,h⟩
  ·rename_i h1 p;rw[tO he p,hy h1];exact⟨_,gI,h⟩
  ·exact h.elim
 case eqN neg x =>
  split at h
  ·rename_i t c p;obtain⟨u,d,_⟩:=NH he p;rw[d];exact⟨_,gI,h⟩
  ·rename_i k p;split at h
   case h_2=>exact h.elim
   rename_i b hb;obtain⟨v,d,h1⟩:=GL he p;rw[d];obtain⟨q1,q2⟩:=JL h1 hb;cases b with
   | true=>rw[q1 rfl];exact⟨_,gI,h⟩
   | false=>obtain⟨t,u,rfl⟩:=q2 rfl;exact⟨_,gI,h⟩
  ·exact h.elim
 case eqA neg ks x y =>
  split at h
  case h_2=>exact h.elim
  rename_i cs ds p hy;split at h
  case h_2=>exact h.elim
  rename_i b hb;obtain⟨vs,d,h1⟩:=Cg he p;obtain⟨us,e2,h2⟩:=Cg he hy;simp only[d,e2];rw[NP hb h1 h2];exact⟨_,gI,h⟩
 case un op x =>
  split at h
  ·rename_i b p;rw[jm he p];exact⟨_,gI,h⟩
  ·rename_i k n p;rw[(gR he p).1];exact⟨⟨_,mO (wf_wrap _ _),h.out⟩⟩
  ·rename_i k n p;rw[(gR he p).1];exact⟨_,mO (wf_wrap _ _),h⟩
  ·exact h.elim
 case conv k x =>
  split at h
  case h_2=>exact h.elim
  rename_i k' n p;rw[(gR he p).1];exact⟨⟨_,mO (wf_wrap _ _),h.out⟩⟩
 case mkfn f fi ca=>exact⟨.fn f _ _,⟨_,rfl,by simp only[Rel];exact⟨_,_,rfl,dV he fi,dV he ca⟩⟩,h⟩
 case slc sz x lo hi =>
  split at h
  case h_2=>exact h.elim
  rename_i els p;split at h
  case h_2=>exact h.elim
  rename_i l r hl hh;obtain⟨h1,h2,h3,h4,h5⟩:=h;obtain⟨a,c,av,d,e2,e3,e4,e5⟩:=lO he p;rw[d];simp only[GN he hl,GN he hh];refine⟨h1,h2,by omega,_,?_,h5⟩;have am:((els.drop l.toNat).take (r.toNat-l.toNat)).length=r.toNat-l.toNat:=by simp;omega
  have hs:els≠[]->av=sz:=by
   intro ba;obtain⟨es,ce⟩:=List.exists_mem_of_ne_nil _ ba;obtain⟨i,hi⟩:=abh.1 ce;obtain⟨vs,k1,_,_,k4⟩:=og.1 e5 i es hi;rw[<-k1,k4.len,h4 es ce]
  have key:=Kz (l:=l.toNat) (h:=r.toNat) e5 e4 (by omega) (by omega) e2;unfold su;have:=NN (F:=F) (L:=L) (els:=(els.drop l.toNat).take (r.toNat-l.toNat)) (a:=if c=l.toNat then a else a.map (·.add (l.toNat*sz))) (c:=c-l.toNat) (sz:=sz) (by rw[am];omega) (by rw[am];omega) ?_ ?_
  ·rw[am] at this;exact this
  ·intro hn;have ha:a=none:=by
    split at hn
    ·exact hn
    ·cases a with
     | none=>rfl
     | some a=>simp at hn
   obtain⟨q1,q2⟩:=e4 ha;subst q1;simp;omega
  ·by_cases ba:els=[]
   ·subst ba;simp only[List.drop_nil,List.take_nil,gP]
   ·rw[hs ba] at key;exact key
 case fieldA off x =>
  split at h
  ·rename_i k o p;obtain⟨d,e2⟩:=js he p;rw[d];exact⟨.own k (o+off),⟨rfl,e2⟩,h⟩
  ·rename_i es o p;obtain⟨b,q,j,vs,d,hp,ho,hr⟩:=sK he p;have bv:∀j',q+j'=q+j+off->NC F b (q+j') (o+off) vs:=by
    intro j' hj;obtain⟨bz,cc,t,fr,k1,k2,k3⟩:=hp;exact⟨bz,cc,t,fr,k1,by omega,k3⟩
   rcases d with⟨d,rfl⟩ | d
   ·rw[d];exact⟨.pt es (o+off),⟨b,q,off,vs,.inr rfl,bv _ (by omega),ho,hr⟩,h⟩
   ·rw[d];exact⟨.pt es (o+off),⟨b,q,j+off,vs,.inr rfl,bv _ (by omega),ho,hr⟩,h⟩
  ·rename_i k j o p;obtain⟨ad,t,sz,n,c,xs,d,e2⟩:=wZ he p;rw[d];exact⟨.elr k j (o+off),⟨ad,t,sz,n,c,xs,by rw[Nat.add_assoc],e2⟩,h⟩
  ·rename_i k o p;obtain⟨g,t,cs,d,e2⟩:=tP he p;rcases e2 with e2 | ⟨b,q,j,e2,e3⟩
   ·rw[e2];exact⟨.ownv k (o+off),⟨_,.inr ⟨g,o,off,rfl,rfl⟩,by simp only[Rel];exact⟨g,t,cs,d,rfl⟩⟩,h⟩
   ·rw[e2];injection e3 with e3
    injection e3 with e3
    injection e3 with e4 e5
    subst e4;exact⟨.ownv k (o+off),⟨_,.inr ⟨g,q,j+off,rfl,rfl⟩,by simp only[Rel];exact⟨g,t,cs,d,by rw[e5,Nat.add_assoc]⟩⟩,h⟩
  ·exact h.elim
 case idxA sz x i =>
  split at h
  ·rename_i els k i p hi;obtain⟨es,h1,h2,h3,h4⟩:=h;obtain⟨a,c,av,d,e2,e3,e4,e5⟩:=lO he p;rw[d,(gR he hi).1];have bp:i.toNat<els.length:=(aaT.1 h2).1;obtain⟨vs,k1,⟨ad,cc,t,fr,e,hb,cF,hv⟩,k3,k4⟩:=og.1 e5 _ _ h2;have hs:av=sz:=by rw[<-k1,k4.len,bZ h3]
   subst hs;subst e;refine⟨by simp,h1,by omega,_,KC hb cF (fun i v hi=>?_) k3 k4,h4⟩;have:=hv i v hi;simpa using this
  ·rename_i k i' i p hi;split at h
   case h_2=>exact h.elim
   rename_i t av els hk;split at h
   case h_2=>exact h.elim
   rename_i cz;have:=aaR cz;subst this;obtain⟨h1,h2,h3⟩:=h;obtain⟨a,c,t',av,n,bo,d,e2⟩:=FH he (Ci p);obtain⟨v,xs,e3,⟨_,a',c',q6,q7⟩,hr⟩:=mM ht.tl hk;rw[e2] at e3;injection e3 with e3
   injection e3 with q1 q2 q3 q4 q5
   subst q2 q3 q4;rw[d,(gR he hi).1];cases a with
   | none =>
    rw[<-q1] at q6;injection q6 with q6
    have:=q7 q6.symm;omega
   | some ad=>exact⟨by simp,h1,h2,.elr k i.toNat 0,⟨ad,_,_,_,c,_,by simp,e2⟩,h3⟩
  ·exact h.elim
 case extr x i =>
  split at h
  case h_2=>exact h.elim
  rename_i cs p;split at h
  case h_2=>exact h.elim
  rename_i v hv;obtain⟨vs,d,hr⟩:=NG he p;rw[d];have bp:i<vs.length:=by rw[hr.len];exact(aaT.1 hv).1
  simp only[aaQ bp];exact⟨_,kR (hr.at hv (aaQ bp)),h⟩
 case len x =>
  have wl:∀n:Nat,n<=maxLen->(Lit.int .i64 (n:Int)).wf=true:=by
   intro n hn;simp only[maxLen] at hn;simp[Lit.wf,IntKind.min,IntKind.max,IntKind.bits,IntKind.signed];omega
  split at h
  ·rename_i els p;obtain⟨a,c,av,d,e2,e3,e4,e5⟩:=lO he p;rw[d];exact⟨_,mO (wl _ e3),h⟩
  ·rename_i k p;split at h
   case h_2=>exact h.elim
   rename_i t av els hk;obtain⟨a,c,t',av,n,bo,d,e2⟩:=FH he (Ci p);obtain⟨v,xs,e3,⟨hm,_⟩,hr⟩:=mM ht.tl hk;rw[e2] at e3;injection e3 with e3
   injection e3 with q1 q2 q3 q4 q5
   subst q4;rw[d];exact⟨_,mO (wl _ hm),h⟩
  ·rename_i k p;obtain⟨n,h1,h2,h3⟩:=h;obtain⟨v,d,e2⟩:=GL he (NK p);obtain⟨a,c,rfl⟩:=MV e2 h1;rw[d];exact⟨_,mO (wl _ (by simpa[maxLen] using h2)),h3⟩
  ·exact h.elim
 case mlook str ok z x i =>
  split at h
  case h_2=>exact h.elim
  rename_i k p;split at h
  case h_2=>exact h.elim
  rename_i es hk;obtain⟨g,cs,d,e2⟩:=GP he p;obtain⟨g',vs,e3,hE⟩:=KD ht.tl hk;rw[e2] at e3;injection e3 with e3
  injection e3 with q1 q2 q3
  subst q1 q3;rw[d];refine⟨k,cs,e2,hE.isMap,⟨?_⟩⟩;rcases h.out with⟨c,h1,h2⟩ | ⟨h1,h2⟩
  ·obtain⟨j,v,h3,h4⟩:=yB (GQ he) 0 hE h1;refine .inl ⟨j,v,h3,?_⟩;have h5:Rel F L c v:=h4.lift;cases ok with
   | true=>exact⟨_,Ba h5,h2⟩
   | false=>exact⟨_,kR h5,h2⟩
  ·refine .inr ⟨yB (GQ he) 0 hE h1,?_⟩;have h5:Rel F L (cv z) z:=Sy z;cases ok with
   | true=>exact⟨_,Ba h5,h2⟩
   | false=>exact⟨_,Uu z,h2⟩
 case mm mx args =>
  split at h
  case h_2=>exact h.elim
  rename_i k a l hl;split at h
  case h_2=>exact h.elim
  rename_i m hm
  match args,hl with
  | x::args,hl =>
   simp only[aaZ,List.cons.injEq] at hl;obtain⟨p,rfl⟩:=hl;simp only[aaZ,(gR he p).1,Ky he mx args hm];exact⟨_,mO h.1,h.2⟩
end
theorem TL.aac (L:TL) (k:Nat) (o:TO) (j:Nat):(L.set k o).get j=if j=k then some o else L.get j:=by
 induction L with
 | nil =>
  simp only[TL.set,TL.get];cases h:Nat.beq k j with
  | true=>have:=aaR h;simp[this]
  | false=>have:=gK h;simp;omega
 | cons p l a =>
  obtain⟨i,q⟩:=p;simp only[TL.set];cases h:Nat.beq i k with
  | true =>
   have e:=aaR h;subst e;simp only[TL.get];cases h2:Nat.beq i j with
   | true=>have:=aaR h2;simp[this]
   | false=>have:=gK h2;simp;omega
  | false =>
   have b:=gK h;simp only[];cases h3:Nat.ble i k with
   | true =>
    simp only[TL.get];cases h2:Nat.beq i j with
    | true=>have:=aaR h2;simp;omega
    | false=>simpa using a
   | false =>
    simp only[TL.get];cases h2:Nat.beq k j with
    | true=>have:=aaR h2;simp[this]
    | false =>
     have:=gK h2;simp only[];rw[o5 (by omega)]
theorem TL.aah (L:TL) (k j:Nat):(L.del k).get j=if j=k then none else L.get j:=by
 induction L with
 | nil=>simp[TL.del,TL.get]
 | cons p l b =>
  obtain⟨i,q⟩:=p;simp only[TL.del];cases h:Nat.beq i k with
  | true =>
   have e:=aaR h;subst e;simp only[TL.get,b]
   by_cases a:j=i
   ·simp[a]
   ·have:Nat.beq i j=false:=by cases h2:Nat.beq i j with | true=>exact vv (aaR h2).symm a | false=>rfl
    simp[a,this]
  | false =>
   have c:=gK h;simp only[TL.get];cases h2:Nat.beq i j with
   | true=>have:=aaR h2;simp;omega
   | false=>simpa using b
theorem tT:∀(l:List TO) (k j:Nat),TL.get (qx k l) j=if k<=j then l[j-k]? else none
 | [],k,j=>by simp[qx,TL.get]
 | o::l,k,j=>by
  simp only[qx,TL.get];cases h:Nat.beq k j with
  | true=>have:=aaR h;subst this;simp
  | false =>
   have a:=gK h;simp only[tT l (k+1) j]
   by_cases h1:k<=j
   ·rw[fo (by omega),fo h1,show j-k=(j-(k+1))+1 by omega,abe]
   ·rw[o5 (by omega),o5 h1]
theorem cu (l:List TO) (j:Nat):TL.get (cO l) j=if 1000<=j then l[j-1000]? else none:=tT l 1000 j
theorem yC:∀{L:TL}{ks:List Nat}{l:List TO},L.sub ks=some l->l.length=ks.length/\∀(i:Nat) (k:Nat),ks[i]?=some k->L.get k=l[i]?
 | L,[],l,h=>by simp only[TL.sub,aaO] at h;subst h;simp
 | L,k::ks,l,h=>by
  simp only[TL.sub] at h;split at h
  case h_2=>cases h
  rename_i o d h1 h2;injection h with h
  subst h;obtain⟨a,b⟩:=yC h2;refine⟨by simp[a],fun i c hi=>?_⟩;cases i with
  | zero=>simp at hi;subst hi;simpa using h1
  | succ i=>simp at hi;simpa using b i c hi
theorem rq:∀(ks:List Nat) (L:TL) (j:Nat),(L.aaf ks).get j=if j∈ks then none else L.get j
 | [],L,j=>by simp[TL.aaf]
 | k::ks,L,j=>by
  simp only[TL.aaf,rq ks,TL.aah,aaX]
  by_cases h1:j=k<;>by_cases h2:j∈ks<;>simp[h1,h2]
theorem oq:∀(ko:List Nat) (l:List TO) (L:TL) (j:Nat),ko.Nodup->ko.length=l.length ->
  ((L.puts ko l).get j=L.get j/\j∉ko)\/∃i,ko[i]?=some j/\(L.puts ko l).get j=l[i]?/\i<l.length
 | [],l,L,j,_,h=>by
  refine .inl ⟨?_,by simp⟩;cases l<;>rfl
 | k::ko,[],L,j,_,h=>by simp at h
 | k::ko,o::l,L,j,b,h=>by
  simp only[aa8,Nat.add_right_cancel_iff] at h;rw[List.nodup_cons] at b;simp only[TL.puts];rcases oq ko l (L.set k o) j b.2 h with⟨h1,h2⟩ | ⟨i,h1,h2,h3⟩
  ·rw[TL.aac] at h1
   by_cases a:j=k
   ·subst a;rw[fo rfl] at h1;exact .inr ⟨0,by simp,by simpa using h1,by simp⟩
   ·rw[o5 a] at h1;exact .inl ⟨h1,by simp[a,h2]⟩
  ·exact .inr ⟨i+1,by simpa using h1,by simpa using h2,by simp;omega⟩
theorem qD (g:C->C):∀(L:TL) (k:Nat),(TL.aad g L).get k=(L.get k).map (TO.aad g)
 | [],k=>rfl
 | (j,o)::l,k=>by
  simp only[TL.aad,TL.get];cases h:Nat.beq j k with
  | true=>rfl
  | false=>exact qD g l k
section
variable {P:Program}{G:Nat->Option (Nat×TypeId)}{F:aA}{L:Loc}{ρ:Env}{M:TL}{τ:aG}
theorem Ck (d:Option Nat) (c:C) (τ:aG) (t:Nat):bq d c τ t=match d with | some k=>if t=k then c else τ t | none=>τ t:=by
 cases d with
 | none=>rfl
 | some k =>
  simp only[bq];cases h:Nat.beq t k with
  | true=>have:=aaR h;simp[this]
  | false=>have:=gK h;simp[this]
theorem NQ {F:aA}{L:Loc}{τ:aG}{ρ:Env}(h:∀j,aL F L (τ j) (ρ j)) {c:C}{sv:SV}(a:aL F L c sv) (d:Option Nat):∀j,aL F L (bq d c τ j) (put d sv ρ j):=by
 intro j;rw[Ck,put_eq];cases d with
 | none=>exact h j
 | some k =>
  simp only[];split
  ·exact a
  ·exact h j
theorem TS.put (a:TS G F L ρ M τ) {c:C}{sv:SV}(b:aL F L c sv) (d:Option Nat):TS G F L (put d sv ρ) M (bq d c τ):=⟨a.tl,NQ a.env b d,a.kp,a.glob⟩
theorem eD {F:aA}{L:Loc}{a:Option TO}{b:Option Own}(h:Ac F L a b):(a=none/\b=none)\/∃o p,a=some o/\b=some p/\cN F L o p:=by
 cases a<;>cases b<;>simp only[Ac] at h
 ·exact .inl ⟨rfl,rfl⟩
 ·exact .inr ⟨_,_,rfl,rfl,h⟩
theorem TS.new {F':aA}(d:F.le F') (b:TS G F L ρ M τ) {k:Nat}(l:L.get k=none) {o:Own}{to:TO}(n:cN F' (L.set k o) to o):TS G F' (L.set k o) ρ (M.set k to) τ:=by
 have a:Ext L (L.set k o):=by
  intro j p e;refine⟨p,?_,Own.aai p⟩;rw[Loc.aac,o5 (by rintro rfl;rw[l] at e;cases e)];exact e
 refine⟨fun j=>?_,fun j=>(b.env j).ext d a,fun j g t e=>?_,b.glob.mono d⟩
 ·rw[TL.aac,Loc.aac];split
  ·exact n
  ·rcases eD (b.tl j) with⟨c,f⟩ | ⟨p,q,c,f,m⟩
   ·rw[c,f];trivial
   ·rw[c,f];exact m.ext d a
 ·obtain⟨cs,h⟩:=b.kp j g t e;exact⟨cs,by rw[Loc.aac,o5 (by rintro rfl;rw[l] at h;cases h)];exact h⟩
theorem TS.mono {F':aA}(b:F.le F') (a:TS G F L ρ M τ):TS G F' L ρ M τ:=⟨a.tl.mono b,fun j=>(a.env j).mono b,a.kp,a.glob.mono b⟩
theorem TS.turn (c:TS G F L ρ M τ) {k:Nat}{o o':Own}(m:L.get k=some o) (r:Own.like o o') (b:∀g t cs,o=.box g t cs->∃cs',o'=.box g t cs') {to:TO}(u:∀L',Ext L L'->cN F L' to o') :
  TS G F (L.set k o') ρ (M.set k to) τ:=by
 have a:Ext L (L.set k o'):=by
  intro j p e;rw[Loc.aac];split
  ·rename_i d;subst d;rw[m] at e;injection e with e
   subst e;exact⟨o',rfl,r⟩
  ·exact⟨p,e,Own.aai p⟩
 refine⟨fun j=>?_,fun j=>(c.env j).ext (aA.le_refl F) a,fun j g t e=>?_,c.glob⟩
 ·rw[TL.aac,Loc.aac];split
  ·exact u _ a
  ·rcases eD (c.tl j) with⟨f,l⟩ | ⟨p,q,f,l,n⟩
   ·rw[f,l];trivial
   ·rw[f,l];exact n.ext (aA.le_refl F) a
 ·obtain⟨cs,h⟩:=c.kp j g t e;rw[Loc.aac];split
  ·rename_i d;subst d;rw[m] at h;injection h with h
   obtain⟨cs',s⟩:=b g t cs h;exact⟨cs',by rw[s]⟩
  ·exact⟨cs,h⟩
theorem ou {L':Loc}{k:Nat}(a:∀g t cs,L.get k≠some (.box g t cs)) (f:∀j,j≠k->∀o,L.get j=some o->∃o',L'.get j=some o'/\Own.like o o') {F':aA}(b:F.le F') (c:C) (v:Value) (m:c.leaf=true)
  (h:Rel F L c v):Rel F' L' (gG k c) v:=by
 cases c<;>simp only[C.leaf,aa5] at m<;>simp only[gG]
 case rw j =>
  cases l:Nat.beq j k with
  | true=>simp only[Rel]
  | false=>exact bJ b (fun d e=>by
    rcases e with⟨off,e⟩ | e | e
    ·cases e
    ·injection e with e;subst e;exact f j (gK l)
    ·cases e) rfl h
 case own j off =>
  refine bJ b (fun d e=>?_) rfl h;rcases e with⟨off,e⟩ | e | e
  ·injection e with e e2
   subst e;simp only[Rel] at h;obtain⟨g,t,cs,h1,_⟩:=h;exact f j (by rintro rfl;exact a _ _ _ h1)
  ·cases e
  ·cases e
 case elr=>exact h.elim
 case mpr j =>
  refine bJ b (fun d e=>?_) rfl h;rcases e with⟨off,e⟩ | e | e
  ·cases e
  ·cases e
  ·injection e with e
   subst e;simp only[Rel] at h;obtain⟨g,cs,h1,_⟩:=h;exact f j (by rintro rfl;exact a _ _ _ h1)
 all_goals
  exact bJ b (fun d e=>by rcases e with⟨off,e⟩ | e | e<;>cases e) rfl h
theorem pB {L':Loc}{k:Nat}(d:∀g t cs,L.get k≠some (.box g t cs)) (n:∀j,j≠k->∀o,L.get j=some o->∃o',L'.get j=some o'/\Own.like o o') {F':aA}(f:F.le F') (c:C) (sv:SV) (q:c.leaf=true)
  (h:aL F L c sv):aL F' L' (gG k c) sv:=by
 cases c<;>simp only[C.leaf,aa5] at q<;>simp only[gG]
 case rw j =>
  cases p:Nat.beq j k with
  | true=>trivial
  | false=>exact dL f (fun m e=>by
    rcases e with⟨off,e⟩ | ⟨off,e⟩ | e | ⟨a,b,e⟩ | e<;>first | cases e;done | skip
    injection e with e;subst e;exact n j (gK p)) rfl h
 case elr j a b =>
  cases p:Nat.beq j k with
  | true=>trivial
  | false=>exact dL f (fun m e=>by
    rcases e with⟨off,e⟩ | ⟨off,e⟩ | e | ⟨a,b,e⟩ | e<;>first | cases e;done | skip
    injection e with e;subst e;exact n j (gK p)) rfl h
 case own j off =>
  refine dL f (fun m e=>?_) rfl h;obtain⟨_,g,t,cs,h1⟩:=h;rcases e with⟨off,e⟩ | ⟨off,e⟩ | e | ⟨a,b,e⟩ | e<;>first | cases e;done | skip
  injection e with e
  subst e;exact n j (by rintro rfl;exact d _ _ _ h1)
 case ownv j off =>
  refine dL f (fun m e=>?_) rfl h;obtain⟨v,_,l⟩:=h;simp only[Rel] at l;obtain⟨g,t,cs,h1,_⟩:=l;rcases e with⟨off,e⟩ | ⟨off,e⟩ | e | ⟨a,b,e⟩ | e<;>first | cases e;done | skip
  injection e with e
  subst e;exact n j (by rintro rfl;exact d _ _ _ h1)
 case mpr j =>
  refine dL f (fun m e=>?_) rfl h;obtain⟨v,_,l⟩:=h;simp only[Rel] at l;obtain⟨g,cs,h1,_⟩:=l;rcases e with⟨off,e⟩ | ⟨off,e⟩ | e | ⟨a,b,e⟩ | e<;>first | cases e;done | skip
  injection e with e
  subst e;exact n j (by rintro rfl;exact d _ _ _ h1)
 all_goals
  exact dL f (fun m e=>by rcases e with⟨off,e⟩ | ⟨off,e⟩ | e | ⟨a,b,e⟩ | e<;>cases e) rfl h
theorem cN.aaz {L':Loc}{k:Nat}(a:∀g t cs,L.get k≠some (.box g t cs)) (f:∀j,j≠k->∀o,L.get j=some o->∃o',L'.get j=some o'/\Own.like o o') {F':aA}(b:F.le F'):∀{o:TO}{p:Own},cN F L o p->cN F' L' (o.aad (C.kill k)) p
 | .box t cs,.box g d e,r=>⟨r.1,r.2.map fun c _ v h=>Rel.mp (ou a f b) 3 h⟩
 | .row t sz els,.row v d l n xs,r=>⟨r.1,r.2.1,r.2.2.1,r.2.2.2.1,r.2.2.2.2.mono b⟩
 | .box _ _,.row ..,r=>r.elim
 | .row ..,.box ..,r=>r.elim
 | .map _,.row ..,r=>r.elim
 | .map es,.box g d e,r=>⟨r.1,r.2.mono b⟩
theorem TS.aaz (b:TS G F L ρ M τ) {k:Nat}{o':Own}(a:∀g t cs,L.get k≠some (.box g t cs)) {to:TO}(n:cN F (L.set k o') to o') :
  TS G F (L.set k o') ρ ((M.aad (C.kill k)).set k to) (fun j=>(τ j).kill k):=by
 have f:∀j,j≠k->∀o,L.get j=some o->∃p,(L.set k o').get j=some p/\Own.like o p:=fun j l o e=>⟨o,by rw[Loc.aac,o5 l];exact e,Own.aai o⟩;refine⟨fun j=>?_,fun j=>aL.mp (ou a f (aA.le_refl F)) (pB a f (aA.le_refl F)) 3 (b.env j),fun j g t e=>?_,b.glob⟩
 ·rw[TL.aac,Loc.aac,qD];split
  ·exact n
  ·rcases eD (b.tl j) with⟨c,d⟩ | ⟨p,q,c,d,m⟩
   ·rw[c,d];trivial
   ·rw[c,d];exact m.aaz a f (aA.le_refl F)
 ·obtain⟨cs,h⟩:=b.kp j g t e;exact⟨cs,by rw[Loc.aac,o5 (by rintro rfl;exact a _ _ _ h)];exact h⟩
theorem jE {a:Option Addr}{sz b:Nat}{els:List (List C)}(h:gP F a b 0 els) (hs:∀es∈els,es.length=sz):∃xs,xs.length=els.length*sz/\(dO F a 0 xs\/(els.length=0/\xs=[]))/\aQ F sz els xs:=by
 cases f:els with
 | nil=>exact⟨[],by simp,.inr ⟨rfl,rfl⟩,by simp only[aQ]⟩
 | cons w k =>
  rw[f] at h hs;have h0:=og.1 h 0 w (by simp);obtain⟨ac,k1,⟨e,m,t,fr,ea,hb,u,_⟩,_,k4⟩:=h0;have s:b=sz:=by rw[<-k1,k4.len,hs w (by simp)]
  subst s;subst ea;have key:∀(l:List (List C)) (i:Nat),gP F (some e) b i l->∃xs,aQ F b l xs/\∀(j:Nat) v,xs[j]?=some v->m[e.off+i*b+j]?=some v:=by
   intro l
   induction l with
   | nil=>intro i _;exact⟨[],by simp only[aQ],by simp⟩
   | cons es l ih =>
    intro i x;simp only[gP] at x;obtain⟨⟨n,z,⟨av,y,t',aw,p,c,aa,hv⟩,q3,q4⟩,q5⟩:=x;injection p with p
    subst p;rw[hb] at c;injection c with c
    injection c with r1 r2 r3
    subst r1;obtain⟨xs,o,r⟩:=ih (i+1) q5;refine⟨n++xs,by simp only[aQ];exact⟨n,xs,rfl,z,q3,q4,o⟩,fun j v d=>?_⟩
    by_cases q:j<n.length
    ·rw[abH q] at d;exact hv j v d
    ·rw[abI (by omega)] at d;have:=r _ _ d;rw[show e.off+i*b+j=e.off+(i+1)*b+(j-n.length) by rw[z,Nat.add_mul];omega];exact this
  obtain⟨xs,o,r⟩:=key (w::k) 0 h;exact⟨xs,iJ o,.inl ⟨e,m,t,fr,rfl,hb,u,fun j v d=>by have:=r j v d;simpa using this⟩,o⟩
theorem aQ.ones {sz:Nat}:∀{l:List (List C)}{xs:List Value},aQ F sz l xs->∀u∈xs,u.oneCell'=true
 | [],xs,h=>by simp only[aQ] at h;subst h;simp
 | es::l,xs,h=>by
  simp only[aQ] at h;obtain⟨c,b,rfl,h2,h3,h4,h5⟩:=h;intro u a;rcases aaV.1 a with a | a
  ·exact om h4 h3 u a
  ·exact aQ.ones h5 u a
theorem aQ.set {sz:Nat}:∀{l:List (List C)}{xs:List Value},aQ F sz l xs->∀{j:Nat}{es ds:List C}{us:List Value}{off:Nat},l[j]?=some es->off+us.length<=sz->aB F [] ds us->eW ds=true ->
  aQ F sz (l.set j (jr es off ds)) (bV xs (j*sz+off) us)
 | [],xs,h,j,es,ds,us,off,e,_,_,_=>by simp at e
 | x::l,xs,h,j,es,ds,us,off,e,m,f,h1=>by
  simp only[aQ] at h;obtain⟨b,d,rfl,h2,h3,h4,h5⟩:=h;cases j with
  | zero =>
   simp only[aa4,aaO] at e;subst e;simp only[List.set_cons_zero,aQ];refine⟨bV b off us,d,?_,?_,?_,nC h4 f,h5⟩
   ·simp only[bV,Nat.zero_mul,Nat.zero_add];rw[List.take_append_of_le_length (by omega),List.drop_append_of_le_length (by omega)];simp
   ·simp only[bV,abA,abF,List.length_drop];omega
   ·rw[oh] at h3 h1 ⊢;intro c a;simp only[jr,aaV] at a;rcases a with(a | a) | a
    ·exact h3 c (List.mem_of_mem_take a)
    ·exact h1 c a
    ·exact h3 c (List.mem_of_mem_drop a)
  | succ j =>
   simp only[List.set_cons_succ,aQ];have k:=aQ.set h5 (j:=j) (by simpa using e) m f h1;refine⟨b,_,?_,h2,h3,h4,k⟩;simp only[bV];rw[show(j+1)*sz+off=b.length+(j*sz+off) by rw[h2,Nat.add_mul];omega];rw[List.take_length_add_append,show b.length+(j*sz+off)+us.length=b.length+(j*sz+off+us.length) by omega,List.drop_length_add_append];simp[abM]
end
end Go.Fr.T
