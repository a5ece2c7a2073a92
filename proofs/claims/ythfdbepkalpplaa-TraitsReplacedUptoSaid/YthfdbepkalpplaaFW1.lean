/- Part of the proofs of the statements of this seat. -/
import Derived.Test.YthfdbepkalpplaaFW0
import Derived.Scope
set_option maxRecDepth 10000
set_option linter.unusedVariables false
set_option linter.unusedSimpArgs false
namespace Go.Fr
open Go Go.RowKit
theorem set_comm:∀(L:Loc) {k d:Nat}(o o':Own),k≠d->(L.set k o).set d o'=(L.set d o').set k o:=by
 intro L k d o o' h;have hb:Nat.beq k d=false:=by cases e:Nat.beq k d with | true=>exact o5 (aa5 e) h | false=>rfl
 have b:Nat.beq d k=false:=by cases e:Nat.beq d k with | true=>exact o5 (aa5 e).symm h | false=>rfl
 have a:∀{i j:Nat},Nat.beq i j=false->(Nat.ble i j=true/\Nat.ble j i=false)\/(Nat.ble i j=false/\Nat.ble j i=true):=by
  intro i j u;have r:=gO u;rcases Nat.lt_or_gt_of_ne r with z | aa
  ·refine .inl ⟨Nat.ble_eq_true_of_le (by omega),?_⟩;cases e:Nat.ble j i with | true=>have:=abq e;omega | false=>rfl
  ·refine .inr ⟨?_,Nat.ble_eq_true_of_le (by omega)⟩;cases e:Nat.ble i j with | true=>have:=abq e;omega | false=>rfl
 induction L with
 | nil =>
  simp only[Loc.set,hb,b];rcases a hb with⟨h1,h2⟩ | ⟨h1,h2⟩<;>simp only[h1,h2,Loc.set]
 | cons p l ih =>
  obtain⟨j,q⟩:=p;cases f:Nat.beq j k with
  | true =>
   have:=aa5 f;subst this;have c:Nat.beq j j=true:=by simp
   simp only[Loc.set,c,hb,b];rcases a hb with⟨h1,h2⟩ | ⟨h1,h2⟩
   ·simp only[h1,Loc.set,c]
   ·simp only[h1,h2,Loc.set,c,b]
  | false =>
   cases m:Nat.beq j d with
   | true =>
    have:=aa5 m;subst this;have c:Nat.beq j j=true:=by simp
    simp only[Loc.set,c,hb,b];rcases a b with⟨h1,h2⟩ | ⟨h1,h2⟩
    ·simp only[h1,Loc.set,c]
    ·simp only[h1,h2,Loc.set,c,hb]
   | false =>
    simp only[Loc.set,f,m];rcases a f with⟨a1,v⟩ | ⟨a1,v⟩<;>rcases a m with⟨n,w⟩ | ⟨n,w⟩
    ·simp only[a1,n,Loc.set,f,m,ih]
    ·simp only[a1,n,Loc.set,f,m,hb,b];have h1:Nat.ble d k=true:=by
      have x:=abq a1;have y:=abq w;exact Nat.ble_eq_true_of_le (by omega)
     simp only[h1]
    ·simp only[a1,n,Loc.set,f,m,hb,b];have h1:Nat.ble k d=true:=by
      have x:=abq n;have y:=abq v;exact Nat.ble_eq_true_of_le (by omega)
     simp only[h1]
    ·rcases a hb with⟨t,s⟩ | ⟨t,s⟩
     ·simp only[a1,n,Loc.set,f,m,hb,b,t,s]
     ·simp only[a1,n,Loc.set,f,m,hb,b,t,s]
theorem put_comm {d a:Option Nat}{v u:SV}{ρ:Env}(h:∀k,d=some k->a≠some k):put d v (put a u ρ)=put a u (put d v ρ):=by
 funext t
 simp only[put_eq];cases d with
 | none=>rfl
 | some k =>
  cases a with
  | none=>rfl
  | some b =>
   have:=h k rfl;simp only[];split<;>split
   ·rename_i h1 h2;subst h1;subst h2;exact o5 rfl this
   ·rfl
   ·rfl
   ·rfl
def cD:List X->List Nat
 | []=>[]
 | .t n::l=>n::cD l
 | .mt _ n::l=>n::cD l
 | _::l=>cD l
theorem mH:∀{l:List X}{n:Nat},X.t n∈l->n∈cD l
 | [],n,h=>by cases h
 | .t m::l,n,h=>by
  simp only[cD,abd];rcases abd.1 h with h | h
  ·injection h with h;exact .inl h
  ·exact .inr (mH h)
 | .c v::l,n,h=>by
  rcases abd.1 h with h | h
  ·cases h
  ·exact mH (l:=l) h
 | .fn f::l,n,h=>by
  rcases abd.1 h with h | h
  ·cases h
  ·exact mH (l:=l) h
 | .mt a m::l,n,h=>by
  simp only[cD,abd];rcases abd.1 h with h | h
  ·cases h
  ·exact .inr (mH h)
theorem oe:∀{l:List X}{a:String}{n:Nat},X.mt a n∈l->n∈cD l
 | [],_,n,h=>by cases h
 | .t m::l,a,n,h=>by
  simp only[cD,abd];rcases abd.1 h with h | h
  ·cases h
  ·exact .inr (oe h)
 | .c v::l,a,n,h=>by
  rcases abd.1 h with h | h
  ·cases h
  ·exact oe (l:=l) h
 | .fn f::l,a,n,h=>by
  rcases abd.1 h with h | h
  ·cases h
  ·exact oe (l:=l) h
 | .mt b m::l,a,n,h=>by
  simp only[cD,abd];rcases abd.1 h with h | h
  ·injection h with h1 h2;exact .inl h2
  ·exact .inr (oe h)
theorem ga {l:List X}{d:Option Nat}{v:SV}{ρ:Env}(h:∀k,d=some k->k∉cD l):∀x∈l,ev (put d v ρ) x=ev ρ x:=by
 intro x a;cases x with
 | t n =>
  simp only[ev,put_eq];cases d with
  | none=>rfl
  | some k =>
   simp only[];rw[fo];intro e;subst e;exact h n rfl (mH a)
 | c v=>rfl
 | fn f=>rfl
 | mt b n =>
  simp only[ev,put_eq];cases d with
  | none=>rfl
  | some k =>
   simp only[];rw[fo];intro e;subst e;exact h n rfl (oe a)
def Vd (L:Loc) (ρ:Env):Prop:=∀t k off,ρ t=.own k off->∃g ty cs,L.get k=some (.box g ty cs)
theorem Vd.ev {L:Loc}{ρ:Env}(h:Vd L ρ) {x:X}{k off:Nat}(e:Fr.ev ρ x=.own k off):∃g ty cs,L.get k=some (.box g ty cs):=by
 cases x with
 | t n=>exact h n k off e
 | c v=>cases e
 | fn f=>cases e
 | mt a n =>
  simp only[Fr.ev,UY] at e;split at e<;>cases e
def Keeps (L L':Loc):Prop:=∀k g ty cs,L.get k=some (.box g ty cs)->L'.get k=some (.box g ty cs)
theorem Keeps.refl (L:Loc):Keeps L L:=fun _ _ _ _ h=>h
theorem Keeps.trans {L L' L'':Loc}(h:Keeps L L') (a:Keeps L' L''):Keeps L L'':=fun k g ty cs e=>a k g ty cs (h k g ty cs e)
theorem ck {L:Loc}{k j:Nat}{o:Own}(h:j≠k):(L.set k o).get j=L.get j:=by rw[Loc.aap,fo h]
theorem Keeps.new {L:Loc}{k:Nat}{o:Own}(h:L.get k=none):Keeps L (L.set k o):=fun j g ty cs e=>by
 rw[ck (fun a=>by rw[a,h] at e;cases e)];exact e
theorem Keeps.row {L:Loc}{k:Nat}{v:Value}{t:TypeId}{sz n:Nat}{xs:List Value}{o:Own}(h:L.get k=some (.row v t sz n xs)):Keeps L (L.set k o):=fun j g ty cs e=>by
 rw[ck (fun a=>by rw[a,h] at e;cases e)];exact e
section
variable {P:Program}{F:aA}{L:Loc}{ρ:Env}{K:dQ}
theorem CallsA.up {f:Nat}{args:Array Value}{F F1:aA}{R:aA->List Own->Value->Prop}{Lin:List Own}(h:CallsA P f args F Lin R) (j:F.le F1) (y:tU F):CallsA P f args F1 Lin R:=by
 refine⟨h.ent,h.mono,fun w l=>?_⟩;have p:St F (inp Lin) w:=⟨fun b o e=>l.frz b o (j b o e),l.own,fun k o g e hb=>(by
  cases h1:F g with
  | none=>rfl
  | some x=>have h2:=j g x h1;rw[l.off k o g e hb] at h2;cases h2),l.sep,y⟩
 refine(h.run w p).mono ?_;rintro e w' ⟨v,F',Lo,rfl,c,a,u⟩;have m:∀b o,F1 b=some o->¬(inp Lin).owns b:=by
  rintro b o r ⟨k,o',e,hb⟩;rw[l.off k o' b e hb] at r;cases r
 have n:∀b o,F1 b=some o->w'.heap[b]?=some o:=fun b o e=>by
  have h1:=l.frz b o e;rw[a.same b (Array.getElem?_eq_some_iff.1 h1).1 (m b o e)];exact h1
 have d:F'.le (fun b=>match F' b with | some o=>some o | none=>F1 b):=fun b o e=>by simp only[e]
 refine⟨v,fun b=>match F' b with | some o=>some o | none=>F1 b,Lo,rfl,⟨fun b o e=>?_,c.own,fun k o g e hb=>?_,c.sep,tU.mono d c.glob⟩,⟨fun b o e=>?_,a.os,a.tape,a.output,a.size,a.same,fun b hb=>?_,a.own⟩,h.mono _ _ _ _ d u⟩
 ·split at e
  ·rename_i o' q;injection e with e
   subst e;exact c.frz b _ q
  ·exact n b o e
 ·have h1:=c.off k o g e hb;simp only[h1];cases h2:F1 g with
  | none=>rfl
  | some s =>
   rcases a.own g ⟨k,o,e,hb⟩ with h3 | h3
   ·exact o5 h3 (m g s h2)
   ·have:=(Array.getElem?_eq_some_iff.1 (l.frz g s h2)).1;omega
 ·cases h1:F' b with
  | none=>exact e
  | some o' =>
   have h2:=c.frz b o' h1;rw[n b o e] at h2;exact h2.symm
 ·cases h1:F' b with
  | none=>rw[h1] at hb;exact .inl hb
  | some o' =>
   rcases a.frz b (by rw[h1];simp) with h3 | h3 | h3
   ·refine .inl (fun h4=>?_);cases h5:F b with
    | none=>exact h3 h5
    | some t=>have:=j b t h5;rw[h4] at this;cases this
   ·exact .inr (.inl h3)
   ·exact .inr (.inr h3)
theorem Real.glob {F:aA}{L:Loc}(h:Real F L):tU F:=by obtain⟨w,a⟩:=h;exact a.glob
theorem Real.down {F F':aA}{L L':Loc}(h:Real F' L') (c:F.le F') (j:tU F) (f:L'.part L):Real F L:=by
 obtain⟨w,a⟩:=h;have a:=a.part f;refine⟨w,⟨fun b o e=>a.frz b o (c b o e),a.own,fun k o g e hb=>?_,a.sep,j⟩⟩;cases d:F g with
 | none=>rfl
 | some o'=>have h1:=c g o' d;rw[a.off k o g e hb] at h1;cases h1
theorem KD {L:Loc}{k:Nat}{o:Own}(h:L.get k=none):(L.set k o).part L:=fun j p e=>by
 rw[ck (fun a=>by rw[a,h] at e;cases e)];exact e
theorem Cp {L L1:Loc}{k:Nat}{o:Own}(h:L1.part L) (b:L.get k=none):(L1.set k o).part (L.set k o):=fun j p e=>by
 rw[Loc.aap] at e ⊢;split
 ·rename_i a;rw[eu a] at e;exact e
 ·rename_i a;rw[fo a] at e;exact h j p e
def Left (d:Option Nat) (L L':Loc):Prop:=L'=L\/(∃k o,d=some k/\L.get k=none/\L'=L.set k o)\/∃k a t sz n xs,L.get k=some (.row a t sz n xs)/\L'=L.set k (.row (.slice none 0 0) t sz 0 [])
theorem Left.keeps {d:Option Nat}{L L':Loc}(h:Left d L L'):Keeps L L':=by
 rcases h with rfl | ⟨k,o,_,a,rfl⟩ | ⟨k,b,t,sz,n,xs,a,rfl⟩
 ·exact Keeps.refl _
 ·exact Keeps.new a
 ·exact Keeps.row a
theorem AA {L L1:Loc}{k:Nat}{o:Own}(h:L1.part L):(L1.set k o).part (L.set k o):=fun j p e=>by
 rw[Loc.aap] at e ⊢;split
 ·rename_i a;rw[eu a] at e;exact e
 ·rename_i a;rw[fo a] at e;exact h j p e
theorem dZ.imp {f:Nat}{args:List Value}{F:aA}{L:Loc}{d:Option Nat}{K K':aA->Loc->Value->Prop}(h:dZ P f args F L d K) (l:∀F' L' v,F.le F'->Left d L L'->Real F' L'->K F' L' v->K' F' L' v):dZ P f args F L d K':=by
 cases h with
 | frz R h1 h2=>exact .frz R h1 fun v F' Lo a e=>⟨(h2 v F' Lo a e).1,fun b=>l F' L v a (.inl rfl) b ((h2 v F' Lo a e).2 b)⟩
 | own R k h1 hd j h2 =>
  refine .own R k h1 hd j fun v F' Lo a e=>?_;obtain⟨o,h3,h4⟩:=h2 v F' Lo a e;exact⟨o,h3,fun b=>l F' _ v a (.inr (.inl ⟨k,o,hd,j,rfl⟩)) b (h4 b)⟩
 | row R m p t sz n xs h1 c h2 =>
  refine .row R m p t sz n xs h1 c fun v F' Lo a e=>?_;obtain⟨h3,h4⟩:=h2 v F' Lo a e;exact⟨h3,fun b=>l F' _ v a (.inr (.inr ⟨m,p,t,sz,n,xs,c,rfl⟩)) b (h4 b)⟩
 | lent R m p t sz n xs h1 c h2=>exact .lent R m p t sz n xs h1 c fun v F' a e b=>l F' L v a (.inl rfl) b (h2 v F' a e b)
theorem dZ.up {f:Nat}{args:List Value}{F F1:aA}{L L1:Loc}{d:Option Nat}{K:aA->Loc->Value->Prop}(h:dZ P f args F L d K) (b:F.le F1) (r:tU F) (p:L1.part L) (s:∀k,d=some k->L.get k=none->L1.get k=none) :
  dZ P f args F1 L1 d (fun F' L' v=>F1.le F'/\Real F' L'/\((L'=L1/\K F' L v)\/(∃k o,d=some k/\L.get k=none/\L'=L1.set k o/\K F' (L.set k o) v)\/∃k q t sz n xs,L.get k=some (.row q t sz n xs)/\L'=L1.set k (.row (.slice none 0 0) t sz 0 [])/\K F' (L.set k (.row (.slice none 0 0) t sz 0 [])) v)):=by
 cases h with
 | frz R h1 h2 =>
  refine .frz R (h1.up b r) fun v F' Lo a l=>?_;obtain⟨h3,h4⟩:=h2 v F' Lo (aA.le_trans b a) l;exact⟨h3,fun c=>⟨a,c,.inl ⟨rfl,h4 (c.down (aA.le_refl _) c.glob p)⟩⟩⟩
 | own R k h1 hd j h2 =>
  refine .own R k (h1.up b r) hd (s k hd j) fun v F' Lo a l=>?_;obtain⟨o,h3,h4⟩:=h2 v F' Lo (aA.le_trans b a) l;exact⟨o,h3,fun c=>⟨a,c,.inr (.inl ⟨k,o,hd,j,rfl,h4 (c.down (aA.le_refl _) c.glob (Cp p j))⟩)⟩⟩
 | row R m q t sz n xs h1 e h2 =>
  refine .row R m q t sz n xs (h1.up b r) (p m _ e) fun v F' Lo a l=>?_;obtain⟨h3,h4⟩:=h2 v F' Lo (aA.le_trans b a) l;exact⟨h3,fun c=>⟨a,c,.inr (.inr ⟨m,q,t,sz,n,xs,e,rfl,h4 (c.down (aA.le_refl _) c.glob (AA p))⟩)⟩⟩
 | lent R m q t sz n xs h1 e h2 =>
  exact .lent R m q t sz n xs (h1.up b r) (p m _ e) fun v F' a l c=>⟨a,c,.inl ⟨rfl,h2 v F' (aA.le_trans b a) l (c.down (aA.le_refl _) c.glob p)⟩⟩
theorem dZ.some {f:Nat}{args:List Value}{F:aA}{L:Loc}{d:Option Nat}{K:aA->Loc->Value->Prop}(h:dZ P f args F L d K) (hr:Real F L):∃F' L' v,F.le F'/\Left d L L'/\Real F' L'/\K F' L' v:=by
 obtain⟨w,s⟩:=hr;have y:St F (inp []) w:=⟨s.frz,fun k o e=>(by cases e),fun k o g e=>(by cases e),fun k k' o o' g e=>(by cases e),s.glob⟩;cases h with
 | frz R h1 h2 =>
  obtain⟨e,w',fr,⟨v,F',Lo,_,l,b,u⟩,_⟩:=h1.run w y [];obtain⟨rfl,h3⟩:=h2 v F' Lo b.le u;have a:Real F' L:=⟨w',(gF (ks:=[]) (ko:=[]) s rfl List.nodup_nil List.nodup_nil (fun _ h=>(by cases h)) l b rfl).1⟩;exact⟨F',L,v,b.le,.inl rfl,a,h3 a⟩
 | own R k h1 hd x h2 =>
  obtain⟨e,w',fr,⟨v,F',Lo,_,l,b,u⟩,_⟩:=h1.run w y [];obtain⟨o,rfl,h3⟩:=h2 v F' Lo b.le u;have a:Real F' (L.set k o):=⟨w',(gF (ks:=[]) (ko:=[k]) s rfl List.nodup_nil (by simp) (fun j r=>.inr (by simp at r;rw[r];exact x)) l b rfl).1⟩;exact⟨F',_,v,b.le,.inr (.inl ⟨k,o,hd,x,rfl⟩),a,h3 a⟩
 | row R q z t sz n xs h1 m h2 =>
  have c:L.sub [q]=Option.some [.row z t sz n xs]:=by simp only[Loc.sub,m]
  obtain⟨e,w',fr,⟨v,F',Lo,_,l,b,u⟩,_⟩:=h1.run w (s.handed c (by simp)) [];obtain⟨rfl,h3⟩:=h2 v F' Lo b.le u;have hb:=(gF (ks:=[q]) (ko:=[]) s c (by simp) List.nodup_nil (fun _ h=>(by cases h)) l b rfl).1;have a:Real F' (L.set q (.row (.slice none 0 0) t sz 0 [])):=by
   have h5:((L.aas [q]).puts [] []).get q=none:=by simp only[Loc.aas,Loc.puts,Loc.aau,eu]
   have h6:=hb.put h5 (o:=.row (.slice none 0 0) t sz 0 []) (World.ownsRow_nil w' 0 t sz) (fun g hg=>by cases hg);refine⟨w',h6.part fun j p e=>?_⟩;rw[Loc.aap] at e ⊢;split at e
   ·rename_i r;rw[eu r];exact e
   ·rename_i r;rw[fo r];simp only[Loc.aas,Loc.puts,Loc.aau,fo r];exact e
  exact⟨F',_,v,b.le,.inr (.inr ⟨q,z,t,sz,n,xs,m,rfl⟩),a,h3 a⟩
 | lent R q z t sz n xs h1 m h2 =>
  have c:L.sub [q]=Option.some [.row z t sz n xs]:=by simp only[Loc.sub,m]
  obtain⟨e,w',fr,⟨v,F',Lo,_,l,b,⟨rfl,u⟩⟩,_⟩:=h1.run w (s.handed c (by simp)) [];have hb:=(gF (ks:=[q]) (ko:=[q]) s c (by simp) (by simp) (fun _ h=>.inl h) l b rfl).1;have a:Real F' L:=by
   refine⟨w',hb.part fun j p e=>?_⟩;simp only[Loc.aas,Loc.puts,Loc.aap,Loc.aau];split
   ·rename_i r;rw[r,m] at e;exact e
   ·exact e
  exact⟨F',L,v,b.le,.inl rfl,a,h2 v F' b.le u a⟩
theorem qw.imp {F F':aA}{L:Loc}{d:Option Nat}{e sz b:Nat}{s x:Value}{K K':Loc->Value->Prop}(h:qw F L d e sz b s x K) (l:F.le F')
  (r:∀f n xs o j v,(L.get f=some (.row s e sz n xs)\/(d=some f/\L.get f=none))->Real F' (L.set f (.row v e sz o j))->(Real F (L.set f (.row v e sz o j))->K (L.set f (.row v e sz o j)) v)->K' (L.set f (.row v e sz o j)) v):qw F' L d e sz b s x K':=by
 obtain⟨f,n,xs,m,k,h1,⟨p,c,h2,h3,h4⟩,h5,h6,w,h8⟩:=h;refine⟨f,n,xs,m,k,?_,⟨p,c,h2,h3,?_⟩,h5,h6,w,fun v q u=>r f n xs _ _ v ?_ u (h8 v q)⟩
 ·rcases h1 with h1 | h1 | ⟨h1,a,p,z,q2,y,t⟩
  ·exact .inl h1
  ·exact .inr (.inl h1)
  ·exact .inr (.inr ⟨h1,a,p,z,q2,y,t.imp (·.mono l) id⟩)
 ·rcases h4 with h4 | h4
  ·exact .inl (h4.mono l)
  ·exact .inr h4
 ·rcases h1 with h1 | ⟨h1,a,_⟩ | ⟨h1,a,_⟩
  ·exact .inl h1
  ·exact .inr ⟨h1,a⟩
  ·exact .inr ⟨h1,a⟩
theorem IY {L L1:Loc}{k:Nat}{o:Own}(h:L1.part L):(L1.set k o).part (L.set k o):=fun j p e=>by
 rw[Loc.aap] at e ⊢;split
 ·rename_i a;rw[eu a] at e;exact e
 ·rename_i a;rw[fo a] at e;exact h j p e
theorem DU {e sz b:Nat}{zs:List Value}{s x:X}{d:Option Nat}:evalOp P (.appD e sz b zs s x) d F L ρ K=(match ev ρ s,ev ρ x with
  | .v sv,.v a=>qw F L d e sz b sv a fun L1 v=>K F L1 (put d (.v v) ρ)
  | _,_=>False):=rfl
theorem Real.store {F:aA}{L:Loc}{k g:Nat}{t:TypeId}{cs cs':List Value}(c:t≠0) (m:Real F L) (j:L.get k=Option.some (.box g t cs)):Real F (L.set k (.box g t cs')):=by
 obtain⟨w,l⟩:=m;have a:=ug w g cs'.toArray;refine⟨w.setRow g cs'.toArray,l.turn j ?_ (fun b h f=>a.block b h (fun e=>f (by rw[e];rfl))) (fun n d=>.inl d)⟩;show _=_;have h0:w.heap[g]?=Option.some (.cells cs.toArray t (0,0)):=by rw[<-jG c];exact l.own k _ j
 rw[jG c];exact setRow_heap w g cs.toArray _ t _ h0
theorem qw.some {F:aA}{L:Loc}{d:Option Nat}{e sz b:Nat}{s x:Value}{K:Loc->Value->Prop}(h:qw F L d e sz b s x K) (hr:Real F L) :
  ∃f v n' r,((∃n xs,L.get f=some (.row s e sz n xs))\/(d=some f/\L.get f=none))/\Real F (L.set f (.row v e sz n' r))/\K (L.set f (.row v e sz n' r)) v:=by
 obtain⟨f,n,xs,m,a,h1,⟨ad,c,h2,h3,h4⟩,h5,h6,h7,h8⟩:=h;obtain⟨w,hs⟩:=hr;have o:xs.length=n*sz:=by
  rcases h1 with h1 | ⟨_,_,rfl,rfl,_⟩ | ⟨_,_,_,_,_,q,_⟩
  ·exact(hs.own f _ h1).1
  ·simp
  ·exact q
 have u:=lU w (xs++a) e (n+m) sz h6 (by rw[abP,o,h3,Nat.add_mul]);have z:St F (L.del f) w:=hs.part (fun j p e=>by rw[Loc.aau] at e;split at e;cases e;exact e);have aa:(L.del f).get f=none:=by rw[Loc.aau,eu rfl]
 have ab:=(kJ z aa (cs:=(xs++a).toArray) (t:=e) (e:=.row (.slice (Option.some ⟨w.heap.size,0,none⟩) (n+m) (n+m)) e sz (n+m) (xs++a)) rfl u).1;have k:Real F (L.set f (.row (.slice (Option.some ⟨w.heap.size,0,none⟩) (n+m) (n+m)) e sz (n+m) (xs++a))) :=
  ⟨_,ab.part (fun j p e=>by
   rw[Loc.aap] at e ⊢;split
   ·rename_i y;rw[eu y] at e;exact e
   ·rename_i y;rw[fo y] at e;rw[Loc.aau,fo y];exact e)⟩
 refine⟨f,_,n+m,xs++a,?_,k,h8 _ ⟨_,_,rfl,fun e=>(by cases e)⟩ k⟩;rcases h1 with h1 | ⟨h1,l,_⟩ | ⟨h1,l,_⟩
 ·exact .inl ⟨n,xs,h1⟩
 ·exact .inr ⟨h1,l⟩
 ·exact .inr ⟨h1,l⟩
def IZ (o:eI):Bool:=dm o||iw o||eU o||qk o
def okD (o:eI):Bool:=IZ o||iU o
theorem vI {o:eI}{d:Option Nat}{v:SV}(h:∀k,d=some k->k∉cD (bI o)):Alike o L L ρ (put d v ρ) :=
 fun x a=>⟨ga h x a,fun _ _ _=>rfl⟩
theorem yu {o:eI}(ho:okD o=true) {d w:Option Nat}{u:SV}(h:∀k,w=some k->k∉cD (bI o)) (hd:∀k,d=some k->w≠some k)
  (c:evalOp P o d F L ρ (fun F1 L1 ac=>K F1 L1 (put w u ac))):evalOp P o d F L (put w u ρ) K:=by
 by_cases z:dm o=true
 ·rw[cA z] at c ⊢;have:=rI z (aA.le_refl F) (vI (L:=L) (ρ:=ρ) (v:=u) h) c;refine(fI z).mono _ _ (fun v q=>?_) this;rw[put_comm hd];exact q
 ·have q:∀x∈bI o,val L (put w u ρ) x=val L ρ x:=fun x hx=>by simp only[val,ga h x hx]
  cases o<;>first | (exfalso;revert z ho;simp[okD,IZ,dm,iw,eU,qk,iU];done) | skip
  case boxD t x =>
   have e:=q x (by simp[bI]);simp only[evalOp,e] at c ⊢;split at c
   ·rename_i k;split at c
    ·intro g p;have:=c g p;rw[put_comm hd];exact this
    ·exact c
   ·exact c
  case allocD t zs =>
   simp only[evalOp] at c ⊢;split at c
   ·rename_i k;split at c
    ·intro g p;have:=c g p;rw[put_comm hd];exact this
    ·exact c
   ·exact c
  case mkFD e n sz xs =>
   have m:=nH (sz:=sz) (xs:=xs) q;have y:=cB (xs:=xs) q;simp only[evalOp,m,y] at c ⊢;split at c
   ·intro g F' aa hg p;rw[put_comm hd];exact c g F' aa hg p
   ·exact c
  case callD f args =>
   have m:=dJ (xs:=args) q;simp only[evalOp,m] at c ⊢;refine c.imp fun F' L' v _ _ _ h=>?_;rw[put_comm hd];exact h
  case callVD f args =>
   have r:=ga (v:=u) (ρ:=ρ) h f (by simp[bI]);have m:=dJ (xs:=args) (L:=L) (L':=L) (ρ:=ρ) (ρ':=put w u ρ) (fun x hx=>q x (by simp[bI,hx]));simp only[evalOp,r,m] at c ⊢;split at c
   ·refine c.imp fun F' L' v _ _ _ h=>?_;rw[put_comm hd];exact h
   ·exact c
  case appD e sz b zs s x =>
   have r:=ga (v:=u) (ρ:=ρ) h s (by simp[bI]);have m:=ga (v:=u) (ρ:=ρ) h x (by simp[bI]);simp only[evalOp,r,m] at c ⊢;split at c
   ·refine c.imp (aA.le_refl F) fun kd n xs n' ao v _ p h=>?_;rw[put_comm hd];exact h p
   ·exact c
  case makeSD e sz n zs =>
   simp only[evalOp] at c ⊢;split at c
   ·rename_i k;split at c
    ·intro g p;have:=c g p;rw[put_comm hd];exact this
    ·exact c
   ·exact c
  case makeSV e sz b zs x =>
   have m:=q x (by simp[bI]);simp only[evalOp,m] at c ⊢;split at c
   ·rename_i k;split at c
    ·intro g p;have:=c g p;rw[put_comm hd];exact this
    ·exact c
   ·exact c
  case storeD n a x =>
   obtain⟨n',a',x',k,off,g,t,cs,j,m,y,e3,e4,e5,c⟩:=iV rfl c;have r:=ga (v:=u) (ρ:=ρ) h a (by simp[bI]);have l:=q x (by simp[bI]);rcases j with j | j
   ·injection j with q1 q2 q3
    subst q1 q2 q3;exact iK (.inl rfl) (by rw[l];exact m) (by rw[l];exact y) (by rw[r];exact e3) e4 e5 (by rw[l,put_comm hd];exact c)
   ·cases j
  case storeK key n a x =>
   obtain⟨n',a',x',k,off,g,t,cs,j,m,y,e3,e4,e5,c⟩:=iV rfl c;have r:=ga (v:=u) (ρ:=ρ) h a (by simp[bI]);have l:=q x (by simp[bI]);rcases j with j | j
   ·cases j
   ·injection j with q0 q1 q2 q3
    subst q0 q1 q2 q3;exact iK (.inr rfl) (by rw[l];exact m) (by rw[l];exact y) (by rw[r];exact e3) e4 e5 (by rw[l,put_comm hd];exact c)
def vJ:eI->eI->Bool
 | .build _ _,_=>true
 | .mkfn _ _ _,_=>true
 | .loadK k _ _ _,.storeK a _ _ _=>match Nat.beq k a with | true=>false | false=>true
 | x,_=>DS x
theorem sJ {x y:eI}(h:vJ x y=true):dm x=true:=by
 unfold vJ at h;split at h
 ·rfl
 ·rfl
 ·rfl
 ·exact DT h
theorem Bl {x y:eI}{k n:Nat}{a z:X}{L L':Loc}{V:SV->Prop}(h:vJ x y=true) (d:y=.storeD n a z\/y=.storeK k n a z) (o:∀sv,conc L' sv=conc L sv) (s:∀j,j≠k->L'.get j=L.get j) (c:aM x F L ρ V):aM x F L' ρ V:=by
 unfold vJ at h;split at h
 ·rename_i zs ps;have e:=qG (ps:=ps) (zs:=zs) (L:=L) (L':=L') (ρ:=ρ) (ρ':=ρ) (fun p _=>o _);simp only[aM,e] at c ⊢;exact c
 ·rename_i f a b;have q:=dJ (xs:=a) (L:=L) (L':=L') (ρ:=ρ) (ρ':=ρ) (fun _ _=>o _);have r:=dJ (xs:=b) (L:=L) (L':=L') (ρ:=ρ) (ρ':=ρ) (fun _ _=>o _);simp only[aM,q,r] at c ⊢;exact c
 ·rename_i k1 u m x v m2 t w;rcases d with d | d
  ·cases d
  ·injection d with q0 q1 q2 q3
   subst q0;split at h
   ·cases h
   ·rename_i hb;have hb:=gO hb;simp only[aM] at c ⊢;split at c
    ·rename_i k3 off e;split at c
     ·rename_i l;have l:=aa5 l;subst l;simp only[s _ hb];exact c
     ·exact c.elim
    ·exact c.elim
 ·exact Bj h c
theorem DV {L:Loc}{k g:Nat}{t:TypeId}{cs cs':List Value}(b:L.get k=some (.box g t cs)) (sv:SV):conc (L.set k (.box g t cs')) sv=conc L sv:=by
 cases sv with
 | v u=>rfl
 | el a j=>rfl
 | own j off =>
  simp only[conc,Loc.aap]
  by_cases e:j=k
  ·subst e;rw[eu rfl,b]
  ·rw[fo e]
def yw (x y:eI):Bool:=(dm x&&IZ y&&(!Kz x||dm y))||(iw x&&eU y)||(qk x&&eU y)||(eU x&&eU y)||(vJ x y&&iU y)||(iU x&&vJ y x)
inductive Made:eI->Option Nat->aA->Loc->Env->aA->Loc->SV->Prop
 | box {t:TypeId}{x:X}{k:Nat}{F:aA}{L:Loc}{ρ:Env}(g:Nat):Made (.boxD t x) (some k) F L ρ F (L.set k (.box g t (aO (val L ρ x)))) (.own k 0)
 | alloc {t:TypeId}{zs:List Value}{k:Nat}{F:aA}{L:Loc}{ρ:Env}(g:Nat):Made (.allocD t zs) (some k) F L ρ F (L.set k (.box g t zs)) (.own k 0)
 | mkS {e:TypeId}{sz n:Nat}{zs:List Value}{k:Nat}{F:aA}{L:Loc}{ρ:Env}(g:Nat):Made (.makeSD e sz n zs) (some k) F L ρ F (L.set k (.row (.slice (some ⟨g,0,none⟩) n n) e sz n (List.replicate n zs).flatten)) (.v (.slice (some ⟨g,0,none⟩) n n))
 | mkV {e:TypeId}{sz b:Nat}{zs:List Value}{x:X}{k:Nat}{F:aA}{L:Loc}{ρ:Env}(g n:Nat) (hn:n=mD (val L ρ x)):Made (.makeSV e sz b zs x) (some k) F L ρ F (L.set k (.row (.slice (some ⟨g,0,none⟩) n n) e sz n (List.replicate n zs).flatten)) (.v (.slice (some ⟨g,0,none⟩) n n))
 | mkF {e:TypeId}{n sz:Nat}{xs:List X}{d:Option Nat}{F:aA}{L:Loc}{ρ:Env}(g:Nat) (F':aA) (hle:F.le F') (hg:F' g=some (.cells (cellsOf L ρ xs).toArray e (0,0))) :
   Made (.mkFD e n sz xs) d F L ρ F' L (.v (.slice (some ⟨g,0,none⟩) n n))
def bN:eI->Option Nat->Loc->Env->Bool
 | .boxD _ _,some k,L,_=>(L.get k).isNone
 | .allocD _ _,some k,L,_=>(L.get k).isNone
 | .makeSD _ sz n zs,some k,L,_=>match L.get k,iD zs sz,Nat.ble n 9223372036854775807 with | none,true,true=>true | _,_,_=>false
 | .makeSV _ sz b zs x,some k,L,ρ=>match L.get k,iD zs sz,tY b (val L ρ x) with | none,true,true=>true | _,_,_=>false
 | .mkFD _ _ sz xs,_,L,ρ=>gC L ρ sz xs
 | _,_,_,_=>false
theorem bT {o:eI}(h:eU o=true) {d:Option Nat}:evalOp P o d F L ρ K↔bN o d L ρ=true/\∀F' L' v,Made o d F L ρ F' L' v->Real F' L'->K F' L' (put d v ρ):=by
 cases o<;>first | (exfalso;revert h;simp[eU];done) | skip
 case boxD t x =>
  simp only[evalOp];cases d with
  | none=>simp[bN]
  | some k =>
   simp only[bN];cases j:L.get k with
   | none =>
    simp only[Option.isNone_none,true_and];constructor
    ·rintro h F' L' v c a;cases c with
     | box g=>exact h g a
    ·intro h g a;exact h _ _ _ (.box g) a
   | some p=>simp
 case allocD t zs =>
  simp only[evalOp];cases d with
  | none=>simp[bN]
  | some k =>
   simp only[bN];cases j:L.get k with
   | none =>
    simp only[Option.isNone_none,true_and];constructor
    ·rintro h F' L' v c a;cases c with
     | alloc g=>exact h g a
    ·intro h g a;exact h _ _ _ (.alloc g) a
   | some p=>simp
 case makeSD e sz n zs =>
  simp only[evalOp];cases d with
  | none=>simp[bN]
  | some k =>
   simp only[bN];cases j:L.get k with
   | some p=>simp
   | none =>
    cases h1:iD zs sz with
    | false=>simp
    | true =>
     cases h2:Nat.ble n 9223372036854775807 with
     | false=>simp
     | true =>
      simp only[true_and];constructor
      ·rintro h F' L' v c a;cases c with
       | mkS g=>exact h g a
      ·intro h g a;exact h _ _ _ (.mkS g) a
 case makeSV e sz b zs x =>
  simp only[evalOp];cases d with
  | none=>simp[bN]
  | some k =>
   simp only[bN];cases j:L.get k with
   | some p=>simp
   | none =>
    cases h1:iD zs sz with
    | false=>simp
    | true =>
     cases h2:tY b (val L ρ x) with
     | false=>simp
     | true =>
      simp only[true_and];constructor
      ·rintro h F' L' v c a;cases c with
       | mkV g n m=>subst m;exact h g a
      ·intro h g a;exact h _ _ _ (.mkV g _ rfl) a
 case mkFD e n sz xs =>
  simp only[evalOp,bN];cases q:gC L ρ sz xs with
  | false=>simp
  | true =>
   simp only[true_and];constructor
   ·rintro h F' L' v c a;cases c with
    | mkF g F' f l=>exact h g _ f l a
   ·intro h g F' f l a;exact h _ _ _ (.mkF g F' f l) a
theorem Cq:∀{l:List Value}{n:Nat},l.length=n->iD l n=true
 | [],0,_=>rfl
 | _::l,n+1,h=>Cq (l:=l) (by simpa using h)
theorem og {e:TypeId}{sz n k:Nat}{zs:List Value}(h:bN (.makeSD e sz n zs) (some k) L ρ=true):L.get k=none/\zs.length=sz/\n<=maxLen:=by
 simp only[bN] at h;split at h
 ·rename_i h1 h2 h3;exact⟨h1,jY h2,abq h3⟩
 ·cases h
theorem oh {e:TypeId}{sz b k:Nat}{zs:List Value}{x:X}(h:bN (.makeSV e sz b zs x) (some k) L ρ=true):L.get k=none/\zs.length=sz/\mD (val L ρ x)<=maxLen/\tY b (val L ρ x)=true:=by
 simp only[bN] at h;split at h
 ·rename_i h1 h2 h3;exact⟨h1,jY h2,II h3,h3⟩
 ·cases h
theorem Bm {o:eI}{d:Option Nat}(r:Real F L) (h:bN o d L ρ=true):∃F' L' v,Made o d F L ρ F' L' v/\F.le F'/\Real F' L':=by
 obtain⟨w,j⟩:=r;have f:∀(e:TypeId) (cs:List Value),∃F',F.le F'/\F' w.heap.size=some (.cells cs.toArray e (0,0))/\Real F' L:=by
  intro e cs;have c:=iI w (.cells cs.toArray e);obtain⟨hf,q⟩:=ud j;exact⟨_,aA.aaI (j.alloc (.cells cs.toArray e)) c,eu rfl,⟨_,(j.alloc (.cells cs.toArray e)).freeze c q⟩⟩
 cases o<;>cases d<;>simp only[bN] at h<;>try (cases h;done)
 ·rename_i t x k;rw[Option.isNone_iff_eq_none] at h;refine⟨_,_,_,.box w.heap.size,aA.le_refl F,⟨_,(mE j h (ob:=nP t (aO (val L ρ x))) (e:=.box w.heap.size t (aO (val L ρ x))) rfl ?_).1⟩⟩;show _=_;rw[iI]
 ·rename_i t zs k;rw[Option.isNone_iff_eq_none] at h;refine⟨_,_,_,.alloc w.heap.size,aA.le_refl F,⟨_,(mE j h (ob:=nP t zs) (e:=.box w.heap.size t zs) rfl ?_).1⟩⟩;show _=_;rw[iI]
 ·rename_i e n sz xs;obtain⟨F',h1,h2,h3⟩:=f e (cellsOf L ρ xs);exact⟨F',L,_,.mkF w.heap.size F' h1 h2,h1,h3⟩
 ·rename_i e n sz xs k;obtain⟨F',h1,h2,h3⟩:=f e (cellsOf L ρ xs);exact⟨F',L,_,.mkF w.heap.size F' h1 h2,h1,h3⟩
 ·rename_i e sz n zs k;obtain⟨l,p,m⟩:=og (ρ:=ρ) (e:=e) h;have a:=lU w (List.replicate n zs).flatten e n sz m (by rw[List.length_flatten];simp[p]);refine⟨_,_,_,.mkS w.heap.size,aA.le_refl F,⟨_,(kJ j l (cs:=((List.replicate n zs).flatten).toArray) (t:=e) (e:=.row (.slice (some ⟨w.heap.size,0,none⟩) n n) e sz n (List.replicate n zs).flatten) rfl a).1⟩⟩
 ·rename_i e sz b zs x k;obtain⟨l,p,m,_⟩:=oh (e:=e) h;have a:=lU w (List.replicate (mD (val L ρ x)) zs).flatten e (mD (val L ρ x)) sz m (by rw[List.length_flatten];simp[p]);refine⟨_,_,_,.mkV w.heap.size _ rfl,aA.le_refl F,⟨_,(kJ j l (cs:=((List.replicate (mD (val L ρ x)) zs).flatten).toArray) (t:=e) (e:=.row (.slice (some ⟨w.heap.size,0,none⟩) (mD (val L ρ x)) (mD (val L ρ x))) e sz (mD (val L ρ x)) (List.replicate (mD (val L ρ x)) zs).flatten) rfl a).1⟩⟩
theorem Made.le {o:eI}{d:Option Nat}{F':aA}{L':Loc}{v:SV}(h:Made o d F L ρ F' L' v):F.le F':=by
 cases h with
 | box g=>exact aA.le_refl _
 | alloc g=>exact aA.le_refl _
 | mkS g=>exact aA.le_refl _
 | mkV g n c=>exact aA.le_refl _
 | mkF g F' a b=>exact a
theorem Made.part {o:eI}{d:Option Nat}{F':aA}{L':Loc}{v:SV}(a:bN o d L ρ=true) (h:Made o d F L ρ F' L' v):L'.part L:=by
 intro j p e;cases h with
 | box g =>
  simp only[bN,Option.isNone_iff_eq_none] at a;rw[ck (fun h=>by rw[h] at e;rw[a] at e;cases e)];exact e
 | alloc g =>
  simp only[bN,Option.isNone_iff_eq_none] at a;rw[ck (fun h=>by rw[h] at e;rw[a] at e;cases e)];exact e
 | mkS g =>
  have a:=(og a).1;rw[ck (fun h=>by rw[h] at e;rw[a] at e;cases e)];exact e
 | mkV g n c =>
  have a:=(oh a).1;rw[ck (fun h=>by rw[h] at e;rw[a] at e;cases e)];exact e
 | mkF g F' b f=>exact e
theorem Made.get {o:eI}{d:Option Nat}{F':aA}{L':Loc}{v:SV}(a:bN o d L ρ=true) (h:Made o d F L ρ F' L' v):Keeps L L':=by
 cases h with
 | box g =>
  simp only[bN,Option.isNone_iff_eq_none] at a;exact Keeps.new a
 | alloc g =>
  simp only[bN,Option.isNone_iff_eq_none] at a;exact Keeps.new a
 | mkS g=>exact Keeps.new (og a).1
 | mkV g n e=>exact Keeps.new (oh a).1
 | mkF g F' b c=>exact Keeps.refl _
theorem Made.frame {o:eI}{d:Option Nat}{F':aA}{L':Loc}{v:SV}(h:Made o d F L ρ F' L' v):∀j,d≠some j->L'.get j=L.get j:=by
 intro j a;cases h with
 | box g=>exact ck (fun e=>a (by rw[e]))
 | alloc g=>exact ck (fun e=>a (by rw[e]))
 | mkS g=>exact ck (fun e=>a (by rw[e]))
 | mkV g n c=>exact ck (fun e=>a (by rw[e]))
 | mkF g F' b f=>rfl
theorem iW {o:eI}{d:Option Nat}{L L':Loc}{ρ ρ':Env}(c:∀x∈bI o,val L' ρ' x=val L ρ x) (a:∀k,d=some k->(L'.get k=none->L.get k=none)) (h:bN o d L' ρ'=true):bN o d L ρ=true:=by
 cases o<;>cases d<;>simp only[bN] at h ⊢<;>try (cases h;done)
 ·rename_i t x k;rw[Option.isNone_iff_eq_none] at h ⊢;exact a k rfl h
 ·rename_i t zs k;rw[Option.isNone_iff_eq_none] at h ⊢;exact a k rfl h
 ·rename_i e n sz xs;rw[<-nH (xs:=xs) c];exact h
 ·rename_i e n sz xs k;rw[<-nH (xs:=xs) c];exact h
 ·rename_i e sz n zs k;obtain⟨h1,h2,h3⟩:=og (L:=L') (ρ:=ρ') (e:=e) h;have h3:Nat.ble n 9223372036854775807=true:=Nat.ble_eq_true_of_le h3;rw[a k rfl h1,Cq h2,h3]
 ·rename_i e sz b zs x k;obtain⟨h1,h2,_,h3⟩:=oh (L:=L') (ρ:=ρ') (e:=e) h;rw[c x (by simp[bI])] at h3;rw[a k rfl h1,Cq h2,h3]
theorem Made.like {o:eI}{d:Option Nat}{ρ ρ':Env}{F':aA}{L':Loc}{v:SV}(a:∀x∈bI o,val L ρ' x=val L ρ x) (h:Made o d F L ρ' F' L' v):Made o d F L ρ F' L' v:=by
 cases h with
 | box g=>rw[a _ (by simp[bI])];exact .box g
 | alloc g=>exact .alloc g
 | mkS g=>exact .mkS g
 | mkV g n e=>exact .mkV g n (by rw[e,a _ (by simp[bI])])
 | mkF g F' b c =>
  rename_i xs;rw[cB (xs:=xs) a] at c;exact .mkF g F' b c
theorem gb {L L':Loc}{ρ:Env}(b:Vd L ρ) (c:Keeps L L') (x:X):val L' ρ x=val L ρ x:=by
 simp only[val];cases e:ev ρ x with
 | v u=>rfl
 | el a j=>rfl
 | own k off =>
  obtain⟨g,ty,cs,h⟩:=b.ev e;simp only[conc,c k g ty cs h,h]
theorem cW {l:List X}{d:Option Nat}{v:SV}(h:∀k,d=some k->k∉cD l):∀x∈l,val L (put d v ρ) x=val L ρ x:=fun x a=>by simp only[val,ga h x a]
theorem I0 {x y:eI}{dx dy:Option Nat}{F1 F2:aA}{L1 L2:Loc}{v1 v2:SV}(r:bN x dx L ρ=true) (aw:bN y dy L ρ=true) (d:∀k,dx=some k->k∉cD (bI y)) (aE:∀k,dy=some k->k∉cD (bI x))
  (c:∀k,dx=some k->dy≠some k) (h:Vd L ρ) (h1:Made y dy F L ρ F1 L1 v1) (h2:Made x dx F1 L1 (put dy v1 ρ) F2 L2 v2) :
  ∃Fa La,Made x dx F L ρ Fa La v2/\Made y dy Fa La (put dx v2 ρ) F2 L2 v1:=by
 have ux:∀z∈bI x,val L1 (put dy v1 ρ) z=val L ρ z:=fun z hz=>by
  rw[cW aE z hz,gb h (h1.get aw)]
 cases h2 with
 | box b =>
  rw[ux _ (by simp[bI])];rename_i t z k;have fresh:∀{o:Own},Keeps L (L.set k o):=by
   simp only[bN,Option.isNone_iff_eq_none] at r;exact Keeps.new r
  cases h1 with
  | box a =>
   rename_i t' p k';refine⟨F,_,.box b,?_⟩;rw[set_comm L _ _ (fun e=>c k rfl (by rw[e]))];have e:val (L.set k (.box b t (aO (val L ρ z)))) (put (some k) (.own k 0) ρ) p=val L ρ p:=by
    rw[cW d p (by simp[bI]),gb h (fresh)]
   rw[<-e];exact .box a
  | alloc a =>
   rename_i t' ae k';refine⟨F,_,.box b,?_⟩;rw[set_comm L _ _ (fun e=>c k rfl (by rw[e]))];exact .alloc a
  | mkS a =>
   refine⟨F,_,.box b,?_⟩;rw[set_comm L _ _ (fun e=>c k rfl (by rw[e]))];exact .mkS a
  | mkV a n1 j =>
   refine⟨F,_,.box b,?_⟩;rw[set_comm L _ _ (fun e=>c k rfl (by rw[e]))];refine .mkV a n1 ?_;rw[j,cW d _ (by simp[bI]),gb h fresh]
  | mkF a F' f q =>
   rename_i e' n' w l;refine⟨F,_,.box b,.mkF a _ f ?_⟩;rw[cB (L:=L) (ρ:=ρ) (xs:=l) (fun u hu=>by rw[cW d u (by simpa[bI] using hu),gb h fresh])];exact q
 | alloc b =>
  rename_i t zs k;have fresh:∀{o:Own},Keeps L (L.set k o):=by
   simp only[bN,Option.isNone_iff_eq_none] at r;exact Keeps.new r
  cases h1 with
  | box a =>
   rename_i t' p k';refine⟨F,_,.alloc b,?_⟩;rw[set_comm L _ _ (fun e=>c k rfl (by rw[e]))];have e:val (L.set k (.box b t zs)) (put (some k) (.own k 0) ρ) p=val L ρ p:=by
    rw[cW d p (by simp[bI]),gb h (fresh)]
   rw[<-e];exact .box a
  | alloc a =>
   rename_i t' ae k';refine⟨F,_,.alloc b,?_⟩;rw[set_comm L _ _ (fun e=>c k rfl (by rw[e]))];exact .alloc a
  | mkS a =>
   refine⟨F,_,.alloc b,?_⟩;rw[set_comm L _ _ (fun e=>c k rfl (by rw[e]))];exact .mkS a
  | mkV a n1 j =>
   refine⟨F,_,.alloc b,?_⟩;rw[set_comm L _ _ (fun e=>c k rfl (by rw[e]))];refine .mkV a n1 ?_;rw[j,cW d _ (by simp[bI]),gb h fresh]
  | mkF a F' f q =>
   rename_i e' n' w l;refine⟨F,_,.alloc b,.mkF a _ f ?_⟩;rw[cB (L:=L) (ρ:=ρ) (xs:=l) (fun u hu=>by rw[cW d u (by simpa[bI] using hu),gb h fresh])];exact q
 | mkS b =>
  rename_i t al m zs k;have fresh:∀{o:Own},Keeps L (L.set k o):=by
   exact Keeps.new (og r).1
  cases h1 with
  | box a =>
   rename_i t' p k';refine⟨F,_,.mkS b,?_⟩;rw[set_comm L _ _ (fun e=>c k rfl (by rw[e]))];have e:val (L.set k (.row (.slice (some ⟨b,0,none⟩) m m) t al m (List.replicate m zs).flatten)) (put (some k) (.v (.slice (some ⟨b,0,none⟩) m m)) ρ) p=val L ρ p:=by
    rw[cW d p (by simp[bI]),gb h (fresh)]
   rw[<-e];exact .box a
  | alloc a =>
   rename_i t' ae k';refine⟨F,_,.mkS b,?_⟩;rw[set_comm L _ _ (fun e=>c k rfl (by rw[e]))];exact .alloc a
  | mkS a =>
   refine⟨F,_,.mkS b,?_⟩;rw[set_comm L _ _ (fun e=>c k rfl (by rw[e]))];exact .mkS a
  | mkV a n1 j =>
   refine⟨F,_,.mkS b,?_⟩;rw[set_comm L _ _ (fun e=>c k rfl (by rw[e]))];refine .mkV a n1 ?_;rw[j,cW d _ (by simp[bI]),gb h fresh]
  | mkF a F' f q =>
   rename_i e' n' w l;refine⟨F,_,.mkS b,.mkF a _ f ?_⟩;rw[cB (L:=L) (ρ:=ρ) (xs:=l) (fun u hu=>by rw[cW d u (by simpa[bI] using hu),gb h fresh])];exact q
 | mkV b m an =>
  rename_i t al b0 zs x0 k;have s:m=mD (val L ρ x0):=by rw[an,ux _ (by simp[bI])]
  clear an
  have fresh:∀{o:Own},Keeps L (L.set k o):=by
   exact Keeps.new (oh r).1
  cases h1 with
  | box a =>
   rename_i t' p k';refine⟨F,_,.mkV b m s,?_⟩;rw[set_comm L _ _ (fun e=>c k rfl (by rw[e]))];have e:val (L.set k (.row (.slice (some ⟨b,0,none⟩) m m) t al m (List.replicate m zs).flatten)) (put (some k) (.v (.slice (some ⟨b,0,none⟩) m m)) ρ) p=val L ρ p:=by
    rw[cW d p (by simp[bI]),gb h (fresh)]
   rw[<-e];exact .box a
  | alloc a =>
   rename_i t' ae k';refine⟨F,_,.mkV b m s,?_⟩;rw[set_comm L _ _ (fun e=>c k rfl (by rw[e]))];exact .alloc a
  | mkS a =>
   refine⟨F,_,.mkV b m s,?_⟩;rw[set_comm L _ _ (fun e=>c k rfl (by rw[e]))];exact .mkS a
  | mkV a n1 j =>
   refine⟨F,_,.mkV b m s,?_⟩;rw[set_comm L _ _ (fun e=>c k rfl (by rw[e]))];refine .mkV a n1 ?_;rw[j,cW d _ (by simp[bI]),gb h fresh]
  | mkF a F' f q =>
   rename_i e' n' w l;refine⟨F,_,.mkV b m s,.mkF a _ f ?_⟩;rw[cB (L:=L) (ρ:=ρ) (xs:=l) (fun u hu=>by rw[cW d u (by simpa[bI] using hu),gb h fresh])];exact q
 | mkF b F' f q =>
  rename_i e n sz xs;have bb:=cB (xs:=xs) ux;rw[bb] at q;cases h1 with
  | box a =>
   rename_i t' p k';refine⟨F2,L,.mkF b _ f q,?_⟩;have e:=cW (L:=L) (ρ:=ρ) (v:=.v (.slice (some ⟨b,0,none⟩) n n)) d p (by simp[bI]);rw[<-e];exact .box a
  | alloc a=>exact⟨F2,L,.mkF b _ f q,.alloc a⟩
  | mkS a=>exact⟨F2,L,.mkF b _ f q,.mkS a⟩
  | mkV a n1 j=>exact⟨F2,L,.mkF b _ f q,.mkV a n1 (by rw[j,cW d _ (by simp[bI])])⟩
  | mkF a F1' ao ba =>
   rename_i e' n' w l;refine⟨F2,L,.mkF b _ (aA.le_trans ao f) q,.mkF a _ (aA.le_refl _) ?_⟩;rw[cB (L:=L) (ρ:=ρ) (xs:=l) (fun u hu=>by rw[cW d u (by simpa[bI] using hu)])];exact f _ _ ba
theorem KE {x y:eI}{dx dy:Option Nat}(hr:Real F L) (hc:yw x y=true) (ab:∀k,dx=some k->k∉cD (bI y)) (ae:∀k,dy=some k->k∉cD (bI x)) (d:∀k,dx=some k->dy≠some k)
  (ar:Vd L ρ) (r:evalOp P x dx F L ρ (fun F1 L1 ce=>evalOp P y dy F1 L1 ce K)):evalOp P y dy F L ρ (fun F1 L1 ce=>evalOp P x dx F1 L1 ce K):=by
 have ea:∀k,dy=some k->dx≠some k:=fun k e e'=>d k e' e;simp only[yw,abH,xo] at hc;rcases hc with((((⟨⟨hx,hy⟩,dz⟩ | ⟨hx,hy⟩) | ⟨hx,hy⟩) | ⟨hx,hy⟩) | ⟨hx,hy⟩) | ⟨hx,hy⟩
 ·rw[cA hx] at r;obtain⟨v,hT,p⟩:=(fI hx).ex _ r
  clear r
  have ao:∀{F':aA}{L':Loc}{u:SV},F.le F'->Keeps L L'->K F' L' (put dy u (put dx v ρ))->(Kz x=false\/L'=L)->evalOp P x dx F' L' (put dy u ρ) K:=by
   intro F' L' u hF hL hk hR;rw[cA hx];have bl:Alike x L L' ρ (put dy u ρ):=fun z q=>⟨ga ae z q,fun k off e=>by
    obtain⟨g,ty,cs,h⟩:=ar.ev e;rw[hL k g ty cs h,h]⟩
   refine(fI hx).mono _ _ (fun v' dT=>?_) (rI hx hF bl hT hR);subst dT;rw[put_comm d];exact hk
  have hv:=cW (L:=L) (ρ:=ρ) (v:=v) ab
  by_cases bi:dm y=true
  ·rw[cA bi] at p ⊢;have bl:Alike y L L (put dx v ρ) ρ:=fun z q=>⟨(ga ab z q).symm,fun _ _ _=>rfl⟩;exact(fI bi).mono _ _ (fun u hu=>ao (aA.le_refl F) (Keeps.refl _) hu (.inr rfl)) (rI bi (aA.le_refl F) bl p)
  ·have bp:Kz x=false:=by
    rcases dz with h | h
    ·cases e:Kz x with
     | false=>rfl
     | true=>rw[e] at h;cases h
    ·exact o5 h bi
   by_cases cw:eU y=true
   ·rw[bT cw] at p ⊢;obtain⟨h1,h2⟩:=p;have l:bN y dy L ρ=true:=iW (L':=L) (ρ':=put dx v ρ) hv (fun k _ e=>e) h1;refine⟨l,fun F' L' u hm bm=>ao hm.le (hm.get l) (h2 F' L' u ?_ bm) (.inl bp)⟩;exact hm.like fun z q=>(hv z q).symm
   ·cases y<;>first | (exfalso;revert bi cw hy;simp[IZ,dm,iw,eU,qk];done) | skip
    case callD f args =>
     have e1:=dJ (xs:=args) hv;simp only[evalOp,e1] at p ⊢;exact p.imp fun F' L' u bd hl _ h=>ao bd hl.keeps h (.inl bp)
    case callVD f args =>
     have e0:=ga (v:=v) (ρ:=ρ) ab f (by simp[bI]);have e1:=dJ (xs:=args) (L:=L) (L':=L) (ρ:=ρ) (ρ':=put dx v ρ) (fun z q=>hv z (by simp[bI,q]));simp only[evalOp,e0,e1] at p ⊢;split at p
     ·exact p.imp fun F' L' u bd hl _ h=>ao bd hl.keeps h (.inl bp)
     ·exact p.elim
    case appD e sz b zs s z =>
     have e0:=ga (v:=v) (ρ:=ρ) ab s (by simp[bI]);have e1:=ga (v:=v) (ρ:=ρ) ab z (by simp[bI]);simp only[evalOp,e0,e1] at p ⊢;split at p
     ·refine p.imp (aA.le_refl F) fun kd n xs n' bs u dd bm h=>ao (aA.le_refl F) ?_ (h bm) (.inl bp);rcases dd with h | ⟨_,h⟩
      ·exact Keeps.row h
      ·exact Keeps.new h
     ·exact p.elim
 ·have an:∀{f:Nat}{args:List Value},dZ P f args F L dx (fun F' L' v=>evalOp P y dy F' L' (put dx (.v v) ρ) K) ->
    bN y dy L ρ=true/\∀F' L' u,Made y dy F L ρ F' L' u->dZ P f args F' L' dx (fun F2 L2 v=>K F2 L2 (put dx (.v v) (put dy u ρ))):=by
   intro f args hC;have up:∀{L1:Loc},Left dx L L1->∀{u:SV},∀z∈bI y,val L1 (put dx u ρ) z=val L ρ z:=by
    intro L1 hl u z q;rw[cW ab z q,gb ar hl.keeps]
   have l:bN y dy L ρ=true:=by
    obtain⟨F',L',v,bd,hl,_,h⟩:=hC.some hr;rw[bT hy] at h;refine iW (L':=L') (ρ':=put dx (.v v) ρ) (up hl) (fun k hk e=>?_) h.1;rcases hl with rfl | ⟨j,o,hj,hn,rfl⟩ | ⟨j,rv,t,sz,n,xs,hj,rfl⟩
    ·exact e
    ·rw[ck (fun ej=>d j hj (by rw[<-ej];exact hk))] at e;exact e
    ·rw[Loc.aap] at e;split at e
     ·cases e
     ·exact e
   refine⟨l,fun F' L' u hm=>(hC.up hm.le hr.glob (hm.part l) (fun k hk hn=>by rw[hm.frame k (d k hk)];exact hn)).imp fun F2 L2 v bd ds aw h=>?_⟩
   clear ds
   obtain⟨h1,dg,h2⟩:=h
   clear dg
   rw[put_comm d];rcases h2 with⟨rfl,h2⟩ | ⟨k,o,hk,hn,rfl,h2⟩ | ⟨kr,rv,t,sz,n,xs,cx,rfl,h2⟩
   ·rw[bT hy] at h2;refine h2.2 F2 L2 u ?_ aw;have w:=up (L1:=L) (.inl rfl) (u:=.v v)
    clear up h2
    cases hm with
    | box g=>rw[<-w _ (by simp[bI])];exact .box g
    | alloc g=>exact .alloc g
    | mkS g=>exact .mkS g
    | mkV g n hn=>exact .mkV g n (by rw[hn,w _ (by simp[bI])])
    | mkF g F' bb hg =>
     rename_i xs;refine .mkF g _ (aA.le_refl _) ?_;rw[cB (L:=L) (ρ:=ρ) (xs:=xs) (fun z q=>w z (by simpa[bI] using q))];exact h1 _ _ hg
   ·rw[bT hy] at h2;refine h2.2 F2 _ u ?_ aw;have w:=up (L1:=L.set k o) (.inr (.inl ⟨k,o,hk,hn,rfl⟩)) (u:=.v v)
    clear up h2
    cases hm with
    | box g =>
     rw[set_comm L _ _ (fun e=>d k hk (by rw[e])),<-w _ (by simp[bI])];exact .box g
    | alloc g =>
     rw[set_comm L _ _ (fun e=>d k hk (by rw[e]))];exact .alloc g
    | mkS g =>
     rw[set_comm L _ _ (fun e=>d k hk (by rw[e]))];exact .mkS g
    | mkV g n hn =>
     rw[set_comm L _ _ (fun e=>d k hk (by rw[e]))];exact .mkV g n (by rw[hn,w _ (by simp[bI])])
    | mkF g F' bb hg =>
     rename_i xs;refine .mkF g _ (aA.le_refl _) ?_;rw[cB (L:=L) (ρ:=ρ) (xs:=xs) (fun z q=>w z (by simpa[bI] using q))];exact h1 _ _ hg
   ·rw[bT hy] at h2;refine h2.2 F2 _ u ?_ aw;have w:=up (L1:=L.set kr (.row (.slice none 0 0) t sz 0 [])) (.inr (.inr ⟨kr,rv,t,sz,n,xs,cx,rfl⟩)) (u:=.v v);have av:∀k,dy=some k->eU y=true->bN y dy L ρ=true->(∀e n' dj bs,y≠.mkFD e n' dj bs)->kr≠k:=by
     intro k hk _ hc df e;subst hk e;cases y<;>simp only[bN,cx,Option.isNone_some,abl] at hc;exact df _ _ _ _ rfl
    clear up h2
    cases hm with
    | box g =>
     rw[set_comm L _ _ (av _ rfl hy l (fun _ _ _ _=>by simp)).symm,<-w _ (by simp[bI])];exact .box g
    | alloc g =>
     rw[set_comm L _ _ (av _ rfl hy l (fun _ _ _ _=>by simp)).symm];exact .alloc g
    | mkS g =>
     rw[set_comm L _ _ (av _ rfl hy l (fun _ _ _ _=>by simp)).symm];exact .mkS g
    | mkV g n hn =>
     rw[set_comm L _ _ (av _ rfl hy l (fun _ _ _ _=>by simp)).symm];exact .mkV g n (by rw[hn,w _ (by simp[bI])])
    | mkF g F' bb hg =>
     rename_i xs;refine .mkF g _ (aA.le_refl _) ?_;rw[cB (L:=L) (ρ:=ρ) (xs:=xs) (fun z q=>w z (by simpa[bI] using q))];exact h1 _ _ hg
  cases x<;>first | (exfalso;revert hx;simp[iw];done) | skip
  case callD f args =>
   simp only[evalOp] at r;obtain⟨h1,h2⟩:=an r;rw[bT hy];refine⟨h1,fun F' L' u hm _=>?_⟩;have e1:bE L' (put dy u ρ) args=bE L ρ args:=dJ fun z q=>by rw[cW ae z (by simpa[bI] using q),gb ar (hm.get h1)]
   simp only[evalOp,e1];exact h2 F' L' u hm
  case callVD f args =>
   simp only[evalOp] at r;split at r
   case h_2=>exact r.elim
   rename_i en fi ca hf;obtain⟨h1,h2⟩:=an r;rw[bT hy];refine⟨h1,fun F' L' u hm _=>?_⟩;have e0:=ga (v:=u) (ρ:=ρ) ae f (by simp[bI]);have e1:bE L' (put dy u ρ) args=bE L ρ args:=dJ fun z q=>by rw[cW ae z (by simp[bI,q]),gb ar (hm.get h1)]
   simp only[evalOp,e0,e1,hf];exact h2 F' L' u hm
 ·cases x<;>first | (exfalso;revert hx;simp[qk];done) | skip
  case appD e sz b zs s z =>
   rw[DU] at r;split at r
   case h_2=>exact r.elim
   rename_i sv xv cM cy;have l:bN y dy L ρ=true:=by
    obtain⟨kd,v,n',bs,h1,_,h⟩:=r.some hr;rw[bT hy] at h;have ci:Keeps L (L.set kd (.row v e sz n' bs)):=by
     rcases h1 with⟨n,xs,h1⟩ | ⟨_,h1⟩
     ·exact Keeps.row h1
     ·exact Keeps.new h1
    refine iW (L':=_) (ρ':=put dx (.v v) ρ) (fun u hu=>by rw[cW ab u hu,gb ar ci]) (fun k hk e=>?_) h.1;rw[Loc.aap] at e;split at e
    ·cases e
    ·exact e
   rw[bT hy];refine⟨l,fun F' L' u hm dr=>?_⟩
   clear dr
   have e0:=ga (v:=u) (ρ:=ρ) ae s (by simp[bI]);have e1:=ga (v:=u) (ρ:=ρ) ae z (by simp[bI]);simp only[evalOp,e0,e1,cM,cy];obtain⟨kd,n,xs,m,cb,h1,⟨ad,c,h2,h3,h4⟩,h5,h6,h7,h8⟩:=r;have ci:∀{o:Own},Keeps L (L.set kd o):=by
    rcases h1 with h1 | ⟨_,h1,_⟩ | ⟨_,h1,_⟩
    ·exact Keeps.row h1
    ·exact Keeps.new h1
    ·exact Keeps.new h1
   have av:∀k,dy=some k->L.get k=none->kd≠k:=by
    rintro k hk hn rfl;rcases h1 with h1 | ⟨h1,_⟩ | ⟨h1,_⟩
    ·rw[hn] at h1;cases h1
    ·exact d kd h1 hk
    ·exact d kd h1 hk
   refine⟨kd,n,xs,m,cb,?_,⟨ad,c,h2,h3,?_⟩,h5,h6,h7,fun v hv aw=>?_⟩
   ·rcases h1 with h1 | ⟨h0,h1,du⟩ | ⟨h0,h1,ad,q1,q2,q3,q4⟩
    ·exact .inl (hm.part l kd _ h1)
    ·exact .inr (.inl ⟨h0,by rw[hm.frame kd (d kd h0)];exact h1,du⟩)
    ·exact .inr (.inr ⟨h0,by rw[hm.frame kd (d kd h0)];exact h1,ad,q1,q2,q3,q4.imp (·.mono hm.le) id⟩)
   ·rcases h4 with h4 | h4
    ·exact .inl (h4.mono hm.le)
    ·exact .inr h4
   ·have h9:=h8 v hv (aw.down hm.le hr.glob (IY (hm.part l)));rw[bT hy] at h9;rw[put_comm d];refine h9.2 F' _ u ?_ aw;have w:∀z∈bI y,val (L.set kd (.row v e sz (n+m) (xs++cb))) (put dx (.v v) ρ) z=val L ρ z:=fun z q=>by
     rw[cW ab z q,gb ar ci]
    clear h8 h9 cM cy e0 e1
    cases hm with
    | box g =>
     rename_i t x k;simp only[bN,Option.isNone_iff_eq_none] at l;rw[set_comm L _ _ (fun e=>av k rfl l e.symm),<-w _ (by simp[bI])];exact .box g
    | alloc g =>
     rename_i t zs k;simp only[bN,Option.isNone_iff_eq_none] at l;rw[set_comm L _ _ (fun e=>av k rfl l e.symm)];exact .alloc g
    | mkS g =>
     rename_i e0 dl n0 zs k;rw[set_comm L _ _ (fun e=>av k rfl (og l).1 e.symm)];exact .mkS g
    | mkV g n hn =>
     rename_i e0 dl b0 zs x0 k;rw[set_comm L _ _ (fun e=>av k rfl (oh l).1 e.symm)];exact .mkV g n (by rw[hn,w _ (by simp[bI])])
    | mkF g F' bb hg =>
     rename_i dp;refine .mkF g _ bb ?_;rw[cB (L:=L) (ρ:=ρ) (xs:=dp) (fun z q=>w z (by simpa[bI] using q))];exact hg
 ·rw[bT hx] at r;obtain⟨bj,r⟩:=r;have bv:bN y dy L ρ=true:=by
   obtain⟨F',L',v,hm,bd,bm⟩:=Bm hr bj;have h:=r F' L' v hm bm;rw[bT hy] at h;refine iW (L':=L') (ρ':=put dx v ρ) (fun z q=>by rw[cW ab z q,gb ar (hm.get bj)]) (fun k hk e=>?_) h.1;rw[hm.frame k (fun e'=>d k e' hk)] at e;exact e
  rw[bT hy];refine⟨bv,fun F1 L1 v1 ch ep=>?_⟩;rw[bT hx];refine⟨iW (L':=L) (ρ':=ρ) (fun z q=>by rw[cW ae z q,gb ar (ch.get bv)]) (fun k hk e=>by rw[ch.frame k (d k hk)];exact e) bj,fun F2 L2 v2 dE aw=>?_⟩;obtain⟨Fa,La,ha,hb⟩:=I0 bj bv ab ae d ar ch dE;have cr:bN y dy La (put dx v2 ρ)=true :=
   iW (L':=L) (ρ':=ρ) (fun z q=>by rw[cW ab z q,gb ar (ha.get bj)]) (fun k hk e=>by rw[ha.frame k (fun e'=>d k e' hk)];exact e) bv
  have dv:Real Fa La:=aw.down hb.le (hr.glob.mono ha.le) (hb.part cr);have h:=r Fa La v2 ha dv;rw[bT hy] at h;rw[put_comm d];exact h.2 F2 L2 v1 hb aw
 ·have be:=sJ hx;rw[cA be] at r;obtain⟨v,hT,p⟩:=(fI be).ex _ r
  clear r
  obtain⟨n,a,z,k,off,g,t,cs,ho,e1,e2,e3,e4,e5,r⟩:=iV hy p;have ha:a∈bI y:=by rcases ho with rfl | rfl<;>simp[bI]
  have q:z∈bI y:=by rcases ho with rfl | rfl<;>simp[bI]
  have q0:=ga (v:=v) (ρ:=ρ) ab a ha;have q1:=cW (L:=L) (v:=v) (ρ:=ρ) ab z q;rw[q0] at e3;rw[q1] at e1 e2 r;refine iK ho e1 e2 e3 e4 e5 ?_;have h3:=(fI be).mono _ (fun u=>K F _ (put dx u (put dy (.v undef) ρ))) (fun u hu=>by subst hu;rw[put_comm d];exact r)
   (rI be (aA.le_refl F) (vI (L:=L) (ρ:=ρ) (v:=.v undef) ae) hT)
  rw[cA be];exact Bl hx ho (DV e4) (fun j hj=>ck hj) h3
 ·have bk:=sJ hy;obtain⟨n,a,z,k,off,g,t,cs,ho,e1,e2,e3,e4,e5,r⟩:=iV hx r;have ha:a∈bI x:=by rcases ho with rfl | rfl<;>simp[bI]
  have q:z∈bI x:=by rcases ho with rfl | rfl<;>simp[bI]
  rw[cA bk] at r;obtain⟨v,hT,r⟩:=(fI bk).ex _ r;have hT:=Bl (L':=L) hy ho (fun sv=>(DV e4 sv).symm) (fun j hj=>(ck hj).symm) hT;have bl:Alike y L L (put dx (.v undef) ρ) ρ:=fun u hu=>⟨(ga ab u hu).symm,fun _ _ _=>rfl⟩;have hT:=rI bk (aA.le_refl F) bl hT;rw[cA bk];refine(fI bk).mono _ _ (fun u hu=>?_) hT;subst hu;have q0:=ga (v:=u) (ρ:=ρ) ae a ha;have q1:=cW (L:=L) (v:=u) (ρ:=ρ) ae z q;refine iK ho (by rw[q1];exact e1) (by rw[q1];exact e2) (by rw[q0];exact e3) e4 e5 ?_;rw[q1,put_comm d];exact r
end
section
variable {P:Program}{F:aA}{L:Loc}{ρ:Env}{K K':dQ}
theorem Left.none {d:Option Nat}{L L':Loc}(h:Left d L L') {j:Nat}(c:d≠some j) (e:L.get j=none):L'.get j=none:=by
 rcases h with rfl | ⟨k,o,hd,b,rfl⟩ | ⟨k,f,t,sz,n,xs,b,rfl⟩
 ·exact e
 ·rw[ck (fun a=>c (by rw[a];exact hd))];exact e
 ·rw[ck (fun a=>by rw[a,b] at e;cases e)];exact e
theorem nR {o:eI}(ho:okD o=true) {d:Option Nat}(hr:Real F L) (w:Vd L ρ) (c:evalOp P o d F L ρ K)
  (hk:∀F1 L1 r,(∃v,r=put d v ρ)->F.le F1->Real F1 L1->Vd L1 r->(∀j,d≠some j->L.get j=none->L1.get j=none)->K F1 L1 r->K' F1 L1 r):evalOp P o d F L ρ K':=by
 have a:∀{L1:Loc}{v:SV},Keeps L L1->(∀k off,v=.own k off->∃g ty cs,L1.get k=some (.box g ty cs))->Vd L1 (put d v ρ):=by
  intro L1 v hL hv t k off e;have p:ρ t=.own k off->∃g ty cs,L1.get k=some (.box g ty cs):=fun e=>by
   obtain⟨g,ty,cs,h⟩:=w t k off e;exact⟨g,ty,cs,hL k g ty cs h⟩
  rw[put_eq] at e;cases d with
  | none=>exact p e
  | some k' =>
   simp only[] at e;split at e
   ·exact hv k off e
   ·exact p e
 by_cases hs:dm o=true
 ·rw[cA hs] at c ⊢;obtain⟨v,hT,hv⟩:=(fI hs).ex _ c;refine(fI hs).mono _ _ (fun u hu=>?_) hT;subst hu;refine hk _ _ _ ⟨_,rfl⟩ (aA.le_refl F) hr (a (Keeps.refl L) fun k off e=>?_) (fun _ _ h=>h) hv;subst e;obtain⟨x,_,m,hx⟩:=KA hs hT;exact w.ev hx
 ·by_cases ha:eU o=true
  ·rw[bT ha] at c ⊢;refine⟨c.1,fun F' L' v hm l=>hk _ _ _ ⟨v,rfl⟩ hm.le l (a (hm.get c.1) fun k off e=>?_) (fun j y e=>by rw[hm.frame j y];exact e) (c.2 F' L' v hm l)⟩;cases hm with
   | box g=>injection e with e1 e2;subst e1;exact⟨_,_,_,by rw[Loc.aap,eu rfl]⟩
   | alloc g=>injection e with e1 e2;subst e1;exact⟨_,_,_,by rw[Loc.aap,eu rfl]⟩
   | mkS g=>cases e
   | mkV g n hn=>cases e
   | mkF g F' q hg=>cases e
  ·cases o<;>first | (exfalso;revert hs ha ho;simp[okD,IZ,dm,iw,eU,qk,iU];done) | skip
   case callD f args =>
    simp only[evalOp] at c ⊢;exact c.imp fun F' L' v q hl l h=>hk _ _ _ ⟨_,rfl⟩ q l (a hl.keeps fun k off e=>by cases e) (fun j y e=>hl.none y e) h
   case callVD f args =>
    simp only[evalOp] at c ⊢;split at c
    ·exact c.imp fun F' L' v q hl l h=>hk _ _ _ ⟨_,rfl⟩ q l (a hl.keeps fun k off e=>by cases e) (fun j y e=>hl.none y e) h
    ·exact c.elim
   case appD e sz b zs s z =>
    simp only[evalOp] at c ⊢;split at c
    ·refine c.imp (aA.le_refl F) fun kd n xs n' bp u ac l h=>hk _ _ _ ⟨_,rfl⟩ (aA.le_refl F) l (a ?_ fun k off e=>by cases e) ?_ (h l)
     ·rcases ac with h | ⟨_,h⟩
      ·exact Keeps.row h
      ·exact Keeps.new h
     ·intro j y e;have an:j≠kd:=by
       rintro rfl;rcases ac with h | ⟨h,_⟩
       ·rw[e] at h;cases h
       ·exact y h
      rw[ck an];exact e
    ·exact c.elim
   all_goals
    obtain⟨n',a',x',k,off,g,ty,cs,av,e1,e2,e3,e4,e5,c⟩:=iV rfl c;refine iK av e1 e2 e3 e4 e5 (hk _ _ _ ⟨_,rfl⟩ (aA.le_refl F) (Real.store (xH e5) hr e4) ?_ (fun j _ e=>by rw[ck (fun ej=>by rw[ej,e4] at e;cases e)];exact e) c);intro t k' m e;have p:ρ t=.own k' m->∃g' ty' cs',Loc.get (L.set k (.box g ty (bY cs off (aO (val L ρ x'))))) k'=some (.box g' ty' cs'):=fun e=>by
     obtain⟨g',ty',cs',h⟩:=w t k' m e;rw[Loc.aap];split
     ·exact⟨_,_,_,rfl⟩
     ·exact⟨_,_,_,h⟩
    rw[put_eq] at e;cases d with
    | none=>exact p e
    | some k' =>
     simp only[] at e;split at e
     ·cases e
     ·exact p e
theorem j3 {o:eI}(h:okD o=true) {d:Option Nat}(f:Real F L) (b:Vd L ρ) (c:evalOp P o d F L ρ K)
  (e:∀F1 L1 a,(∃v,a=put d v ρ)->F.le F1->Real F1 L1->Vd L1 a->K F1 L1 a->K' F1 L1 a):evalOp P o d F L ρ K' :=
 nR h f b c fun F1 L1 a h1 h2 h3 h4 _ h5=>e F1 L1 a h1 h2 h3 h4 h5
theorem wH {o:eI}(r:okD o=true) {d:Option Nat}(c:Real F L) (a:evalOp P o d F L ρ K):∃v F1 L1,K F1 L1 (put d v ρ):=by
 by_cases j:dm o=true
 ·rw[cA j] at a;obtain⟨v,_,q⟩:=(fI j).ex _ a;exact⟨v,F,L,q⟩
 ·by_cases m:eU o=true
  ·rw[bT m] at a;obtain⟨F',L',v,p,_,l⟩:=Bm c a.1;exact⟨v,F',L',a.2 F' L' v p l⟩
  ·cases o<;>first | (exfalso;revert j m r;simp[okD,IZ,dm,iw,eU,qk,iU];done) | skip
   case callD f args =>
    simp only[evalOp] at a;obtain⟨F',L',v,_,_,_,h⟩:=a.some c;exact⟨_,F',L',h⟩
   case callVD f args =>
    simp only[evalOp] at a;split at a
    ·obtain⟨F',L',v,_,_,_,h⟩:=a.some c;exact⟨_,F',L',h⟩
    ·exact a.elim
   case appD e sz b zs s z =>
    simp only[evalOp] at a;split at a
    ·obtain⟨x,v,n,t,_,_,h⟩:=a.some c;exact⟨_,F,_,h⟩
    ·exact a.elim
   all_goals
    obtain⟨n,a',x',k,off,g,ty,cs,u,w,e2,y,e4,e5,a⟩:=iV rfl a;exact⟨_,F,_,a⟩
def iL:eI:=.mov (.c undef)
def res (g:Option (Nat×Bool)) (ρ:Env) (o:eI):Option eI :=
 match g with
 | none=>some o
 | some (s,a)=>match ρ s with
  | .v (.bool b)=>some (if b=a then o else iL)
  | .v (.tuple _)=>some iL
  | _=>none
theorem fW {d:Option Nat}{o:eI}{g:Option (Nat×Bool)}{c:List ak} :
  aW P (.op d o g::c) F L ρ K↔∃o',res g ρ o=some o'/\evalOp P o' d F L ρ (fun F1 L1 h=>aW P c F1 L1 h K):=by
 cases g with
 | none=>simp only[aW,res,aa1,exists_eq_left']
 | some p =>
  obtain⟨s,f⟩:=p;simp only[aW,res];cases e:ρ s with
  | own k off=>simp
  | el a j=>simp
  | v u =>
   cases u<;>simp only[aa1,exists_eq_left',reduceCtorEq,false_and,exists_false]
   case bool b =>
    cases b<;>cases f<;>simp[Ap,lg e,iL,evalOp,aM,ev]
   case tuple vs=>rfl
def looks (o:eI) (g:Option (Nat×Bool)):List Nat :=
 match g with
 | none=>cD (bI o)
 | some (s,_)=>s::cD (bI o)
def s9 (d:Option Nat) (l:List Nat):Bool :=
 match d with
 | none=>true
 | some k=>match fU l k with | true=>false | false=>true
def DW:Option Nat->Option Nat->Bool
 | some a,some b=>match Nat.beq a b with | true=>false | false=>true
 | _,_=>true
def mJ:ak->ak->Bool
 | .op a x c,.op b y d=>okD x&&okD y&&yw x y&&s9 a (looks y d)&&s9 b (looks x c)&&DW a b
 | _,_=>false
theorem kL {d:Option Nat}{l:List Nat}(h:s9 d l=true):∀k,d=some k->k∉l:=by
 rintro k rfl a;simp only[s9,di.2 a] at h;cases h
theorem ol {d a:Option Nat}(h:DW d a=true):∀k,d=some k->a≠some k:=by
 rintro k rfl e;subst e;simp[DW] at h
theorem pE {g:Option (Nat×Bool)}{o:eI}{d:Option Nat}{v:SV}(h:∀k,d=some k->k∉looks o g):res g (put d v ρ) o=res g ρ o:=by
 cases g with
 | none=>rfl
 | some p =>
  obtain⟨s,a⟩:=p;have:put d v ρ s=ρ s:=by
   rw[put_eq];cases d with
   | none=>rfl
   | some k =>
    simp only[];rw[fo];intro e;exact h k rfl (by simp[looks,e])
  simp only[res,this]
theorem dK {g:Option (Nat×Bool)}{o o':eI}(h:res g ρ o=some o'):o'=o\/o'=iL:=by
 cases g with
 | none=>simp only[res,aa1] at h;exact .inl h.symm
 | some p =>
  obtain⟨s,a⟩:=p;simp only[res] at h;split at h
  ·injection h with h
   split at h
   ·exact .inl h.symm
   ·exact .inr h.symm
  ·injection h with h;exact .inr h.symm
  ·cases h
theorem om {o:eI}{g:Option (Nat×Bool)}{k:Nat}(h:k∈cD (bI o)):k∈looks o g:=by
 cases g with
 | none=>exact h
 | some p=>exact abz _ h
theorem KF {x y:ak}{a:List ak}(w:mJ x y=true) (hr:Real F L) (t:Vd L ρ) (h:aW P (x::y::a) F L ρ K):aW P (y::x::a) F L ρ K:=by
 cases x with
 | frz k=>exact o5 w (by cases y<;>exact abt)
 | pc d o g=>exact o5 w (by cases y<;>exact abt)
 | op dx x gx =>
  cases y with
  | frz k=>exact o5 w abt
  | pc d o g=>exact o5 w abt
  | op dy y gy =>
   simp only[mJ,xo] at w;obtain⟨⟨⟨⟨⟨ae,f⟩,hc⟩,h1⟩,h2⟩,h3⟩:=w;have h1:=kL h1;have h2:=kL h2;have h3:=ol h3;have am:∀k,dy=some k->dx≠some k:=fun k e e'=>h3 k e' e;rw[fW] at h;obtain⟨z,s,h⟩:=h;have j:okD iL=true:=rfl;have r:okD z=true:=by rcases dK s with rfl | rfl;exact ae;exact j
   -- y's guard
   have hy:∃q,res gy ρ y=some q:=by
    obtain⟨v,F1,L1,c⟩:=wH r hr h;rw[fW] at c;obtain⟨q,b,_⟩:=c;rw[pE h1] at b;exact⟨q,b⟩
   obtain⟨q,b⟩:=hy;have aa:okD q=true:=by rcases dK b with rfl | rfl;exact f;exact j
   have hA:evalOp P z dx F L ρ (fun F1 L1 n=>evalOp P q dy F1 L1 n (fun F2 L2 p=>aW P a F2 L2 p K)):=by
    refine j3 r hr t h ?_;rintro F1 L1 n ⟨v,rfl⟩ _ _ _ c;rw[fW] at c;obtain⟨av,l,c⟩:=c;rw[pE h1,b] at l;injection l with l
    subst l;exact c
   have lx:∀k,dy=some k->k∉cD (bI z):=by
    intro k e c;rcases dK s with rfl | rfl
    ·exact h2 k e (om c)
    ·simp[iL,bI,cD] at c
   have ly:∀k,dx=some k->k∉cD (bI q):=by
    intro k e c;rcases dK b with rfl | rfl
    ·exact h1 k e (om c)
    ·simp[iL,bI,cD] at c
   have hB:evalOp P q dy F L ρ (fun F1 L1 n=>evalOp P z dx F1 L1 n (fun F2 L2 p=>aW P a F2 L2 p K)):=by
    by_cases m:q=iL
    ·subst m;simp only[iL,evalOp,aM,ev];exact yu (K:=fun F2 L2 p=>aW P a F2 L2 p K) (u:=.v undef) r lx h3 hA
    ·have ey:q=y:=by rcases dK b with h | h;exact h;exact o5 h m
     subst ey;refine KE hr ?_ ly lx h3 t hA;rcases dK s with rfl | rfl
     ·exact hc
     ·simp only[okD,abH] at f;rcases f with f | f
      ·simp only[yw,f,acn,abH];exact .inl (.inl (.inl (.inl (.inl (by rfl)))))
      ·simp only[yw,f,acn,abH];exact .inl (.inr rfl)
   rw[fW];refine⟨q,b,j3 aa hr t hB ?_⟩;rintro F1 L1 n ⟨v,rfl⟩ _ _ _ c;rw[fW];exact⟨z,by rw[pE h2];exact s,c⟩
theorem Bn {y:ak}{s:List ak}:∀(p:List ak),(∀x∈p,mJ x y=true)->∀{F:aA}{L:Loc}{ρ:Env},Real F L->Vd L ρ->aW P (p++y::s) F L ρ K->aW P (y::(p++s)) F L ρ K
 | [],_,F,L,ρ,_,_,h=>h
 | .frz k::p,b,F,L,ρ,_,_,h=>by
  have:=b (.frz k) (by simp);exact o5 this (by cases y<;>exact abt)
 | .pc d o g::p,b,F,L,ρ,_,_,h=>by
  have:=b (.pc d o g) (by simp);exact o5 this (by cases y<;>exact abt)
 | .op n x r::p,b,F,L,ρ,q,e,h=>by
  have a:=b (.op n x r) (by simp);have v:aW P (.op n x r::y::(p++s)) F L ρ K:=by
   rw[abj,fW] at h;obtain⟨t,c,h⟩:=h;have l:okD x=true:=by
    cases y with
    | frz k=>exact o5 a abt
    | pc d o g=>exact o5 a abt
    | op dy y gy=>simp only[mJ,xo] at a;exact a.1.1.1.1.1
   have j:okD t=true:=by rcases dK c with rfl | rfl;exact l;rfl
   rw[fW];refine⟨t,c,j3 j q e h ?_⟩;intro F1 L1 w _ _ m f u;exact Bn p (fun z hz=>b z (by simp[hz])) m f u
  exact KF a q e v
end
def Xn (A:cJ):Op->Bool
 | .store _ (.tmp i) _=>fU A.co (1000000+i)
 | .mapUpdate _ (.tmp i) _ _=>fU A.co (1000000+i)
 | _=>false
def Cr (P:Program) (A:cJ) (a:Array Oper) (i:Nat):Option ak :=
 match a[i]? with
 | none=>none
 | some o=>match iJ a o.guard,iH P (A.owned o.dst) o.op,RB A.n o.dst with
  | some g,some s,true=>match A.isX o.dst with
   | true=>match g,s with
    | none,.call f l=>some (.pc o.dst (.call f l) none)
    | none,.callV f l=>some (.pc o.dst (.callV f l) none)
    | _,_=>none
   | false=>match A.isO o.dst||Xn A o.op with
    | true=>match yj s with
     | some s'=>some (.op o.dst s' g)
     | none=>none
    | false=>match vH A.fl A.bk A.bx s with
     | some s'=>match dm s'||iw s'||eU s'||qk s'||iU s' with
      | true=>some (.op o.dst s' g)
      | false=>none
     | none=>none
  | _,_,_=>none
def fp (P:Program) (A:cJ) (ops:Array Oper):List Nat->Option (List ak)
 | []=>some []
 | i::is=>match Cr P A ops i,fp P A ops is with
  | some s,some ss=>some (s::ss)
  | _,_=>none
def binding (e:Edge):Bool:=Region.binds .any e
def direct (ops:Array Oper) (i:Nat):List Nat :=
 match ops[i]? with
 | some o=>(o.after.toList.filter binding).map (·.on)
 | none=>[]
def Cs:List (List Nat)->Nat->List Nat
 | [],_=>[]
 | l::_,0=>l
 | _::a,n+1=>Cs a n
def Ct (a:List (List Nat)) (x:Nat):List Nat->Bool
 | []=>false
 | z::zs=>match fU (Cs a z) x with | true=>true | false=>Ct a x zs
def Cu (ops:Array Oper) (a:List (List Nat)) (y:Nat):Bool :=
 (direct ops y).all (fun z=>Nat.blt z y)&&(Cs a y).all (fun x=>fU (direct ops y) x||Ct a x (direct ops y))
def KG (ops:Array Oper) (a:List (List Nat)):Bool:=(List.range ops.size).all (Cu ops a)
def pF (a:List (List Nat)):List (Nat×ak)->Bool
 | []=>true
 | (x,b)::l=>l.all (fun p=>mJ b p.2||fU (Cs a p.1) x)&&pF a l
def aU:List Nat->Bool
 | []=>true
 | x::l=>!fU l x&&aU l
def FL (P:Program) (ops:Array Oper) (is:List Nat) (a:List (List Nat)) (ss:List ak):Bool :=
 P.follows .mixedOrders&&KG ops a&&aU is&&Nat.beq is.length ops.size&&is.all (fun i=>Nat.blt i ops.size)&&(List.range ops.size).all (fU is)&&pF a (is.zip ss)
theorem dw:∀{l:List Nat},aU l=true->l.Nodup
 | [],_=>List.nodup_nil
 | x::l,h=>by
  simp only[aU,xo,Bool.not_eq_true'] at h;refine List.nodup_cons.2 ⟨fun a=>?_,dw h.2⟩;rw[di.2 a] at h;cases h.1
theorem Bo {a:List (List Nat)}{x:Nat}:∀{l:List Nat},Ct a x l=true->∃z,z∈l/\x∈Cs a z
 | [],h=>by cases h
 | z::zs,h=>by
  simp only[Ct] at h;split at h
  ·rename_i c;exact⟨z,by simp,di.1 c⟩
  ·obtain⟨b,h1,h2⟩:=Bo h;exact⟨b,by simp[h1],h2⟩
section
variable {P:Program}{K:dQ}{Q:Exit->Act->World->Prop}{ops:Array Oper}
theorem wI {e:List (List Nat)}(d:KG ops e=true) {done:Nat->Prop}(a:∀i,i<ops.size->done i->∀z∈direct ops i,done z):∀y,y<ops.size->(∀z∈direct ops y,done z)->∀x∈Cs e y,done x:=by
 intro y
 induction y using Nat.strongRecOn with
 | _ y l =>
  intro j hd x k;have h:=abg.1 d y (List.mem_range.2 j);simp only[Cu,xo] at h;have h2:=abg.1 h.2 x k;simp only[abH] at h2;rcases h2 with h2 | h2
  ·exact hd x (di.1 h2)
  ·obtain⟨z,f,b⟩:=Bo h2;have c:z<y:=by
    have h3:Nat.blt z y=true:=abg.1 h.1 z f;simpa using h3
   exact l z c (by omega) (a z (by omega) (hd z f)) x b
theorem qH {A:cJ}:∀{is:List Nat}{ss:List ak},fp P A ops is=some ss->ss.length=is.length/\∀p q y,is=p++y::q->∃a c b,ss=a++c::b/\a.length=p.length/\Cr P A ops y=some c/\fp P A ops (p++q)=some (a++b)
 | [],ss,h=>by
  simp only[fp,aa1] at h;subst h;refine⟨rfl,fun p q y e=>?_⟩;cases p<;>cases e
 | i::is,ss,h=>by
  simp only[fp] at h;split at h
  case h_2=>cases h
  rename_i s d h1 h2;injection h with h
  subst h;obtain⟨f,m⟩:=qH h2;refine⟨by simp[f],fun p q y e=>?_⟩;cases p with
  | nil =>
   simp only[abF,List.cons.injEq] at e;obtain⟨rfl,rfl⟩:=e;exact⟨[],s,d,rfl,rfl,h1,by simpa using h2⟩
  | cons x p =>
   simp only[abj,List.cons.injEq] at e;obtain⟨rfl,rfl⟩:=e;obtain⟨a,c,b,k,l,n,j⟩:=m p q y rfl;refine⟨s::a,c,b,by simp[k],by simp[l],n,?_⟩;simp only[abj,fp,h1,j]
theorem wJ {d:List (List Nat)}:∀{p q:List (Nat×ak)}{y:Nat×ak},pF d (p++y::q)=true->pF d (p++q)=true/\∀x∈p,mJ x.2 y.2=true\/x.1∈Cs d y.1
 | [],q,y,h=>by
  obtain⟨y1,y2⟩:=y;simp only[abF,pF,xo] at h ⊢;exact⟨h.2,fun x b=>by cases b⟩
 | (e,f)::p,q,y,h=>by
  simp only[abj,pF,xo] at h ⊢;obtain⟨h1,h2⟩:=h;obtain⟨h3,h4⟩:=wJ h2;have a:=abg.1 h1;refine⟨⟨abg.2 fun z c=>a z ?_,h3⟩,fun x b=>?_⟩
  ·rcases aa9.1 c with c | c
   ·exact aa9.2 (.inl c)
   ·exact aa9.2 (.inr (abz _ c))
  ·rcases abd.1 b with rfl | b
   ·have:=a y (aa9.2 (.inr (by simp)));simp only[abH] at this;rcases this with h | h
    ·exact .inl h
    ·exact .inr (di.1 h)
   ·exact h4 x b
theorem aC.same {L L2:Loc}{ρ:Env}{a:Act}(h:aC L ρ a) (b:L.sameAs L2):aC L2 ρ a:=by
 have c:∀sv,conc L2 sv=conc L sv:=by
  intro sv;cases sv with
  | v x=>rfl
  | el a j=>rfl
  | own k off=>simp only[conc,b k]
 exact⟨fun j=>by rw[c];exact h.eq j,fun j k off e=>by rw[b k];exact h.own j k off e,h.el⟩
theorem Step.aaV {F F':aA}{L L' L2:Loc}{w w':World}(h:Step F L w F' L' w') (a:L'.sameAs L2):Step F L w F' L2 w' :=
 ⟨h.le,h.os,h.tape,h.output,h.size,h.same,h.frz,fun b ⟨k,o,e,hb⟩=>h.own b ⟨k,o,by rw[<-a k];exact e,hb⟩⟩
theorem DX {A:cJ}{i:Nat}{s:ak}{m:List ak}{F:aA}{L:Loc}{ρ:Env}{a:Act}{w:World}{KK:Act->World->Prop}(hi:i<ops.size) (c:Cr P A ops i=some s) (hs:St F L w) (he:aC L ρ a) (hn:a.tmps.size=A.n)
  (l:aW P (s::m) F L ρ K)
  (hQ:∀a' w' F' L' ρ',St F' L' w'->aC L' ρ' a'->a'.tmps.size=A.n->a'.defers=a.defers->Step F L w F' L' w'->(∀j,((ops[i]?).bind (·.dst))≠some j->a'.tmps.getD j undef=a.tmps.getD j undef)->aW P m F' L' ρ' K->KK a' w') :
  wpOp P ops Q i KK a w:=by
 unfold Cr at c;split at c
 case h_1=>cases c
 rename_i o ag;split at c
 case h_2=>cases c
 rename_i g s0 y am aa;split at c
 ·split at c
  ·injection c with c
   subst c;simp only[aW] at l
  ·injection c with c
   subst c;simp only[aW] at l
  ·cases c
 have bd:∃s',s=.op o.dst s' g/\((∀{F:aA}{L:Loc}{ρ:Env}{K:dQ},evalOp P s' o.dst F L ρ K->evalOp P s0 o.dst F L ρ (fun F' L' ρ'=>Real F' L'->K F' L' ρ')) \/
   ∀{F:aA}{L:Loc}{ρ:Env}{K:dQ},evalOp P s' o.dst F L ρ K->evalOp P s0 o.dst F L ρ (fun F' L' ρ'=>∃L2,L'.sameAs L2/\(Real F' L2->K F' L2 ρ'))):=by
  split at c
  ·split at c
   case h_2=>cases c
   rename_i s' z;injection c with c
   exact⟨s',c.symm,.inl fun h=>Ot z h⟩
  ·split at c
   case h_2=>cases c
   rename_i s' z;split at c
   case h_2=>cases c
   rename_i ae;injection c with c
   cases al:iw s' with
   | true=>exact⟨s',c.symm,.inr fun h=>KC z al h⟩
   | false=>exact⟨s',c.symm,.inl fun h=>Oy z ae al h⟩
 obtain⟨s',bb,u⟩:=bd;subst bb;have hd:∀k,o.dst=some k->k<a.tmps.size:=by
  intro k hk;rw[hk] at aa;rw[hn];have h2:Nat.blt k A.n=true:=aa;simpa using h2
 have aE:(ops[i]?).bind (·.dst)=o.dst:=by rw[ag];rfl
 rw[aE] at hQ;simp only[wpOp,ag];have r:evalOp P s' o.dst F L ρ (fun F' L' ρ'=>aW P m F' L' ρ' K)->o.wp P a w KK Q:=by
  intro l;rcases u with u | u
  ·have h1:=u l;have:=fV (Q:=Q) hs he hd am h1;refine Oper.wp_mono ?_ (qF (asg:=[]) this);rintro a' w' ⟨⟨F',L',ρ',g1,g2,g3,g4,g5,g6⟩,ab⟩;exact hQ a' w' F' L' ρ' g1 g2 (by rw[g3,hn]) g4 g5 ab (g6 ⟨w',g1⟩)
  ·have h1:=u l;have:=fV (Q:=Q) hs he hd am h1;refine Oper.wp_mono ?_ (qF (asg:=[]) this);rintro a' w' ⟨⟨F',L',ρ',g1,g2,g3,g4,g5,L2,g6,g7⟩,ab⟩;have s1:St F' L2 w':=g1.part fun k o e=>by rw[<-g6 k];exact e
   exact hQ a' w' F' L2 ρ' s1 (g2.same g6) (by rw[g3,hn]) g4 (g5.aaV g6) ab (g7 ⟨w',s1⟩)
 have skip:aW P m F L (put o.dst (.v undef) ρ) K->KK (a.put o.dst undef) w:=by
  intro l;exact hQ _ w F L _ hs (he.put hd (v:=undef) (x:=.v undef) rfl cK fD (uc L)) (by rw[jV,hn]) (gT _ _ _) (Step.refl _ _ _) (fun j hj=>kK hj) l
 cases t:o.guard with
 | none =>
  rw[t] at y;simp only[iJ,aa1] at y;subst y;simp only[aW] at l;rw[eu (by simp[Region.wanted,t])];exact .inl (r l)
 | some p =>
  obtain⟨j,q⟩:=p;rw[t] at y;simp only[iJ] at y;split at y
  case h_2=>cases y
  rename_i d ad;injection y with y
  subst y;simp only[aW] at l;split at l
  ·rename_i b hb;have f:=he.eq d;rw[hb] at f;have hy:yielded ops a.tmps j=some b:=by
    simp only[yielded,ad,Option.bind_some,rG f]
   have hw:Region.wanted o (yielded ops a.tmps)=(b == q):=by
    simp only[Region.wanted,t,hy];cases b<;>cases q<;>rfl
   rw[hw];cases b<;>simp only[Ap] at l
   ·rw[lg hb] at l;cases q
    ·exact .inl (r l)
    ·exact skip l
   ·rw[lg hb] at l;cases q
    ·exact skip l
    ·exact .inl (r l)
  ·rename_i vs hb;have f:=he.eq d;rw[hb] at f;have hy:yielded ops a.tmps j=none:=by
    simp only[yielded,ad,Option.bind_some];rw[abp] at f;cases e:a.tmps[d]? with
    | none=>rfl
    | some v=>rw[e] at f;simp only[Option.getD_some,conc] at f;rw[f]
   have hw:Region.wanted o (yielded ops a.tmps)=false:=by
    simp only[Region.wanted,t,hy];rfl
   rw[hw];exact skip l
  ·exact l.elim
theorem aC.vd {L:Loc}{ρ:Env}{a:Act}(he:aC L ρ a):Vd L ρ:=by
 intro t k off e;exact he.own t k off e
theorem uj {l:Array Bool}{z:Nat}(h:z<l.size) (b c:Bool):l.getD z b=l.getD z c:=by
 simp[abp,h]
theorem min_mem:∀{l:List Nat},l≠[]->∃y,y∈l/\∀z∈l,y<=z
 | [],h=>o5 rfl h
 | [x],_=>⟨x,by simp,fun z a=>by simp at a;omega⟩
 | x::b::l,_=>by
  obtain⟨y,h1,h2⟩:=min_mem (l:=b::l) (by simp)
  by_cases h:x<=y
  ·exact⟨x,by simp,fun z a=>by
    rcases abd.1 a with rfl | a
    ·exact abh _
    ·exact abN h (h2 z a)⟩
  ·exact⟨y,abz _ h1,fun z a=>by
    rcases abd.1 a with rfl | a
    ·omega
    ·exact h2 z a⟩
theorem pG {i z:Nat}{o:Oper}(a:ops[i]?=some o):z∈direct ops i↔∃e∈o.after,Region.binds .any e=true/\e.on=z:=by
 simp only[direct,a,abx,List.mem_filter,Array.mem_toList_iff,binding];constructor
 ·rintro⟨e,⟨h1,h2⟩,h3⟩;exact⟨e,h1,h2,h3⟩
 ·rintro⟨e,h1,h2,h3⟩;exact⟨e,⟨h1,h2⟩,h3⟩
theorem I3 {A:cJ}{cl:List (List Nat)}(ba:KG ops cl=true):∀(m:Nat) (l:List Nat) (ss:List ak) (b:Array Bool) (F:aA) (L:Loc) (ρ:Env) (a:Act) (w:World),
  fp P A ops l=some ss->b.size=ops.size->l.Nodup->(∀i,i∈l↔i<ops.size/\b.getD i true=false)->l.length<=m->pF cl (l.zip ss)=true ->
  (∀i,i<ops.size->b.getD i true=true->∀z∈direct ops i,b.getD z true=true) ->
  St F L w->aC L ρ a->a.tmps.size=A.n->aW P ss F L ρ K ->
  (∀a' w',eZ A.n F L w a (dstsOf ops (List.range ops.size)) K a' w'->Q .normal a' w')->wpAny P .any ops Q m b a w:=by
 have r:∀y z,y<ops.size->z∈direct ops y->z<y:=by
  intro y z hy u;have h:=abg.1 ba y (List.mem_range.2 hy);simp only[Cu,xo] at h;have h3:Nat.blt z y=true:=abg.1 h.1 z u;simpa using h3
 intro m
 induction m with
 | zero =>
  intro l ss b F L ρ a w hl ar aE d ad hp c hs he hn hK hQ;have:l=[]:=abO (by omega);subst this;simp only[fp,aa1] at hl;subst hl;refine⟨?_,hQ a w ⟨F,L,ρ,hs,he,hn,rfl,Step.refl _ _ _,fun _ _=>rfl,hK⟩⟩;apply List.eq_nil_iff_forall_not_mem.2;intro i hi;rw[mem_ready] at hi;obtain⟨h1,o,h2,_⟩:=hi;have:=(d i).2 ⟨(Array.getElem?_eq_some_iff.1 h2).1,h1⟩;cases this
 | succ m ih =>
  intro l ss b F L ρ a w hl ar aE d ad hp c hs he hn hK hQ;refine⟨fun hr=>?_,fun y hy=>?_⟩
  ·have:l=[]:=by
    refine Classical.byContradiction fun s=>?_;obtain⟨y,h1,h2⟩:=min_mem s;obtain⟨h3,h4⟩:=(d y).1 h1;have ab:y∈Region.ready .any ops b:=by
     rw[mem_ready];refine⟨h4,ops[y],Array.getElem?_eq_getElem h3,fun e ag al=>?_⟩;have u:e.on∈direct ops y:=(pG (Array.getElem?_eq_getElem h3)).2 ⟨e,ag,al,rfl⟩;have ce:=r y e.on h3 u;rw[uj (by omega) false true];cases hd:b.getD e.on true with
     | true=>rfl
     | false =>
      have:=h2 e.on ((d e.on).2 ⟨by omega,hd⟩);omega
    rw[hr] at ab;cases ab
   subst this;simp only[fp,aa1] at hl;subst hl;exact hQ a w ⟨F,L,ρ,hs,he,hn,rfl,Step.refl _ _ _,fun _ _=>rfl,hK⟩
  ·rw[mem_ready] at hy;obtain⟨h1,o,ho,am⟩:=hy;have f:=(Array.getElem?_eq_some_iff.1 ho).1;have ao:=(d y).2 ⟨f,h1⟩;obtain⟨p,q,rfl⟩:=List.append_of_mem ao;obtain⟨dj,be⟩:=qH hl;obtain⟨sp,sy,sq,rfl,ae,bu,cc⟩:=be p q y rfl;have bc:(p++y::q).zip (sp++sy::sq)=p.zip sp++(y,sy)::q.zip sq:=by
    rw[List.zip_append ae.symm];rfl
   rw[bc] at hp;obtain⟨bz,cf⟩:=wJ hp;have v:∀z∈direct ops y,b.getD z true=true:=by
    intro z u;have ce:=r y z f u;obtain⟨e,ag,al,rfl⟩:=(pG ho).1 u;rw[uj (by omega) true false];exact am e ag al
   have t:∀sx∈sp,mJ sx sy=true:=by
    intro sx cd;obtain⟨k,hk⟩:=List.getElem?_of_mem cd;have cx:=(aa6.1 hk).1;have bi:p[k]?=some (p[k]'(by omega)):=aa4 (by omega);have hm:(p[k]'(by omega),sx)∈p.zip sp:=aa8 (i:=k) (by rw[List.getElem?_zip_eq_some];exact⟨bi,hk⟩);rcases cf _ hm with h | h
    ·exact h
    ·exfalso;have hd:=wI ba (done:=fun z=>b.getD z true=true) c y f v _ h;have bo:p[k]'(by omega)∈p++y::q:=aa9.2 (.inl (aa8 bi));have:=((d _).1 bo).2;simp only at hd;rw[hd] at this;cases this
   have ca:=Bn sp t ⟨w,hs⟩ he.vd hK;refine DX f bu hs he hn ca ?_;intro a' w' F' L' ρ' g1 g2 g3 g4 g5 g6 g7;have ac:(p++q).Nodup/\y∉p++q:=by
    have:=(List.perm_middle.nodup_iff).1 aE;rw[List.nodup_cons] at this;exact⟨this.2,this.1⟩
   have aa:∀i,(b.setIfInBounds y true).getD i true=if i=y then true else b.getD i true:=by
    intro i;simp only[abp,Array.getElem?_setIfInBounds]
    by_cases hi:y=i
    ·subst hi;rw[eu rfl,eu rfl];simp[ar,f]
    ·rw[fo hi,fo (fun h=>hi h.symm)]
   refine ih (p++q) (sp++sq) _ F' L' ρ' a' w' cc (by simp[ar]) ac.1 (fun i=>?_) (by simp at ad ⊢;omega) ?_ ?_ g1 g2 g3 g7 ?_
   ·rw[aa];have h0:=d i;constructor
    ·intro hi;have s:i≠y:=fun e=>ac.2 (e▸hi);rw[fo s];refine h0.1 ?_;rcases aa9.1 hi with h | h
     ·exact aa9.2 (.inl h)
     ·exact aa9.2 (.inr (abz _ h))
    ·rintro⟨ch,an⟩;split at an
     ·cases an
     ·rename_i s;have:=h0.2 ⟨ch,an⟩;rcases aa9.1 this with h | h
      ·exact aa9.2 (.inl h)
      ·rcases abd.1 h with h | h
       ·exact o5 h s
       ·exact aa9.2 (.inr h)
   ·rw[List.zip_append ae.symm];exact bz
   ·intro i hi hd z u;rw[aa] at hd ⊢;split
    ·rfl
    ·split at hd
     ·rename_i h;subst h;exact v z u
     ·exact c i hi hd z u
   ·rintro ci bp ⟨F'',L'',az,k1,k2,k3,k4,k5,k6,k7⟩;refine hQ ci bp ⟨F'',L'',az,k1,k2,k3,k4.trans g4,g5.trans k5,fun j hj=>?_,k7⟩;rw[k6 j hj,g6 j];intro e;apply hj;have:∀(is:List Nat),y∈is->j∈dstsOf ops is:=by
     intro is
     induction is with
     | nil=>intro h;cases h
     | cons x is bb =>
      intro h;simp only[dstsOf];rcases abd.1 h with rfl | h
      ·rw[e];simp
      ·split
       ·exact abz _ (bb h)
       ·exact bb h
    exact this _ (List.mem_range.2 f)
theorem yx {A:cJ}{r:Nat}{is:List Nat}{s:List (List Nat)}{ss:List ak}{F:aA}{L:Loc}{ρ:Env}{a:Act}{w:World}(o:fp P A ops is=some ss) (e:FL P ops is s ss=true)
  (x:St F L w) (he:aC L ρ a) (k:a.tmps.size=A.n) (u:aW P ss F L ρ K) (l:∀a' w',eZ A.n F L w a (dstsOf ops (List.range ops.size)) K a' w'->Q .normal a' w') :
  (Code.region r ops true).wp P Q a w:=by
 simp only[FL,xo] at e;obtain⟨⟨⟨⟨⟨⟨h1,h2⟩,h3⟩,h4⟩,h5⟩,p⟩,h6⟩:=e;have h3:=dw h3;have h4:=aa5 h4;have c:∀i∈is,i<ops.size:=fun i hi=>by
  have h:Nat.blt i ops.size=true:=abg.1 h5 i hi;simpa using h
 refine wp_region_any h1 ?_;show wpAny P .any ops Q ops.size (Array.replicate ops.size false) a w.drew;refine I3 h2 ops.size is ss _ F L ρ a w.drew o (by simp) h3 (fun i=>?_) (by omega) h6 ?_ x.drew he k u ?_
 ·constructor
  ·intro hi;refine⟨c i hi,?_⟩;simp[abp,c i hi]
  ·rintro⟨hi,_⟩;exact di.1 (abg.1 p i (List.mem_range.2 hi))
 ·intro i hi d;simp[abp,hi] at d
 ·rintro a' w' ⟨F',L',ρ',v,t,j,f,b,m,q⟩;refine l a' w' ⟨F',L',ρ',v,t,j,f,?_,m,q⟩;exact⟨b.le,b.os,b.tape,b.output,b.size,b.same,b.frz,b.own⟩
end
def kW (L L':Loc):Prop:=∀k g t cs,L.get k=some (.box g t cs)->∃cs',L'.get k=some (.box g t cs')
def yA (ks:List Nat) (L L':Loc):Prop:=∀k g t cs,L.get k=some (.box g t cs)->∃cs',L'.get k=some (.box g t cs')/\(k∉ks->cs'=cs)
structure gu (P:Program) (PX:aA->Loc->Value->Prop) (f:Nat) (args:List Value) (F:aA) (L:Loc) (K:aA->Loc->Value->Prop):Prop where
 out:∃(ks ko:List Nat) (Lin:List Own) (R:aA->List Own->Value->Prop) (Pp:aA->List Own->Value->Prop),L.sub ks=some Lin/\ks.Nodup/\ko.Nodup/\(∀k,k∈ko->k∈ks\/L.get k=none)/\xG P f args.toArray F Lin R Pp /\
  (∀v F' Lo,F.le F'->ks.length=Lo.length->yA ks L ((L.aas ks).puts ks Lo)->Pp F' Lo v->PX F' ((L.aas ks).puts ks Lo) v) /\
  ∀v F' Lo,F.le F'->R F' Lo v->ko.length=Lo.length /\
   (∀k g t cs,k∈ks->L.get k=some (.box g t cs)->∃cs',Loc.get ((L.aas ks).puts ko Lo) k=some (.box g t cs')) /\
   K F' ((L.aas ks).puts ko Lo) v
section
variable {P:Program}{F:aA}{L:Loc}{ρ:Env}{a:Act}{w:World}{K:dQ}{o:Oper}{Q:Exit->Act->World->Prop}
theorem gu.imp {PX:aA->Loc->Value->Prop}{f:Nat}{args:List Value}{K K':aA->Loc->Value->Prop}(h:gu P PX f args F L K) (d:∀F' L' v,K F' L' v->K' F' L' v):gu P PX f args F L K':=by
 obtain⟨ks,ko,l,R,Pp,h1,h2,h3,h4,h5,h6,j⟩:=h;exact⟨ks,ko,l,R,Pp,h1,h2,h3,h4,h5,h6,fun v F' Lo e k=>let⟨a,b,c⟩:=j v F' Lo e k;⟨a,b,d _ _ _ c⟩⟩
theorem DY {PX:aA->Loc->Value->Prop}{f:Nat}{args:List Value}(hs:St F L w) (he:aC L ρ a) (hd:∀k,o.dst=some k->k<a.tmps.size)
  (hrun:(∃fn,P.funcs[f]?=some fn/\fn.body.isSome=true/\(fn.name == "runtime.NumGoroutine")=false)->(execOp a.eval o).run P w=.ok (.enter f args.toArray) w)
  (hK:gu P PX f args F L fun F' L' v=>K F' L' (put o.dst (.v v) ρ))
  (hQ:∀v ch w' F' L',sQ v ch->St F' L' w'->Step F L w F' L' w'->PX F' L' v->Q (.panic ch) a w'):o.wp P a w (bK F L w a K) Q:=by
 obtain⟨ks,ko,l,R,Pp,hsub,hn,hno,hko,hc,hPX,hK⟩:=hK;unfold Oper.wp;rw[hrun hc.ent];rw[Oper.upon_enter];refine(hc.run w (hs.handed hsub hn)).mono ?_;rintro e w' (⟨v,F',lo,rfl,hs',hst,hR⟩ | ⟨v,ch,F',lo,rfl,hch,hs',hst,hlo,hbx,hp⟩)
 ·obtain⟨hlen,hbox,hK⟩:=hK v F' lo hst.le hR;obtain⟨h1,h2⟩:=gF hs hsub hn hno hko hs' hst hlen;refine⟨F',_,_,h1,he.put hd (x:=.v v) rfl cK fD ?_,jV _ _ _,gT _ _ _,h2,hK⟩;intro k g ty cs e
  by_cases hk:k∈ks
  ·exact hbox k g ty cs hk e
  ·rcases dB ko lo (L.aas ks) k hno hlen with⟨h1,h2⟩ | ⟨i,h1,h2,h3⟩
   ·rw[h1,fH,fo hk];exact⟨cs,e⟩
   ·rcases hko k (aa8 h1) with h | h
    ·exact o5 h hk
    ·rw[h] at e;cases e
 ·obtain⟨hl,hg⟩:=cP hsub;have hlen:ks.length=lo.length:=by rw[hlo,hl]
  obtain⟨h1,h2⟩:=gF hs hsub hn hn (fun k hk=>.inl hk) hs' hst hlen;refine hQ v ch w' F' _ hch h1 h2 (hPX v _ _ hst.le hlen ?_ hp);intro k g t cs e;rcases dB ks lo (L.aas ks) k hn hlen with⟨q1,q2⟩ | ⟨i,q1,q2,q3⟩
  ·rw[q1,fH,fo q2];exact⟨cs,e,fun _=>rfl⟩
  ·rw[q2];have:=hg i k q1;rw[e] at this;obtain⟨cs',h⟩:=hbx i g t cs this.symm;exact⟨cs',h,fun h=>o5 (aa8 q1) h⟩
end
section
variable {P:Program}
theorem oq {y:Operand}{s:eI}(h:AZ y=some s):∃g,s=.gload g:=by
 cases y with
 | global g =>
  simp only[AZ] at h;split at h
  ·injection h with h;exact⟨_,h.symm⟩
  ·cases h
 | tmp n=>cases h
 | const v=>cases h
 | func f=>cases h
theorem KH {own:Bool}{op:Op}{f:Nat}{args:List X}(b:iH P own op=some (.call f args)):∃c,op=.call c/\c.callee=.value (.func f)/\gP c.args.toList=some args:=by
 cases op
 case call c =>
  simp only[iH] at b;split at b
  case h_1=>cases b
  rename_i e d;split at b
  ·rename_i f' j;split at b
   case h_2=>cases b
   split at b
   case h_2=>cases b
   injection b with b
   injection b with e1 e2
   subst e1 e2;exact⟨c,rfl,j,d⟩
  all_goals (exfalso;revert b;repeat' split)<;>simp
 all_goals (exfalso;revert b;simp only[iH];repeat' split)<;>first | contradiction | (intro h;obtain⟨k,h⟩:=oq h;cases h;done) | (simp;done) | (rename_i h0;obtain⟨k,rfl⟩:=oq h0;simp)
theorem I4 {own:Bool}{op:Op}{x:X}{args:List X}(b:iH P own op=some (.callV x args)):∃c,op=.call c/\gP c.args.toList=some args/\((∃y,c.callee=.value y/\bQ y=some x)\/∃n j,x=.mt j n):=by
 cases op
 case call c =>
  simp only[iH] at b;split at b
  case h_1=>cases b
  rename_i e d;split at b
  ·exfalso;revert b;(repeat' split)<;>simp
  ·rename_i y _ f;split at b
   case h_2=>cases b
   rename_i h1;injection b with b
   injection b with e1 e2
   subst e1 e2;exact⟨c,rfl,d,.inl ⟨y,f,h1⟩⟩
  ·rename_i n j f;injection b with b
   injection b with e1 e2
   subst e1 e2;exact⟨c,rfl,d,.inr ⟨_,_,rfl⟩⟩
  all_goals (exfalso;revert b;repeat' split)<;>simp
 all_goals (exfalso;revert b;simp only[iH];repeat' split)<;>first | contradiction | (intro h;obtain⟨k,h⟩:=oq h;cases h;done) | (simp;done) | (rename_i h0;obtain⟨k,rfl⟩:=oq h0;simp)
theorem Oz {own:Bool}{op:Op}{x:X}(b:iH P own op=some (.pan x)):∃y,op=.panic y/\bQ y=some x:=by
 cases op
 case panic y =>
  simp only[iH] at b;split at b
  case h_2=>cases b
  rename_i h1;injection b with b
  injection b with e1
  subst e1;exact⟨y,rfl,h1⟩
 all_goals (exfalso;revert b;simp only[iH];repeat' split)<;>first | contradiction | (intro h;obtain⟨k,h⟩:=oq h;cases h;done) | (simp;done) | (rename_i h0;obtain⟨k,rfl⟩:=oq h0;simp)
end
section
variable {P:Program}{F:aA}{L:Loc}{ρ:Env}{a:Act}{w:World}{K:dQ}{o:Oper}{Q:Exit->Act->World->Prop}
theorem wK {PX:aA->Loc->Value->Prop}{own:Bool}{f:Nat}{args:List X}(q:St F L w) (he:aC L ρ a) (hd:∀k,o.dst=some k->k<a.tmps.size) (m:iH P own o.op=some (.call f args))
  (p:gu P PX f (bE L ρ args) F L fun F' L' v=>K F' L' (put o.dst (.v v) ρ))
  (l:∀v h w' F' L',sQ v h->St F' L' w'->Step F L w F' L' w'->PX F' L' v->Q (.panic h) a w'):o.wp P a w (bK F L w a K) Q:=by
 refine DY q he hd (fun d=>?_) p l;obtain⟨c,r,n,j⟩:=KH m;have e:=gS j he;have b:c.args.map a.eval=(bE L ρ args).toArray:=by apply Array.ext';simpa using e
 simp[execOp,r,resolve,n,Deferred.ofValue,Act.eval,invoke,b,iS d]
theorem um {PX:aA->Loc->Value->Prop}{own:Bool}{f:Nat}{x:X}{j h:Array Value}{args:List X}(hs:St F L w) (he:aC L ρ a) (hd:∀k,o.dst=some k->k<a.tmps.size) (t:iH P own o.op=some (.callV x args)) (p:ev ρ x=.v (.func (.func f) j h))
  (z:gu P PX f (j.toList++bE L ρ args++h.toList) F L fun F' L' v=>K F' L' (put o.dst (.v v) ρ))
  (s:∀v m w' F' L',sQ v m->St F' L' w'->Step F L w F' L' w'->PX F' L' v->Q (.panic m) a w'):o.wp P a w (bK F L w a K) Q:=by
 refine DY hs he hd (fun e=>?_) z s;obtain⟨c,ho,r,⟨y,u,q⟩ | ⟨n,nm,rfl⟩⟩:=I4 t
 rotate_left
 ·exfalso
  revert p
  simp only[ev];cases ρ n<;>simp[UY,undef]
 have ey:=aI q he;have l:=gS r he;have b:c.args.map a.eval=(bE L ρ args).toArray:=by apply Array.ext';simpa using l
 have d:j++((bE L ρ args).toArray++h)=(j.toList++(bE L ρ args++h.toList)).toArray:=by apply Array.ext';simp
 simp[execOp,ho,resolve,u,Deferred.ofValue,ey,dh p,invoke,b];rw[iS e,d]
theorem I5 {PX:aA->Loc->Value->Prop}{own:Bool}{x:X}(k:St F L w) (he:aC L ρ a) (f:iH P own o.op=some (.pan x)) {t:TypeId}{u:Value}(h:val L ρ x=.iface t u) (j:PX F L (.iface t u))
  (e:∀v c w' F' L',sQ v c->St F' L' w'->Step F L w F' L' w'->PX F' L' v->Q (.panic c) a w'):o.wp P a w (bK F L w a K) Q:=by
 obtain⟨y,m,d⟩:=Oz f;have l:=aI d he;unfold Oper.wp;have b:(execOp a.eval o).run P w=.halt (.panic (.iface t u)) w:=by
  simp[execOp,m,l,h,Instr.panic,goPanic]
 rw[b];exact e _ _ w F L (sQ.one _) k (Step.refl _ _ _) j
end
structure lm (P:Program) (PX:aA->Loc->Value->Prop) (fb:List Nat) (f:Nat) (args:List Value) (F:aA) (L:Loc) (K:aA->Loc->Value->Prop):Prop where
 out:∃(ks:List Nat) (Lin:List Own) (R:aA->List Own->Value->Prop) (Pp:aA->List Own->Value->Prop),L.sub ks=some Lin/\ks.Nodup/\(∀k∈ks,k∉fb)/\xG P f args.toArray F Lin R Pp /\
  (∀v F' L' Lo,F.le F'->L'.sub ks=some Lo->yA ks L L'->Pp F' Lo v->PX F' L' v) /\
  ∀v F' Lo,F.le F'->R F' Lo v->ks.length=Lo.length/\(∀(i:Nat) g t cs,Lin[i]?=some (.box g t cs)->∃cs',Lo[i]?=some (.box g t cs')) /\
   (Real F' (L.puts ks Lo)->K F' (L.puts ks Lo) v)
def tj (P:Program) (L:Loc) (ρ:Env):eI->Option (Nat×List Value)
 | .call f args=>some (f,bE L ρ args)
 | .callV f args=>match ev ρ f with
  | .v (.func (.func f) b a)=>some (f,b.toList++bE L ρ args++a.toList)
  | _=>none
 | _=>none
def Cv:eI->List Nat
 | .call _ args=>cD args
 | .callV f args=>cD (f::args)
 | _=>[]
def FM:eI->Bool
 | .call _ _=>true
 | .callV _ _=>true
 | _=>false
def bq (P:Program) (PX:aA->Loc->Value->Prop) (fb:List Nat):List ak->aA->Loc->Env->dQ->Prop
 | [],F,L,ρ,K=>K F L ρ
 | .op d o g::a,F,L,ρ,K=>∃o',res g ρ o=some o'/\evalOp P o' d F L ρ fun F' L' ρ'=>bq P PX fb a F' L' ρ' K
 | .frz _::_,_,_,_,_=>False
 | .pc d o g::a,F,L,ρ,K=>match tj P L ρ o,g with
  | some (f,b),none=>lm P PX fb f b F L fun F' L' v=>bq P PX fb a F' L' (put d (.v v) ρ) K
  | _,_=>False
def KI:eI->Bool
 | .loadF _ _ _=>true
 | .gload _=>true
 | _=>false
def RH:eI->Bool
 | .mkfn _ _ _=>true
 | _=>false
def UO (o:eI):Bool:=DS o||KI o||RH o
def U2 (fb:List Nat):eI->Bool
 | .loadK key _ _ _=>fU fb key
 | _=>false
theorem mK {fb:List Nat}{o:eI}(h:(UO o||U2 fb o)=true):dm o=true:=by cases o<;>first | rfl | (exact o5 h (by decide)) | (simp[UO,U2,DS,KI,RH] at h)
def yB:ak->Option Nat
 | .op d (.allocD _ _) none=>d
 | _=>none
def AB:ak->Option Nat
 | .op d _ _=>d
 | .frz _=>none
 | .pc d _ _=>d
def jv (fb:List Nat):ak->ak->Bool
 | .op a x c,.op b y d=>mJ (.op a x c) (.op b y d)
 | .op a x c,.pc b y none=>FM y&&(UO x||U2 fb x)&&s9 a (Cv y)&&s9 b (looks x c)&&DW a b
 | .pc a x none,.op (some k) (.allocD _ _) none=>FM x&&s9 (some k) (Cv x)&&DW a (some k)
 | _,_=>false
def U3:ak->Bool
 | .op _ o _=>okD o
 | .pc _ o none=>FM o
 | _=>false
section
variable {P:Program}{PX:aA->Loc->Value->Prop}{fb:List Nat}{F F':aA}{L L':Loc}{ρ:Env}{K K':dQ}
theorem I6 {sv:SV}(hb:kW L L') (b:∀k off,sv=.own k off->∃g t cs,L.get k=some (.box g t cs)):conc L' sv=conc L sv:=by
 cases sv with
 | v x=>rfl
 | el a j=>rfl
 | own k off =>
  obtain⟨g,t,cs,e⟩:=b k off rfl;obtain⟨cs',c⟩:=hb k g t cs e;simp only[conc,e,c]
theorem KJ (hb:kW L L') (a:Vd L ρ) (x:X):val L' ρ x=val L ρ x:=I6 hb fun k off e=>a.ev e
theorem tq (hb:kW L L') (a:Vd L ρ) (xs:List X):bE L' ρ xs=bE L ρ xs:=dJ fun x _=>KJ hb a x
theorem yC {d:Option Nat}{v:SV}{xs:List X}(h:∀k,d=some k->k∉cD xs):bE L (put d v ρ) xs=bE L ρ xs:=dJ fun x a=>by simp only[val,ga h x a]
theorem OA {o:eI}(h:(UO o||U2 fb o)=true) (f:∀j∈fb,L'.get j=L.get j) (c:F.le F') (hb:kW L L') (d:Vd L ρ) {V:SV->Prop}(a:aM o F L ρ V):aM o F' L' ρ V:=by
 simp only[UO,abH] at h;rcases h with((h | h) | h) | h
 rotate_right
 ·cases o<;>first | (cases h;done) | skip
  rename_i key m n x;have l:=f key (di.1 h);simp only[aM] at a ⊢;split at a
  ·rename_i k off e;split at a
   ·rename_i b;have b:=aa5 b;subst b;rw[l];exact a
   ·exact a.elim
  ·exact a.elim
 ·exact Bj h a
 ·cases o<;>first | (cases h;done) | skip
  ·simp only[aM] at a ⊢;obtain⟨u,t,fr,h1,h2⟩:=a;exact⟨u,t,fr,c _ _ h1,h2⟩
  ·simp only[aM] at a ⊢;split at a
   ·exact a.up c
   ·exact a.up c
   ·exact a.elim
 ·cases o<;>first | (cases h;done) | skip
  simp only[aM,tq hb d] at a ⊢;exact a
theorem kW.vd (hb:kW L L') (a:Vd L ρ):Vd L' ρ:=fun t k off e=>let⟨g,ty,cs,h⟩:=a t k off e;let⟨cs',h'⟩:=hb k g ty cs h;⟨g,ty,cs',h'⟩
theorem Vd.aaY (a:Vd L ρ) (d:Option Nat) (v:Value):Vd L (put d (.v v) ρ):=by
 intro t k off e;rw[put_eq] at e;cases d with
 | none=>exact a t k off e
 | some j =>
  simp only[] at e;split at e
  ·cases e
  ·exact a t k off e
theorem vK {ks:List Nat}{Lin Lo:List Own}(d:L.sub ks=some Lin) (f:ks.Nodup) (b:ks.length=Lo.length) (h:∀(i:Nat) g t cs,Lin[i]?=some (.box g t cs)->∃cs',Lo[i]?=some (.box g t cs')) :
  kW L (L.puts ks Lo)/\(∀j,L.get j=none->(L.puts ks Lo).get j=none)/\∀j,j∉ks->(L.puts ks Lo).get j=L.get j:=by
 obtain⟨o,m⟩:=cP d;refine⟨fun k g t cs e=>?_,fun j e=>?_,fun j n=>?_⟩
 ·rcases dB ks Lo L k f b with⟨a,c⟩ | ⟨i,a,c,l⟩
  ·rw[a];exact⟨cs,e⟩
  ·rw[c];have:=m i k a;rw[e] at this;exact h i g t cs this.symm
 ·rcases dB ks Lo L j f b with⟨a,c⟩ | ⟨i,a,c,l⟩
  ·rw[a];exact e
  ·have:=m i j a;rw[e] at this;have h2:=abT.1 this.symm;omega
 ·rcases dB ks Lo L j f b with⟨a,c⟩ | ⟨i,a,c,l⟩
  ·exact a
  ·exact o5 (aa8 a) n
theorem lm.imp {f:Nat}{args:List Value}{K K':aA->Loc->Value->Prop}(h:lm P PX fb f args F L K)
  (k:∀F' L' v,F.le F'->kW L L'->(∀j,L.get j=none->L'.get j=none)->(∀j∈fb,L'.get j=L.get j)->Real F' L'->K F' L' v->K' F' L' v):lm P PX fb f args F L K':=by
 obtain⟨ks,l,R,Pp,h1,h2,h0,h3,h4,h5⟩:=h;refine⟨ks,l,R,Pp,h1,h2,h0,h3,h4,fun v F' Lo d n=>?_⟩;obtain⟨a,b,c⟩:=h5 v F' Lo d n;obtain⟨k1,m,o⟩:=vK h1 h2 a b;exact⟨a,b,fun e=>k _ _ _ d k1 m (fun j p=>o j fun h=>h0 j h p) e (c e)⟩
theorem jo {d:Option Nat}{o:eI}{g:Option (Nat×Bool)}{a:List ak} :
  bq P PX fb (.op d o g::a) F L ρ K↔∃o',res g ρ o=some o'/\evalOp P o' d F L ρ (fun F1 L1 b=>bq P PX fb a F1 L1 b K):=Iff.rfl
theorem sK:∀(ks:List Nat) (Lo:List Own) (L:Loc) {k:Nat}{o:Own},k∉ks->(L.set k o).puts ks Lo=(L.puts ks Lo).set k o
 | [],Lo,L,k,o,_=>by cases Lo<;>rfl
 | j::ks,[],L,k,o,_=>rfl
 | j::ks,p::Lo,L,k,o,h=>by
  simp only[Loc.puts];rw[set_comm L o p (fun e=>h (by simp[e])),sK ks Lo (L.set j p) (fun a=>h (by simp[a]))]
theorem G3:∀{ks:List Nat}{L:Loc}{k:Nat}{o:Own},k∉ks->(L.set k o).sub ks=L.sub ks
 | [],L,k,o,_=>rfl
 | j::ks,L,k,o,h=>by
  simp only[Loc.sub];rw[ck (fun e=>h (by simp[e])),G3 (fun a=>h (by simp[a]))]
theorem S3 {r t:Option Nat}{x y:eI}{gx gy:Option (Nat×Bool)}{a:List ak}(hp:mJ (.op r x gx) (.op t y gy)=true) (hr:Real F L) (s:Vd L ρ) (h:bq P PX fb (.op r x gx::.op t y gy::a) F L ρ K):bq P PX fb (.op t y gy::.op r x gx::a) F L ρ K:=by
  simp only[mJ,xo] at hp;obtain⟨⟨⟨⟨⟨ad,d⟩,hc⟩,h1⟩,h2⟩,h3⟩:=hp;have h1:=kL h1;have h2:=kL h2;have h3:=ol h3;have am:∀k,t=some k->r≠some k:=fun k e e'=>h3 k e' e;rw[jo] at h;obtain⟨w,q,h⟩:=h;have f:okD iL=true:=rfl;have p:okD w=true:=by rcases dK q with rfl | rfl;exact ad;exact f
  have hy:∃o,res gy ρ y=some o:=by
   obtain⟨v,F1,L1,c⟩:=wH p hr h;rw[jo] at c;obtain⟨o,b,_⟩:=c;rw[pE h1] at b;exact⟨o,b⟩
  obtain⟨o,b⟩:=hy;have z:okD o=true:=by rcases dK b with rfl | rfl;exact d;exact f
  have hA:evalOp P w r F L ρ (fun F1 L1 m=>evalOp P o t F1 L1 m (fun F2 L2 n=>bq P PX fb a F2 L2 n K)):=by
   refine j3 p hr s h ?_;rintro F1 L1 m ⟨v,rfl⟩ _ _ _ c;rw[jo] at c;obtain⟨ar,j,c⟩:=c;rw[pE h1,b] at j;injection j with j
   subst j;exact c
  have lx:∀k,t=some k->k∉cD (bI w):=by
   intro k e c;rcases dK q with rfl | rfl
   ·exact h2 k e (om c)
   ·simp[iL,bI,cD] at c
  have ly:∀k,r=some k->k∉cD (bI o):=by
   intro k e c;rcases dK b with rfl | rfl
   ·exact h1 k e (om c)
   ·simp[iL,bI,cD] at c
  have hB:evalOp P o t F L ρ (fun F1 L1 m=>evalOp P w r F1 L1 m (fun F2 L2 n=>bq P PX fb a F2 L2 n K)):=by
   by_cases l:o=iL
   ·subst l;simp only[iL,evalOp,aM,ev];exact yu (K:=fun F2 L2 n=>bq P PX fb a F2 L2 n K) (u:=.v undef) p lx h3 hA
   ·have ey:o=y:=by rcases dK b with h | h;exact h;exact o5 h l
    subst ey;refine KE hr ?_ ly lx h3 s hA;rcases dK q with rfl | rfl
    ·exact hc
    ·simp only[okD,abH] at d;rcases d with d | d
     ·simp only[yw,d,acn,abH];exact .inl (.inl (.inl (.inl (.inl rfl))))
     ·simp only[yw,d,acn,abH];exact .inl (.inr rfl)
  rw[jo];refine⟨o,b,j3 z hr s hB ?_⟩;rintro F1 L1 m ⟨v,rfl⟩ _ _ _ c;rw[jo];exact⟨w,by rw[pE h2];exact q,c⟩
theorem FN {f:X}{args:List X}{k:Nat}(h:k∈cD args):k∈cD (f::args):=by
 cases f<;>simp[cD,h]
theorem DZ {d:Option Nat}{v:SV}{o:eI}(h:∀k,d=some k->k∉Cv o):tj P L (put d v ρ) o=tj P L ρ o:=by
 cases o<;>try rfl
 ·rename_i f args;simp only[tj,yC h]
 ·rename_i f args;have h1:∀k,d=some k->k∉cD args:=fun k e a=>h k e (FN a);have h2:ev (put d v ρ) f=ev ρ f:=ga h f (by simp);simp only[tj,yC h1,h2]
theorem I7 (hb:kW L L') (a:Vd L ρ) (o:eI):tj P L' ρ o=tj P L ρ o:=by
 cases o<;>try rfl
 ·simp only[tj,tq hb a]
 ·simp only[tj,tq hb a]
theorem S5 {f d:Option Nat}{x y:eI}{o:Option (Nat×Bool)}{b:List ak}(w:jv fb (.op f x o) (.pc d y none)=true) (hr:Real F L) (p:Vd L ρ)
  (h:bq P PX fb (.op f x o::.pc d y none::b) F L ρ K):bq P PX fb (.pc d y none::.op f x o::b) F L ρ K:=by
 simp only[jv,xo] at w;obtain⟨⟨⟨⟨_,s⟩,h1⟩,h2⟩,h3⟩:=w;have h1:=kL h1;have h2:=kL h2;have h3:=ol h3;have aa:∀k,d=some k->f≠some k:=fun k e e'=>h3 k e' e;obtain⟨m,c,h⟩:=h;have a:(UO m||U2 fb m)=true:=by rcases dK c with rfl | rfl;exact s;rfl
 rw[cA (mK a)] at h;obtain⟨v,hT,l⟩:=(fI (mK a)).ex _ h;simp only[bq,DZ h1] at l ⊢;split at l
 case h_2=>exact l.elim
 refine l.imp fun F' L' u n r _ t ad j=>⟨m,by rw[pE h2];exact c,?_⟩;rw[cA (mK a)];have z:∀k,d=some k->k∉cD (bI m):=by
  intro k e j;rcases dK c with rfl | rfl
  ·exact h2 k e (om j)
  ·simp[iL,bI,cD] at j
 have q:=rI (mK a) (aA.le_refl F') (vI (L:=L') (ρ:=ρ) (v:=.v u) z) (OA a t n r p hT);refine(fI (mK a)).mono _ _ (fun v' e=>?_) q;subst e;rw[put_comm h3];exact j
theorem S6 {w:Option Nat}{k:Nat}{t:TypeId}{zs:List Value}{x:eI}{n:List ak}(hp:jv fb (.pc w x none) (.op (some k) (.allocD t zs) none)=true) (p:L.get k=none) (hr:Real F L) (ab:Vd L ρ)
  (h:bq P PX fb (.pc w x none::.op (some k) (.allocD t zs) none::n) F L ρ K):bq P PX fb (.op (some k) (.allocD t zs) none::.pc w x none::n) F L ρ K:=by
 simp only[jv,xo] at hp;have h1:=kL hp.1.2;have h3:=ol hp.2;simp only[bq,res,aa1,exists_eq_left',evalOp,p] at h ⊢;intro g ag;split at h
 case h_2=>exact h.elim
 rename_i _ _ f vs aa _;obtain⟨ks,l,R,Pp,z,e2,e0,e3,e4,e5⟩:=h;have r:k∉ks:=by
  intro r;obtain⟨hl,hg⟩:=cP z;obtain⟨i,hi⟩:=List.getElem?_of_mem r;have:=hg i k hi;rw[p] at this;have h5:=(aa6.1 hi).1;have h6:=abT.1 this.symm;omega
 have o:kW L (L.set k (.box g t zs)):=fun j u s cs e=>⟨cs,Keeps.new p j u s cs e⟩;have ea:tj P (L.set k (.box g t zs)) (put (some k) (.own k 0) ρ) x=some (f,vs):=by
  rw[DZ h1,I7 o ab,aa]
 rw[ea];refine⟨ks,l,R,Pp,by rw[G3 r];exact z,e2,e0,e3,fun v F0 L' Lo y ad hb=>e4 v F0 L' Lo y ad fun j u s cs e=>hb j u s cs (Keeps.new p j u s cs e),fun v F' Lo y hR=>?_⟩;obtain⟨a,b,c⟩:=e5 v F' Lo y hR;refine⟨a,b,fun m=>?_⟩;rw[sK ks Lo L r] at m ⊢;obtain⟨k1,k2,_⟩:=vK z e2 a b;have q:=k2 k p;have c:=c (m.down (aA.le_refl _) m.glob (KD q));simp only[q] at c;rw[<-put_comm (d:=some k) (fun j e e'=>h3 j e' e)];exact c g m
theorem I8 {x y:ak}{a:List ak}(c:jv fb x y=true) (e:∀k,yB y=some k->L.get k=none) (d:Real F L) (b:Vd L ρ) (h:bq P PX fb (x::y::a) F L ρ K):bq P PX fb (y::x::a) F L ρ K:=by
 unfold jv at c;split at c
 ·exact S3 c d b h
 ·exact S5 c d b h
 ·exact S6 c (e _ rfl) d b h
 ·cases c
theorem D3 {y:ak}{k:Nat}(h:yB y=some k):AB y=some k:=by
 unfold yB at h;split at h
 ·exact h
 ·cases h
theorem KL {x y:ak}(a:jv fb x y=true) {k:Nat}(h:yB y=some k):AB x≠some k:=by
 have hd:=D3 h;unfold jv at a;split at a
 ·simp only[mJ,xo] at a;intro e;exact ol a.2 k e hd
 ·simp[yB] at h
 ·simp only[xo] at a;intro e;exact ol a.2 k e hd
 ·cases a
theorem AE {x:ak}{c b:List ak}(q:U3 x=true) (r:Real F L) (l:Vd L ρ) (h:bq P PX fb (x::c) F L ρ K)
  (p:∀F1 L1 a,F.le F1->Real F1 L1->Vd L1 a->(∀j,AB x≠some j->L.get j=none->L1.get j=none)->bq P PX fb c F1 L1 a K->bq P PX fb b F1 L1 a K):bq P PX fb (x::b) F L ρ K:=by
 cases x with
 | frz k=>cases q
 | op d o g =>
  obtain⟨o',m,h⟩:=h;have n:okD o'=true:=by rcases dK m with rfl | rfl;exact q;rfl
  exact⟨o',m,nR n r l h fun F1 L1 a _ h2 h3 h4 h5 h6=>p F1 L1 a h2 h3 h4 h5 h6⟩
 | pc d o g =>
  unfold bq at h ⊢;split at h
  ·rename_i f args;refine h.imp fun F' L' v h1 h2 h3 _ h4 h5=>p _ _ _ h1 h4 ((h2.vd l).aaY d v) (fun j _ e=>h3 j e) h5
  ·exact h.elim
theorem yD {y:ak}{s:List ak}:∀(p:List ak),(∀x∈p,jv fb x y=true)->(∀x∈p,U3 x=true)->∀{F:aA}{L:Loc}{ρ:Env},(∀k,yB y=some k->L.get k=none)->Real F L->Vd L ρ->bq P PX fb (p++y::s) F L ρ K->bq P PX fb (y::(p++s)) F L ρ K
 | [],_,_,F,L,ρ,_,_,_,h=>h
 | x::p,d,n,F,L,ρ,l,m,a,h=>by
  refine I8 (d x (by simp)) l m a ?_;refine AE (n x (by simp)) m a h fun F1 L1 q _ j b c o=>?_;exact yD p (fun z f=>d z (by simp[f])) (fun z f=>n z (by simp[f])) (fun k e=>c k (KL (d x (by simp)) e) (l k e)) j b o
end
section
variable {P:Program}{PX:aA->Loc->Value->Prop}{fb:List Nat}{K:dQ}{Q:Exit->Act->World->Prop}{ops:Array Oper}
theorem Bp {ks:List Nat}(b:ks.Nodup) {i j:Nat}{hi:i<ks.length}{c:j<ks.length}(h:ks[i]=ks[j]):i=j:=by
 rw[List.nodup_iff_pairwise_ne,List.pairwise_iff_getElem] at b;rcases Nat.lt_trichotomy i j with a | he | a
 ·exact o5 h (b i j hi c a)
 ·exact he
 ·exact o5 h.symm (b j i c hi a)
theorem rJ {L:Loc}{ks:List Nat}{Lo:List Own}(h:ks.Nodup) (a:ks.length=Lo.length):((L.aas ks).puts ks Lo).sameAs (L.puts ks Lo):=by
 intro j;rcases dB ks Lo L j h a with⟨b,c⟩ | ⟨i,b,c,m⟩<;>rcases dB ks Lo (L.aas ks) j h a with⟨d,f⟩ | ⟨k,d,f,l⟩
 ·rw[b,d,fH,fo c]
 ·exact o5 (aa8 d) c
 ·exact o5 (aa8 b) f
 ·have:i=k:=by
   have h1:=(aa6.1 b);have h2:=(aa6.1 d);obtain⟨h1,e⟩:=h1;obtain⟨h2,h2'⟩:=h2;exact Bp h (e.trans h2'.symm)
  subst this;rw[c,f]
theorem yE:∀{ks:List Nat}{L:Loc}{Lo:List Own},ks.length=Lo.length->(∀(i:Nat) k,ks[i]?=some k->L.get k=Lo[i]?)->L.sub ks=some Lo
 | [],L,[],_,_=>rfl
 | [],L,_::_,h,_=>by simp at h
 | _::_,L,[],h,_=>by simp at h
 | k::ks,L,o::Lo,h,a=>by
  have h0:=a 0 k rfl;have h1:L.sub ks=some Lo:=yE (by simpa using h) fun i j e=>by
   have:=a (i+1) j (by rw[abv];exact e);rw[abv] at this;exact this
  have h0:L.get k=some o:=h0;simp only[Loc.sub,h0,h1]
theorem KM {L:Loc}{ks:List Nat}{Lo:List Own}(d:ks.Nodup) (a:ks.length=Lo.length):(L.puts ks Lo).sub ks=some Lo:=by
 refine yE a fun i k e=>?_;rcases dB ks Lo L k d a with⟨a1,c⟩ | ⟨j,a1,c,h⟩
 ·exact o5 (aa8 e) c
 ·have hi:=aa6.1 e;have f:=aa6.1 a1;obtain⟨h1,b⟩:=hi;obtain⟨h2,h2'⟩:=f;have:i=j:=Bp d (b.trans h2'.symm);subst this;rw[c,aa4 h]
theorem lm.toX {f:Nat}{args:List Value}{F:aA}{L:Loc}{K:aA->Loc->Value->Prop}(h:lm P PX fb f args F L K):gu P PX f args F L fun F' L' v=>∃L2,L'.sameAs L2/\(Real F' L2->K F' L2 v):=by
 obtain⟨ks,l,R,Pp,h1,h2,h0,h3,h4,h5⟩:=h;refine⟨ks,ks,l,R,Pp,h1,h2,h2,fun k m=>.inl m,h3,fun v F' Lo j d hb o=>h4 v F' _ Lo j (KM h2 d) hb o,fun v F' Lo j n=>?_⟩;obtain⟨a,b,c⟩:=h5 v F' Lo j n;obtain⟨k1,p,_⟩:=vK h1 h2 a b;refine⟨a,fun k g t cs _ e=>?_,_,rJ h2 a,c⟩;rw[<-rJ h2 a];exact k1 k g t cs e
theorem D4 {own:Bool}{o:Oper}{s:eI}{f:Nat}{j:List Value}{F:aA}{L:Loc}{ρ:Env}{a:Act}{w:World}{K:dQ}(l:St F L w) (he:aC L ρ a) (hd:∀k,o.dst=some k->k<a.tmps.size) (e:iH P own o.op=some s) (b:tj P L ρ s=some (f,j))
  (h:gu P PX f j F L fun F' L' v=>K F' L' (put o.dst (.v v) ρ))
  (d:∀v c w' F' L',sQ v c->St F' L' w'->Step F L w F' L' w'->PX F' L' v->Q (.panic c) a w'):o.wp P a w (bK F L w a K) Q:=by
 cases s with
 | call f' args =>
  simp only[tj,aa1,Prod.mk.injEq] at b;obtain⟨rfl,rfl⟩:=b;exact wK l he hd e h d
 | callV x args =>
  simp only[tj] at b;split at b
  case h_2=>cases b
  rename_i f' p n m;simp only[aa1,Prod.mk.injEq] at b;obtain⟨rfl,rfl⟩:=b;exact um l he hd e m h d
 | _=>cases b
theorem I9 {A:cJ}{i:Nat}{s:ak}{l:List ak}{F:aA}{L:Loc}{ρ:Env}{a:Act}{w:World}{KK:Act->World->Prop}(hi:i<ops.size) (c:Cr P A ops i=some s) (hx:U3 s=true) (hs:St F L w) (he:aC L ρ a) (z:a.tmps.size=A.n)
  (q:bq P PX fb (s::l) F L ρ K)
  (hQ:∀a' w' F' L' ρ',St F' L' w'->aC L' ρ' a'->a'.tmps.size=A.n->a'.defers=a.defers->Step F L w F' L' w'->(∀j,((ops[i]?).bind (·.dst))≠some j->a'.tmps.getD j undef=a.tmps.getD j undef) ->
   (∀j,AB s≠some j->L.get j=none->L'.get j=none)->bq P PX fb l F' L' ρ' K->KK a' w')
  (hP:∀v ch w' F' L',sQ v ch->St F' L' w'->Step F L w F' L' w'->PX F' L' v->Q (.panic ch) a w') :
  wpOp P ops Q i KK a w:=by
 cases s with
 | frz k=>cases hx
 | op d o g =>
  obtain⟨o',t,h⟩:=q;have ae:okD o'=true:=by rcases dK t with rfl | rfl;exact hx;rfl
  have h2:aW P [.op d o g] F L ρ (fun F' L' ρ'=>(∀j,d≠some j->L.get j=none->L'.get j=none)/\bq P PX fb l F' L' ρ' K) :=
   fW.2 ⟨o',t,nR ae ⟨w,hs⟩ he.vd h fun F1 L1 bc _ _ _ _ h5 h6=>⟨h5,h6⟩⟩
  exact DX hi c hs he z h2 fun a' w' F' L' ρ' g1 g2 g3 g4 g5 r y=>hQ a' w' F' L' ρ' g1 g2 g3 g4 g5 r y.1 y.2
 | pc d o g =>
  unfold bq at q;split at q
  case h_2=>exact q.elim
  rename_i f vs av;unfold Cr at c;split at c
  case h_1=>cases c
  rename_i o u;split at c
  case h_2=>cases c
  rename_i g s0 x aE m;rename_i o0 _ _ _ _ _ _;have az:o.dst=d/\s0=o0/\g=none:=by
   split at c
   ·split at c
    ·injection c with c
     injection c with q1 q2 q3
     exact⟨q1,q2,rfl⟩
    ·injection c with c
     injection c with q1 q2 q3
     exact⟨q1,q2,rfl⟩
    ·cases c
   ·split at c
    ·split at c
     ·cases c
     ·cases c
    ·split at c
     ·split at c<;>cases c
     ·cases c
  obtain⟨rfl,rfl,rfl⟩:=az;have hd:∀k,o.dst=some k->k<a.tmps.size:=by
   intro k hk;rw[hk] at m;rw[z];have h2:Nat.blt k A.n=true:=m;simpa using h2
  have ar:(ops[i]?).bind (·.dst)=o.dst:=by rw[u];rfl
  rw[ar] at hQ;simp only[wpOp,u];have aw:o.guard=none:=by
   cases e:o.guard with
   | none=>rfl
   | some p=>obtain⟨j,b⟩:=p;rw[e] at x;simp only[iJ] at x;split at x<;>cases x
  rw[eu (by simp[Region.wanted,aw])];refine .inl ?_;have ao:=q.imp (K':=fun F' L' v=>(∀j,L.get j=none->L'.get j=none)/\bq P PX fb l F' L' (put o.dst (.v v) ρ) K) fun F' L' v _ _ h3 _ _ h5=>⟨h3,h5⟩;have:=D4 (K:=fun F' L' ρ'=>∃L2,L'.sameAs L2/\(Real F' L2->(∀j,L.get j=none->L2.get j=none)/\bq P PX fb l F' L2 ρ' K)) hs he hd aE av ao.toX hP;refine Oper.wp_mono ?_ (qF (asg:=[]) this);rintro a' w' ⟨⟨F',L',ρ',g1,g2,g3,g4,g5,L2,r,y⟩,ad⟩;have s1:St F' L2 w':=g1.part fun k o e=>by rw[<-r k];exact e
  obtain⟨g8,g9⟩:=y ⟨w',s1⟩;exact hQ a' w' F' L2 ρ' s1 (g2.same r) (by rw[g3,z]) g4 (g5.aaV r) ad (fun j _ e=>g8 j e) g9
def mL (fb:List Nat) (a:List (List Nat)):List (Nat×ak)->Bool
 | []=>true
 | (x,b)::l=>l.all (fun p=>jv fb b p.2||fU (Cs a p.1) x)&&mL fb a l
def FO (ss:List ak):List Nat:=ss.filterMap AB
def OB (ss:List ak):List Nat:=ss.filterMap fun s=>match s with | .op _ (.loadK key _ _ _) _=>some key | _=>none
def Cw (P:Program) (ops:Array Oper) (is:List Nat) (a:List (List Nat)) (ss:List ak):Bool :=
 P.follows .mixedOrders&&KG ops a&&aU is&&Nat.beq is.length ops.size&&is.all (fun i=>Nat.blt i ops.size)&&(List.range ops.size).all (fU is)&&mL (OB ss) a (is.zip ss)&&ss.all U3&&aU (FO ss)
theorem uo {d:List (List Nat)}:∀{p q:List (Nat×ak)}{y:Nat×ak},mL fb d (p++y::q)=true->mL fb d (p++q)=true/\∀x∈p,jv fb x.2 y.2=true\/x.1∈Cs d y.1
 | [],q,y,h=>by
  obtain⟨y1,y2⟩:=y;simp only[abF,mL,xo] at h ⊢;exact⟨h.2,fun x b=>by cases b⟩
 | (e,f)::p,q,y,h=>by
  simp only[abj,mL,xo] at h ⊢;obtain⟨h1,h2⟩:=h;obtain⟨h3,h4⟩:=uo h2;have a:=abg.1 h1;refine⟨⟨abg.2 fun z c=>a z ?_,h3⟩,fun x b=>?_⟩
  ·rcases aa9.1 c with c | c
   ·exact aa9.2 (.inl c)
   ·exact aa9.2 (.inr (abz _ c))
  ·rcases abd.1 b with rfl | b
   ·have:=a y (aa9.2 (.inr (by simp)));simp only[abH] at this;rcases this with h | h
    ·exact .inl h
    ·exact .inr (di.1 h)
   ·exact h4 x b
theorem OC {p q:List ak}{y:ak}(h:(FO (p++y::q)).Nodup):(FO (p++q)).Nodup/\∀k,AB y=some k->∀z∈p++q,yB z≠some k:=by
 have e:FO (p++y::q)=FO p++((AB y).toList++FO q):=by
  unfold FO;rw[List.filterMap_append,List.filterMap_cons];cases AB y<;>rfl
 rw[e] at h;have h2:(FO p++FO q).Nodup:=by
  refine List.Sublist.nodup ?_ h;exact List.Sublist.append (List.Sublist.refl _) (List.sublist_append_right _ _)
 refine⟨by unfold FO at h2 ⊢;rw[List.filterMap_append];exact h2,fun k b z a c=>?_⟩;have hd:=D3 c;rw[b] at h;have h3:k∉FO p++FO q:=by
  have:(FO p++k::FO q).Nodup:=h;have:=(List.perm_middle.nodup_iff).1 this;rw[List.nodup_cons] at this;exact this.1
 apply h3;rcases aa9.1 a with a | a
 ·exact aa9.2 (.inl (List.mem_filterMap.2 ⟨z,a,hd⟩))
 ·exact aa9.2 (.inr (List.mem_filterMap.2 ⟨z,a,hd⟩))
theorem KN {A:cJ}{i:Nat}{s:ak}(a:Cr P A ops i=some s):(ops[i]?).bind (·.dst)=AB s:=by
 unfold Cr at a;split at a
 case h_1=>cases a
 rename_i o b;rw[b];split at a
 case h_2=>cases a
 split at a
 ·split at a
  ·injection a with a;subst a;rfl
  ·injection a with a;subst a;rfl
  ·cases a
 ·split at a
  ·split at a
   ·injection a with a;subst a;rfl
   ·cases a
  ·split at a
   ·split at a
    ·injection a with a;subst a;rfl
    ·cases a
   ·cases a
theorem FP {A:cJ}{cl:List (List Nat)}(bp:KG ops cl=true):∀(m:Nat) (l:List Nat) (ss:List ak) (b:Array Bool) (F:aA) (L:Loc) (ρ:Env) (a:Act) (w:World),
  fp P A ops l=some ss->b.size=ops.size->l.Nodup->(∀i,i∈l↔i<ops.size/\b.getD i true=false)->l.length<=m->mL fb cl (l.zip ss)=true ->
  (∀i,i<ops.size->b.getD i true=true->∀z∈direct ops i,b.getD z true=true) ->
  (∀s∈ss,U3 s=true)->(FO ss).Nodup->(∀s∈ss,∀k,yB s=some k->L.get k=none) ->
  St F L w->aC L ρ a->a.tmps.size=A.n->bq P PX fb ss F L ρ K ->
  (∀a' w',eZ A.n F L w a (dstsOf ops (List.range ops.size)) K a' w'->Q .normal a' w') ->
  (∀v ch a' w' F' L',sQ v ch->St F' L' w'->Step F L w F' L' w'->a'.tmps.size=A.n->a'.defers=a.defers->(∀j,j∉dstsOf ops (List.range ops.size)->a'.tmps.getD j undef=a.tmps.getD j undef)->PX F' L' v->Q (.panic ch) a' w')->wpAny P .any ops Q m b a w:=by
 have t:∀y z,y<ops.size->z∈direct ops y->z<y:=by
  intro y z hy r;have h:=abg.1 bp y (List.mem_range.2 hy);simp only[Cu,xo] at h;have h3:Nat.blt z y=true:=abg.1 h.1 z r;simpa using h3
 intro m
 induction m with
 | zero =>
  intro l ss b F L ρ a w hl bb bo f am hp c ac bs ba hs he hn hK hQ hP;have:l=[]:=abO (by omega);subst this;simp only[fp,aa1] at hl;subst hl;refine⟨?_,hQ a w ⟨F,L,ρ,hs,he,hn,rfl,Step.refl _ _ _,fun _ _=>rfl,hK⟩⟩;apply List.eq_nil_iff_forall_not_mem.2;intro i hi;rw[mem_ready] at hi;obtain⟨h1,o,h2,_⟩:=hi;have:=(f i).2 ⟨(Array.getElem?_eq_some_iff.1 h2).1,h1⟩;cases this
 | succ m ih =>
  intro l ss b F L ρ a w hl bb bo f am hp c ac bs ba hs he hn hK hQ hP;refine⟨fun hr=>?_,fun y hy=>?_⟩
  ·have:l=[]:=by
    refine Classical.byContradiction fun u=>?_;obtain⟨y,h1,h2⟩:=min_mem u;obtain⟨h3,h4⟩:=(f y).1 h1;have ag:y∈Region.ready .any ops b:=by
     rw[mem_ready];refine⟨h4,ops[y],Array.getElem?_eq_getElem h3,fun e ao av=>?_⟩;have r:e.on∈direct ops y:=(pG (Array.getElem?_eq_getElem h3)).2 ⟨e,ao,av,rfl⟩;have cX:=t y e.on h3 r;rw[uj (by omega) false true];cases hd:b.getD e.on true with
     | true=>rfl
     | false =>
      have:=h2 e.on ((f e.on).2 ⟨by omega,hd⟩);omega
    rw[hr] at ag;cases ag
   subst this;simp only[fp,aa1] at hl;subst hl;exact hQ a w ⟨F,L,ρ,hs,he,hn,rfl,Step.refl _ _ _,fun _ _=>rfl,hK⟩
  ·rw[mem_ready] at hy;obtain⟨h1,o,ho,aw⟩:=hy;have d:=(Array.getElem?_eq_some_iff.1 ho).1;have aE:=(f y).2 ⟨d,h1⟩;obtain⟨p,q,rfl⟩:=List.append_of_mem aE;obtain⟨dy,bz⟩:=qH hl;obtain⟨sp,sy,sq,rfl,an,bl,cz⟩:=bz p q y rfl;have bt:(p++y::q).zip (sp++sy::sq)=p.zip sp++(y,sy)::q.zip sq:=by
    rw[List.zip_append an.symm];rfl
   rw[bt] at hp;obtain⟨cs,da⟩:=uo hp;have ad:∀z∈direct ops y,b.getD z true=true:=by
    intro z r;have cX:=t y z d r;obtain⟨e,ao,av,rfl⟩:=(pG ho).1 r;rw[uj (by omega) true false];exact aw e ao av
   have ab:∀sx∈sp,jv fb sx sy=true:=by
    intro sx cF;obtain⟨k,hk⟩:=List.getElem?_of_mem cF;have dn:=(aa6.1 hk).1;have ca:p[k]?=some (p[k]'(by omega)):=aa4 (by omega);have hm:(p[k]'(by omega),sx)∈p.zip sp:=aa8 (i:=k) (by rw[List.getElem?_zip_eq_some];exact⟨ca,hk⟩);rcases da _ hm with h | h
    ·exact h
    ·exfalso;have hd:=wI bp (done:=fun z=>b.getD z true=true) c y d ad _ h;have cf:p[k]'(by omega)∈p++y::q:=aa9.2 (.inl (aa8 ca));have:=((f _).1 cf).2;simp only at hd;rw[hd] at this;cases this
   have cw:=yD sp ab (fun z r=>ac z (by simp[r])) (fun k e=>ba sy (by simp) k e) ⟨w,hs⟩ he.vd hK;obtain⟨bu,cx⟩:=OC bs;have dC:(ops[y]?).bind (·.dst)=AB sy:=KN bl;refine I9 d bl (ac sy (by simp)) hs he hn cw ?_ (fun v ch w' F' L' hc h1 h2 h3=>hP v ch a w' F' L' hc h1 h2 hn rfl (fun _ _=>rfl) h3);intro a' w' F' L' ρ' g1 g2 g3 g4 g5 g6 g8 g7;have al:(p++q).Nodup/\y∉p++q:=by
    have:=(List.perm_middle.nodup_iff).1 bo;rw[List.nodup_cons] at this;exact⟨this.2,this.1⟩
   have ae:∀i,(b.setIfInBounds y true).getD i true=if i=y then true else b.getD i true:=by
    intro i;simp only[abp,Array.getElem?_setIfInBounds]
    by_cases hi:y=i
    ·subst hi;rw[eu rfl,eu rfl];simp[bb,d]
    ·rw[fo hi,fo (fun h=>hi h.symm)]
   refine ih (p++q) (sp++sq) _ F' L' ρ' a' w' cz (by simp[bb]) al.1 (fun i=>?_) (by simp at am ⊢;omega) ?_ ?_ (fun z r=>ac z (by rcases aa9.1 r with h | h<;>simp[h])) bu (fun z r k e=>g8 k (fun e2=>cx k e2 z r e) (ba z (by rcases aa9.1 r with h | h<;>simp[h]) k e)) g1 g2 g3 g7 ?_ ?_
   ·rw[ae];have h0:=f i;constructor
    ·intro hi;have u:i≠y:=fun e=>al.2 (e▸hi);rw[fo u];refine h0.1 ?_;rcases aa9.1 hi with h | h
     ·exact aa9.2 (.inl h)
     ·exact aa9.2 (.inr (abz _ h))
    ·rintro⟨db,az⟩;split at az
     ·cases az
     ·rename_i u;have:=h0.2 ⟨db,az⟩;rcases aa9.1 this with h | h
      ·exact aa9.2 (.inl h)
      ·rcases abd.1 h with h | h
       ·exact o5 h u
       ·exact aa9.2 (.inr h)
   ·rw[List.zip_append an.symm];exact cs
   ·intro i hi hd z r;rw[ae] at hd ⊢;split
    ·rfl
    ·split at hd
     ·rename_i h;subst h;exact ad z r
     ·exact c i hi hd z r
   ·rintro bc ar ⟨F'',L'',bm,k1,k2,k3,k4,k5,k6,k7⟩;refine hQ bc ar ⟨F'',L'',bm,k1,k2,k3,k4.trans g4,g5.trans k5,fun j hj=>?_,k7⟩;rw[k6 j hj,g6 j];intro e;apply hj;have:∀(is:List Nat),y∈is->j∈dstsOf ops is:=by
     intro is
     induction is with
     | nil=>intro h;cases h
     | cons x is aa =>
      intro h;simp only[dstsOf];rcases abd.1 h with rfl | h
      ·rw[e];simp
      ·split
       ·exact abz _ (aa h)
       ·exact aa h
    exact this _ (List.mem_range.2 d)
   ·intro v ch bc ar F'' L'' kc k1 k2 k3 k4 k5 k6;refine hP v ch bc ar F'' L'' kc k1 (g5.trans k2) k3 (k4.trans g4) (fun j hj=>?_) k6;rw[k5 j hj,g6 j];intro e;apply hj;have:∀(is:List Nat),y∈is->j∈dstsOf ops is:=by
     intro is
     induction is with
     | nil=>intro h;cases h
     | cons x is aa =>
      intro h;simp only[dstsOf];rcases abd.1 h with rfl | h
      ·rw[e];simp
      ·split
       ·exact abz _ (aa h)
       ·exact aa h
    exact this _ (List.mem_range.2 d)
theorem D5 {A:cJ}{r:Nat}{is:List Nat}{cl:List (List Nat)}{ss:List ak}{F:aA}{L:Loc}{ρ:Env}{a:Act}{w:World}(y:fp P A ops is=some ss) (t:Cw P ops is cl ss=true)
  (hs:St F L w) (he:aC L ρ a) (u:a.tmps.size=A.n) (q:∀s∈ss,∀k,yB s=some k->L.get k=none) (hK:bq P PX (OB ss) ss F L ρ K) (x:∀a' w',eZ A.n F L w a (dstsOf ops (List.range ops.size)) K a' w'->Q .normal a' w')
  (hP:∀v d a' w' F' L',sQ v d->St F' L' w'->Step F L w F' L' w'->a'.tmps.size=A.n->a'.defers=a.defers->(∀j,j∉dstsOf ops (List.range ops.size)->a'.tmps.getD j undef=a.tmps.getD j undef)->PX F' L' v->Q (.panic d) a' w') :
  (Code.region r ops true).wp P Q a w:=by
 simp only[Cw,xo] at t;obtain⟨⟨⟨⟨⟨⟨⟨⟨h1,h2⟩,h3⟩,h4⟩,h5⟩,z⟩,h6⟩,h8⟩,h9⟩:=t;have h3:=dw h3;have h4:=aa5 h4;have c:∀i∈is,i<ops.size:=fun i hi=>by
  have h:Nat.blt i ops.size=true:=abg.1 h5 i hi;simpa using h
 refine wp_region_any h1 ?_;show wpAny P .any ops Q ops.size (Array.replicate ops.size false) a w.drew;refine FP h2 ops.size is ss _ F L ρ a w.drew y (by simp) h3 (fun i=>?_) (by omega) h6 ?_ (abg.1 h8) (dw h9) q hs.drew he u hK ?_ ?_
 ·constructor
  ·intro hi;refine⟨c i hi,?_⟩;simp[abp,c i hi]
  ·rintro⟨hi,_⟩;exact di.1 (abg.1 z i (List.mem_range.2 hi))
 ·intro i hi l;simp[abp,hi] at l
 ·rintro a' w' ⟨F',L',ρ',p,g2,f,e,b,m,o⟩;refine x a' w' ⟨F',L',ρ',p,g2,f,e,?_,m,o⟩;exact⟨b.le,b.os,b.tape,b.output,b.size,b.same,b.frz,b.own⟩
 ·intro v d a' w' F' L' gc p b f e m o;exact hP v d a' w' F' L' gc p ⟨b.le,b.os,b.tape,b.output,b.size,b.same,b.frz,b.own⟩ f e m o
end
def ef:Code->List Nat
 | .region _ d _=>dstsOf d (List.range d.size)
 | .seq a b=>ef a++ef b
 | .cond _ a b=>ef a++ef b
 | .block _ c | .loop c | .scope c=>ef c
 | _=>[]
def FQ:List Nat->ax->ax
 | [],x=>x
 | k::l,x=>.seq (.reg (.frz k::l.map .frz)) x
def G5:List ak->Bool
 | []=>true
 | .op _ _ _::l=>G5 l
 | _::_=>false
def low (P:Program) (A:cJ):Code->Option ax
 | .skip=>some .skip
 | .label _=>some .skip
 | .region r d false=>match qE P A r d (List.range d.size) with | some ss=>some (.reg ss) | none=>none
 | .region r d true=>match Ky A.ord r,fp P A d (DR A.ord r) with
  | some (is,e),some ss=>match G5 ss with
   | true=>match FL P d is e ss with
    | true=>some (FQ (Kx A.frz r 0) (.regD ss))
    | false=>none
   | false=>match Cw P d is e ss with
    | true=>some (.regX ss)
    | false=>none
  | _,_=>none
 | .seq a b=>match low P A a,low P A b with | some x,some y=>some (.seq x y) | _,_=>none
 | .cond c a b=>match bQ c,low P A a,low P A b with | some c,some x,some y=>some (.cond c x y) | _,_,_=>none
 | .scope c=>low P A c
 | .block id c=>match low P A c with | some x=>some (.block id x) | none=>none
 | .loop c=>match low P A c with | some x=>some (.loop (ef c) x) | none=>none
 | .exit id=>some (.exit id)
 | .ret=>some .ret
 | _=>none
section
variable {P:Program}{Q:Exit->Act->World->Prop}
def sL (n:Nat) (F:aA) (L:Loc) (w:World) (a:Act) (asg:List Nat) (PX:aA->Loc->Value->Prop) (v:Value) (a':Act) (w':World):Prop :=
 ∃F' L',St F' L' w'/\Step F L w F' L' w'/\a'.tmps.size=n/\a'.defers=a.defers/\(∀j,j∉asg->a'.tmps.getD j undef=a.tmps.getD j undef)/\PX F' L' v
theorem sL.after {n:Nat}{F F1:aA}{L L1:Loc}{w k:World}{a a1:Act}{asg asg1 b:List Nat}{PX PX':aA->Loc->Value->Prop}{v:Value}{a':Act}{w':World}(e:Step F L w F1 L1 k) (d:a1.defers=a.defers) (c:∀j,j∉asg1->a1.tmps.getD j undef=a.tmps.getD j undef)
  (h:sL n F1 L1 k a1 b PX v a' w') (h1:∀j,j∈asg1->j∈asg) (h2:∀j,j∈b->j∈asg) (o:∀F L,PX F L v->PX' F L v):sL n F L w a asg PX' v a' w':=by
 obtain⟨F',L',s,r,m,l,q,p⟩:=h;exact⟨F',L',s,e.trans r,m,l.trans d,fun j f=>by rw[q j (fun h=>f (h2 j h)),c j (fun h=>f (h1 j h))],o _ _ p⟩
theorem sL.mono {n:Nat}{F:aA}{L:Loc}{w:World}{a:Act}{asg b:List Nat}{PX:aA->Loc->Value->Prop}{v:Value}{a':Act}{w':World}(h:sL n F L w a asg PX v a' w') (c:∀j,j∈asg->j∈b):sL n F L w a b PX v a' w':=by
 obtain⟨F',L',o,l,e,d,k,f⟩:=h;exact⟨F',L',o,l,e,d,fun j m=>k j (fun h=>m (c j h)),f⟩
def QQ (n:Nat) (F:aA) (L:Loc) (w:World) (a:Act) (asg:List Nat) (PX:aA->Loc->Value->Prop) (E:Nat->dQ) (R N:dQ):Exit->Act->World->Prop
 | .normal,a',w'=>eZ n F L w a asg N a' w'
 | .exit j,a',w'=>eZ n F L w a asg (E j) a' w'
 | .ret,a',w'=>eZ n F L w a asg R a' w'
 | .panic b,a',w'=>∃v,sQ v b/\sL n F L w a asg PX v a' w'
 | _,_,_=>False
theorem eZ.mono {n:Nat}{F:aA}{L:Loc}{w:World}{a:Act}{asg b:List Nat}{K:dQ}{a':Act}{w':World}(h:eZ n F L w a asg K a' w') (c:∀j,j∈asg->j∈b):eZ n F L w a b K a' w':=by
 obtain⟨F',L',ρ',h1,h2,h3,h4,h5,h6,e⟩:=h;exact⟨F',L',ρ',h1,h2,h3,h4,h5,fun j f=>h6 j (fun d=>f (c j d)),e⟩
theorem eZ.after {n:Nat}{F F1:aA}{L L1:Loc}{w k:World}{a a1:Act}{asg asg1 b:List Nat}{K:dQ}{a':Act}{w':World}(e:Step F L w F1 L1 k) (d:a1.defers=a.defers) (c:∀j,j∉asg1->a1.tmps.getD j undef=a.tmps.getD j undef)
  (h:eZ n F1 L1 k a1 b K a' w') (h1:∀j,j∈asg1->j∈asg) (h2:∀j,j∈b->j∈asg):eZ n F L w a asg K a' w':=by
 obtain⟨F',L',ρ',s,r,m,l,q,o,p⟩:=h;exact⟨F',L',ρ',s,r,m,l.trans d,e.trans q,fun j f=>by rw[o j (fun h=>f (h2 j h)),c j (fun h=>f (h1 j h))],p⟩
def nI (P:Program):List ResultVar->Option (List RV)
 | []=>some []
 | .tmp t::l=>match nI P l with | some r=>some ((t,none)::r) | none=>none
 | .cell a t::l=>match P.underlying t,P.info? t,nI P l with
  | some d,some i,some r=>some ((a,some (match fG d with | true=>(true,i.size) | false=>(false,1)))::r)
  | _,_,_=>none
def yF (tmps:Array Value):ResultVar->Sem Value
 | .tmp t=>pure (tmps.getD t undef)
 | .cell a t=>do loadVar t (<-asAddr (tmps.getD a undef))
theorem ou {F:aA}{L:Loc}{ρ:Env}{a:Act}{w:World}(hs:St F L w) (he:aC L ρ a):∀{l:List ResultVar}{rs:List RV}{K:List Value->Prop},nI P l=some rs->nY L ρ rs K ->
  ∃u,(l.mapM (yF a.tmps)).run P w=.ok u w/\K u
 | [],rs,K,h,b=>by simp only[nI,aa1] at h;subst h;exact⟨[],by simp,b⟩
 | .tmp t::l,rs,K,h,b=>by
  simp only[nI] at h;split at h
  case h_2=>cases h
  rename_i r z;injection h with h;subst h
  simp only[nY] at b;obtain⟨u,h1,h2⟩:=ou hs he z b;refine⟨_,?_,h2⟩;simp only[List.mapM_cons,yF,Sem.run_bind,Sem.run_pure,Result.andThen_ok];rw[h1];simp[he.eq t]
 | .cell t ty::l,rs,K,h,b=>by
  simp only[nI] at h;split at h
  case h_2=>cases h
  rename_i d i r hd hi z;injection h with h;subst h
  generalize c:(match fG d with | true=>(true,i.size) | false=>(false,1):Bool×Nat)=p at b;obtain⟨ag,n⟩:=p;have q:ag=fG d:=by cases e:fG d<;>rw[e] at c<;>injection c with h1 h2<;>exact h1.symm
  have hn:n=match fG d with | true=>i.size | false=>1:=by cases e:fG d<;>rw[e] at c<;>injection c with h1 h2<;>exact h2.symm
  simp only[nY] at b;split at b
  case h_2=>exact b.elim
  rename_i k off aa;split at b
  case h_2=>exact b.elim
  rename_i g ty' cs hk;split at b
  case h_2=>exact b.elim
  rename_i s;have y:=xH s;have s:=jY (Cn s);obtain⟨u,h1,h2⟩:=ou hs he z b;refine⟨_,?_,h2⟩;have o:=hs.own k _ hk;have m:∀j v,((cs.drop off).take n)[j]?=some v->w.cell? ((⟨g,off,none⟩:Addr).add j)=some v:=by
   intro j v x;rw[dI,qC y o];have hj:j<n:=by
    have:=aa6.1 x;obtain⟨h,_⟩:=this;omega
   rw[List.getElem?_take_of_lt hj,abS] at x;exact x
  have hy:a.tmps.getD t undef=.pointer (some ⟨g,off,none⟩):=by rw[he.eq t];simp only[aa,conc,hk]
  have f:=pA hd hi m s hn;simp only[Instr.loadAt,Instr.sureAddr,Sem.run_bind,Sem.run_pure,Result.andThen_ok] at f;simp only[List.mapM_cons,yF,hy,asAddr,Sem.run_bind,Sem.run_pure,Result.andThen_ok,f];rw[h1,q];simp
theorem pH (fn:Func) (tmps:Array Value):results fn tmps=(do let b <-fn.results.mapM (yF tmps);pure (if h:b.size=1 then b[0] else .tuple b)):=by
 unfold results;have h:(fun(r:ResultVar)=>match r with | .tmp t=>(pure (tmps.getD t undef):Sem Value) | .cell a t=>do loadVar t (<-asAddr (tmps.getD a undef)))=yF tmps:=by
  funext r
  cases r<;>rfl
 rw[<-h];rfl
theorem yG:∀(a:List SV) (k j:Nat),DF k a j=if k<=j then(a[j-k]?).getD (.v undef) else .v undef
 | [],k,j=>by simp[DF]
 | v::a,k,j=>by
  simp only[DF,put_eq]
  by_cases h:j=k
  ·subst h;simp
  ·rw[fo h,yG a (k+1) j]
   by_cases h1:k<=j
   ·rw[eu (by omega),eu h1,show j-k=(j-(k+1))+1 by omega,abv]
   ·rw[fo (by omega),fo h1]
def au (P:Program) (A:cJ) (fn:Func):Option (ax×Nat×List RV×Bool) :=
 match fn.body with
 | some c=>match low P A c,nI P fn.results.toList with
  | some sc,some rs=>some (sc,fn.ntmps,rs,fn.name == "runtime.NumGoroutine")
  | _,_=>none
 | none=>none
end
inductive G where
 | int (k:IntKind) (n:Int)
 | bool (b:Bool)
 | str (s:ByteArray)
 | sl (sz:Nat) (l:List G)
 | st (l:List G)
mutual
def Rd (F:aA):G->List Value->Prop
 | .int k n,cs=>cs=[.int k n]/\(Lit.int k n).wf=true
 | .bool b,cs=>cs=[.bool b]
 | .str s,cs=>cs=[.string s]
 | .sl sz l,cs=>∃a c,cs=[.slice a l.length c]/\l.length<=c/\c<=maxLen/\(a=none->l=[]/\c=0)/\uq F a sz 0 l
 | .st l,cs=>mM F l cs
def uq (F:aA) (a:Option Addr) (sz:Nat):Nat->List G->Prop
 | _,[]=>True
 | i,x::l=>(∃es,es.length=sz/\dY F a (i*sz) es/\Rd F x es)/\uq F a sz (i+1) l
def mM (F:aA):List G->List Value->Prop
 | [],cs=>cs=[]
 | x::l,cs=>∃c1 c2,cs=c1++c2/\Rd F x c1/\mM F l c2
end
mutual
theorem Rd.mono {F F':aA}(hle:F.le F'):∀{g:G}{cs:List Value},Rd F g cs->Rd F' g cs
 | .int k n,cs,h=>h
 | .bool b,cs,h=>h
 | .str s,cs,h=>h
 | .sl sz l,cs,h=>by
  simp only[Rd] at h ⊢;obtain⟨a,c,h1,h2,h3,h4,h5⟩:=h;exact⟨a,c,h1,h2,h3,h4,uq.mono hle h5⟩
 | .st l,cs,h=>by
  simp only[Rd] at h ⊢;exact mM.mono hle h
theorem uq.mono {F F':aA}(hle:F.le F') {a:Option Addr}{sz:Nat}:∀{i:Nat}{l:List G},uq F a sz i l->uq F' a sz i l
 | _,[],h=>by simp only[uq]
 | i,x::l,h=>by
  simp only[uq] at h ⊢;obtain⟨⟨es,h1,h2,h3⟩,h4⟩:=h;exact⟨⟨es,h1,h2.mono hle,Rd.mono hle h3⟩,uq.mono hle h4⟩
theorem mM.mono {F F':aA}(hle:F.le F'):∀{l:List G}{cs:List Value},mM F l cs->mM F' l cs
 | [],cs,h=>by simp only[mM] at h ⊢;exact h
 | x::l,cs,h=>by
  simp only[mM] at h ⊢;obtain⟨c1,c2,h1,h2,h3⟩:=h;exact⟨c1,c2,h1,Rd.mono hle h2,mM.mono hle h3⟩
end
theorem yH {F:aA}{a:Option Addr}{sz:Nat}:∀{l:List G}{i:Nat},uq F a sz i l↔∀j x,l[j]?=some x->∃es,es.length=sz/\dY F a ((i+j)*sz) es/\Rd F x es
 | [],i=>by simp[uq]
 | x::l,i=>by
  simp only[uq,yH (l:=l)];constructor
  ·rintro⟨h1,h2⟩ j y b;cases j with
   | zero=>simp only[abm,aa1] at b;subst b;simpa using h1
   | succ j =>
    simp only[abv] at b;have:=h2 j y b
    rwa [show i+1+j=i+(j+1) by omega] at this
  ·intro h;refine⟨by simpa using h 0 x (by simp),fun j y b=>?_⟩;have:=h (j+1) y (by simpa using b)
   rwa [show i+(j+1)=i+1+j by omega] at this
structure Sl (F:aA) (sz:Nat) (l:List G) (a:Option Addr) (c:Nat):Prop where
 cap:l.length<=c
 max:c<=maxLen
 nil:a=none->l=[]/\c=0
 elems:∀j x,l[j]?=some x->∃es,es.length=sz/\dY F a (j*sz) es/\Rd F x es
theorem Sl.mono {F F':aA}{sz:Nat}{l:List G}{a:Option Addr}{c:Nat}(h:Sl F sz l a c) (b:F.le F'):Sl F' sz l a c :=
 ⟨h.cap,h.max,h.nil,fun j x d=>let⟨es,h1,h2,h3⟩:=h.elems j x d;⟨es,h1,h2.mono b,h3.mono b⟩⟩
theorem RI {F:aA}{sz:Nat}{l:List G}{cs:List Value}:Rd F (.sl sz l) cs↔∃a c,cs=[.slice a l.length c]/\Sl F sz l a c:=by
 simp only[Rd];constructor
 ·rintro⟨a,c,h1,h2,h3,h4,h5⟩;exact⟨a,c,h1,h2,h3,h4,fun j x b=>by have:=yH.1 h5 j x b;simpa using this⟩
 ·rintro⟨a,c,h1,h2⟩;exact⟨a,c,h1,h2.cap,h2.max,h2.nil,yH.2 fun j x b=>by have:=h2.elems j x b;simpa using this⟩
theorem Sl.ne {F:aA}{sz:Nat}{l:List G}{a:Option Addr}{c:Nat}(h:Sl F sz l a c) (b:l≠[]):a≠none:=fun e=>b (h.nil e).1
theorem Sl.load {F F':aA}{L:Loc}{sz:Nat}{l:List G}{a:Option Addr}{c:Nat}{j:Nat}{x:G}{K:List Value->Prop}(h:Sl F sz l a c) (b:F.le F') (d:l[j]?=some x)
  (e:∀es,es.length=sz->Rd F' x es->K es):kI F' L a (j*sz) sz K:=by
 obtain⟨es,h1,h2,h3⟩:=h.elems j x d;exact⟨es,h1,.inl (h2.mono b),e es h1 (h3.mono b)⟩
theorem Sl.loadD {F F':aA}{sz:Nat}{l:List G}{a:Option Addr}{c:Nat}{j:Nat}{x:G}{K:List Value->Prop}(h:Sl F sz l a c) (b:F.le F') (d:l[j]?=some x)
  (e:∀es,es.length=sz->Rd F' x es->K es):ju F' a (j*sz) sz K:=by
 obtain⟨es,h1,h2,h3⟩:=h.elems j x d;exact⟨es,h1,.inl (h2.mono b),e es h1 (h3.mono b)⟩
theorem aq {b:Bool}{A B:Prop}(h:b=true->A) (k:b=false->B):Ap b A B:=by cases b;exact k rfl;exact h rfl
theorem ah {p:Prop}[Decidable p] {A B:Prop}(h:p->A) (k:¬p->B):Ap (decide p) A B:=by
 by_cases a:p
 ·simp only[a,decide_true];exact h a
 ·simp only[a,decide_false];exact k a
theorem Fit.aar {n:Int}{K:Int->Prop}(h1:-9223372036854775808<=n) (h2:n<=9223372036854775807) (h:K n):Fit .i64 n K:=by
 refine⟨?_⟩;have:IntKind.wrap .i64 n=n:=by
  simp only[IntKind.wrap,IntKind.bits,IntKind.signed,aa7,abf,ge_iff_le,Nat.reduceSub,Int.reducePow];split<;>omega
 rw[this];exact h
def S7 (x:Value):aA->List Own->Value->Prop:=fun _ Lo v=>Lo=[]/\v=x
theorem S7.mono {x:Value}:∀F G L v,aA.le F G->S7 x F L v->S7 x G L v:=fun _ _ _ _ _ h=>h
theorem wf_i64 {n:Int}(h:(Lit.int .i64 n).wf=true):-9223372036854775808<=n/\n<=9223372036854775807:=by
 simpa[Lit.wf,IntKind.min,IntKind.max,IntKind.bits,IntKind.signed] using h
end Go.Fr
namespace Go.Fr.T
open Go Go.RowKit Go.Fr
inductive C where
 | int (k:IntKind) (n:Int)
 | bool (b:Bool)
 | str (s:ByteArray)
 | sl (els:List (List C))
 | slx (els:List (List C))
 | nils
 | rw(k:Nat)
 | own (k off:Nat)
 | ownv (k off:Nat)
 | pt (es:List C) (off:Nat)
 | elr (k j off:Nat)
 | fn (f:Nat) (fi ca:List C)
 | agg (cs:List C)
 | tup (cs:List C)
 | nilp
 | nilf
 | ifc (t:TypeId) (c:C)
 | opq (k:Nat)
 | mval (nm:String) (c:C)
 | mof (t:TypeId) (nm:String)
 | mpr (k:Nat)
 | und
 | any
 deriving Inhabited
inductive TO where
 | box (t:TypeId) (cs:List C)
 | row (t:TypeId) (sz:Nat) (els:List (List C))
 | map (es:List (C×C))
abbrev TL:=List (Nat×TO)
def TL.get:TL->Nat->Option TO
 | [],_=>none
 | (j,o)::l,k=>match Nat.beq j k with | true=>some o | false=>TL.get l k
def TL.set:TL->Nat->TO->TL
 | [],k,o=>[(k,o)]
 | (j,p)::l,k,o=>match Nat.beq j k with
  | true=>(k,o)::l
  | false=>match Nat.ble j k with
   | true=>(j,p)::TL.set l k o
   | false=>(k,o)::(j,p)::l
def TL.del:TL->Nat->TL
 | [],_=>[]
 | (j,o)::l,k=>match Nat.beq j k with | true=>TL.del l k | false=>(j,o)::TL.del l k
def TL.sub (L:TL):List Nat->Option (List TO)
 | []=>some []
 | k::ks=>match L.get k,TL.sub L ks with
  | some o,some l=>some (o::l)
  | _,_=>none
def TL.aas (L:TL):List Nat->TL
 | []=>L
 | k::ks=>TL.aas (L.del k) ks
def TL.puts (L:TL):List Nat->List TO->TL
 | k::ks,o::l=>TL.puts (L.set k o) ks l
 | _,_=>L
def qI:Nat->List TO->TL
 | _,[]=>[]
 | k,o::l=>(k,o)::qI (k+1) l
def cT (l:List TO):TL:=qI 1000 l
def C.one:C->Bool
 | .int _ _=>true
 | .bool _=>true
 | .str _=>true
 | .sl _=>true
 | .slx _=>true
 | .nils=>true
 | .rw _=>true
 | .own _ _=>true
 | .pt _ _=>true
 | .fn _ _ _=>true
 | .nilp=>true
 | .nilf=>true
 | .ifc _ _=>true
 | .opq _=>true
 | .mval _ _=>true
 | .mof _ _=>true
 | .mpr _=>true
 | _=>false
def fB:List C->Bool
 | []=>true
 | c::l=>match c.one with | true=>fB l | false=>false
def C.aay:C->Bool
 | .int _ _=>true
 | .bool _=>true
 | .str _=>true
 | .sl _=>true
 | .slx _=>true
 | .nils=>true
 | .pt _ _=>true
 | .nilp=>true
 | .nilf=>true
 | .ifc _ _=>true
 | .opq _=>true
 | .mval _ _=>true
 | .mof _ _=>true
 | _=>false
def jE:List C->Bool
 | []=>true
 | c::l=>match c.aay with | true=>jE l | false=>false
def C.pure:C->Bool
 | .fn _ b a=>match jE b with | true=>jE a | false=>false
 | c=>c.aay
def i9:List C->Bool
 | []=>true
 | c::l=>match c.pure with | true=>i9 l | false=>false
def C.mp (g:C->C):Nat->C->C
 | _,.int k n=>g (.int k n)
 | _,.bool b=>g (.bool b)
 | _,.str s=>g (.str s)
 | _,.sl els=>g (.sl els)
 | _,.slx els=>g (.slx els)
 | _,.nils=>g .nils
 | _,.rw j=>g (.rw j)
 | _,.own j o=>g (.own j o)
 | _,.ownv j o=>g (.ownv j o)
 | _,.pt es o=>g (.pt es o)
 | _,.elr j a b=>g (.elr j a b)
 | _,.nilp=>g .nilp
 | _,.nilf=>g .nilf
 | _,.ifc t c=>g (.ifc t c)
 | _,.opq k=>g (.opq k)
 | _,.mval d c=>g (.mval d c)
 | _,.mof t d=>g (.mof t d)
 | _,.mpr j=>g (.mpr j)
 | _,.und=>g .und
 | _,.any=>g .any
 | 0,.fn _ _ _=>.any
 | 0,.agg _=>.any
 | 0,.tup _=>.any
 | n+1,.fn f h e=>.fn f (h.map (C.mp g n)) (e.map (C.mp g n))
 | n+1,.agg cs=>.agg (cs.map (C.mp g n))
 | n+1,.tup cs=>.tup (cs.map (C.mp g n))
def gG (k:Nat):C->C
 | .int k n=>.int k n
 | .bool b=>.bool b
 | .str s=>.str s
 | .sl els=>.sl els
 | .slx els=>.slx els
 | .nils=>.nils
 | .rw j=>match Nat.beq j k with | true=>.any | false=>.rw j
 | .own j o=>.own j o
 | .ownv j o=>.ownv j o
 | .pt es o=>.pt es o
 | .elr j a b=>match Nat.beq j k with | true=>.any | false=>.elr j a b
 | .fn f h e=>.fn f h e
 | .agg cs=>.agg cs
 | .tup cs=>.tup cs
 | .nilp=>.nilp
 | .nilf=>.nilf
 | .ifc t c=>.ifc t c
 | .opq k=>.opq k
 | .mval d c=>.mval d c
 | .mof t d=>.mof t d
 | .mpr j=>.mpr j
 | .und=>.und
 | .any=>.any
def C.kill (k:Nat) (c:C):C:=C.mp (gG k) 3 c
def C.kills:List Nat->C->C
 | [],c=>c
 | k::ks,c=>C.kills ks (c.kill k)
def qJ:C->C
 | .int k n=>.int k n
 | .bool b=>.bool b
 | .str s=>.str s
 | .sl els=>.sl els
 | .slx els=>.slx els
 | .nils=>.nils
 | .rw j=>.any
 | .own j o=>.own j o
 | .ownv j o=>.ownv j o
 | .pt es o=>.pt es o
 | .elr j a b=>.any
 | .fn f h e=>.fn f h e
 | .agg cs=>.agg cs
 | .tup cs=>.tup cs
 | .nilp=>.nilp
 | .nilf=>.nilf
 | .ifc t c=>.ifc t c
 | .opq k=>.opq k
 | .mval d c=>.mval d c
 | .mof t d=>.mof t d
 | .mpr j=>.mpr j
 | .und=>.und
 | .any=>.any
def C.aaZ (c:C):C:=C.mp qJ 3 c
def nJ (k:Nat) (l:List (List C)):C->C
 | .int k n=>.int k n
 | .bool b=>.bool b
 | .str s=>.str s
 | .sl els=>.sl els
 | .slx els=>.slx els
 | .nils=>.nils
 | .rw j=>match Nat.beq j k with | true=>.sl l | false=>.rw j
 | .own j o=>.own j o
 | .ownv j o=>.ownv j o
 | .pt es o=>.pt es o
 | .elr j a b=>match Nat.beq j k with | true=>.any | false=>.elr j a b
 | .fn f h e=>.fn f h e
 | .agg cs=>.agg cs
 | .tup cs=>.tup cs
 | .nilp=>.nilp
 | .nilf=>.nilf
 | .ifc t c=>.ifc t c
 | .opq k=>.opq k
 | .mval d c=>.mval d c
 | .mof t d=>.mof t d
 | .mpr j=>.mpr j
 | .und=>.und
 | .any=>.any
def C.frz (k:Nat) (els:List (List C)) (c:C):C:=C.mp (nJ k els) 3 c
def rK (k:Nat) (es:List C):C->C
 | .int k n=>.int k n
 | .bool b=>.bool b
 | .str s=>.str s
 | .sl els=>.sl els
 | .slx els=>.slx els
 | .nils=>.nils
 | .rw j=>.rw j
 | .own j o=>match Nat.beq j k with | true=>.pt es o | false=>.own j o
 | .ownv j o=>match Nat.beq j k with | true=>.pt es o | false=>.ownv j o
 | .pt es o=>.pt es o
 | .elr j a b=>.elr j a b
 | .fn f h e=>.fn f h e
 | .agg cs=>.agg cs
 | .tup cs=>.tup cs
 | .nilp=>.nilp
 | .nilf=>.nilf
 | .ifc t c=>.ifc t c
 | .opq k=>.opq k
 | .mval d c=>.mval d c
 | .mof t d=>.mof t d
 | .mpr j=>match Nat.beq j k with | true=>.any | false=>.mpr j
 | .und=>.und
 | .any=>.any
def C.frb (k:Nat) (es:List C) (c:C):C:=C.mp (rK k es) 3 c
def xL (r:Nat->Option Nat):C->C
 | .int k n=>.int k n
 | .bool b=>.bool b
 | .str s=>.str s
 | .sl els=>.sl els
 | .slx els=>.slx els
 | .nils=>.nils
 | .rw j=>match r j with | some i=>.rw i | none=>.any
 | .own j o=>match r j with | some i=>.own i o | none=>.any
 | .ownv j o=>match r j with | some i=>.own i o | none=>.any
 | .pt es o=>.pt es o
 | .elr j a b=>.any
 | .fn f h e=>.fn f h e
 | .agg cs=>.agg cs
 | .tup cs=>.tup cs
 | .nilp=>.nilp
 | .nilf=>.nilf
 | .ifc t c=>.ifc t c
 | .opq k=>.opq k
 | .mval d c=>.mval d c
 | .mof t d=>.mof t d
 | .mpr j=>match r j with | some i=>.mpr i | none=>.any
 | .und=>.und
 | .any=>.any
def C.ren (f:Nat->Option Nat) (c:C):C:=C.mp (xL f) 3 c
def TO.aaq (g:C->C):TO->TO
 | .box t cs=>.box t (cs.map g)
 | .row t sz els=>.row t sz els
 | .map es=>.map es
def TL.aaq (g:C->C):TL->TL
 | []=>[]
 | (k,o)::l=>(k,o.aaq g)::TL.aaq g l
def bn:List Nat->Nat->Nat->Option Nat
 | [],_,_=>none
 | k::ks,i,j=>match Nat.beq j k with | true=>some i | false=>bn ks (i+1) j
def aL (ko:List Nat) (j:Nat):Option Nat:=match Nat.ble 1000 j with | true=>ko[j-1000]? | false=>none
def C.can:C->C
 | .int k n=>.int k n
 | .bool b=>.bool b
 | .str s=>.str s
 | .sl els=>.sl els
 | .slx els=>.sl els
 | .nils=>.sl []
 | .rw j=>.rw j
 | .own j o=>.own j o
 | .ownv j o=>.ownv j o
 | .pt es o=>.pt es o
 | .elr j a b=>.elr j a b
 | .fn f h e=>.fn f h e
 | .agg cs=>.agg cs
 | .tup cs=>.tup cs
 | .nilp=>.nilp
 | .nilf=>.nilf
 | .ifc t c=>.ifc t c
 | .opq k=>.opq k
 | .mval d c=>.mval d c
 | .mof t d=>.mof t d
 | .mpr j=>.mpr j
 | .und=>.und
 | .any=>.any
def C.aaw:C->C
 | .int k n=>.int k n
 | .bool b=>.bool b
 | .str s=>.str s
 | .sl els=>.sl els
 | .slx els=>.sl els
 | .nils=>.sl []
 | .rw j=>.rw j
 | .own j o=>.own j o
 | .ownv j o=>.ownv j o
 | .pt es o=>.pt es o
 | .elr j a b=>.elr j a b
 | .fn f h e=>.fn f h e
 | .agg cs=>.agg (cs.map C.can)
 | .tup cs=>.tup cs
 | .nilp=>.nilp
 | .nilf=>.nilf
 | .ifc t c=>.ifc t c
 | .opq k=>.opq k
 | .mval d c=>.mval d c
 | .mof t d=>.mof t d
 | .mpr j=>.mpr j
 | .und=>.und
 | .any=>.any
def C.aaB:C->C
 | .int k n=>.int k n
 | .bool b=>.bool b
 | .str s=>.str s
 | .sl els=>.sl els
 | .slx els=>.sl els
 | .nils=>.sl []
 | .rw j=>.rw j
 | .own j o=>.own j o
 | .ownv j o=>.ownv j o
 | .pt es o=>.pt es o
 | .elr j a b=>.elr j a b
 | .fn f h e=>.fn f h e
 | .agg cs=>.agg (cs.map C.can)
 | .tup cs=>.tup (cs.map C.aaw)
 | .nilp=>.nilp
 | .nilf=>.nilf
 | .ifc t c=>.ifc t c
 | .opq k=>.opq k
 | .mval d c=>.mval d c
 | .mof t d=>.mof t d
 | .mpr j=>.mpr j
 | .und=>.und
 | .any=>.any
abbrev aG:=Nat->C
def bH (d:Option Nat) (c:C) (ρ:aG):aG :=
 match d with
 | some d=>fun j=>match Nat.beq j d with | true=>c | false=>ρ j
 | none=>ρ
def sM:Value->C
 | .int k n=>match(Lit.int k n).wf with | true=>.int k n | false=>.any
 | .bool b=>.bool b
 | .string s=>match Nat.ble s.size maxLen with | true=>.str s | false=>.any
 | .slice none 0 0=>.nils
 | .pointer none=>.nilp
 | .nilFunc=>.nilf
 | .nilIface=>.opq 0
 | .func (.methodOf t a) ⟨[]⟩ ⟨[]⟩=>.mof t a
 | _=>.any
def mtC (a:String) (c:C):C :=
 match c with
 | .ifc t c=>.mval a (.ifc t c)
 | _=>.any
def cv:Value->C
 | .agg cs=>.agg (cs.toList.map sM)
 | v=>sM v
def dG (ρ:aG):X->C
 | .t n=>ρ n
 | .c v=>cv v
 | .fn f=>.fn f [] []
 | .mt a n=>mtC a (ρ n)
def C.cel:C->C
 | .int k n=>.int k n
 | .bool b=>.bool b
 | .str s=>.str s
 | .sl els=>.sl els
 | .slx els=>.slx els
 | .nils=>.nils
 | .rw j=>.rw j
 | .own j o=>.own j o
 | .ownv j o=>.own j o
 | .pt es o=>.pt es o
 | .elr j a b=>.any
 | .fn f h e=>.fn f h e
 | .agg cs=>.agg cs
 | .tup cs=>.tup cs
 | .nilp=>.nilp
 | .nilf=>.nilf
 | .ifc t c=>.ifc t c
 | .opq k=>.opq k
 | .mval d c=>.mval d c
 | .mof t d=>.mof t d
 | .mpr j=>.mpr j
 | .und=>.und
 | .any=>.any
def C.slt:C->C
 | .int k n=>.int k n
 | .bool b=>.bool b
 | .str s=>.str s
 | .sl els=>.sl els
 | .slx els=>.slx els
 | .nils=>.nils
 | .rw j=>.rw j
 | .own j o=>.ownv j o
 | .ownv j o=>.ownv j o
 | .pt es o=>.pt es o
 | .elr j a b=>.elr j a b
 | .fn f h e=>.fn f h e
 | .agg cs=>.agg cs
 | .tup cs=>.tup cs
 | .nilp=>.nilp
 | .nilf=>.nilf
 | .ifc t c=>.ifc t c
 | .opq k=>.opq k
 | .mval d c=>.mval d c
 | .mof t d=>.mof t d
 | .mpr j=>.mpr j
 | .und=>.und
 | .any=>.any
def C.aaQ:C->C
 | .int k n=>.int k n
 | .bool b=>.bool b
 | .str s=>.str s
 | .sl els=>.sl els
 | .slx els=>.slx els
 | .nils=>.nils
 | .rw j=>.rw j
 | .own j o=>.own j o
 | .ownv j o=>.own j o
 | .pt es o=>.pt es o
 | .elr j a b=>.elr j a b
 | .fn f h e=>.fn f h e
 | .agg cs=>.agg cs
 | .tup cs=>.tup cs
 | .nilp=>.nilp
 | .nilf=>.nilf
 | .ifc t c=>.ifc t c
 | .opq k=>.opq k
 | .mval d c=>.mval d c
 | .mof t d=>.mof t d
 | .mpr j=>.mpr j
 | .und=>.und
 | .any=>.any
def C.okc:C->Bool
 | .any=>false
 | .und=>false
 | .elr _ _ _=>false
 | .tup _=>false
 | _=>true
def dc:C->List C
 | .int k n=>[.int k n]
 | .bool b=>[.bool b]
 | .str s=>[.str s]
 | .sl els=>[.sl els]
 | .slx els=>[.slx els]
 | .nils=>[.nils]
 | .rw j=>[.rw j]
 | .own j o=>[.own j o]
 | .ownv j o=>[.own j o]
 | .pt es o=>[.pt es o]
 | .elr j a b=>[.any]
 | .fn f h e=>[.fn f h e]
 | .agg cs=>cs
 | .tup cs=>[.tup cs]
 | .nilp=>[.nilp]
 | .nilf=>[.nilf]
 | .ifc t c=>[.ifc t c]
 | .opq k=>[.opq k]
 | .mval d c=>[.mval d c]
 | .mof t d=>[.mof t d]
 | .mpr j=>[.mpr j]
 | .und=>[.und]
 | .any=>[.any]
def fN:List C->Nat->Bool
 | [],0=>true
 | _::l,n+1=>fN l n
 | _,_=>false
def FR (agg:Bool) (cs:List C):C :=
 match agg,cs with
 | true,cs=>.agg cs
 | false,[c]=>c.slt
 | false,_=>.any
def fR (ρ:aG):List X->List C
 | []=>[]
 | x::xs=>(dG ρ x).cel::fR ρ xs
def vL (ρ:aG):List X->List (List C)
 | []=>[]
 | x::xs=>(dc (dG ρ x)).map C.can::vL ρ xs
def qK (ρ:aG) (sz:Nat):List X->Bool
 | []=>true
 | x::xs=>match(dG ρ x).okc,fN (dc (dG ρ x)) sz,fB (dc (dG ρ x)),i9 (dc (dG ρ x)) with
  | true,true,true,true=>qK ρ sz xs
  | _,_,_,_=>false
def jw (cs:List C) (off:Nat) (a:List C):List C:=cs.take off++a++cs.drop (off+a.length)
def vM (ρ:aG):List C->List (Nat×Nat×X)->Option (List C)
 | zs,[]=>some zs
 | zs,(off,n,x)::ps=>match(dG ρ x).okc,fN (dc (dG ρ x)) n with
  | true,true=>vM ρ (jw zs off (dc (dG ρ x))) ps
  | _,_=>none
def OD (ρ:aG) (d:Int):Option X->Option Int
 | none=>some d
 | some x=>match dG ρ x with | .int _ i=>some i | _=>none
def WY (mx:Bool):Int->List C->Option Int
 | a,[]=>some a
 | a,.int _ b::l=>WY mx (match mx with | true=>if b>a then b else a | false=>if b<a then b else a) l
 | _,_=>none
abbrev KO (b:UInt8):C:=.int .u8 b.toNat
def FT (bs:List UInt8):List (List C):=bs.map fun b=>[KO b]
def fc (c:C) (K:C->Prop):Prop :=
 match c with
 | .int k n=>K (.int k n)
 | .bool b=>K (.bool b)
 | .str s=>K (.str s)
 | .sl els=>K (.sl els)
 | .slx els=>K (.slx els)
 | .nils=>K .nils
 | .rw k=>K (.rw k)
 | .own k off=>K (.own k off)
 | .ownv k off=>K (.ownv k off)
 | .pt es off=>K (.pt es off)
 | .elr k j off=>K (.elr k j off)
 | .fn f e d=>K (.fn f e d)
 | .agg cs=>K (.agg cs)
 | .tup cs=>K (.tup cs)
 | .nilp=>K .nilp
 | .nilf=>K .nilf
 | .ifc t c=>K (.ifc t c)
 | .opq k=>K (.opq k)
 | .mval a c=>K (.mval a c)
 | .mof t a=>K (.mof t a)
 | .mpr j=>K (.mpr j)
 | .und=>K .und
 | .any=>K .any
def fl:List C->(List C->Prop)->Prop
 | [],K=>K []
 | c::cs,K=>fc c fun c=>fl cs fun cs=>K (c::cs)
def fO:TO->(TO->Prop)->Prop
 | .box t cs,K=>fl cs fun cs=>K (.box t cs)
 | .row t sz els,K=>K (.row t sz els)
 | .map es,K=>K (.map es)
def fT:TL->(TL->Prop)->Prop
 | [],K=>K []
 | (k,o)::l,K=>fO o fun o=>fT l fun l=>K ((k,o)::l)
def Bq (c:C) (K:C->Prop):Prop :=
 match c with
 | .agg cs=>fl cs fun cs=>K (.agg cs)
 | c=>fc c K
theorem RJ {c:C}{K:C->Prop}:fc c K=K c:=by cases c<;>rfl
theorem fP:∀{cs:List C}{K:List C->Prop},fl cs K=K cs
 | [],K=>rfl
 | c::cs,K=>by simp only[fl,RJ,fP]
theorem U4 {o:TO}{K:TO->Prop}:fO o K=K o:=by cases o<;>simp only[fO,fP]
theorem gH:∀{L:TL}{K:TL->Prop},fT L K=K L
 | [],K=>rfl
 | (k,o)::l,K=>by simp only[fT,U4,gH]
theorem fJ {c:C}{K:C->Prop}:Bq c K=K c:=by cases c<;>simp only[Bq,fP,RJ]
mutual
/-- the bounds that all data of the machine keeps -/
def Wf:C->Prop
 | .int k n=>(Lit.int k n).wf=true
 | .str s=>s.size<=maxLen
 | .sl els=>els.length<=maxLen/\yI els
 | .slx els=>els.length<=maxLen/\yI els
 | .pt es _=>vE es
 | .fn _ fi ca=>vE fi/\vE ca
 | .agg cs=>vE cs
 | .tup cs=>vE cs
 | _=>True
def vE:List C->Prop
 | []=>True
 | c::l=>Wf c/\vE l
def yI:List (List C)->Prop
 | []=>True
 | es::l=>vE es/\yI l
end
def Xo:List (C×C)->Prop
 | []=>True
 | (k,v)::l=>Wf k/\Wf v/\Xo l
def TO.Wf:TO->Prop
 | .box _ cs=>vE cs
 | .row _ _ els=>yI els
 | .map es=>Xo es
structure ur (els:List (List C)) (i:Int) (sz:Nat) (K:List C->Prop):Prop where
 out:∃es,0<=i/\els[i.toNat]?=some es/\fN es sz=true/\K es
structure FU (els:List (List C)) (j off n:Nat) (K:List C->Prop):Prop where
 out:∃es,els[j]?=some es/\fN ((es.drop off).take n) n=true/\K ((es.drop off).take n)
structure Xp (els:List (List C)) (K:List UInt8->Prop):Prop where
 out:∃bs,els=FT bs/\K bs
structure U5 (l h:Int) (els:List (List C)) (sz:Nat) (K:Nat->Nat->Prop):Prop where
 lo:0<=l
 le:l<=h
 hi:h<=els.length
 sizes:∀es∈els,es.length=sz
 out:K l.toNat h.toNat
structure xk (els news:List (List C)) (sz bytes:Nat) (K:Prop):Prop where
 sizes:∀es∈news,es.length=sz
 max:els.length+news.length<=maxLen
 room:(els.length+news.length)*bytes<=140737488355328
 out:K
def j4:Bool->C->C->Option Bool
 | false,.int .i64 a,.int .i64 b=>some (decide (a=b))
 | true,.str a,.str b=>some (decide (a.data.toList=b.data.toList))
 | _,_,_=>none
def KP:Bool->C->Bool
 | false,.int .i64 _=>true
 | true,.str _=>true
 | _,_=>false
def wL (str:Bool) (key:C):List (C×C)->Option (Option C)
 | []=>some none
 | (k,v)::l=>match j4 str key k with
  | some true=>some (some v)
  | some false=>wL str key l
  | none=>none
def FW (str:Bool) (key val:C):List (C×C)->Option (List (C×C))
 | []=>some [(key,val)]
 | (k,v)::l=>match j4 str key k with
  | some true=>some ((key,val)::l)
  | some false=>match FW str key val l with | some l'=>some ((k,v)::l') | none=>none
  | none=>none
structure yJ (str:Bool) (es:List (C×C)) (key:C) (Y:C->Prop) (N:Prop):Prop where
 out:(∃v,wL str key es=some (some v)/\Y v)\/(wL str key es=some none/\N)
structure RM (str:Bool) (es:List (C×C)) (key val:C) (K:List (C×C)->Prop):Prop where
 out:∃es',FW str key val es=some es'/\K es'
structure Xq (i:Int) (K:Nat->Prop):Prop where
 out:∃m:Nat,i=m/\K m
def yK:List Nat->TL->aG->List C->(TL->aG->List C->Prop)->Prop
 | [],L,ρ,a,K=>K L ρ a
 | k::ks,L,ρ,a,K=>match L.get k with
  | some (.row _ _ els)=>yK ks ((L.del k).aaq (C.frz k els)) (fun j=>(ρ j).frz k els) (a.map (C.frz k els)) K
  | _=>False
def rL (L:TL):C->Bool
 | .rw k=>match L.get k with | some (.row _ _ _)=>true | _=>false
 | .own k _=>match L.get k with | some (.box _ _)=>true | _=>false
 | .mpr k=>match L.get k with | some (.map _)=>true | _=>false
 | .ownv _ _=>false
 | .elr _ _ _=>false
 | _=>true
def fZ (L:TL):Nat->C->Bool
 | n+1,.agg cs=>cs.all (fZ L n)
 | n+1,.tup cs=>cs.all (fZ L n)
 | n+1,.fn _ b a=>b.all (fZ L n)&&a.all (fZ L n)
 | 0,.agg _=>false
 | 0,.tup _=>false
 | 0,.fn _ _ _=>false
 | _,c=>rL L c
def OE (L L1:TL) (c a:C):Prop :=
 a=.any\/(c=a/\fZ L1 3 a=true)\/(c=.nils/\a=.sl [])\/(c=.nils/\∃k t sz,a=.rw k/\L.get k=none/\L1.get k=some (.row t sz []))\/∃els,c=.slx els/\a=.sl els
def KQ (L L1:TL):List C->List C->Prop
 | [],l=>l=[]
 | c::cs,l=>∃a cs',l=a::cs'/\OE L L1 c a/\KQ L L1 cs cs'
def RO (L1:TL):TO->Bool
 | .box _ cs=>cs.all (fZ L1 3)
 | .row _ _ _=>true
 | .map _=>true
def Xr (L L1:TL) (o o':TO):Prop:=(o=o'/\RO L1 o'=true)\/∃t cs cs',o=.box t cs/\o'=.box t cs'/\KQ L L1 cs cs'
def gives (L L1:TL):TL->Prop
 | []=>True
 | (k,o)::l=>((∃p,L.get k=some p/\Xr L L1 p o)\/(L.get k=none/\∃t sz,o=.row t sz []))/\gives L L1 l
def nS (L L1:TL):List Nat->List C->aG->Prop
 | k::ks,v::a,ρ=>OE L L1 (ρ k) v/\nS L L1 ks a ρ
 | _,_,_=>True
def qL:List Nat->List C->aG->aG
 | k::ks,v::a,ρ=>bH (some k) v (qL ks a ρ)
 | _,_,ρ=>ρ
def aU:List Nat->Bool
 | []=>true
 | k::ks=>match fU ks k with | true=>false | false=>aU ks
def OG (F:aA) (b o off:Nat) (d:List Value):Prop :=
 ∃a c t fr,F b=some (.cells c t fr)/\o=a+off/\∀(i:Nat) (v:Value),d[i]?=some v->c[a+i]?=some v
mutual
def Rel (F:aA):Loc->C->Value->Prop
 | _,.int k n,v=>v=.int k n/\(Lit.int k n).wf=true
 | _,.bool b,v=>v=.bool b
 | _,.str s,v=>v=.string s/\s.size<=maxLen
 | _,.sl els,v=>∃a c,v=.slice a els.length c/\els.length<=c/\els.length<=maxLen/\(a=none->els=[]/\c=0)/\∃sz,gU F a sz 0 els
 | _,.slx els,v=>∃a,v=.slice (some a) els.length els.length/\els.length<=maxLen/\∃sz,gU F (some a) sz 0 els
 | _,.nils,v=>v=.slice none 0 0
 | L,.rw k,v=>∃a c t sz n xs,v=.slice a n c/\L.get k=some (.row v t sz n xs)
 | L,.own k off,v=>∃g t cs,L.get k=some (.box g t cs)/\v=.pointer (some ⟨g,off,none⟩)
 | _,.pt es off,v=>∃b o vs,v=.pointer (some ⟨b,o,none⟩)/\OG F b o off vs/\fB es=true/\aB F [] es vs
 | L,.fn f fi ca,v=>∃fi' ca',v=.func (.func f) fi'.toArray ca'.toArray/\aB F L fi fi'/\aB F L ca ca'
 | L,.agg cs,v=>∃vs,v=.agg vs.toArray/\aB F L cs vs
 | L,.tup cs,v=>∃vs,v=.tuple vs.toArray/\aB F L cs vs
 | _,.nilp,v=>v=.pointer none
 | _,.nilf,v=>v=.nilFunc
 | _,.ifc t c,v=>∃u,v=.iface t u/\Rel F [] c u
 | _,.opq k,v=>iq k F v
 | _,.mval nm c,v=>∃u,v=.func (.method nm) #[u] #[]/\Rel F [] c u
 | _,.mof t nm,v=>v=.func (.methodOf t nm) #[] #[]
 | L,.mpr k,v=>∃g cs,L.get k=some (.box g 0 cs)/\v=.map (some g)
 | _,.und,v=>v=undef
 | _,.any,_=>True
 | _,.ownv _ _,_=>False
 | _,.elr _ _ _,_=>False
def aB (F:aA):Loc->List C->List Value->Prop
 | _,[],vs=>vs=[]
 | L,c::cs,vs=>∃v vs',vs=v::vs'/\Rel F L c v/\aB F L cs vs'
def gU (F:aA) (a:Option Addr) (sz:Nat):Nat->List (List C)->Prop
 | _,[]=>True
 | i,es::l=>(∃vs,vs.length=sz/\dY F a (i*sz) vs/\fB es=true/\aB F [] es vs)/\gU F a sz (i+1) l
end
def aR (F:aA) (sz:Nat):List (List C)->List Value->Prop
 | [],xs=>xs=[]
 | es::l,xs=>∃b a,xs=b++a/\b.length=sz/\fB es=true/\aB F [] es b/\aR F sz l a
def tyOk (t g a:Nat):Prop:=a<1048576/\(t=a\/t=(g+1)*1048576+a)/\a≠0
def gh (F:aA):List (C×C)->List Value->Prop
 | [],b=>b=[]
 | (k,c)::l,b=>∃kv v a,b=.agg #[kv,v]::a/\Rel F [] k kv/\Rel F [] c v/\gh F l a
def cZ (F:aA) (L:Loc):TO->Own->Prop
 | .box t cs,.box g b d=>tyOk t g b/\aB F L cs d
 | .row t sz els,.row v b e n xs=>t=b/\sz=e/\n=els.length/\(n<=maxLen/\∃a c,v=.slice a n c/\(a=none->n=0))/\aR F sz els xs
 | .map es,.box g b d=>b=0/\gh F es d
 | _,_=>False
def yL (F:aA) (L:Loc):Option TO->Option Own->Prop
 | none,none=>True
 | some to,some o=>cZ F L to o
 | _,_=>False
def bV (F:aA) (L:Loc) (M:TL):Prop:=∀k,yL F L (M.get k) (L.get k)
def WZ (sv:SV) (v:Value):Prop:=sv=.v v\/∃b o j,sv=.el (some ⟨b,o,none⟩) j/\v=.pointer (some ⟨b,o+j,none⟩)
def aN (F:aA) (L:Loc):C->SV->Prop
 | .own k off,sv=>sv=.own k off/\∃g t cs,L.get k=some (.box g t cs)
 | .pt es off,sv=>∃b o j d,(sv=.v (.pointer (some ⟨b,o,none⟩))/\j=0\/sv=.el (some ⟨b,o,none⟩) j)/\OG F b (o+j) off d/\fB es=true/\aB F [] es d
 | .elr k j off,sv=>∃a t sz n c xs,sv=.el (some a) (j*sz+off)/\L.get k=some (.row (.slice (some a) n c) t sz n xs)
 | .ownv k off,sv=>∃v,WZ sv v/\Rel F L (.own k off) v
 | .any,_=>True
 | c,sv=>∃v,sv=.v v/\Rel F L c v
def Kp (G:Nat->Option (Nat×TypeId)) (L:Loc):Prop:=∀k g t,G k=some (g,t)->∃cs,L.get k=some (.box g t cs)
structure TS (G:Nat->Option (Nat×TypeId)) (F:aA) (L:Loc) (ρ:Env) (M:TL) (τ:aG):Prop where
 tl:bV F L M
 env:∀j,aN F L (τ j) (ρ j)
 kp:Kp G L
 glob:tU F
def Own.like:Own->Own->Prop
 | .box g t _,.box d c _=>g=d/\t=c
 | .row v _ sz n _,.row e _ a b _=>v=e/\sz=a/\n=b
 | _,_=>False
theorem Own.aav:∀o:Own,Own.like o o
 | .box ..=>⟨rfl,rfl⟩
 | .row ..=>⟨rfl,rfl,rfl⟩
theorem OG.mono {F F':aA}(h:F.le F') {b o off:Nat}{e:List Value}(c:OG F b o off e):OG F' b o off e:=by
 obtain⟨a,d,t,fr,h1,h2⟩:=c;exact⟨a,d,t,fr,h _ _ h1,h2⟩
mutual
theorem Rel.mono {F F':aA}(h:F.le F'):∀{L:Loc}{c:C}{v:Value},Rel F L c v->Rel F' L c v
 | _,.int k n,v,r=>r
 | _,.bool b,v,r=>r
 | _,.str s,v,r=>r
 | _,.sl els,v,r=>by
  simp only[Rel] at r ⊢;obtain⟨a,c,h1,h2,h3,h4,sz,h5⟩:=r;exact⟨a,c,h1,h2,h3,h4,sz,gU.mono h h5⟩
 | _,.slx els,v,r=>by
  simp only[Rel] at r ⊢;obtain⟨a,h1,h2,sz,h5⟩:=r;exact⟨a,h1,h2,sz,gU.mono h h5⟩
 | _,.nils,v,r=>r
 | L,.rw k,v,r=>by simp only[Rel] at r ⊢;exact r
 | L,.own k off,v,r=>by simp only[Rel] at r ⊢;exact r
 | _,.pt es off,v,r=>by
  simp only[Rel] at r ⊢;obtain⟨b,o,vs,h1,h2,h3,h4⟩:=r;exact⟨b,o,vs,h1,h2.mono h,h3,aB.mono h h4⟩
 | L,.fn f fi ca,v,r=>by
  simp only[Rel] at r ⊢;obtain⟨fi',ca',h1,h2,h3⟩:=r;exact⟨fi',ca',h1,aB.mono h h2,aB.mono h h3⟩
 | L,.agg cs,v,r=>by
  simp only[Rel] at r ⊢;obtain⟨vs,h1,h2⟩:=r;exact⟨vs,h1,aB.mono h h2⟩
 | L,.tup cs,v,r=>by
  simp only[Rel] at r ⊢;obtain⟨vs,h1,h2⟩:=r;exact⟨vs,h1,aB.mono h h2⟩
 | _,.nilp,v,r=>r
 | _,.nilf,v,r=>r
 | _,.ifc t c,v,r=>by
  simp only[Rel] at r ⊢;obtain⟨u,h1,h2⟩:=r;exact⟨u,h1,Rel.mono h h2⟩
 | _,.opq k,v,r=>by
  simp only[Rel] at r ⊢;exact r.mono h
 | _,.mval nm c,v,r=>by
  simp only[Rel] at r ⊢;obtain⟨u,h1,h2⟩:=r;exact⟨u,h1,Rel.mono h h2⟩
 | _,.mof t nm,v,r=>r
 | L,.mpr k,v,r=>by simp only[Rel] at r ⊢;exact r
 | _,.und,v,r=>r
 | _,.any,v,r=>trivial
 | _,.ownv _ _,v,r=>r
 | _,.elr _ _ _,v,r=>r
theorem aB.mono {F F':aA}(h:F.le F'):∀{L:Loc}{cs:List C}{vs:List Value},aB F L cs vs->aB F' L cs vs
 | _,[],vs,r=>by simp only[aB] at r ⊢;exact r
 | L,c::cs,vs,r=>by
  simp only[aB] at r ⊢;obtain⟨v,vs',h1,h2,h3⟩:=r;exact⟨v,vs',h1,Rel.mono h h2,aB.mono h h3⟩
theorem gU.mono {F F':aA}(h:F.le F') {a:Option Addr}{sz:Nat}:∀{i:Nat}{l:List (List C)},gU F a sz i l->gU F' a sz i l
 | _,[],r=>by simp only[gU]
 | i,es::l,r=>by
  simp only[gU] at r ⊢;obtain⟨⟨vs,h1,h2,h3,h4⟩,h5⟩:=r;exact⟨⟨vs,h1,h2.mono h,h3,aB.mono h h4⟩,gU.mono h h5⟩
end
theorem aR.mono {F F':aA}(h:F.le F') {sz:Nat}:∀{l:List (List C)}{xs:List Value},aR F sz l xs->aR F' sz l xs
 | [],xs,r=>r
 | es::l,xs,r=>by
  simp only[aR] at r ⊢;obtain⟨b,a,h1,h2,h3,h4,h5⟩:=r;exact⟨b,a,h1,h2,h3,h4.mono h,aR.mono h h5⟩
theorem gh.mono {F F':aA}(h:F.le F'):∀{l:List (C×C)}{a:List Value},gh F l a->gh F' l a
 | [],a,r=>r
 | (k,c)::l,a,r=>by
  simp only[gh] at r ⊢;obtain⟨kv,v,b,h1,h2,h3,h4⟩:=r;exact⟨kv,v,b,h1,h2.mono h,h3.mono h,gh.mono h h4⟩
theorem cZ.mono {F F':aA}(h:F.le F') {L:Loc}:∀{o:TO}{p:Own},cZ F L o p->cZ F' L o p
 | .box t cs,.box g a c,r=>⟨r.1,r.2.mono h⟩
 | .row t sz els,.row v a b n xs,r=>⟨r.1,r.2.1,r.2.2.1,r.2.2.2.1,r.2.2.2.2.mono h⟩
 | .box _ _,.row ..,r=>r.elim
 | .row ..,.box ..,r=>r.elim
 | .map _,.row ..,r=>r.elim
 | .map es,.box g a c,r=>⟨r.1,r.2.mono h⟩
theorem bV.mono {F F':aA}(h:F.le F') {L:Loc}{M:TL}(r:bV F L M):bV F' L M:=by
 intro k;have:=r k
 revert this
 cases M.get k<;>cases L.get k<;>simp only[yL]<;>first | exact fun h=>h | exact fun r=>r.mono h
theorem aN.mono {F F':aA}(h:F.le F') {L:Loc}{c:C}{sv:SV}(r:aN F L c sv):aN F' L c sv:=by
 cases c<;>simp only[aN] at r ⊢
 case own=>exact r
 case pt =>
  obtain⟨b,o,j,a,h1,h2,h3,h4⟩:=r;exact⟨b,o,j,a,h1,h2.mono h,h3,h4.mono h⟩
 case elr=>exact r
 all_goals
  obtain⟨v,h1,h2⟩:=r;exact⟨v,h1,h2.mono h⟩
theorem mN {F:aA}{L:Loc}:∀{cs:List C}{a:List Value},aB F L cs a↔a.length=cs.length/\∀(i:Nat) c v,cs[i]?=some c->a[i]?=some v->Rel F L c v
 | [],a=>by
  simp only[aB];constructor
  ·rintro rfl;simp
  ·rintro⟨h,_⟩;exact List.length_eq_zero_iff.1 (by simpa using h)
 | c::cs,a=>by
  simp only[aB,mN (cs:=cs)];constructor
  ·rintro⟨v,d,rfl,h1,h2,h3⟩;refine⟨by simp[h2],fun i j f e b=>?_⟩;cases i with
   | zero=>simp only[abm,aa1] at e b;subst e b;exact h1
   | succ i=>exact h3 i j f (by simpa using e) (by simpa using b)
  ·rintro⟨h1,h2⟩
   match a,h1 with
   | v::d,h1=>exact⟨v,d,rfl,h2 0 c v (by simp) (by simp),by simpa using h1,fun i j f e b=>h2 (i+1) j f (by simpa using e) (by simpa using b)⟩
theorem aB.len {F:aA}{L:Loc}{cs:List C}{a:List Value}(h:aB F L cs a):a.length=cs.length:=(mN.1 h).1
theorem aB.at {F:aA}{L:Loc}{cs:List C}{a:List Value}(h:aB F L cs a) {i:Nat}{c:C}{v:Value}(d:cs[i]?=some c) (b:a[i]?=some v):Rel F L c v:=(mN.1 h).2 i c v d b
theorem aB.append {F:aA}{L:Loc}{cs ds:List C}{a us:List Value}(h:aB F L cs a) (k:aB F L ds us):aB F L (cs++ds) (a++us):=by
 induction cs generalizing a with
 | nil=>simp only[aB] at h;subst h;exact k
 | cons c cs b =>
  simp only[aB] at h;obtain⟨v,d,rfl,h1,h2⟩:=h;simp only[abj,aB];exact⟨v,_,rfl,h1,b h2⟩
theorem aB.drop {F:aA}{L:Loc}{cs:List C}{a:List Value}(h:aB F L cs a) (n:Nat):aB F L (cs.drop n) (a.drop n):=by
 rw[mN] at h ⊢;refine⟨by simp[h.1],fun i c v d b=>?_⟩;rw[abS] at d b;exact h.2 _ _ _ d b
theorem aB.take {F:aA}{L:Loc}{cs:List C}{d:List Value}(h:aB F L cs d) (n:Nat):aB F L (cs.take n) (d.take n):=by
 rw[mN] at h ⊢;refine⟨by simp[h.1],fun i c v a b=>?_⟩;rw[abY] at a b;split at a
 ·rw[eu (by assumption)] at b;exact h.2 _ _ _ a b
 ·cases a
theorem oC {F:aA}{a:Option Addr}{sz:Nat}:∀{l:List (List C)}{i:Nat},gU F a sz i l↔∀(j:Nat) es,l[j]?=some es->∃c,c.length=sz/\dY F a ((i+j)*sz) c/\fB es=true/\aB F [] es c
 | [],i=>by simp[gU]
 | x::l,i=>by
  simp only[gU,oC (l:=l)];constructor
  ·rintro⟨h1,h2⟩ j y b;cases j with
   | zero=>simp only[abm,aa1] at b;subst b;simpa using h1
   | succ j =>
    simp only[abv] at b;have:=h2 j y b
    rwa [show i+1+j=i+(j+1) by omega] at this
  ·intro h;refine⟨by simpa using h 0 x (by simp),fun j y b=>?_⟩;have:=h (j+1) y (by simpa using b)
   rwa [show i+(j+1)=i+1+j by omega] at this
theorem iM {F:aA}{sz:Nat}:∀{l:List (List C)}{xs:List Value},aR F sz l xs->xs.length=l.length*sz
 | [],xs,h=>by simp only[aR] at h;subst h;simp
 | es::l,xs,h=>by
  simp only[aR] at h;obtain⟨b,a,rfl,h2,_,_,h5⟩:=h;simp only[abP,iM h5,h2,abo,Nat.add_mul];omega
theorem aR.append {F:aA}{sz:Nat}:∀{l m:List (List C)}{xs a:List Value},aR F sz l xs->aR F sz m a->aR F sz (l++m) (xs++a)
 | [],m,xs,a,h,k=>by simp only[aR] at h;subst h;exact k
 | es::l,m,xs,a,h,k=>by
  simp only[aR] at h;obtain⟨c,b,rfl,h2,h3,h4,h5⟩:=h;simp only[abj,aR];exact⟨c,b++a,by simp,h2,h3,h4,aR.append h5 k⟩
theorem aR.at {F:aA}{sz:Nat}:∀{l:List (List C)}{xs:List Value},aR F sz l xs->∀{j:Nat}{es:List C},l[j]?=some es->∃a,a.length=sz/\fB es=true/\aB F [] es a/\∀(i:Nat) v,a[i]?=some v->xs[j*sz+i]?=some v
 | [],xs,h,j,es,e=>by simp at e
 | x::l,xs,h,j,es,e=>by
  simp only[aR] at h;obtain⟨a,k,rfl,h2,h3,h4,h5⟩:=h;cases j with
  | zero =>
   simp only[abm,aa1] at e;subst e;refine⟨a,h2,h3,h4,fun i v b=>?_⟩;have:i<a.length:=(aa6.1 b).1;rw[Nat.zero_mul,Nat.zero_add,abV this];exact b
  | succ j =>
   obtain⟨us,k1,c,f,d⟩:=aR.at h5 (by simpa using e);refine⟨us,k1,c,f,fun i v b=>?_⟩;rw[abW (by rw[h2,Nat.add_mul];omega),show(j+1)*sz+i-a.length=j*sz+i by rw[h2,Nat.add_mul];omega];exact d i v b
theorem aR.frz {F:aA}{sz:Nat}{l:List (List C)}{xs:List Value}(h:aR F sz l xs) {a:Addr}(hf:dY F (some a) 0 xs):gU F (some a) sz 0 l:=by
 rw[oC];intro j es he;obtain⟨m,h1,h2,h3,h4⟩:=h.at he;refine⟨m,h1,?_,h2,h3⟩;obtain⟨d,c,t,fr,e,hb,b,k⟩:=hf;refine⟨d,c,t,fr,e,hb,b,fun i v f=>?_⟩;have:=k (j*sz+i) v (h4 i v f);simpa[Nat.add_assoc] using this
theorem oD:∀{l:List C},fB l=true↔∀c∈l,c.one=true
 | []=>by simp[fB]
 | c::l=>by
  simp only[fB];cases h:c.one
  ·simp[h]
  ·simp[h,oD]
theorem yM:∀{l:List C},i9 l=true↔∀c∈l,c.pure=true
 | []=>by simp[i9]
 | c::l=>by
  simp only[i9];cases h:c.pure
  ·simp[h]
  ·simp[h,yM]
theorem qM:∀{l:List C},jE l=true↔∀c∈l,c.aay=true
 | []=>by simp[jE]
 | c::l=>by
  simp only[jE];cases h:c.aay
  ·simp[h]
  ·simp[h,qM]
theorem Rel.one {F:aA}{L:Loc}{c:C}{v:Value}(h:Rel F L c v) (d:c.one=true):v.oneCell'=true:=by
 cases c<;>simp only[C.one,abl] at d<;>simp only[Rel] at h
 case int=>obtain⟨rfl,_⟩:=h;rfl
 case bool=>subst h;rfl
 case str=>obtain⟨rfl,_⟩:=h;rfl
 case sl=>obtain⟨a,c,rfl,_⟩:=h;rfl
 case slx=>obtain⟨a,rfl,_⟩:=h;rfl
 case nils=>subst h;rfl
 case own=>obtain⟨g,t,cs,_,rfl⟩:=h;rfl
 case pt=>obtain⟨b,o,e,rfl,_⟩:=h;rfl
 case fn=>obtain⟨a,b,rfl,_⟩:=h;rfl
 case nilp=>subst h;rfl
 case nilf=>subst h;rfl
 case ifc=>obtain⟨u,rfl,_⟩:=h;rfl
 case opq=>exact h.one
 case mval=>obtain⟨u,rfl,_⟩:=h;rfl
 case mof=>subst h;rfl
 case mpr=>obtain⟨g,cs,_,rfl⟩:=h;rfl
 case rw=>obtain⟨a,c,t,sz,n,xs,rfl,_⟩:=h;rfl
mutual
theorem Rel.wf {F:aA}:∀{L:Loc}{c:C}{v:Value},Rel F L c v->Wf c
 | _,.int k n,v,r=>by simp only[Rel] at r;simp only[Wf];exact r.2
 | _,.bool b,v,r=>by simp only[Wf]
 | _,.str s,v,r=>by simp only[Rel] at r;simp only[Wf];exact r.2
 | _,.sl els,v,r=>by
  simp only[Rel] at r;obtain⟨a,c,h1,h2,h3,h4,sz,h5⟩:=r;simp only[Wf];exact⟨h3,gU.wf h5⟩
 | _,.slx els,v,r=>by
  simp only[Rel] at r;obtain⟨a,h1,h2,sz,h5⟩:=r;simp only[Wf];exact⟨h2,gU.wf h5⟩
 | _,.nils,v,r=>by simp only[Wf]
 | L,.rw k,v,r=>by simp only[Wf]
 | L,.own k off,v,r=>by simp only[Wf]
 | _,.pt es off,v,r=>by
  simp only[Rel] at r;obtain⟨b,o,vs,h1,h2,h3,h4⟩:=r;simp only[Wf];exact aB.wf h4
 | L,.fn f fi ca,v,r=>by
  simp only[Rel] at r;obtain⟨fi',ca',h1,h2,h3⟩:=r;simp only[Wf];exact⟨aB.wf h2,aB.wf h3⟩
 | L,.agg cs,v,r=>by
  simp only[Rel] at r;obtain⟨vs,h1,h2⟩:=r;simp only[Wf];exact aB.wf h2
 | L,.tup cs,v,r=>by
  simp only[Rel] at r;obtain⟨vs,h1,h2⟩:=r;simp only[Wf];exact aB.wf h2
 | _,.nilp,v,r=>by simp only[Wf]
 | _,.nilf,v,r=>by simp only[Wf]
 | _,.ifc _ _,v,r=>by simp only[Wf]
 | _,.opq _,v,r=>by simp only[Wf]
 | _,.mval _ _,v,r=>by simp only[Wf]
 | _,.mof _ _,v,r=>by simp only[Wf]
 | _,.mpr _,v,r=>by simp only[Wf]
 | _,.und,v,r=>by simp only[Wf]
 | _,.any,v,r=>by simp only[Wf]
 | _,.ownv _ _,v,r=>by simp only[Wf]
 | _,.elr _ _ _,v,r=>by simp only[Wf]
theorem aB.wf {F:aA}:∀{L:Loc}{cs:List C}{vs:List Value},aB F L cs vs->vE cs
 | _,[],vs,r=>by simp only[vE]
 | L,c::cs,vs,r=>by
  simp only[aB] at r;obtain⟨v,vs',h1,h2,h3⟩:=r;simp only[vE];exact⟨Rel.wf h2,aB.wf h3⟩
theorem gU.wf {F:aA}{a:Option Addr}{sz:Nat}:∀{i:Nat}{l:List (List C)},gU F a sz i l->yI l
 | _,[],r=>by simp only[yI]
 | i,es::l,r=>by
  simp only[gU] at r;obtain⟨⟨vs,h1,h2,h3,h4⟩,h5⟩:=r;simp only[yI];exact⟨aB.wf h4,gU.wf h5⟩
end
theorem aR.wf {F:aA}{sz:Nat}:∀{l:List (List C)}{xs:List Value},aR F sz l xs->yI l
 | [],xs,r=>by simp only[yI]
 | es::l,xs,r=>by
  simp only[aR] at r;obtain⟨b,a,h1,h2,h3,h4,h5⟩:=r;simp only[yI];exact⟨h4.wf,h5.wf⟩
theorem gh.wf {F:aA}:∀{l:List (C×C)}{a:List Value},gh F l a->Xo l
 | [],a,r=>trivial
 | (k,c)::l,a,r=>by
  simp only[gh] at r;obtain⟨kv,v,b,h1,h2,h3,h4⟩:=r;exact⟨h2.wf,h3.wf,gh.wf h4⟩
theorem cZ.wf {F:aA}{L:Loc}:∀{o:TO}{p:Own},cZ F L o p->o.Wf
 | .box t cs,.box g a b,r=>r.2.wf
 | .row t sz els,.row v a c n xs,r=>r.2.2.2.2.wf
 | .box _ _,.row ..,r=>r.elim
 | .row ..,.box ..,r=>r.elim
 | .map _,.row ..,r=>r.elim
 | .map es,.box g a b,r=>r.2.wf
def C.leaf:C->Bool
 | .fn _ _ _=>false
 | .agg _=>false
 | .tup _=>false
 | _=>true
theorem xM {g:C->C}{n:Nat}{c:C}(h:c.leaf=true):C.mp g n c=g c:=by
 cases c<;>first | (cases n<;>rfl;done) | cases h
theorem aB.map {F F':aA}{L L':Loc}{g:C->C}:∀{cs:List C}{a:List Value},(∀c∈cs,∀v,Rel F L c v->Rel F' L' (g c) v)->aB F L cs a->aB F' L' (cs.map g) a
 | [],a,b,h=>by simp only[aB] at h;subst h;simp only[abX,aB]
 | c::cs,a,b,h=>by
  simp only[aB] at h;obtain⟨v,d,rfl,h1,h2⟩:=h;simp only[abe,aB];exact⟨v,d,rfl,b c (by simp) v h1,aB.map (fun c e=>b c (by simp[e])) h2⟩
theorem Rel.mp {F F':aA}{L L':Loc}{g:C->C}(b:∀c v,c.leaf=true->Rel F L c v->Rel F' L' (g c) v):∀(n:Nat) {c:C}{v:Value},Rel F L c v->Rel F' L' (C.mp g n c) v
 | 0,c,v,h=>by
  cases a:c.leaf
  ·cases c<;>simp only[C.leaf,Bool.true_eq_false] at a<;>simp only[C.mp,Rel]
  ·rw[xM a];exact b c v a h
 | n+1,c,v,h=>by
  cases a:c.leaf
  ·cases c<;>simp only[C.leaf,Bool.true_eq_false] at a<;>simp only[Rel] at h<;>simp only[C.mp,Rel]
   ·obtain⟨f,e,h1,h2,h3⟩:=h;exact⟨f,e,h1,h2.map fun c _ v=>Rel.mp b n,h3.map fun c _ v=>Rel.mp b n⟩
   ·obtain⟨d,h1,h2⟩:=h;exact⟨d,h1,h2.map fun c _ v=>Rel.mp b n⟩
   ·obtain⟨d,h1,h2⟩:=h;exact⟨d,h1,h2.map fun c _ v=>Rel.mp b n⟩
  ·rw[xM a];exact b c v a h
theorem aN.mp {F F':aA}{L L':Loc}{g:C->C}(e:∀c v,c.leaf=true->Rel F L c v->Rel F' L' (g c) v) (d:∀c sv,c.leaf=true->aN F L c sv->aN F' L' (g c) sv) (n:Nat) {c:C}{sv:SV}
  (h:aN F L c sv):aN F' L' (C.mp g n c) sv:=by
 cases a:c.leaf
 ·have b:∃v,sv=.v v/\Rel F L c v:=by cases c<;>simp only[C.leaf,Bool.true_eq_false] at a<;>exact h
  obtain⟨v,rfl,h1⟩:=b;have h2:=Rel.mp e n h1;cases n with
  | zero=>cases c<;>simp only[C.leaf,Bool.true_eq_false] at a<;>simp only[C.mp,aN]
  | succ n=>cases c<;>simp only[C.leaf,Bool.true_eq_false] at a<;>exact⟨v,rfl,h2⟩
 ·rw[xM a];exact d c sv a h
def Ext (L L':Loc):Prop:=∀k o,L.get k=some o->∃o',L'.get k=some o'/\Own.like o o'
theorem Ext.refl (L:Loc):Ext L L:=fun k o h=>⟨o,h,Own.aav o⟩
theorem bP {F F':aA}{L L':Loc}(d:F.le F') {c:C}{v:Value}(e:∀k,(∃off,c=.own k off)\/c=.rw k\/c=.mpr k->∀o,L.get k=some o->∃o',L'.get k=some o'/\Own.like o o') (m:c.leaf=true) (h:Rel F L c v):Rel F' L' c v:=by
 cases c<;>simp only[C.leaf,abl] at m
 case rw k =>
  simp only[Rel] at h ⊢;obtain⟨a,c,t,sz,n,xs,rfl,h⟩:=h;obtain⟨o',h1,h2⟩:=e k (.inr (.inl rfl)) _ h;cases o' with
  | box=>exact h2.elim
  | row s f j r p=>obtain⟨rfl,rfl,rfl⟩:=h2;exact⟨_,_,_,_,_,_,rfl,h1⟩
 case mpr k =>
  simp only[Rel] at h ⊢;obtain⟨g,cs,h,rfl⟩:=h;obtain⟨o',h1,h2⟩:=e k (.inr (.inr rfl)) _ h;cases o' with
  | row=>exact h2.elim
  | box l f cs'=>obtain⟨rfl,rfl⟩:=h2;exact⟨_,_,h1,rfl⟩
 case own k off =>
  simp only[Rel] at h ⊢;obtain⟨g,t,cs,h,rfl⟩:=h;obtain⟨o',h1,h2⟩:=e k (.inl ⟨off,rfl⟩) _ h;cases o' with
  | row=>exact h2.elim
  | box l f cs'=>obtain⟨rfl,rfl⟩:=h2;exact⟨_,_,_,h1,rfl⟩
 case sl =>
  simp only[Rel] at h ⊢;obtain⟨a,c,h1,h2,h3,h4,sz,h5⟩:=h;exact⟨a,c,h1,h2,h3,h4,sz,h5.mono d⟩
 case slx =>
  simp only[Rel] at h ⊢;obtain⟨a,h1,h2,sz,h5⟩:=h;exact⟨a,h1,h2,sz,h5.mono d⟩
 case pt =>
  simp only[Rel] at h ⊢;obtain⟨b,o,q,h1,h2,h3,h4⟩:=h;exact⟨b,o,q,h1,h2.mono d,h3,h4.mono d⟩
 case ifc =>
  simp only[Rel] at h ⊢;obtain⟨u,h1,h2⟩:=h;exact⟨u,h1,h2.mono d⟩
 case opq =>
  simp only[Rel] at h ⊢;exact h.mono d
 case mval =>
  simp only[Rel] at h ⊢;obtain⟨u,h1,h2⟩:=h;exact⟨u,h1,h2.mono d⟩
 all_goals
  first
   | exact h
   | (simp only[Rel] at h ⊢;done)
mutual
theorem Rel.ext {F F':aA}(hF:F.le F') {L L':Loc}(hk:Ext L L'):∀{c:C}{v:Value},Rel F L c v->Rel F' L' c v
 | .fn f fi ca,v,r=>by
  simp only[Rel] at r ⊢;obtain⟨fi',ca',h1,h2,h3⟩:=r;exact⟨fi',ca',h1,aB.ext hF hk h2,aB.ext hF hk h3⟩
 | .agg cs,v,r=>by
  simp only[Rel] at r ⊢;obtain⟨vs,h1,h2⟩:=r;exact⟨vs,h1,aB.ext hF hk h2⟩
 | .tup cs,v,r=>by
  simp only[Rel] at r ⊢;obtain⟨vs,h1,h2⟩:=r;exact⟨vs,h1,aB.ext hF hk h2⟩
 | .int _ _,v,r=>bP hF (fun k _=>hk k) rfl r
 | .bool _,v,r=>bP hF (fun k _=>hk k) rfl r
 | .str _,v,r=>bP hF (fun k _=>hk k) rfl r
 | .sl _,v,r=>bP hF (fun k _=>hk k) rfl r
 | .slx _,v,r=>bP hF (fun k _=>hk k) rfl r
 | .nils,v,r=>bP hF (fun k _=>hk k) rfl r
 | .rw _,v,r=>bP hF (fun k _=>hk k) rfl r
 | .own _ _,v,r=>bP hF (fun k _=>hk k) rfl r
 | .pt _ _,v,r=>bP hF (fun k _=>hk k) rfl r
 | .nilp,v,r=>bP hF (fun k _=>hk k) rfl r
 | .nilf,v,r=>bP hF (fun k _=>hk k) rfl r
 | .ifc _ _,v,r=>bP hF (fun k _=>hk k) rfl r
 | .opq _,v,r=>bP hF (fun k _=>hk k) rfl r
 | .mval _ _,v,r=>bP hF (fun k _=>hk k) rfl r
 | .mof _ _,v,r=>bP hF (fun k _=>hk k) rfl r
 | .mpr _,v,r=>bP hF (fun k _=>hk k) rfl r
 | .und,v,r=>bP hF (fun k _=>hk k) rfl r
 | .any,v,r=>by simp only[Rel]
 | .ownv _ _,v,r=>r.elim
 | .elr _ _ _,v,r=>r.elim
theorem aB.ext {F F':aA}(hF:F.le F') {L L':Loc}(hk:Ext L L'):∀{cs:List C}{vs:List Value},aB F L cs vs->aB F' L' cs vs
 | [],vs,r=>by simp only[aB] at r ⊢;exact r
 | c::cs,vs,r=>by
  simp only[aB] at r ⊢;obtain⟨v,vs',h1,h2,h3⟩:=r;exact⟨v,vs',h1,Rel.ext hF hk h2,aB.ext hF hk h3⟩
end
theorem Ext.nil (L:Loc):Ext [] L:=fun k o h=>by cases h
theorem aB.lift {F:aA}{L:Loc}{cs:List C}{a:List Value}(h:aB F [] cs a):aB F L cs a:=h.ext (aA.le_refl F) (Ext.nil L)
theorem Rel.lift {F:aA}{L:Loc}{c:C}{v:Value}(h:Rel F [] c v):Rel F L c v:=h.ext (aA.le_refl F) (Ext.nil L)
theorem dX {F F':aA}{L L':Loc}(l:F.le F') {c:C}{sv:SV}(f:∀k,(∃off,c=.own k off)\/(∃off,c=.ownv k off)\/c=.rw k\/(∃j off,c=.elr k j off)\/c=.mpr k->∀o,L.get k=some o->∃o',L'.get k=some o'/\Own.like o o') (s:c.leaf=true) (h:aN F L c sv):aN F' L' c sv:=by
 cases c<;>simp only[C.leaf,abl] at s
 case own k off =>
  simp only[aN] at h ⊢;obtain⟨rfl,g,t,cs,h⟩:=h;obtain⟨o',h1,h2⟩:=f k (.inl ⟨off,rfl⟩) _ h;cases o' with
  | row=>exact h2.elim
  | box z r cs'=>exact⟨rfl,_,_,_,h1⟩
 case ownv k off =>
  simp only[aN] at h ⊢;obtain⟨v,p,h⟩:=h;refine⟨v,p,bP l (fun m a=>f m ?_) rfl h⟩;rcases a with⟨d,e⟩ | e | e
  ·injection e with e1 e2;subst e1;exact .inr (.inl ⟨off,rfl⟩)
  ·cases e
  ·cases e
 case pt =>
  simp only[aN] at h ⊢;obtain⟨b,o,j,w,h1,h2,h3,h4⟩:=h;exact⟨b,o,j,w,h1,h2.mono l,h3,h4.mono l⟩
 case elr k j off =>
  simp only[aN] at h ⊢;obtain⟨y,t,sz,n,c,xs,rfl,h⟩:=h;obtain⟨o',h1,h2⟩:=f k (.inr (.inr (.inr (.inl ⟨_,_,rfl⟩)))) _ h;cases o' with
  | box=>exact h2.elim
  | row v' r q x u =>
   obtain⟨rfl,rfl,rfl⟩:=h2;exact⟨_,_,_,_,_,_,rfl,h1⟩
 all_goals first | (simp only[aN];done) | skip
 all_goals
  simp only[aN] at h ⊢;obtain⟨v,rfl,h⟩:=h;refine⟨v,rfl,bP l (fun m a=>f m ?_) rfl h⟩;rcases a with⟨d,e⟩ | e | e
  ·cases e
  ·first | cases e;exact .inr (.inr (.inl rfl)) | cases e
  ·first | cases e;exact .inr (.inr (.inr (.inr rfl))) | cases e
theorem aN.ext {F F':aA}{L L':Loc}(d:F.le F') (b:Ext L L') {c:C}{sv:SV}(h:aN F L c sv):aN F' L' c sv:=by
 cases a:c.leaf
 ·have e:∃v,sv=.v v/\Rel F L c v:=by cases c<;>simp only[C.leaf,Bool.true_eq_false] at a<;>exact h
  obtain⟨v,rfl,h1⟩:=e;have h2:=h1.ext d b;cases c<;>simp only[C.leaf,Bool.true_eq_false] at a<;>exact⟨v,rfl,h2⟩
 ·exact dX d (fun k _=>b k) a h
theorem cZ.ext {F F':aA}{L L':Loc}(a:F.le F') (c:Ext L L'):∀{o:TO}{p:Own},cZ F L o p->cZ F' L' o p
 | .box t cs,.box g b e,r=>⟨r.1,r.2.ext a c⟩
 | .row t sz els,.row v b d n xs,r=>⟨r.1,r.2.1,r.2.2.1,r.2.2.2.1,r.2.2.2.2.mono a⟩
 | .box _ _,.row ..,r=>r.elim
 | .row ..,.box ..,r=>r.elim
 | .map _,.row ..,r=>r.elim
 | .map es,.box g b e,r=>⟨r.1,r.2.mono a⟩
def gV (Li:List Own) (R:List TO->C->Prop):aA->List Own->Value->Prop:=fun F Lo v =>
 ∃Mo c,Mo.length=Lo.length/\bV F (inp Lo) (cT Mo)/\Rel F (inp Lo) c v/\(∀(i:Nat) g t cs,Li[i]?=some (.box g t cs)->∃cs',Lo[i]?=some (.box g t cs'))/\R Mo c
structure CallsT (P:Program) (f:Nat) (args:List C) (Lin:List TO) (R:List TO->C->Prop):Prop where
 out:∀(F:aA) (Li:List Own) (vs:List Value),Li.length=Lin.length->bV F (inp Li) (cT Lin)->aB F (inp Li) args vs->CallsA P f vs.toArray F Li (gV Li R)
structure CallsTX (P:Program) (f:Nat) (args:List C) (Lin:List TO) (R:List TO->C->Prop) (Pp:Value->Prop):Prop where
 out:∀(F:aA) (Li:List Own) (vs:List Value),Li.length=Lin.length->bV F (inp Li) (cT Lin)->aB F (inp Li) args vs->o9 P f vs.toArray F Li (gV Li R) Pp
theorem CallsT.toX {P:Program}{f:Nat}{args:List C}{Lin:List TO}{R:List TO->C->Prop}{Pp:Value->Prop}(h:CallsT P f args Lin R):CallsTX P f args Lin R Pp:=⟨fun F Li a h1 h2 h3=>(h.out F Li a h1 h2 h3).toX⟩
def aH:List TO->List Nat->List Nat->Bool
 | .box _ _::l,k::ks,a::ko=>match Nat.beq k a with | true=>aH l ks ko | false=>false
 | .box _ _::_,_,_=>false
 | .map _::l,k::ks,a::ko=>match Nat.beq k a with | true=>aH l ks ko | false=>false
 | .map _::_,_,_=>false
 | .row _ _ _::l,_::ks,_::ko=>aH l ks ko
 | .row _ _ _::l,_::ks,[]=>aH l ks []
 | .row _ _ _::_,[],_=>false
 | [],_,_=>true
def jP (L:TL) (ks:List Nat):List Nat->Bool
 | []=>true
 | k::ko=>match fU ks k,L.get k with
  | true,_=>jP L ks ko
  | false,none=>jP L ks ko
  | false,some _=>false
def covers:TL->TL->Bool
 | [],_=>true
 | (k,_)::l,L1=>match L1.get k with | some _=>covers l L1 | none=>false
def pI:TL->TL->Bool
 | [],_=>true
 | (k,.box _ _)::l,L1=>match L1.get k with | some (.box _ _)=>pI l L1 | _=>false
 | (k,.map _)::l,L1=>match L1.get k with | some (.map _)=>pI l L1 | _=>false
 | (_,.row _ _ _)::l,L1=>pI l L1
def TL.kills (ks:List Nat) (L:TL):TL:=match ks with | []=>L | _=>L.aaq (C.kills ks)
def dO (ks:List Nat) (ρ:aG):aG:=match ks with | []=>ρ | _=>fun j=>(ρ j).kills ks
def rowsOf (L:TL):List Nat->List Nat
 | []=>[]
 | k::ks=>match L.get k with
  | some (.row _ _ _)=>k::rowsOf L ks
  | _=>rowsOf L ks
def S8 (Li Lo:List Own):Prop:=Lo.length=Li.length/\∀(i:Nat) o,Li[i]?=some o->∃o',Lo[i]?=some o'/\Own.like o o'
structure iB (P:Program) (f:Nat) (args:List C) (Lin:List TO) (R:List TO->C->Prop):Prop where
 out:∀(F:aA) (Li:List Own) (vs:List Value),Li.length=Lin.length->bV F (inp Li) (cT Lin)->aB F (inp Li) args vs->CallsA P f vs.toArray F Li (fun F' Lo v=>gV Li R F' Lo v/\S8 Li Lo)
inductive kF (P:Program) (f:Nat) (args:List C) (L:TL) (ρ:aG) (K:TL->aG->C->Prop):Prop
 | mk (out:∃(fz ks ko:List Nat),yK fz L ρ args fun L ρ args =>
  ∃(L1:TL) (Lin:List TO) (R:List TO->C->Prop),(L1=L\/(gives L L1 L1/\covers L L1=true))/\L1.sub ks=some Lin/\aU ks=true/\aU ko=true/\jP L1 ks ko=true/\aH Lin ks ko=true /\
   CallsT P f (args.map fun c=>c.aaw.ren (bn ks 1000)) (Lin.map (TO.aaq (C.ren (bn ks 1000)))) R /\
   ∀v Mo,R Mo v->Wf v->(∀o∈Mo,o.Wf)->ko.length=Mo.length /\
    K (((L1.aas ks).kills (rowsOf L1 ks)).puts ko (Mo.map (TO.aaq (C.ren (aL ko))))) (dO (rowsOf L1 ks) ρ) (v.ren (aL ko)).slt)
 | inpl (ks:List Nat) (Lin:List TO) (R:List TO->C->Prop) (hs:L.sub ks=some Lin) (hn:aU ks=true) (h:iB P f (args.map fun c=>c.aaw.ren (bn ks 1000)) (Lin.map (TO.aaq (C.ren (bn ks 1000)))) R)
   (k:∀v Mo,R Mo v->Wf v->(∀o∈Mo,o.Wf)->ks.length=Mo.length/\K ((L.aas ks).puts ks (Mo.map (TO.aaq (C.ren (aL ks))))) ρ (v.ren (aL ks)).slt)
structure oE where
 ps:Value->Prop
 hb:List (Nat×Nat):=[]
 st:Option (TL->Value->Prop):=none
def jQ (L:TL) (ks:List Nat):List (Nat×Nat)->Bool
 | []=>true
 | (k,n)::l=>match fU ks k,L.get k with
  | false,some (.box _ cs)=>match fN cs n with | true=>jQ L ks l | false=>false
  | _,_=>false
structure lK (P:Program) (PS:oE) (f:Nat) (args:List C) (L:TL) (ρ:aG) (K:TL->aG->C->Prop):Prop where
 out:∃(fz ks ko:List Nat),yK fz L ρ args fun L ρ args =>
  ∃(L1:TL) (Lin:List TO) (R:List TO->C->Prop) (Pp:Value->Prop),(L1=L\/(gives L L1 L1/\covers L L1=true))/\L1.sub ks=some Lin/\aU ks=true/\aU ko=true/\jP L1 ks ko=true/\aH Lin ks ko=true/\jQ L1 ks PS.hb=true /\
   CallsTX P f (args.map fun c=>c.aaw.ren (bn ks 1000)) (Lin.map (TO.aaq (C.ren (bn ks 1000)))) R Pp/\(∀v,Pp v->PS.ps v) /\
   ∀v Mo,R Mo v->Wf v->(∀o∈Mo,o.Wf)->ko.length=Mo.length /\
    K (((L1.aas ks).kills (rowsOf L1 ks)).puts ko (Mo.map (TO.aaq (C.ren (aL ko))))) (dO (rowsOf L1 ks) ρ) (v.ren (aL ko)).slt
structure CallsTS (P:Program) (f:Nat) (args:List C) (Lin:List TO) (R:List TO->C->Prop) (Pp:List TO->Value->Prop):Prop where
 out:∀(F:aA) (Li:List Own) (vs:List Value),Li.length=Lin.length->bV F (inp Li) (cT Lin)->aB F (inp Li) args vs->xG P f vs.toArray F Li (gV Li R) (fun F' Lo v=>∃Mo,Mo.length=Lo.length/\bV F' (inp Lo) (cT Mo)/\Pp Mo v)
structure FX (P:Program) (ps:Value->Prop) (hb:List (Nat×Nat)) (st:TL->Value->Prop) (f:Nat) (args:List C) (L:TL) (ρ:aG) (K:TL->aG->C->Prop):Prop where
 out:∃(ks ko:List Nat) (L1:TL) (Lin:List TO) (R:List TO->C->Prop) (Pp:List TO->Value->Prop),(L1=L\/(gives L L1 L1/\covers L L1=true))/\L1.sub ks=some Lin/\aU ks=true/\aU ko=true/\jP L1 ks ko=true/\aH Lin ks ko=true/\jQ L1 ks hb=true /\
   CallsTS P f (args.map fun c=>c.aaw.ren (bn ks 1000)) (Lin.map (TO.aaq (C.ren (bn ks 1000)))) R Pp /\
   (∀v Mo,Pp Mo v->(∀o∈Mo,o.Wf)->ks.length=Mo.length->ps v/\st (((L1.aas ks).kills (rowsOf L1 ks)).puts ks (Mo.map (TO.aaq (C.ren (aL ks))))) v) /\
   ∀v Mo,R Mo v->Wf v->(∀o∈Mo,o.Wf)->ko.length=Mo.length /\
    K (((L1.aas ks).kills (rowsOf L1 ks)).puts ko (Mo.map (TO.aaq (C.ren (aL ko))))) (dO (rowsOf L1 ks) ρ) (v.ren (aL ko)).slt
def yN:List C->Option (List Value)
 | []=>some []
 | .int k n::l=>match yN l with | some vs=>some (.int k n::vs) | none=>none
 | .bool b::l=>match yN l with | some vs=>some (.bool b::vs) | none=>none
 | .str s::l=>match yN l with | some vs=>some (.string s::vs) | none=>none
 | _=>none
def D6:C->Option Value
 | .ifc t (.int k n)=>some (.iface t (.int k n))
 | .ifc t (.bool b)=>some (.iface t (.bool b))
 | .ifc t (.str s)=>some (.iface t (.string s))
 | .ifc t (.agg cs)=>match yN cs with | some vs=>some (.iface t (.agg vs.toArray)) | none=>none
 | _=>none
structure U6 (PS:oE) (L:TL) (c:C):Prop where
 out:∃v,D6 c=some v/\jQ L [] PS.hb=true/\PS.ps v
structure Xt (ps:Value->Prop) (hb:List (Nat×Nat)) (st:TL->Value->Prop) (L:TL) (c:C):Prop where
 out:∃v,D6 c=some v/\jQ L [] hb=true/\ps v/\st L v
inductive FY (P:Program) (f:Nat) (args:List C) (L:TL) (ρ:aG) (K:TL->aG->C->Prop):Prop
 | mk (out:∃(ks ko:List Nat) (Lin:List TO) (R:List TO->C->Prop),L.sub ks=some Lin/\aU ks=true/\aU ko=true/\jP L ks ko=true/\aH Lin ks ko=true /\
   CallsT P f (args.map fun c=>c.aaw.ren (bn ks 1000)) (Lin.map (TO.aaq (C.ren (bn ks 1000)))) R /\
   ∀v Mo,R Mo v->Wf v->(∀o∈Mo,o.Wf)->ko.length=Mo.length /\
    K (((L.aas ks).kills (rowsOf L ks)).puts ko (Mo.map (TO.aaq (C.ren (aL ko))))) (dO (rowsOf L ks) ρ) (v.ren (aL ko)).slt)
 | inpl (ks:List Nat) (Lin:List TO) (R:List TO->C->Prop) (hs:L.sub ks=some Lin) (hn:aU ks=true) (h:iB P f (args.map fun c=>c.aaw.ren (bn ks 1000)) (Lin.map (TO.aaq (C.ren (bn ks 1000)))) R)
   (k:∀v Mo,R Mo v->Wf v->(∀o∈Mo,o.Wf)->ks.length=Mo.length/\K ((L.aas ks).puts ks (Mo.map (TO.aaq (C.ren (aL ks))))) ρ (v.ren (aL ks)).slt)
def qN:List Nat->List Nat->Bool
 | [],_=>true
 | k::ks,fb=>match fU fb k with | true=>false | false=>qN ks fb
structure pJ (P:Program) (PS:oE) (fb:List Nat) (f:Nat) (args:List C) (L:TL) (ρ:aG) (K:TL->aG->C->Prop):Prop where
 out:∃(ks:List Nat) (Lin:List TO) (R:List TO->C->Prop) (Pp:Value->Prop),L.sub ks=some Lin/\aU ks=true/\qN ks fb=true/\aH Lin ks ks=true/\jQ L ks PS.hb=true /\
   CallsTX P f (args.map fun c=>c.aaw.ren (bn ks 1000)) (Lin.map (TO.aaq (C.ren (bn ks 1000)))) R Pp/\(∀v,Pp v->PS.ps v) /\
   ∀v Mo,R Mo v->Wf v->(∀o∈Mo,o.Wf)->ks.length=Mo.length /\
    K (((L.aas ks).kills (rowsOf L ks)).puts ks (Mo.map (TO.aaq (C.ren (aL ks))))) (dO (rowsOf L ks) ρ) (v.ren (aL ks)).slt
structure uw (P:Program) (ps:Value->Prop) (hb:List (Nat×Nat)) (st:TL->Value->Prop) (fb:List Nat) (f:Nat) (args:List C) (L:TL) (ρ:aG) (K:TL->aG->C->Prop):Prop where
 out:∃(ks:List Nat) (Lin:List TO) (R:List TO->C->Prop) (Pp:List TO->Value->Prop),L.sub ks=some Lin/\aU ks=true/\qN ks fb=true/\aH Lin ks ks=true/\jQ L ks hb=true /\
   CallsTS P f (args.map fun c=>c.aaw.ren (bn ks 1000)) (Lin.map (TO.aaq (C.ren (bn ks 1000)))) R Pp /\
   (∀v Mo,Pp Mo v->(∀o∈Mo,o.Wf)->ks.length=Mo.length->ps v/\st (TL.puts [] ks (Mo.map (TO.aaq (C.ren (aL ks))))) v) /\
   ∀v Mo,R Mo v->Wf v->(∀o∈Mo,o.Wf)->ks.length=Mo.length /\
    K (((L.aas ks).kills (rowsOf L ks)).puts ks (Mo.map (TO.aaq (C.ren (aL ks))))) (dO (rowsOf L ks) ρ) (v.ren (aL ks)).slt
def wM (P:Program) (f:Nat):Prop:=∃fn,P.funcs[f]?=some fn/\fn.body.isSome=true/\(fn.name == "runtime.NumGoroutine")=false
structure U7 (P:Program) (f:Nat) (args:List C) (t sz:Nat) (els:List (List C)) (x:C):Prop where
 out:∀(F:aA) (rv:Value) (xs vs:List Value),cZ F (inp [.row rv t sz els.length xs]) (.row t sz els) (.row rv t sz els.length xs)->aB F (inp [.row rv t sz els.length xs]) args vs ->
  CallsA P f vs.toArray F [.row rv t sz els.length xs] (fun F' Lo v=>Lo=[.row rv t sz els.length xs]/\Rel F' (inp []) x v)
inductive pK (P:Program) (f:Nat) (args:List C) (L:TL) (ρ:aG) (d:Option Nat) (K:TL->aG->C->Prop):Prop
 | frz (R:List TO->C->Prop) (h:CallsT P f (args.map fun c=>c.aaw.ren (bn [] 1000)) [] R) (k:∀v Mo,R Mo v->Wf v->Mo=[]/\K L ρ v.slt)
 | own (R:List TO->C->Prop) (k:Nat) (h:CallsT P f (args.map fun c=>c.aaw.ren (bn [] 1000)) [] R) (hd:d=some k) (hk:L.get k=none)
   (kk:∀v Mo,R Mo v->Wf v->(∀o∈Mo,o.Wf)->∃o,Mo=[o]/\K (L.set k (o.aaq (C.ren (aL [k])))) ρ (v.ren (aL [k])).slt)
 | row (R:List TO->C->Prop) (kr t sz:Nat) (els:List (List C)) (he:wM P f) (hk:L.get kr=some (.row t sz els)) (h:CallsT P f (args.map fun c=>(c.frz kr els).aaw.ren (bn [] 1000)) [] R)
   (kk:∀v Mo,R Mo v->Wf v->Mo=[]/\K ((L.aaq (C.kill kr)).set kr (.row t sz [])) (fun j=>(ρ j).kill kr) v.slt)
 | lent (kr t sz:Nat) (els:List (List C)) (x:C) (hk:L.get kr=some (.row t sz els)) (h:U7 P f (args.map fun c=>c.aaw.ren (bn [kr] 1000)) t sz els x) (k:Wf x->K L ρ x.slt)
def S9:Value->C
 | .int k n=>.int k n
 | .bool b=>.bool b
 | .string s=>.str s
 | _=>.any
def isNil:X->Bool
 | .c (.slice none 0 0)=>true
 | _=>false
def vN:List Bool->List C->List C->Bool->Option Bool
 | [],[],[],c=>some c
 | true::ks,.int k a::l,.int e b::d,c=>match qx k e with | true=>vN ks l d (c&&decide (a=b)) | false=>none
 | false::ks,.bool a::l,.bool b::d,c=>vN ks l d (c&&decide (a=b))
 | _,_,_,_=>none
structure Ta (P:Program) (t:TypeId) (nm:String) (K:Nat->Prop):Prop where
 out:∃f,tW P t nm=some f/\K f
def RP (P:Program) (t:TypeId):Bool:=match P.underlying t with | some (.interface _)=>true | _=>false
def Cx (ρ:aG):List (Nat×Nat×X)->List C->(List C->Prop)->Prop
 | [],zs,K=>K zs
 | (off,n,x)::ps,zs,K=>match(dG ρ x).okc,fN (dc (dG ρ x)) n with
  | true,true=>fl (dc (dG ρ x)) fun a=>fl (jw zs off a) fun zs=>Cx ρ ps zs K
  | _,_=>False
theorem vO {ρ:aG}:∀{ps:List (Nat×Nat×X)}{zs:List C}{K:List C->Prop},Cx ρ ps zs K->∃cs,vM ρ zs ps=some cs/\K cs
 | [],zs,K,h=>⟨zs,rfl,h⟩
 | (off,n,x)::ps,zs,K,h=>by
  simp only[Cx] at h;simp only[vM];split at h
  ·rename_i h1 h2;rw[fP,fP] at h
   first
   | exact vO h
   | (rw[h1,h2];exact vO h)
  ·exact h.elim
structure KR (k:Nat) (K:Nat->Prop):Prop where
 out:∃n,sP k=some n/\n<=9223372036854775807/\K n
def UQ (t:Nat):Bool:=match Nat.beq t 0 with | true=>false | false=>Nat.ble t 1048575
def outT (o:eI) (L:TL) (ρ:aG) (V:C->Prop):Prop :=
 match o with
 | .mov x=>V (dG ρ x)
 | .pick c a b=>match dG ρ c with
  | .bool t=>Ap t (V (dG ρ a)) (V (dG ρ b))
  | _=>False
 | .build zs ps=>fl (zs.map sM) fun zs=>Cx ρ ps zs fun cs=>V (.agg cs)
 | .load agg n x=>match dG ρ x with
  | .own k off=>match L.get k with
   | some (.box _ cs)=>match fN ((cs.drop off).take n) n with
    | true=>V (FR agg ((cs.drop off).take n))
    | false=>False
   | _=>False
  | .pt es off=>match fN ((es.drop off).take n) n with
   | true=>V (FR agg ((es.drop off).take n))
   | false=>False
  | .ownv k off=>match L.get k with
   | some (.box _ cs)=>match fN ((cs.drop off).take n) n with
    | true=>V (FR agg ((cs.drop off).take n))
    | false=>False
   | _=>False
  | .elr k j off=>match L.get k with
   | some (.row _ _ els)=>FU els j off n fun cs=>V (FR agg cs)
   | _=>False
  | _=>False
 | .loadR agg n x=>match dG ρ x with
  | .own k off=>match L.get k with
   | some (.box _ cs)=>match fN ((cs.drop off).take n) n with
    | true=>V (FR agg ((cs.drop off).take n))
    | false=>False
   | _=>False
  | .pt es off=>match fN ((es.drop off).take n) n with
   | true=>V (FR agg ((es.drop off).take n))
   | false=>False
  | .ownv k off=>match L.get k with
   | some (.box _ cs)=>match fN ((cs.drop off).take n) n with
    | true=>V (FR agg ((cs.drop off).take n))
    | false=>False
   | _=>False
  | .elr k j off=>match L.get k with
   | some (.row _ _ els)=>FU els j off n fun cs=>V (FR agg cs)
   | _=>False
  | _=>False
 | .loadD agg n x=>match dG ρ x with
  | .own k off=>match L.get k with
   | some (.box _ cs)=>match fN ((cs.drop off).take n) n with
    | true=>V (FR agg ((cs.drop off).take n))
    | false=>False
   | _=>False
  | .pt es off=>match fN ((es.drop off).take n) n with
   | true=>V (FR agg ((es.drop off).take n))
   | false=>False
  | _=>False
 | .gload g=>match xE g with
  | some k=>V (.opq k)
  | none=>False
 | .loadF agg n x=>match dG ρ x with
  | .pt es off=>match fN ((es.drop off).take n) n with
   | true=>V (FR agg ((es.drop off).take n))
   | false=>False
  | _=>False
 | .loadK key agg n x=>match dG ρ x with
  | .own k off=>match Nat.beq k key with
   | true=>match L.get k with
    | some (.box _ cs)=>match fN ((cs.drop off).take n) n with
     | true=>V (FR agg ((cs.drop off).take n))
     | false=>False
    | _=>False
   | false=>False
  | _=>False
 | .nilck x=>match dG ρ x with
  | .own k off=>V (.own k off)
  | .pt es off=>V (.pt es off)
  | .ownv k off=>V (.ownv k off)
  | .fn f p e=>V (.fn f p e)
  | .mval q c=>match c with
   | .ifc t c=>UZ SE t q=true/\V (.mval q (.ifc t c))
   | _=>False
  | _=>False
 | .bin op x y=>match dG ρ x,dG ρ y with
  | .int k a,.int u b=>match J8 op with
   | true=>shI op k a b fun v=>V (S9 v)
   | false=>match qx k u with
    | true=>binI op k a b fun v=>V (S9 v)
    | false=>False
  | .str a,.str b=>binS op a b fun v=>V (S9 v)
  | _,_=>False
 | .eqB neg x y=>match dG ρ x,dG ρ y with
  | .bool a,.bool b=>V (.bool (tX neg (decide (a=b))))
  | _,_=>False
 | .eqS neg x y=>match isNil y,dG ρ x with
  | true,.sl els=>∀b,(els≠[]->b=false)->V (.bool (tX neg b))
  | true,.slx _=>V (.bool (tX neg false))
  | true,.nils=>V (.bool (tX neg true))
  | _,_=>False
 | .eqN neg x=>match dG ρ x with
  | .ifc _ _=>V (.bool (tX neg false))
  | .opq k=>match FD k with
   | some b=>V (.bool (tX neg b))
   | none=>False
  | _=>False
 | .eqA neg ks x y=>match dG ρ x,dG ρ y with
  | .agg cs,.agg ds=>match vN ks cs ds true with
   | some b=>V (.bool (tX neg b))
   | none=>False
  | _,_=>False
 | .mkif t x=>match dG ρ x with
  | .int k n=>V (.ifc t (.int k n))
  | .bool b=>V (.ifc t (.bool b))
  | .str s=>V (.ifc t (.str s))
  | .pt es off=>V (.ifc t (.pt es off))
  | .agg cs=>match i9 cs with
   | true=>fl cs fun cs=>V (.ifc t (.agg cs))
   | false=>False
  | _=>False
 | .un op x=>match op,dG ρ x with
  | .not,.bool b=>V (.bool (!b))
  | .neg,.int k n=>Fit k (0-n) fun m=>V (.int k m)
  | .xor,.int k n=>V (.int k (k.wrap (BitVec.ofInt k.bits (if k.signed then -1 else k.max) ^^^ BitVec.ofInt k.bits n).toNat))
  | _,_=>False
 | .conv k x=>match dG ρ x with
  | .int _ n=>Fit k n fun m=>V (.int k m)
  | _=>False
 | .mkfn f p e=>V (.fn f (fR ρ p) (fR ρ e))
 | .slc sz x lo hi=>match(dG ρ x).can with
  | .sl els=>match OD ρ 0 lo,OD ρ els.length hi with
   | some l,some h=>U5 l h els sz fun l h=>V (.sl ((els.drop l).take (h-l)))
   | _,_=>False
  | _=>False
 | .fieldA off x=>match dG ρ x with
  | .own k o=>V (.own k (o+off))
  | .pt es o=>V (.pt es (o+off))
  | .elr k j o=>V (.elr k j (o+off))
  | .ownv k o=>V (.ownv k (o+off))
  | _=>False
 | .idxA sz x i=>match(dG ρ x).can,dG ρ i with
  | .sl els,.int _ i=>ur els i sz fun es=>V (.pt es 0)
  | .rw k,.int _ i=>match L.get k with
   | some (.row _ d els)=>match Nat.beq sz d with
    | true=>Ao i els.length (V (.elr k i.toNat 0))
    | false=>False
   | _=>False
  | _,_=>False
 | .extr x i=>match dG ρ x with
  | .tup r=>match r[i]? with
   | some v=>V v.slt
   | none=>False
  | _=>False
 | .len x=>match(dG ρ x).can with
  | .sl els=>V (.int .i64 els.length)
  | .rw k=>match L.get k with
   | some (.row _ _ els)=>V (.int .i64 els.length)
   | _=>False
  | .opq k=>KR k fun n=>V (.int .i64 n)
  | _=>False
 | .mlook str ok z x i=>match dG ρ x with
  | .mpr k=>match L.get k with
   | some (.map es)=>yJ str es (dG ρ i) (fun v=>match ok with | true=>V (.tup [v,.bool true]) | false=>V v.slt) (match ok with | true=>V (.tup [cv z,.bool false]) | false=>V (cv z))
   | _=>False
  | _=>False
 | .mm mx args=>match args.map (dG ρ) with
  | .int k a::l=>match WY mx a l with
   | some m=>(Lit.int k m).wf=true/\V (.int k m)
   | none=>False
  | _=>False
 | _=>False
abbrev TK:=TL->aG->Prop
def storeT (b:Bool) (n:Nat) (a x:X) (d:Option Nat) (L:TL) (ρ:aG) (K:TK):Prop :=
 match(dG ρ x).okc,fN (dc (dG ρ x)) n,fB (dc (dG ρ x)),dG ρ a with
 | true,true,true,.own k off=>match L.get k with
  | some (.box t cs)=>match fN ((cs.drop off).take n) n with
   | true=>fl (jw cs off (dc (dG ρ x))) fun cs=>K (L.set k (.box t cs)) (bH d .und ρ)
   | false=>False
  | _=>False
 | true,true,true,.elr k j off=>match b,L.get k,i9 (dc (dG ρ x)) with
  | false,some (.row t sz els),true=>Nat.ble (off+n) sz=true/\FU els j off n fun _=>∀es,els[j]?=some es->K (L.set k (.row t sz (els.set j (jw es off ((dc (dG ρ x)).map C.can))))) (bH d .und ρ)
  | _,_,_=>False
 | _,_,_,_=>False
def OH (e sz bytes:Nat) (s x:C) (d:Option Nat) (L:TL) (ρ:aG) (K:TK):Prop :=
 match s,x.can,d with
 | .rw k,.sl a,_=>match L.get k with
  | some (.row h c els)=>match Nat.beq e h,Nat.beq sz c with
   | true,true=>xk els a sz bytes (fT ((L.aaq (C.kill k)).set k (.row e sz (els++a))) fun L=>K L (bH d (.rw k) fun j=>(ρ j).kill k))
   | _,_=>False
  | _=>False
 | .nils,.sl a,some k=>match L.get k with
  | none=>xk [] a sz bytes (fT (L.set k (.row e sz a)) fun L=>K L (bH d (.rw k) ρ))
  | some _=>False
 | .slx els,.sl a,some k=>match L.get k with
  | none=>0<a.length/\(∀es∈els,es.length=sz)/\xk els a sz bytes (fT (L.set k (.row e sz (els++a))) fun L=>K L (bH d (.rw k) ρ))
  | some _=>False
 | .rw k,.rw l,_=>match L.get k,L.get l with
  | some (.row h c els),some (.row f b a)=>match Nat.beq e h,Nat.beq sz c,Nat.beq sz b with
   | true,true,true=>xk els a sz bytes (fT ((L.aaq (C.kill k)).set k (.row e sz (els++a))) fun L=>K L (bH d (.rw k) fun j=>(ρ j).kill k))
   | _,_,_=>False
  | _,_=>False
 | .nils,.rw l,some k=>match L.get k,L.get l with
  | none,some (.row f b a)=>match Nat.beq sz b with
   | true=>xk [] a sz bytes (K (L.set k (.row e sz a)) (bH d (.rw k) ρ))
   | false=>False
  | _,_=>False
 | _,_,_=>False
def bX (P:Program) (o:eI) (d:Option Nat) (L:TL) (ρ:aG) (K:TK):Prop :=
 match o with
 | .box t x=>match d with
  | some k=>match L.get k,(dG ρ x).okc,UQ t with
   | none,true,true=>fl (dc (dG ρ x)) fun cs=>K (L.set k (.box t cs)) (bH d (.own k 0) ρ)
   | _,_,_=>False
  | none=>False
 | .boxD t x=>match d with
  | some k=>match L.get k,(dG ρ x).okc,UQ t with
   | none,true,true=>fl (dc (dG ρ x)) fun cs=>K (L.set k (.box t cs)) (bH d (.own k 0) ρ)
   | _,_,_=>False
  | none=>False
 | .boxF t x=>match(dG ρ x).okc,fB (dc (dG ρ x)),i9 (dc (dG ρ x)) with
  | true,true,true=>fl ((dc (dG ρ x)).map C.can) fun cs=>K L (bH d (.pt cs 0) ρ)
  | _,_,_=>False
 | .alloc t zs=>match d with
  | some k=>match L.get k,UQ t with
   | none,true=>fl (zs.map sM) fun cs=>K (L.set k (.box t cs)) (bH d (.own k 0) ρ)
   | _,_=>False
  | none=>False
 | .allocD t zs=>match d with
  | some k=>match L.get k,UQ t with
   | none,true=>fl (zs.map sM) fun cs=>K (L.set k (.box t cs)) (bH d (.own k 0) ρ)
   | _,_=>False
  | none=>False
 | .mkF e n sz xs=>match qK ρ sz xs,Nat.beq xs.length n,Nat.ble n 9223372036854775807 with
  | true,true,true=>K L (bH d (.slx (vL ρ xs)) ρ)
  | _,_,_=>False
 | .mkFD e n sz xs=>match qK ρ sz xs,Nat.beq xs.length n,Nat.ble n 9223372036854775807 with
  | true,true,true=>K L (bH d (.slx (vL ρ xs)) ρ)
  | _,_,_=>False
 | .mkR e n sz xs=>match qK ρ sz xs,Nat.beq xs.length n,Nat.ble n 9223372036854775807,d with
  | true,true,true,some k=>match L.get k with
   | none=>K (L.set k (.row e sz (vL ρ xs))) (bH d (.rw k) ρ)
   | some _=>False
  | _,_,_,_=>False
 | .makeS e sz bytes zs l c=>match dG ρ l,dG ρ c,d with
  | .int _ n,.int _ m,some k=>match L.get k,fN (zs.map sM) sz,fB (zs.map sM) with
   | none,true,true=>pq n m bytes fun n=>K (L.set k (.row e sz (List.replicate n ((zs.map sM).map C.can)))) (bH d (.rw k) ρ)
   | _,_,_=>False
  | _,_,_=>False
 | .makeSD e sz n zs=>match d with
  | some k=>match L.get k,fN (zs.map sM) sz,(Nat.beq n 0||fB (zs.map sM)),Nat.ble n 9223372036854775807 with
   | none,true,true,true=>K (L.set k (.row e sz (List.replicate n ((zs.map sM).map C.can)))) (bH d (.rw k) ρ)
   | _,_,_,_=>False
  | none=>False
 | .makeSV e sz bytes zs x=>match dG ρ x,d with
  | .int _ n,some k=>match L.get k,fN (zs.map sM) sz,fB (zs.map sM) with
   | none,true,true=>pq n n bytes fun n=>K (L.set k (.row e sz (List.replicate n ((zs.map sM).map C.can)))) (bH d (.rw k) ρ)
   | _,_,_=>False
  | _,_=>False
 | .storeK key n a x=>match dG ρ a with
  | .own k _=>match Nat.beq k key with
   | true=>storeT true n a x d L ρ K
   | false=>False
  | _=>False
 | .storeX n a x=>storeT false n a x d L ρ K
 | .store n a x=>storeT false n a x d L ρ K
 | .storeD n a x=>storeT true n a x d L ρ K
 | .call f args=>fl (fR ρ args) fun args=>kF P f args L ρ fun L' ρ' v=>fT L' fun L'=>Bq v fun v=>K L' (bH d v ρ')
 | .callV f args=>match dG ρ f with
  | .fn f r p=>fl (r++fR ρ args++p) fun args=>kF P f args L ρ fun L' ρ' v=>fT L' fun L'=>Bq v fun v=>K L' (bH d v ρ')
  | .mval q c=>match c with
   | .ifc t c=>Ta P t q fun f=>fl (fR ρ args) fun args=>kF P f (c::args) L ρ fun L' ρ' v=>fT L' fun L'=>Bq v fun v=>K L' (bH d v ρ')
   | _=>False
  | .mof t q=>match RP P t,fR ρ args with
   | true,.ifc w c::h=>Ta P w q fun f=>fl h fun h=>kF P f (c::h) L ρ fun L' ρ' v=>fT L' fun L'=>Bq v fun v=>K L' (bH d v ρ')
   | _,_=>False
  | _=>False
 | .callD f args=>fl (fR ρ args) fun args=>pK P f args L ρ d fun L' ρ' v=>fT L' fun L'=>Bq v fun v=>K L' (bH d v ρ')
 | .callVD f args=>match dG ρ f with
  | .fn f r p=>fl (r++fR ρ args++p) fun args=>pK P f args L ρ d fun L' ρ' v=>fT L' fun L'=>Bq v fun v=>K L' (bH d v ρ')
  | .mval q c=>match c with
   | .ifc t c=>Ta P t q fun f=>fl (fR ρ args) fun args=>pK P f (c::args) L ρ d fun L' ρ' v=>fT L' fun L'=>Bq v fun v=>K L' (bH d v ρ')
   | _=>False
  | _=>False
 | .callO f args=>fl (fR ρ args) fun args=>FY P f args L ρ fun L' ρ' v=>fT L' fun L'=>Bq v fun v=>K L' (bH d v ρ')
 | .callVO f args=>match dG ρ f with
  | .fn f r p=>fl (r++fR ρ args++p) fun args=>FY P f args L ρ fun L' ρ' v=>fT L' fun L'=>Bq v fun v=>K L' (bH d v ρ')
  | _=>False
 | .mkmap=>match d with
  | some k=>match L.get k with
   | none=>K (L.set k (.map [])) (bH d (.mpr k) ρ)
   | some _=>False
  | none=>False
 | .mupd str x i v=>match dG ρ x with
  | .mpr k=>match L.get k,KP str (dG ρ i),(dG ρ v).okc,i9 (dc (dG ρ v)) with
   | some (.map es),true,true,true=>RM str es (dG ρ i) ((dG ρ v).cel.aaw) fun es=>K (L.set k (.map es)) (bH d .und ρ)
   | _,_,_,_=>False
  | _=>False
 | .app e sz bytes _ s x=>OH e sz bytes (dG ρ s) (dG ρ x) d L ρ K
 | .appX e sz bytes _ s x=>OH e sz bytes (dG ρ s) (dG ρ x) d L ρ K
 | .appD e sz bytes _ s x=>match dG ρ s,(dG ρ x).can,d with
  | .rw k,.sl b,_=>match L.get k with
   | some (.row y u els)=>match Nat.beq e y,Nat.beq sz u with
    | true,true=>xk els b sz bytes (fT ((L.aaq (C.kill k)).set k (.row e sz (els++b))) fun L=>K L (bH d (.rw k) fun j=>(ρ j).kill k))
    | _,_=>False
   | _=>False
  | .nils,.sl b,some k=>match L.get k with
   | none=>xk [] b sz bytes (fT (L.set k (.row e sz b)) fun L=>K L (bH d (.rw k) ρ))
   | some _=>False
  | .slx els,.sl b,some k=>match L.get k with
   | none=>0<b.length/\(∀es∈els,es.length=sz)/\xk els b sz bytes (fT (L.set k (.row e sz (els++b))) fun L=>K L (bH d (.rw k) ρ))
   | some _=>False
  | _,_,_=>False
 | o=>outT o L ρ fun v=>Bq v fun v=>K L (bH d v ρ)
def vP (P:Program) (PS:oE) (o:eI) (d:Option Nat) (L:TL) (ρ:aG) (K:TK):Prop :=
 match o with
 | .call f args=>fl (fR ρ args) fun args=>match PS.st with
  | none=>lK P PS f args L ρ fun L' ρ' v=>fT L' fun L'=>Bq v fun v=>K L' (bH d v ρ')
  | some s=>FX P PS.ps PS.hb s f args L ρ fun L' ρ' v=>fT L' fun L'=>Bq v fun v=>K L' (bH d v ρ')
 | .callV f args=>match dG ρ f with
  | .fn f b a=>fl (b++fR ρ args++a) fun args=>match PS.st with
   | none=>lK P PS f args L ρ fun L' ρ' v=>fT L' fun L'=>Bq v fun v=>K L' (bH d v ρ')
   | some s=>FX P PS.ps PS.hb s f args L ρ fun L' ρ' v=>fT L' fun L'=>Bq v fun v=>K L' (bH d v ρ')
  | _=>False
 | .pan x=>match PS.st with
  | none=>U6 PS L (dG ρ x)
  | some s=>Xt PS.ps PS.hb s L (dG ρ x)
 | _=>False
def FZ (P:Program) (PS:oE) (fb:List Nat) (o:eI) (d:Option Nat) (L:TL) (ρ:aG) (K:TK):Prop :=
 match o with
 | .call f args=>fl (fR ρ args) fun args=>match PS.st with
  | some s=>uw P PS.ps PS.hb s fb f args L ρ fun L' ρ' v=>fT L' fun L'=>Bq v fun v=>K L' (bH d v ρ')
  | none=>pJ P PS fb f args L ρ fun L' ρ' v=>fT L' fun L'=>Bq v fun v=>K L' (bH d v ρ')
 | .callV f args=>match dG ρ f with
  | .fn f b a=>fl (b++fR ρ args++a) fun args=>match PS.st with
   | some s=>uw P PS.ps PS.hb s fb f args L ρ fun L' ρ' v=>fT L' fun L'=>Bq v fun v=>K L' (bH d v ρ')
   | none=>pJ P PS fb f args L ρ fun L' ρ' v=>fT L' fun L'=>Bq v fun v=>K L' (bH d v ρ')
  | _=>False
 | _=>False
def Br:List ak->TL->Bool
 | [],_=>true
 | s::l,L=>match yB s with
  | none=>Br l L
  | some k=>match L.get k with | none=>Br l L | some _=>false
def sN (d:Option Nat) (ρ:aG):aG :=
 match d with
 | some k=>fun j=>match Nat.beq j k with | true=>(ρ k).aaQ | false=>ρ j
 | none=>ρ
def KS (a:Bool) (d:Option Nat) (ρ:aG):aG:=match a with | true=>ρ | false=>sN d ρ
def stepT (P:Program) (PS:oE) (e:Bool) (s:ak) (c:TL->aG->TK->Prop) (L:TL) (ρ:aG) (K:TK):Prop :=
 match s with
 | .op d o none=>bX P o d L ρ fun L' ρ'=>c L' (KS e d ρ') K
 | .op d o (some (s,a))=>match ρ s with
  | .bool b=>Ap b
    (match a with
     | true=>bX P o d L (bH (some s) (.bool true) ρ) fun L' ρ'=>c L' (KS e d ρ') K
     | false=>c L (bH d .und (bH (some s) (.bool true) ρ)) K)
    (match a with
     | false=>bX P o d L (bH (some s) (.bool false) ρ) fun L' ρ'=>c L' (KS e d ρ') K
     | true=>c L (bH d .und (bH (some s) (.bool false) ρ)) K)
  | .und=>c L (bH d .und ρ) K
  | _=>False
 | .frz k=>match e,L.get k with
  | false,some (.row _ _ els)=>fT ((L.del k).aaq (C.frz k els)) fun L=>c L (fun j=>(ρ j).frz k els) K
  | false,some (.box _ cs)=>match fB cs,i9 cs,Nat.blt k 1000,fU (PS.hb.map (·.1)) k with
   | true,true,true,false=>fT ((L.del k).aaq (C.frb k cs)) fun L=>c L (fun j=>(ρ j).frb k cs) K
   | _,_,_,_=>False
  | _,_=>False
 | .pc d o none=>match e with
  | true=>False
  | false=>vP P PS o d L ρ fun L' ρ'=>c L' (sN d ρ') K
 | .pc d o (some (s,a))=>match e,ρ s with
  | false,.bool b=>Ap b
    (match a with
     | true=>vP P PS o d L (bH (some s) (.bool true) ρ) fun L' ρ'=>c L' (sN d ρ') K
     | false=>c L (bH d .und (bH (some s) (.bool true) ρ)) K)
    (match a with
     | false=>vP P PS o d L (bH (some s) (.bool false) ρ) fun L' ρ'=>c L' (sN d ρ') K
     | true=>c L (bH d .und (bH (some s) (.bool false) ρ)) K)
  | false,.und=>c L (bH d .und ρ) K
  | _,_=>False
def Bs (P:Program) (PS:oE) (fb:List Nat) (s:ak) (a:TL->aG->TK->Prop) (L:TL) (ρ:aG) (K:TK):Prop :=
 match s with
 | .pc d o none=>FZ P PS fb o d L ρ fun L' ρ'=>a L' ρ' K
 | s=>stepT P PS true s a L ρ K
noncomputable def dL (P:Program) (PS:oE) (b:Bool) (ss:List ak):TL->aG->TK->Prop :=
 List.rec (motive:=fun _=>TL->aG->TK->Prop) (fun L ρ K=>K L ρ) (fun s _ a L ρ K=>stepT P PS b s a L ρ K) ss
noncomputable def kM (P:Program) (PS:oE) (fb:List Nat) (ss:List ak):TL->aG->TK->Prop :=
 List.rec (motive:=fun _=>TL->aG->TK->Prop) (fun L ρ K=>K L ρ) (fun s _ a L ρ K=>Bs P PS fb s a L ρ K) ss
theorem j5 {P:Program}{PS:oE}{fb:List Nat}{s:ak}{a:List ak}{L:TL}{ρ:aG}{K:TK}:kM P PS fb (s::a) L ρ K=Bs P PS fb s (kM P PS fb a) L ρ K:=rfl
theorem fC {P:Program}{PS:oE}{b:Bool}{s:ak}{a:List ak}{L:TL}{ρ:aG}{K:TK}:dL P PS b (s::a) L ρ K=stepT P PS b s (dL P PS b a) L ρ K:=rfl
def gZ:List C->C
 | [v]=>v
 | l=>.tup l
def hU (L:TL) (ρ:aG):List RV->(List C->Prop)->Prop
 | [],K=>K []
 | (t,none)::l,K=>hU L ρ l fun a=>K ((ρ t).cel::a)
 | (t,some (agg,n))::l,K=>match ρ t with
  | .own k off=>match L.get k with
   | some (.box _ cs)=>match fN ((cs.drop off).take n) n with
    | true=>hU L ρ l fun a=>K ((FR agg ((cs.drop off).take n)).cel::a)
    | false=>False
   | _=>False
  | _=>False
structure fe (Lin:List TO) (L:TL) (v:C) (R:List TO->C->Prop):Prop where
 out:∃(fz ko:List Nat),yK fz L (fun _=>.any) [v] fun L _ vs =>
  ∃(L1:TL) (c c1:C) (Mo:List TO),vs=[c]/\((L1=L/\c1=c)\/(gives L L1 L1/\OE L L1 c c1))/\L1.sub ko=some Mo/\aU ko=true/\aH Lin (List.range' 1000 Lin.length) ko=true /\
   (vE [c1]->R (Mo.map (TO.aaq (C.ren (bn ko 1000)))) (c1.aaB.ren (bn ko 1000)))
def uy (asg:List Nat) (ρ:aG):aG:=fun j=>match fU asg j with | true=>.any | false=>(ρ j).aaZ
structure wN (body:TL->aG->TK->Prop) (asg:List Nat) (L:TL) (ρ:aG):Prop where
 out:∃(σ:Type) (x0:σ) (Inv:σ->Prop) (ls:List Nat) (lv:σ->List C) (Lf:σ->TL) (μ:σ->Nat),
  Inv x0/\nS L (Lf x0) ls (lv x0) ρ/\gives L (Lf x0) (Lf x0)/\(∀x,pI L (Lf x)=true)/\(∀x,(lv x).length=ls.length) /\
  ∀x,Inv x->vE (lv x)->(∀k o,(Lf x).get k=some o->o.Wf)->body (Lf x) (qL ls (lv x) (uy asg ρ)) fun L' ρ' =>
   ∃x',Inv x'/\nS L' (Lf x') ls (lv x') ρ'/\gives L' (Lf x') (Lf x')/\μ x'<μ x
def dM:List ak->List Nat
 | []=>[]
 | .frz k::l=>k::dM l
 | .op _ _ _::l=>dM l
 | .pc _ _ _::l=>dM l
def gA:ax->List Nat
 | .reg d=>dM d
 | .regD d=>dM d
 | .regX d=>dM d
 | .seq a b=>gA a++gA b
 | .cond _ a b=>gA a++gA b
 | .block _ c=>gA c
 | .loop _ c=>gA c
 | _=>[]
def tu (L:TL):List Nat->Bool
 | []=>true
 | k::ks=>match L.get k with | some (.box _ _)=>false | some (.map _)=>false | _=>tu L ks
noncomputable def evalTC (P:Program) (PS:oE) (c:ax):(Nat->TK)->TK->TK->TK :=
 ax.rec (motive:=fun _=>(Nat->TK)->TK->TK->TK)
  (fun _ _ N L ρ=>N L ρ)
  (fun a _ _ N L ρ=>dL P PS false a L ρ N)
  (fun a _ _ N L ρ=>dL P PS true a L ρ N)
  (fun a _ _ N L ρ=>match Br a L with | true=>kM P PS (OB a) a L ρ N | false=>False)
  (fun _ _ b d E R N L ρ=>b E R (fun L ρ=>d E R N L ρ) L ρ)
  (fun c _ _ b d E R N L ρ=>match dG ρ c with
   | .bool t=>Ap t (b E R N L ρ) (d E R N L ρ)
   | _=>False)
  (fun id _ e E R N L ρ=>e (fun j=>match Nat.beq j id with | true=>N | false=>E j) R N L ρ)
  (fun asg c e E R _ L ρ=>match tu L (gA c) with | true=>wN (fun L ρ K=>e E R K L ρ) asg L ρ | false=>False)
  (fun id E _ _ L ρ=>E id L ρ)
  (fun _ R _ L ρ=>R L ρ) c
section
variable {P:Program}{PS:oE}{E:Nat->TK}{R N:TK}{L:TL}{ρ:aG}
theorem lp:evalTC P PS .skip E R N L ρ=N L ρ:=rfl
theorem mO {a:List ak}:evalTC P PS (.reg a) E R N L ρ=dL P PS false a L ρ N:=rfl
theorem lq {a:List ak}:evalTC P PS (.regD a) E R N L ρ=dL P PS true a L ρ N:=rfl
theorem D7 {a:List ak}:evalTC P PS (.regX a) E R N L ρ=(match Br a L with | true=>kM P PS (OB a) a L ρ N | false=>False):=rfl
theorem mP {a b:ax}:evalTC P PS (.seq a b) E R N L ρ=evalTC P PS a E R (fun L ρ=>evalTC P PS b E R N L ρ) L ρ:=rfl
theorem lu {c:X}{a b:ax}:evalTC P PS (.cond c a b) E R N L ρ=(match dG ρ c with
   | .bool t=>Ap t (evalTC P PS a E R N L ρ) (evalTC P PS b E R N L ρ)
   | _=>False):=rfl
theorem j6 {id:Nat}{c:ax}:evalTC P PS (.block id c) E R N L ρ=evalTC P PS c (fun j=>match Nat.beq j id with | true=>N | false=>E j) R N L ρ:=rfl
theorem lz {asg:List Nat}{c:ax}:evalTC P PS (.loop asg c) E R N L ρ=(match tu L (gA c) with | true=>wN (fun L ρ K=>evalTC P PS c E R K L ρ) asg L ρ | false=>False):=rfl
theorem lA {id:Nat}:evalTC P PS (.exit id) E R N L ρ=E id L ρ:=rfl
theorem mQ:evalTC P PS .ret E R N L ρ=R L ρ:=rfl
end
def ku:Nat->List C->aG
 | _,[]=>fun _=>.und
 | k,v::l=>bH (some k) v (ku (k+1) l)
theorem wf_wrap (k:IntKind) (n:Int):(Lit.int k (k.wrap n)).wf=true:=by
 cases k<;>simp[Lit.wf,IntKind.wrap,IntKind.min,IntKind.max,IntKind.bits,IntKind.signed]<;>(try split)<;>omega
theorem F4 (k:IntKind) (n:Int):(Lit.int k n).wf=true↔k.min<=n/\n<=k.max:=by simp[Lit.wf]
theorem G6 (k:IntKind):k.min<=0:=by cases k<;>simp[IntKind.min,IntKind.bits,IntKind.signed]
theorem G7 (k:IntKind):127<=k.max:=by cases k<;>simp[IntKind.max,IntKind.bits,IntKind.signed]
def okB:Value->Prop
 | .int k n=>(Lit.int k n).wf=true
 | .bool _=>True
 | .string s=>s.size<=maxLen
 | _=>False
section
variable {P:Program}{G:Nat->Option (Nat×TypeId)}{F:aA}{L:Loc}{ρ:Env}{M:TL}{τ:aG}
theorem yO {v:Value}(h:okB v):aN F L (S9 v) (.v v):=by
 cases v
 case int k n=>exact⟨.int k n,rfl,by simp only[S9,Rel];exact⟨trivial,h⟩⟩
 case bool b=>exact⟨.bool b,rfl,by simp only[S9,Rel]⟩
 case string b=>exact⟨.string b,rfl,by simp only[S9,Rel];exact⟨trivial,h⟩⟩
 all_goals exact h.elim
theorem OI {k:IntKind}{a b:Int}(h:(Lit.int k a).wf=true):(Lit.int k (a.tmod b)).wf=true:=by
 rw[F4] at h ⊢;have h0:=G6 k;have h1:=G7 k
 by_cases c:0<=a
 ·have:=Int.tmod_nonneg b c;have h2:a.tmod b<=a:=by
   have:(a.tmod b).natAbs<=a.natAbs:=by rw[Int.natAbs_tmod];exact Nat.mod_le _ _
   omega
  omega
 ·have h2:(a.tmod b).natAbs<=a.natAbs:=by rw[Int.natAbs_tmod];exact Nat.mod_le _ _
  have h3:a.tmod b<=0:=by
   have:=Int.tmod_nonneg b (show 0<=-a by omega);rw[Int.neg_tmod] at this;omega
  omega
theorem OJ {k:IntKind}{a:Int}{m:Nat}(h:(Lit.int k a).wf=true):(Lit.int k (a.fdiv (2 ^ m))).wf=true:=by
 rw[F4] at h ⊢;have h0:=G6 k;have h1:=G7 k;have b:(0:Int)<2 ^ m:=Int.pow_pos (by omega);rw[Int.fdiv_eq_ediv_of_nonneg _ (by omega)]
 by_cases c:0<=a
 ·have h2:=Int.ediv_nonneg c (Int.le_of_lt b);have h3:=Int.ediv_le_self (2 ^ m) c;omega
 ·have h2:a / 2 ^ m<0:=Int.ediv_neg_of_neg_of_pos (by omega) b;have h3:a<=a / 2 ^ m:=by
   have:a*1<=a / 2 ^ m:=by
    apply Int.le_ediv_of_mul_le b;rw[Int.mul_one];have:a*2 ^ m<=a*1:=Int.mul_le_mul_of_nonpos_left (by omega) (by omega);omega
   omega
  omega
theorem Ja {op:BinOp}{k:IntKind}{a b:Int}{K K':Value->Prop}(d:(Lit.int k a).wf=true) (h:binI op k a b K) (c:∀v,okB v->K v->K' v):binI op k a b K':=by
 cases op<;>simp only[binI] at h ⊢<;>first
  | exact h.elim
  | exact⟨c _ (wf_wrap _ _) h.out⟩
  | exact⟨h.ne,⟨c _ (wf_wrap _ _) h.out.out⟩⟩
  | exact⟨h.ne,c _ (OI d) h.out⟩
  | exact c _ (wf_wrap _ _) h
  | exact c _ trivial h
theorem KT {op:BinOp}{k:IntKind}{a b:Int}{K K':Value->Prop}(d:(Lit.int k a).wf=true) (h:shI op k a b K) (c:∀v,okB v->K v->K' v):shI op k a b K':=by
 cases op<;>simp only[shI] at h ⊢<;>first
  | exact h.elim
  | exact⟨h.1,⟨c _ (wf_wrap _ _) h.2.out⟩⟩
  | exact⟨h.1,c _ (OJ d) h.2⟩
theorem Jb {op:BinOp}{a b:ByteArray}{K K':Value->Prop}(h:binS op a b K) (c:∀v,okB v->K v->K' v):binS op a b K':=by
 cases op<;>simp only[binS] at h ⊢<;>first
  | exact h.elim
  | exact c _ trivial h
  | exact⟨h.1,c _ (by
    have h1:=h.1;simp[IntKind.max,IntKind.bits,IntKind.signed] at h1;show(a++b).size<=maxLen;rw[ByteArray.size_append];simp only[maxLen];omega) h.2⟩
theorem Cy (v:Value):Rel F L (sM v) v:=by
 unfold sM;split
 ·split
  ·rename_i h;simp only[Rel];exact⟨trivial,h⟩
  ·simp only[Rel]
 ·simp only[Rel]
 ·split
  ·rename_i h;simp only[Rel];exact⟨trivial,abq h⟩
  ·simp only[Rel]
 ·simp only[Rel]
 ·simp only[Rel]
 ·simp only[Rel]
 ·simp only[Rel];exact NX
 ·simp only[Rel]
 ·simp only[Rel]
theorem lB:∀a:List Value,aB F L (a.map sM) a
 | []=>by simp only[abX,aB]
 | v::a=>by simp only[abe,aB];exact⟨v,a,rfl,Cy v,lB a⟩
theorem U8 (v:Value):aN F L (sM v) (.v v):=by
 have h:=Cy (F:=F) (L:=L) v
 revert h
 unfold sM;split
 ·split
  ·exact fun h=>⟨_,rfl,h⟩
  ·exact fun h=>trivial
 ·exact fun h=>⟨_,rfl,h⟩
 ·split
  ·exact fun h=>⟨_,rfl,h⟩
  ·exact fun h=>trivial
 ·exact fun h=>⟨_,rfl,h⟩
 ·exact fun h=>⟨_,rfl,h⟩
 ·exact fun h=>⟨_,rfl,h⟩
 ·exact fun h=>⟨_,rfl,h⟩
 ·exact fun h=>⟨_,rfl,h⟩
 ·exact fun h=>trivial
theorem U9 (v:Value):aN F L (cv v) (.v v):=by
 unfold cv;split
 ·rename_i cs;exact⟨_,rfl,by simp only[Rel];exact⟨cs.toList,by simp,lB _⟩⟩
 ·exact U8 v
theorem eK (h:∀j,aN F L (τ j) (ρ j)) (x:X):aN F L (dG τ x) (ev ρ x):=by
 cases x with
 | t n=>exact h n
 | c v=>exact U9 v
 | fn f=>exact⟨_,rfl,by simp only[dG,Rel];exact⟨[],[],by simp,by simp only[aB],by simp only[aB]⟩⟩
 | mt k n =>
  have a:=h n;simp only[dG,ev,mtC];split
  ·rename_i t c e;rw[e] at a;simp only[aN] at a ⊢;obtain⟨v,d,b⟩:=a;rw[d];refine⟨_,rfl,?_⟩;simp only[Rel] at b ⊢;exact⟨v,rfl,b⟩
  ·simp only[aN]
theorem gW {x:X}{k:IntKind}{n:Int}(h:∀j,aN F L (τ j) (ρ j)) (e:dG τ x=.int k n):ev ρ x=.v (.int k n)/\(Lit.int k n).wf=true:=by
 have:=eK h x;rw[e] at this;simp only[aN,Rel] at this;obtain⟨v,h1,rfl,h2⟩:=this;exact⟨h1,h2⟩
theorem jq {x:X}{b:Bool}(h:∀j,aN F L (τ j) (ρ j)) (e:dG τ x=.bool b):ev ρ x=.v (.bool b):=by
 have:=eK h x;rw[e] at this;simp only[aN,Rel] at this;obtain⟨v,h1,rfl⟩:=this;exact h1
theorem xN {x:X}{s:ByteArray}(h:∀j,aN F L (τ j) (ρ j)) (e:dG τ x=.str s):ev ρ x=.v (.string s)/\s.size<=maxLen:=by
 have:=eK h x;rw[e] at this;simp only[aN,Rel] at this;obtain⟨v,h1,rfl,h2⟩:=this;exact⟨h1,h2⟩
theorem Tc {x:X}{els:List (List C)}(h:∀j,aN F L (τ j) (ρ j)) (e:dG τ x=.sl els) :
  ∃a c sz,ev ρ x=.v (.slice a els.length c)/\els.length<=c/\els.length<=maxLen/\(a=none->els=[]/\c=0)/\gU F a sz 0 els:=by
 have:=eK h x;rw[e] at this;simp only[aN,Rel] at this;obtain⟨v,h1,a,c,rfl,h2,h3,h4,sz,h5⟩:=this;exact⟨a,c,sz,h1,h2,h3,h4,h5⟩
theorem uz {x:X}(h:∀j,aN F L (τ j) (ρ j)) (e:dG τ x=.nils):ev ρ x=.v (.slice none 0 0):=by
 have:=eK h x;rw[e] at this;simp only[aN,Rel] at this;obtain⟨v,h1,rfl⟩:=this;exact h1
theorem F5 {x:X}{k:Nat}(h:∀j,aN F L (τ j) (ρ j)) (e:dG τ x=.rw k):∃a c t sz n xs,ev ρ x=.v (.slice a n c)/\L.get k=some (.row (.slice a n c) t sz n xs):=by
 have:=eK h x;rw[e] at this;simp only[aN,Rel] at this;obtain⟨v,h1,a,c,t,sz,n,xs,rfl,h2⟩:=this;exact⟨a,c,t,sz,n,xs,h1,h2⟩
theorem jx {x:X}{k off:Nat}(h:∀j,aN F L (τ j) (ρ j)) (e:dG τ x=.own k off):ev ρ x=.own k off/\∃g t cs,L.get k=some (.box g t cs):=by
 have:=eK h x;rw[e] at this;simp only[aN] at this;exact this
theorem uD {x:X}{k off:Nat}(h:∀j,aN F L (τ j) (ρ j)) (e:dG τ x=.ownv k off):∃g t cs,L.get k=some (.box g t cs)/\WZ (ev ρ x) (.pointer (some ⟨g,off,none⟩)):=by
 have:=eK h x;rw[e] at this;simp only[aN,Rel] at this;obtain⟨v,h1,g,t,cs,h2,rfl⟩:=this;exact⟨g,t,cs,h2,h1⟩
theorem vQ {x:X}{f:Nat}{d c:List C}(h:∀j,aN F L (τ j) (ρ j)) (e:dG τ x=.fn f d c):∃b a,ev ρ x=.v (.func (.func f) b.toArray a.toArray)/\aB F L d b/\aB F L c a:=by
 have:=eK h x;rw[e] at this;simp only[aN,Rel] at this;obtain⟨v,h1,b,a,rfl,h2,h3⟩:=this;exact⟨b,a,h1,h2,h3⟩
theorem Cz {x:X}{cs:List C}(h:∀j,aN F L (τ j) (ρ j)) (e:dG τ x=.agg cs):∃a,ev ρ x=.v (.agg a.toArray)/\aB F L cs a:=by
 have:=eK h x;rw[e] at this;simp only[aN,Rel] at this;obtain⟨v,h1,a,rfl,h2⟩:=this;exact⟨a,h1,h2⟩
theorem OL {x:X}{cs:List C}(h:∀j,aN F L (τ j) (ρ j)) (e:dG τ x=.tup cs):∃a,ev ρ x=.v (.tuple a.toArray)/\aB F L cs a:=by
 have:=eK h x;rw[e] at this;simp only[aN,Rel] at this;obtain⟨v,h1,a,rfl,h2⟩:=this;exact⟨a,h1,h2⟩
theorem OO {x:X}{t:TypeId}{c:C}(h:∀j,aN F L (τ j) (ρ j)) (e:dG τ x=.ifc t c):∃u,ev ρ x=.v (.iface t u)/\Rel F [] c u:=by
 have:=eK h x;rw[e] at this;simp only[aN,Rel] at this;obtain⟨v,h1,u,rfl,h2⟩:=this;exact⟨u,h1,h2⟩
theorem G8 {x:X}{k:Nat}(h:∀j,aN F L (τ j) (ρ j)) (e:dG τ x=.opq k):∃v,ev ρ x=.v v/\iq k F v:=by
 have:=eK h x;rw[e] at this;simp only[aN,Rel] at this;exact this
theorem yP {x:X}{a:String}{c:C}(h:∀j,aN F L (τ j) (ρ j)) (e:dG τ x=.mval a c):∃u,ev ρ x=.v (.func (.method a) #[u] #[])/\Rel F [] c u:=by
 have:=eK h x;rw[e] at this;simp only[aN,Rel] at this;obtain⟨v,h1,u,rfl,h2⟩:=this;exact⟨u,h1,h2⟩
theorem OP {x:X}{t:TypeId}{a:String}(h:∀j,aN F L (τ j) (ρ j)) (e:dG τ x=.mof t a):ev ρ x=.v (.func (.methodOf t a) #[] #[]):=by
 have:=eK h x;rw[e] at this;simp only[aN,Rel] at this;obtain⟨v,h1,rfl⟩:=this;exact h1
theorem tw {x:X}{es:List C}{off:Nat}(h:∀j,aN F L (τ j) (ρ j)) (e:dG τ x=.pt es off) :
  ∃b o j a,(ev ρ x=.v (.pointer (some ⟨b,o,none⟩))/\j=0\/ev ρ x=.el (some ⟨b,o,none⟩) j)/\OG F b (o+j) off a/\fB es=true/\aB F [] es a:=by
 have:=eK h x;rw[e] at this;simp only[aN] at this;exact this
theorem xO {x:X}{k j off:Nat}(h:∀j,aN F L (τ j) (ρ j)) (e:dG τ x=.elr k j off) :
  ∃a t sz n c xs,ev ρ x=.el (some a) (j*sz+off)/\L.get k=some (.row (.slice (some a) n c) t sz n xs):=by
 have:=eK h x;rw[e] at this;simp only[aN] at this;exact this
theorem lM (h:bV F L M) {k:Nat}{t:TypeId}{cs:List C}(e:M.get k=some (.box t cs)):∃g b a,L.get k=some (.box g b a)/\aB F L cs a/\tyOk t g b:=by
 have:=h k;rw[e] at this;cases c:L.get k with
 | none=>rw[c] at this;exact this.elim
 | some o =>
  rw[c] at this;cases o with
  | row=>exact this.elim
  | box g b a=>obtain⟨h1,h2⟩:=this;exact⟨g,b,a,rfl,h2,h1⟩
theorem mR (h:bV F L M) {k:Nat}{t:TypeId}{sz:Nat}{els:List (List C)}(e:M.get k=some (.row t sz els)) :
  ∃v xs,L.get k=some (.row v t sz els.length xs)/\(els.length<=maxLen/\∃a c,v=.slice a els.length c/\(a=none->els.length=0))/\aR F sz els xs:=by
 have:=h k;rw[e] at this;cases b:L.get k with
 | none=>rw[b] at this;exact this.elim
 | some o =>
  rw[b] at this;cases o with
  | box=>exact this.elim
  | row v f d n xs=>obtain⟨rfl,rfl,rfl,h2,h3⟩:=this;exact⟨v,xs,rfl,h2,h3⟩
theorem cu (h:bV F L M) {k:Nat}(e:M.get k=none):L.get k=none:=by
 have:=h k;rw[e] at this;cases a:L.get k with
 | none=>rfl
 | some o=>rw[a] at this;exact this.elim
theorem cn:∀{l:List C}{n:Nat},fN l n=true->l.length=n
 | [],0,_=>rfl
 | [],n+1,h=>by simp[fN] at h
 | _::l,0,h=>by simp[fN] at h
 | _::l,n+1,h=>by simp only[fN] at h;simp[cn h]
theorem jF:∀{l:List Value}{n:Nat},l.length=n->iD l n=true
 | [],0,_=>rfl
 | [],n+1,h=>by simp at h
 | _::l,0,h=>by simp at h
 | _::l,n+1,h=>by simp only[iD];exact jF (by simpa using h)
theorem kX {c:C}{v:Value}(h:Rel F L c v):aN F L c.slt (.v v):=by
 cases c<;>(try simp only[C.slt])<;>try exact⟨v,rfl,h⟩
 case any=>trivial
 case pt es off =>
  simp only[Rel] at h;obtain⟨b,o,a,rfl,h2,h3⟩:=h;exact⟨b,o,0,a,.inl ⟨rfl,rfl⟩,h2,h3⟩
 case own=>exact⟨v,.inl rfl,h⟩
 case ownv=>exact h.elim
 case elr=>exact h.elim
theorem fq {agg:Bool}{cs:List C}{a:List Value}(h:aB F L cs a):aN F L (FR agg cs) (.v (iG agg a)):=by
 cases agg with
 | true=>exact⟨_,rfl,by simp only[FR,iG,Rel];exact⟨a,rfl,h⟩⟩
 | false =>
  match cs,a,h with
  | [],a,h=>trivial
  | [c],a,h =>
   simp only[aB] at h;obtain⟨v,b,rfl,h1,rfl⟩:=h;exact kX h1
  | _::_::_,a,h=>trivial
theorem WZ.conc {sv:SV}{v:Value}(h:WZ sv v):Fr.conc L sv=v:=by
 rcases h with rfl | ⟨b,o,j,rfl,rfl⟩
 ·rfl
 ·simp only[Fr.conc,dI]
theorem OQ {c:C}{sv:SV}(h:aN F L c sv) (e:c.one=true\/(∃k o,c=.ownv k o)\/c=.any\/(∃k j o,c=.elr k j o)\/(∃l,c=.agg l)\/(∃l,c=.tup l)\/c=.und):Rel F L c.cel (conc L sv):=by
 cases c<;>simp only[C.cel]<;>simp only[aN] at h
 case own k off =>
  obtain⟨rfl,g,t,cs,h⟩:=h;simp only[Rel,conc,h];exact⟨g,t,cs,rfl,rfl⟩
 case ownv k off =>
  obtain⟨v,d,h⟩:=h;rw[d.conc];exact h
 case pt es off =>
  obtain⟨b,o,j,a,h1,h2,h3,h4⟩:=h;simp only[Rel];rcases h1 with⟨rfl,rfl⟩ | rfl
  ·exact⟨b,o,a,rfl,h2,h3,h4⟩
  ·exact⟨b,o+j,a,by simp only[conc,dI],h2,h3,h4⟩
 case elr=>simp only[Rel]
 case any=>simp only[Rel]
 all_goals
  obtain⟨v,rfl,h⟩:=h;simpa only[conc] using h
theorem mS {c:C}{sv:SV}(h:aN F L c sv):Rel F L c.cel (conc L sv):=by
 apply OQ h;cases c<;>simp[C.one]
theorem CA (h:∀j,aN F L (τ j) (ρ j)) (x:X):Rel F L (dG τ x).cel (val L ρ x):=mS (eK h x)
theorem eF (h:∀j,aN F L (τ j) (ρ j)):∀xs:List X,aB F L (fR τ xs) (bE L ρ xs)
 | []=>by simp only[fR,bE,aB]
 | x::xs=>by simp only[fR,bE,aB];exact⟨_,_,rfl,CA h x,eF h xs⟩
theorem F9 {c:C}{sv:SV}(h:aN F L c sv) (a:c.okc=true):aB F L (dc c) (aO (conc L sv)):=by
 have h1:=mS h;cases c<;>simp only[C.okc,abl] at a<;>simp only[dc]<;>simp only[C.cel] at h1 ⊢
 case agg cs =>
  simp only[Rel] at h1;obtain⟨b,h2,h3⟩:=h1;rw[h2];simpa only[aO] using h3
 all_goals
  simp only[aB];refine⟨_,[],?_,h1,rfl⟩
  revert h1
  generalize conc L sv=v;intro h1;simp only[Rel] at h1
  first
   | (have h2:=iq.one h1;cases v<;>first | rfl | (exact o5 h2 (by decide)) | (simp[Value.oneCell'] at h2))
   | (obtain⟨rfl,_⟩:=h1;rfl)
   | (subst h1;rfl)
   | (obtain⟨_,rfl,_⟩:=h1;rfl)
   | (obtain⟨_,_,rfl,_⟩:=h1;rfl)
   | (obtain⟨_,_,_,rfl,_⟩:=h1;rfl)
   | (obtain⟨_,_,_,_,_,_,rfl,_⟩:=h1;rfl)
   | (obtain⟨_,_,_,_,rfl⟩:=h1;rfl)
theorem iN (h:∀j,aN F L (τ j) (ρ j)) {x:X}(a:(dG τ x).okc=true):aB F L (dc (dG τ x)) (aO (val L ρ x)):=F9 (eK h x) a
theorem nK {cs:List C}{a:List Value}{off:Nat}{ds:List C}{us:List Value}(h:aB F L cs a) (k:aB F L ds us):aB F L (jw cs off ds) (bY a off us):=by
 simp only[jw,bY];rw[<-k.len];exact((h.take off).append k).append (h.drop _)
theorem Bt (h:∀j,aN F L (τ j) (ρ j)):∀(ps:List (Nat×Nat×X)) {zs:List C}{a:List Value}{cs:List C},aB F L zs a->vM τ zs ps=some cs->∃us,built L ρ a ps=some us/\aB F L cs us
 | [],zs,a,cs,b,hb=>by
  simp only[vM,aa1] at hb;subst hb;exact⟨a,rfl,b⟩
 | (off,n,x)::ps,zs,a,cs,b,hb=>by
  simp only[vM] at hb;split at hb
  case h_2=>cases hb
  rename_i h1 h2;have c:=iN h h1;have d:iD (aO (val L ρ x)) n=true:=jF (by rw[c.len];exact cn h2);simp only[built,d];exact Bt h ps (nK b c) hb
theorem G9 (h:∀j,aN F L (τ j) (ρ j)) {d i:Int}{x:Option X}(e:OD τ d x=some i):nX ρ d x=some i:=by
 cases x with
 | none=>exact e
 | some x =>
  simp only[OD] at e;split at e
  case h_2=>cases e
  rename_i k j a;injection e with e
  subst e;simp only[nX,(gW h a).1]
theorem KU (h:∀j,aN F L (τ j) (ρ j)) (mx:Bool):∀(args:List X) {a m:Int},WY mx a (args.map (dG τ))=some m->Ry mx a (args.map (ev ρ))=some m
 | [],a,m,e=>e
 | x::args,a,m,e=>by
  simp only[abe] at e ⊢;cases b:dG τ x<;>rw[b] at e<;>simp only[WY,reduceCtorEq] at e;rw[(gW h b).1];exact KU h mx args e
theorem KV {a:Option Addr}{sz:Nat}{els:List (List C)}{c l h:Nat}(k:gU F a sz 0 els) (r:a=none->els=[]/\c=0) (s:l<=h) (y:h<=els.length) (w:els.length<=c) :
  gU F (if c=l then a else a.map (·.add (l*sz))) sz 0 ((els.drop l).take (h-l)):=by
 rw[oC] at k ⊢;intro j es he;rw[abY] at he;split at he
 case isFalse=>cases he
 rename_i x;rw[abS] at he;obtain⟨q,h1,h2,h3,h4⟩:=k _ es he;have p:l+j<els.length:=(aa6.1 he).1;rw[fo (by omega)];refine⟨q,h1,?_,h3,h4⟩;obtain⟨m,f,t,fr,e,hb,d,n⟩:=h2;subst e;obtain⟨b,o,u⟩:=m;simp only at d;subst d;refine⟨⟨b,o+l*sz,none⟩,f,t,fr,by simp only[abI,dI],hb,rfl,fun i v hi=>?_⟩;have:=n i v hi;simp only[Nat.zero_add,Nat.add_mul] at this ⊢;rw[show o+l*sz+j*sz+i=o+(l*sz+j*sz)+i by omega];exact this
theorem lC {b o j off n:Nat}{es:List C}{d:List Value}(f:OG F b (o+j) off d):dY F (some ⟨b,o,none⟩) j ((d.drop off).take n):=by
 obtain⟨e,c,t,fr,h1,h2,h3⟩:=f;refine⟨_,c,t,fr,rfl,h1,rfl,fun i v a=>?_⟩;rw[abY] at a;split at a
 case isFalse=>cases a
 rw[abS] at a;have:=h3 _ _ a;show c[o+j+i]?=_;rw[h2,Nat.add_assoc];exact this
theorem jI {L':Loc}{cs:List C}{e:List Value}(o:i9 cs=true) (h:aB F L cs e):aB F L' cs e:=by
 have b:∀(c:C) (v:Value),c.aay=true->Rel F L c v->Rel F L' c v:=by
  intro c v d h;cases c<;>simp only[C.aay,abl] at d<;>simp only[Rel] at h ⊢<;>exact h
 have a:∀(cs:List C) (e:List Value),jE cs=true->aB F L cs e->aB F L' cs e:=by
  intro cs e d h;rw[mN] at h ⊢;exact⟨h.1,fun i c v h1 h2=>b c v (qM.1 d c (aa8 h1)) (h.2 i c v h1 h2)⟩
 rw[mN] at h ⊢;refine⟨h.1,fun i c v h1 h2=>?_⟩;have d:=yM.1 o c (aa8 h1);have f:=h.2 i c v h1 h2;cases c<;>first
  | exact b _ _ d f
  | (simp only[C.pure,C.aay,abl] at d;done)
  | (simp only[C.pure] at d
     split at d
     case h_2=>cases d
     rename_i j;simp only[Rel] at f ⊢;obtain⟨k,l,m,p,n⟩:=f;exact⟨k,l,m,a _ _ j p,a _ _ d n⟩)
theorem vR {els:List (List C)}{v:Value}(h:Rel F L (.slx els) v):Rel F L (.sl els) v:=by
 simp only[Rel] at h ⊢;obtain⟨a,h1,h2,sz,h3⟩:=h;exact⟨some a,els.length,h1,abh _,h2,fun e=>(by cases e),sz,h3⟩
theorem uE {c:C}{v:Value}(h:Rel F L c v):Rel F L c.can v:=by
 cases c<;>first
  | exact h
  | exact vR h
  | (simp only[Rel] at h
     subst h;simp only[C.can,Rel];exact⟨none,0,by simp,by simp,by simp,fun _=>by simp,0,by simp only[gU]⟩)
theorem lD {cs:List C}{a:List Value}(h:aB F L cs a):aB F L (cs.map C.can) a:=h.map fun c _ v=>uE
theorem jr {c:C}{v:Value}(h:Rel F L c v):Rel F L c.aaw v:=by
 cases c<;>first
  | exact h
  | exact uE (c:=.nils) h
  | exact vR h
  | (simp only[Rel] at h
     obtain⟨a,h1,h2⟩:=h;simp only[C.aaw,Rel];exact⟨a,h1,lD h2⟩)
theorem KW {c:C}{sv:SV}(h:aN F L c sv):aN F L c.can sv:=by
 cases c<;>first
  | exact h
  | (obtain⟨v,e,a⟩:=h;exact⟨v,e,vR a⟩)
  | (obtain⟨v,e,a⟩:=h;exact⟨v,e,uE (c:=.nils) a⟩)
theorem lV {x:X}{els:List (List C)}(h:∀j,aN F L (τ j) (ρ j)) (e:(dG τ x).can=.sl els) :
  ∃a c sz,ev ρ x=.v (.slice a els.length c)/\els.length<=c/\els.length<=maxLen/\(a=none->els=[]/\c=0)/\gU F a sz 0 els:=by
 have:=KW (eK h x);rw[e] at this;simp only[aN,Rel] at this;obtain⟨v,h1,a,c,rfl,h2,h3,h4,sz,h5⟩:=this;exact⟨a,c,sz,h1,h2,h3,h4,h5⟩
theorem OT {c:C}{k:Nat}(e:c.can=.opq k):c=.opq k:=by cases c<;>simp only[C.can,reduceCtorEq] at e<;>exact e
theorem CB {c:C}{k:Nat}(e:c.can=.rw k):c=.rw k:=by cases c<;>simp only[C.can,reduceCtorEq] at e<;>exact e
theorem CC {x:X}{els:List (List C)}(h:∀j,aN F L (τ j) (ρ j)) (e:dG τ x=.slx els) :
  ∃a sz,ev ρ x=.v (.slice (some a) els.length els.length)/\els.length<=maxLen/\gU F (some a) sz 0 els:=by
 have:=eK h x;rw[e] at this;simp only[aN,Rel] at this;obtain⟨v,h1,a,rfl,h2,sz,h3⟩:=this;exact⟨a,sz,h1,h2,h3⟩
theorem OU {c:C}(h:c.one=true):c.can.one=true:=by cases c<;>first | exact h | rfl
theorem oF {cs:List C}(h:fB cs=true):fB (cs.map C.can)=true:=by
 rw[oD] at h ⊢;intro c a;obtain⟨d,hd,rfl⟩:=abx.1 a;exact OU (h d hd)
theorem oG {cs:List C}{b:List Value}(h:aB F L cs b) (c:fB cs=true):∀u∈b,u.oneCell'=true:=by
 intro u e;obtain⟨i,hi⟩:=abw.1 e;have a:i<cs.length:=by rw[<-h.len];exact(aa6.1 hi).1
 have d:=h.at (aa4 a) hi;exact d.one (oD.1 c _ (List.getElem_mem a))
theorem xP:∀{a:List Value},(∀u∈a,u.oneCell'=true)->kE a=true
 | [],_=>rfl
 | v::a,h=>by simp only[kE,h v (by simp)];exact xP fun u b=>h u (by simp[b])
end
section
variable {P:Program}{G:Nat->Option (Nat×TypeId)}{F:aA}{L:Loc}{ρ:Env}{M:TL}{τ:aG}
theorem mT {k:IntKind}{n:Int}(h:(Lit.int k n).wf=true):aN F L (.int k n) (.v (.int k n)):=⟨_,rfl,by simp only[Rel];exact⟨trivial,h⟩⟩
theorem gI {b:Bool}:aN F L (.bool b) (.v (.bool b)):=⟨_,rfl,by simp only[Rel]⟩
theorem KX {es:List C}{e:List Value}{d:Addr}{j:Nat}{a:Array Value}{t:TypeId}{fr:Nat×Nat}(hb:F d.block=some (.cells a t fr)) (c:d.spot=none)
  (f:∀(i:Nat) v,e[i]?=some v->a[d.off+j+i]?=some v) (h1:fB es=true) (h:aB F [] es e):aN F L (.pt es 0) (.el (some d) j):=by
 obtain⟨b,o,k⟩:=d;simp only at c;subst c;exact⟨b,o,j,e,.inr rfl,⟨o+j,a,t,fr,hb,rfl,f⟩,h1,h⟩
theorem OV {els:List (List C)}{a:Option Addr}{c sz:Nat}(h1:els.length<=c) (h2:els.length<=maxLen) (h3:a=none->els=[]/\c=0) (h4:gU F a sz 0 els):aN F L (.sl els) (.v (.slice a els.length c)) :=
 ⟨_,rfl,by simp only[Rel];exact⟨a,c,rfl,h1,h2,h3,sz,h4⟩⟩
set_option maxHeartbeats 1000000 in
theorem OW:∀{ks:List Bool}{cs ds:List C}{a b:Bool}{d us:List Value},vN ks cs ds a=some b->aB F L cs d->aB F L ds us->jn ks d.toArray.toList us.toArray.toList a=some b:=by
 intro ks
 induction ks with
 | nil =>
  intro cs ds a b d us h h1 h2;cases cs with
  | cons c cs=>simp[vN] at h
  | nil =>
   cases ds with
   | cons c cs=>simp[vN] at h
   | nil =>
    simp only[aB] at h1 h2;subst h1 h2;simpa[jn,vN] using h
 | cons k ks j =>
  intro cs ds a b d us h h1 h2;cases cs with
  | nil=>cases k<;>simp[vN] at h
  | cons c cs =>
   cases ds with
   | nil=>cases k<;>cases c<;>simp[vN] at h
   | cons m ds =>
    cases k<;>cases c<;>try (simp[vN] at h;done)
    all_goals cases m<;>try (simp[vN] at h;done)
    all_goals simp only[aB,Rel] at h1 h2
    ·obtain⟨v,e,rfl,rfl,h1⟩:=h1;obtain⟨u,f,rfl,rfl,h2⟩:=h2;simp only[vN] at h;have:=j h h1 h2;simp only[jn];exact this
    ·obtain⟨v,e,rfl,⟨rfl,_⟩,h1⟩:=h1;obtain⟨u,f,rfl,⟨rfl,_⟩,h2⟩:=h2;simp only[vN] at h;split at h
     case h_2=>cases h
     rename_i l;have:=j h h1 h2;simp only[jn,l];exact this
theorem Td (v:Value):Rel F L (cv v) v:=by
 unfold cv;split
 ·rename_i cs;simp only[Rel];exact⟨cs.toList,by simp,lB _⟩
 ·exact Cy v
theorem He {x:X}{k:Nat}(h:∀j,aN F L (τ j) (ρ j)) (e:dG τ x=.mpr k):∃g cs,ev ρ x=.v (.map (some g))/\L.get k=some (.box g 0 cs):=by
 have:=eK h x;rw[e] at this;simp only[aN,Rel] at this;obtain⟨v,h1,g,cs,h2,rfl⟩:=this;exact⟨g,cs,h1,h2⟩
theorem KY (h:bV F L M) {k:Nat}{es:List (C×C)}(e:M.get k=some (.map es)):∃g a,L.get k=some (.box g 0 a)/\gh F es a:=by
 have:=h k;rw[e] at this;cases b:L.get k with
 | none=>rw[b] at this;exact this.elim
 | some o =>
  rw[b] at this;cases o with
  | row=>exact this.elim
  | box g c a=>obtain⟨rfl,h2⟩:=this;exact⟨g,a,rfl,h2⟩
theorem gh.isMap {es:List (C×C)}{a:List Value}(h:gh F es a):lS a=true:=by
 cases es with
 | nil=>simp only[gh] at h;subst h;rfl
 | cons p l =>
  obtain⟨k,c⟩:=p;simp only[gh] at h;obtain⟨kv,v,b,rfl,_⟩:=h;rfl
theorem gh.len:∀{es:List (C×C)}{a:List Value},gh F es a->a.length=es.length
 | [],a,h=>by simp only[gh] at h;subst h;rfl
 | (k,c)::l,a,h=>by
  simp only[gh] at h;obtain⟨kv,v,b,rfl,_,_,h⟩:=h;simp[gh.len h]
theorem qO {str:Bool}{a b:C}{u v:Value}{r:Bool}{L':Loc}(h:j4 str a b=some r) (c:Rel F L a u) (hb:Rel F L' b v):fL str u v=some r:=by
 unfold j4 at h;split at h
 ·simp only[Rel] at c hb;rw[c.1,hb.1];exact h
 ·simp only[Rel] at c hb;rw[c.1,hb.1];exact h
 ·cases h
theorem yQ {str:Bool}{key:C}{kv:Value}(d:∀b v r,j4 str key b=some r->Rel F [] b v->fL str kv v=some r):∀{es:List (C×C)}{a:List Value}{o:Option C}(i:Nat),gh F es a->wL str key es=some o ->
  match o with | some c=>∃j v,mC str kv a i=some (some (j,v))/\Rel F [] c v | none=>mC str kv a i=some none
 | [],a,o,i,h,e=>by
  simp only[gh] at h;subst h;simp only[wL,aa1] at e;subst e;rfl
 | (k,c)::l,a,o,i,h,e=>by
  simp only[gh] at h;obtain⟨u,v,m,rfl,h1,h2,h3⟩:=h;simp only[wL] at e;split at e
  ·rename_i f;injection e with e
   subst e;exact⟨i,v,by simp only[mC,d _ _ _ f h1],h2⟩
  ·rename_i f;have:=yQ d (i+1) h3 e;simp only[mC,d _ _ _ f h1];exact this
  ·cases e
theorem Bu {c:C}{v:Value}{b:Bool}(h:Rel F L c v):aN F L (.tup [c,.bool b]) (.v (.tuple #[v,.bool b])) :=
 ⟨_,rfl,by simp only[Rel,aB];exact⟨[v,.bool b],rfl,v,_,rfl,h,_,[],rfl,rfl,rfl⟩⟩
theorem Hf (h:∀j,aN F L (τ j) (ρ j)) {str:Bool}{x:X}:∀b v r,j4 str (dG τ x) b=some r->Rel F [] b v->fL str (val L ρ x) v=some r:=by
 intro b v r a hb;refine qO (F:=F) (L:=L) a ?_ hb;have:=CA h x
 revert this
 cases c:dG τ x<;>rw[c] at a<;>cases str<;>simp only[j4,reduceCtorEq] at a<;>simp only[C.cel]<;>exact fun h=>h
theorem Xu {o:eI}{V:C->Prop}(ht:TS G F L ρ M τ) (h:outT o M τ V):aM o F L ρ (fun sv=>∃c,aN F L c sv/\V c):=by
 have he:=ht.env;cases o<;>simp only[outT] at h<;>simp only[aM]
 case mov x=>exact⟨_,eK he x,h⟩
 case pick c a b =>
  split at h
  case h_2=>exact h.elim
  rename_i t hc;rw[jq he hc];cases t
  ·exact⟨_,eK he b,h⟩
  ·exact⟨_,eK he a,h⟩
 case build zs ps =>
  rw[fP] at h;obtain⟨cs,hc,h⟩:=vO h;obtain⟨us,h1,h2⟩:=Bt he ps (lB zs) hc;rw[h1];exact⟨.agg cs,⟨_,rfl,by simp only[Rel];exact⟨us,rfl,h2⟩⟩,h⟩
 case load agg n x =>
  split at h
  ·rename_i k off p;obtain⟨d,_⟩:=jx he p;rw[d];split at h
   case h_2=>exact h.elim
   rename_i t cs hk;obtain⟨g,ty,vs,hL,hr,an⟩:=lM ht.tl hk;split at h
   case h_2=>exact h.elim
   rename_i hl;have w:=(hr.drop off).take n;simp only[hL];rw[py an.2.2 (jF (by rw[w.len];exact cn hl))];exact⟨_,fq w,h⟩
  ·rename_i es off p;split at h
   case h_2=>exact h.elim
   rename_i hl;obtain⟨b,o,j,vs,d,hp,ho,hr⟩:=tw he p;have w:aB F L ((es.drop off).take n) ((vs.drop off).take n):=((hr.drop off).take n).lift;rcases d with⟨d,rfl⟩ | d
   ·rw[d];exact⟨_,by rw[w.len];exact cn hl,.inl (lC (es:=es) hp),_,fq w,h⟩
   ·rw[d];exact⟨_,by rw[w.len];exact cn hl,.inl (lC (es:=es) hp),_,fq w,h⟩
  ·rename_i k off p;split at h
   case h_2=>exact h.elim
   rename_i t cs hk;obtain⟨g',ty',cw,d,bu⟩:=uD he p;obtain⟨g,ty,vs,hL,hr,an⟩:=lM ht.tl hk;rw[hL] at d;injection d with d
   injection d with q1 q2 q3
   subst q1 q2 q3;split at h
   case h_2=>exact h.elim
   rename_i hl;have w:=(hr.drop off).take n;have am:((vs.drop off).take n).length=n:=by rw[w.len];exact cn hl
   have be:∀(i:Nat) (u:Value),((vs.drop off).take n)[i]?=some u->vs[off+i]?=some u:=by
    intro i u hu;rw[abY] at hu;split at hu
    case isFalse=>cases hu
    rwa [abS] at hu
   rcases bu with e2 | ⟨b,o,j,e2,e3⟩
   ·rw[e2];exact⟨_,am,.inr (.inr (.inr ⟨k,g,ty,vs,off,hL,an.2.2,rfl,fun i u hu=>by rw[Nat.add_zero];exact be i u hu⟩)),_,fq w,h⟩
   ·injection e3 with e3
    injection e3 with e3
    injection e3 with q1 q2 q3
    subst q1 q2;rw[e2];exact⟨_,am,.inr (.inr (.inr ⟨k,g,ty,vs,o,hL,an.2.2,rfl,fun i u hu=>be i u hu⟩)),_,fq w,h⟩
  ·rename_i k j off p;split at h
   case h_2=>exact h.elim
   rename_i t sz els hk;obtain⟨es,h1,h2,h3⟩:=h;obtain⟨ad,t',ar,m,c,bs,d,e2⟩:=xO he p;obtain⟨v,xs,e3,_,hr⟩:=mR ht.tl hk;rw[e2] at e3;injection e3 with e3
   injection e3 with q1 q2 q3 q4 q5
   subst q2 q3 q5;obtain⟨vs,k1,k2,k3,k4⟩:=hr.at h1;have w:aB F L ((es.drop off).take n) ((vs.drop off).take n):=((k3.drop off).take n).lift;rw[d];refine⟨_,by rw[w.len];exact cn h2,.inr (.inl ⟨k,_,_,_,_,_,ad,c,e2,rfl,rfl,fun i u hu=>?_⟩),_,fq w,h3⟩;rw[abY] at hu;split at hu
   case isFalse=>cases hu
   rw[abS] at hu;rw[Nat.add_assoc];exact k4 _ _ hu
  ·exact h.elim
 case loadR agg n x =>
  split at h
  ·rename_i k off p;obtain⟨d,_⟩:=jx he p;rw[d];split at h
   case h_2=>exact h.elim
   rename_i t cs hk;obtain⟨g,ty,vs,hL,hr,an⟩:=lM ht.tl hk;split at h
   case h_2=>exact h.elim
   rename_i hl;have w:=(hr.drop off).take n;simp only[hL];rw[py an.2.2 (jF (by rw[w.len];exact cn hl))];exact⟨_,fq w,h⟩
  ·rename_i es off p;split at h
   case h_2=>exact h.elim
   rename_i hl;obtain⟨b,o,j,vs,d,hp,ho,hr⟩:=tw he p;have w:aB F L ((es.drop off).take n) ((vs.drop off).take n):=((hr.drop off).take n).lift;rcases d with⟨d,rfl⟩ | d
   ·rw[d];exact⟨_,by rw[w.len];exact cn hl,.inl (lC (es:=es) hp),_,fq w,h⟩
   ·rw[d];exact⟨_,by rw[w.len];exact cn hl,.inl (lC (es:=es) hp),_,fq w,h⟩
  ·rename_i k off p;split at h
   case h_2=>exact h.elim
   rename_i t cs hk;obtain⟨g',ty',cw,d,bu⟩:=uD he p;obtain⟨g,ty,vs,hL,hr,an⟩:=lM ht.tl hk;rw[hL] at d;injection d with d
   injection d with q1 q2 q3
   subst q1 q2 q3;split at h
   case h_2=>exact h.elim
   rename_i hl;have w:=(hr.drop off).take n;have am:((vs.drop off).take n).length=n:=by rw[w.len];exact cn hl
   have be:∀(i:Nat) (u:Value),((vs.drop off).take n)[i]?=some u->vs[off+i]?=some u:=by
    intro i u hu;rw[abY] at hu;split at hu
    case isFalse=>cases hu
    rwa [abS] at hu
   rcases bu with e2 | ⟨b,o,j,e2,e3⟩
   ·rw[e2];exact⟨_,am,.inr (.inr (.inr ⟨k,g,ty,vs,off,hL,an.2.2,rfl,fun i u hu=>by rw[Nat.add_zero];exact be i u hu⟩)),_,fq w,h⟩
   ·injection e3 with e3
    injection e3 with e3
    injection e3 with q1 q2 q3
    subst q1 q2;rw[e2];exact⟨_,am,.inr (.inr (.inr ⟨k,g,ty,vs,o,hL,an.2.2,rfl,fun i u hu=>be i u hu⟩)),_,fq w,h⟩
  ·rename_i k j off p;split at h
   case h_2=>exact h.elim
   rename_i t sz els hk;obtain⟨es,h1,h2,h3⟩:=h;obtain⟨ad,t',ar,m,c,bs,d,e2⟩:=xO he p;obtain⟨v,xs,e3,_,hr⟩:=mR ht.tl hk;rw[e2] at e3;injection e3 with e3
   injection e3 with q1 q2 q3 q4 q5
   subst q2 q3 q5;obtain⟨vs,k1,k2,k3,k4⟩:=hr.at h1;have w:aB F L ((es.drop off).take n) ((vs.drop off).take n):=((k3.drop off).take n).lift;rw[d];refine⟨_,by rw[w.len];exact cn h2,.inr (.inl ⟨k,_,_,_,_,_,ad,c,e2,rfl,rfl,fun i u hu=>?_⟩),_,fq w,h3⟩;rw[abY] at hu;split at hu
   case isFalse=>cases hu
   rw[abS] at hu;rw[Nat.add_assoc];exact k4 _ _ hu
  ·exact h.elim
 case loadD agg n x =>
  split at h
  ·rename_i k off p;obtain⟨d,_⟩:=jx he p;rw[d];split at h
   case h_2=>exact h.elim
   rename_i t cs hk;obtain⟨g,ty,vs,hL,hr,an⟩:=lM ht.tl hk;split at h
   case h_2=>exact h.elim
   rename_i hl;have w:=(hr.drop off).take n;simp only[hL];rw[py an.2.2 (jF (by rw[w.len];exact cn hl))];exact⟨_,fq w,h⟩
  ·rename_i es off p;split at h
   case h_2=>exact h.elim
   rename_i hl;obtain⟨b,o,j,vs,d,hp,ho,hr⟩:=tw he p;have w:aB F L ((es.drop off).take n) ((vs.drop off).take n):=((hr.drop off).take n).lift;rcases d with⟨d,rfl⟩ | d
   ·rw[d];exact⟨_,by rw[w.len];exact cn hl,.inl (lC (es:=es) hp),_,fq w,h⟩
   ·rw[d];exact⟨_,by rw[w.len];exact cn hl,.inl (lC (es:=es) hp),_,fq w,h⟩
  ·exact h.elim
 case gload g =>
  split at h
  case h_2=>exact h.elim
  rename_i k hg;obtain⟨v,t,fr,h1,h2⟩:=J4 ht.glob hg;exact⟨v,t,fr,h1,.opq k,⟨_,rfl,by simp only[Rel];exact h2⟩,h⟩
 case loadF agg n x =>
  split at h
  ·rename_i es off p;split at h
   case h_2=>exact h.elim
   rename_i hl;obtain⟨b,o,j,vs,d,hp,ho,hr⟩:=tw he p;have w:aB F L ((es.drop off).take n) ((vs.drop off).take n):=((hr.drop off).take n).lift;rcases d with⟨d,rfl⟩ | d
   ·rw[d];exact⟨_,by rw[w.len];exact cn hl,.inl (lC (es:=es) hp),_,fq w,h⟩
   ·rw[d];exact⟨_,by rw[w.len];exact cn hl,.inl (lC (es:=es) hp),_,fq w,h⟩
  ·exact h.elim
 case loadK key agg n x =>
  split at h
  ·rename_i k off p;obtain⟨d,_⟩:=jx he p;rw[d];split at h
   case h_2=>exact h.elim
   rename_i hb;simp only[hb];split at h
   case h_2=>exact h.elim
   rename_i t cs hk;obtain⟨g,ty,vs,hL,hr,an⟩:=lM ht.tl hk;split at h
   case h_2=>exact h.elim
   rename_i hl;have w:=(hr.drop off).take n;simp only[hL];rw[py an.2.2 (jF (by rw[w.len];exact cn hl))];exact⟨_,fq w,h⟩
  ·exact h.elim
 case mkif t x =>
  split at h
  ·rename_i k n p;obtain⟨d,e2⟩:=gW he p;rw[d];exact⟨.ifc t (.int k n),⟨_,rfl,by simp only[Rel];exact⟨_,rfl,rfl,e2⟩⟩,h⟩
  ·rename_i b p;rw[jq he p];exact⟨.ifc t (.bool b),⟨_,rfl,by simp only[Rel];exact⟨_,rfl,rfl⟩⟩,h⟩
  ·rename_i s p;obtain⟨d,e2⟩:=xN he p;rw[d];exact⟨.ifc t (.str s),⟨_,rfl,by simp only[Rel];exact⟨_,rfl,rfl,e2⟩⟩,h⟩
  ·rename_i es off p;obtain⟨b,o,j,vs,d,hp,ho,hr⟩:=tw he p;rcases d with⟨d,rfl⟩ | d
   ·rw[d];exact⟨.ifc t (.pt es off),⟨_,rfl,by simp only[Rel];exact⟨_,rfl,b,o,vs,rfl,hp,ho,hr⟩⟩,h⟩
   ·rw[d];exact⟨.ifc t (.pt es off),⟨_,rfl,by simp only[Rel];exact⟨_,rfl,b,o+j,vs,by rw[dI],hp,ho,hr⟩⟩,h⟩
  ·rename_i cs p;split at h
   case h_2=>exact h.elim
   rename_i hp;rw[fP] at h;obtain⟨vs,d,e2⟩:=Cz he p;rw[d];exact⟨.ifc t (.agg cs),⟨_,rfl,by simp only[Rel];exact⟨_,rfl,vs,rfl,jI hp e2⟩⟩,h⟩
  ·exact h.elim
 case nilck x =>
  split at h
  ·rename_i k off p;obtain⟨d,e2⟩:=jx he p;rw[d];exact⟨.own k off,⟨rfl,e2⟩,h⟩
  ·rename_i es off p;obtain⟨b,o,j,vs,d,hp,ho,hr⟩:=tw he p;rcases d with⟨d,rfl⟩ | d
   ·rw[d];exact⟨.pt es off,⟨b,o,0,vs,.inl ⟨rfl,rfl⟩,hp,ho,hr⟩,h⟩
   ·rw[d];exact⟨by simp,.pt es off,⟨b,o,j,vs,.inr rfl,hp,ho,hr⟩,h⟩
  ·rename_i k off p;obtain⟨g,t,cs,d,e2⟩:=uD he p;rcases e2 with e2 | ⟨b,o,j,e2,e3⟩
   ·rw[e2];exact⟨.ownv k off,⟨_,.inl rfl,by simp only[Rel];exact⟨g,t,cs,d,rfl⟩⟩,h⟩
   ·rw[e2];exact⟨by simp,.ownv k off,⟨_,.inr ⟨b,o,j,rfl,rfl⟩,by simp only[Rel];exact⟨g,t,cs,d,e3.symm⟩⟩,h⟩
  ·rename_i f fi ca p;obtain⟨cy,cM,d,h1,h2⟩:=vQ he p;rw[d];exact⟨.fn f fi ca,⟨_,rfl,by simp only[Rel];exact⟨cy,cM,rfl,h1,h2⟩⟩,h⟩
  ·rename_i nm c p;split at h
   case h_2=>exact h.elim
   rename_i t c;obtain⟨u,d,hr⟩:=yP he p;have dk:=hr;simp only[Rel] at hr;obtain⟨u',rfl,hu⟩:=hr;rw[d];exact⟨h.1,.mval nm (.ifc t c),⟨_,rfl,by simp only[Rel];exact⟨_,rfl,_,rfl,hu⟩⟩,h.2⟩
  ·exact h.elim
 case bin op x y =>
  split at h
  ·rename_i k a k' b p hy;obtain⟨d,w1⟩:=gW he p;obtain⟨e2,w2⟩:=gW he hy;rw[d,e2];split at h
   ·rename_i bp;simp only[bp];exact KT w1 h fun v hv hV=>⟨_,yO hv,hV⟩
   ·rename_i bp;simp only[bp];split at h
    case h_2=>exact h.elim
    rename_i hk;simp only[hk];exact Ja w1 h fun v hv hV=>⟨_,yO hv,hV⟩
  ·rename_i a b p hy;rw[(xN he p).1,(xN he hy).1];exact Jb h fun v hv hV=>⟨_,yO hv,hV⟩
  ·exact h.elim
 case eqB neg x y =>
  split at h
  case h_2=>exact h.elim
  rename_i a b p hy;rw[jq he p,jq he hy];exact⟨_,gI,h⟩
 case eqS neg x y =>
  have hy:isNil y=true->ev ρ y=.v (.slice none 0 0):=by
   unfold isNil;split
   ·intro _;rfl
   ·intro e;cases e
  split at h
  ·rename_i els h1 p;obtain⟨a,c,sz,d,e2,e3,e4,e5⟩:=Tc he p;rw[d,hy h1];refine⟨_,gI,h _ fun ba=>?_⟩;cases a with
   | none=>exact o5 (e4 rfl).1 ba
   | some a=>rfl
  ·rename_i els h1 p;obtain⟨a,sz,d,_⟩:=CC he p;rw[d,hy h1];exact⟨_,gI,h⟩
  ·rename_i h1 p;rw[uz he p,hy h1];exact⟨_,gI,h⟩
  ·exact h.elim
 case eqN neg x =>
  split at h
  ·rename_i t c p;obtain⟨u,d,_⟩:=OO he p;rw[d];exact⟨_,gI,h⟩
  ·rename_i k p;split at h
   case h_2=>exact h.elim
   rename_i b hb;obtain⟨v,d,h1⟩:=G8 he p;rw[d];obtain⟨q1,q2⟩:=J5 h1 hb;cases b with
   | true=>rw[q1 rfl];exact⟨_,gI,h⟩
   | false=>obtain⟨t,u,rfl⟩:=q2 rfl;exact⟨_,gI,h⟩
  ·exact h.elim
 case eqA neg ks x y =>
  split at h
  case h_2=>exact h.elim
  rename_i cs ds p hy;split at h
  case h_2=>exact h.elim
  rename_i b hb;obtain⟨vs,d,h1⟩:=Cz he p;obtain⟨us,e2,h2⟩:=Cz he hy;simp only[d,e2];rw[OW hb h1 h2];exact⟨_,gI,h⟩
 case un op x =>
  split at h
  ·rename_i b p;rw[jq he p];exact⟨_,gI,h⟩
  ·rename_i k n p;rw[(gW he p).1];exact⟨⟨_,mT (wf_wrap _ _),h.out⟩⟩
  ·rename_i k n p;rw[(gW he p).1];exact⟨_,mT (wf_wrap _ _),h⟩
  ·exact h.elim
 case conv k x =>
  split at h
  case h_2=>exact h.elim
  rename_i k' n p;rw[(gW he p).1];exact⟨⟨_,mT (wf_wrap _ _),h.out⟩⟩
 case mkfn f fi ca=>exact⟨.fn f _ _,⟨_,rfl,by simp only[Rel];exact⟨_,_,rfl,eF he fi,eF he ca⟩⟩,h⟩
 case slc sz x lo hi =>
  split at h
  case h_2=>exact h.elim
  rename_i els p;split at h
  case h_2=>exact h.elim
  rename_i l r hl hh;obtain⟨h1,h2,h3,h4,h5⟩:=h;obtain⟨a,c,ar,d,e2,e3,e4,e5⟩:=lV he p;rw[d];simp only[G9 he hl,G9 he hh];refine⟨h1,h2,by omega,_,?_,h5⟩;have am:((els.drop l.toNat).take (r.toNat-l.toNat)).length=r.toNat-l.toNat:=by simp;omega
  have hs:els≠[]->ar=sz:=by
   intro ba;obtain⟨es,bz⟩:=List.exists_mem_of_ne_nil _ ba;obtain⟨i,hi⟩:=abw.1 bz;obtain⟨vs,k1,_,_,k4⟩:=oC.1 e5 i es hi;rw[<-k1,k4.len,h4 es bz]
  have key:=KV (l:=l.toNat) (h:=r.toNat) e5 e4 (by omega) (by omega) e2;unfold sU;have:=OV (F:=F) (L:=L) (els:=(els.drop l.toNat).take (r.toNat-l.toNat)) (a:=if c=l.toNat then a else a.map (·.add (l.toNat*sz))) (c:=c-l.toNat) (sz:=sz) (by rw[am];omega) (by rw[am];omega) ?_ ?_
  ·rw[am] at this;exact this
  ·intro hn;have ha:a=none:=by
    split at hn
    ·exact hn
    ·cases a with
     | none=>rfl
     | some a=>simp at hn
   obtain⟨q1,q2⟩:=e4 ha;subst q1;simp;omega
  ·by_cases ba:els=[]
   ·subst ba;simp only[List.drop_nil,List.take_nil,gU]
   ·rw[hs ba] at key;exact key
 case fieldA off x =>
  split at h
  ·rename_i k o p;obtain⟨d,e2⟩:=jx he p;rw[d];exact⟨.own k (o+off),⟨rfl,e2⟩,h⟩
  ·rename_i es o p;obtain⟨b,q,j,vs,d,hp,ho,hr⟩:=tw he p;have cd:∀j',q+j'=q+j+off->OG F b (q+j') (o+off) vs:=by
    intro j' hj;obtain⟨cb,ce,t,fr,k1,k2,k3⟩:=hp;exact⟨cb,ce,t,fr,k1,by omega,k3⟩
   rcases d with⟨d,rfl⟩ | d
   ·rw[d];exact⟨.pt es (o+off),⟨b,q,off,vs,.inr rfl,cd _ (by omega),ho,hr⟩,h⟩
   ·rw[d];exact⟨.pt es (o+off),⟨b,q,j+off,vs,.inr rfl,cd _ (by omega),ho,hr⟩,h⟩
  ·rename_i k j o p;obtain⟨ad,t,sz,n,c,xs,d,e2⟩:=xO he p;rw[d];exact⟨.elr k j (o+off),⟨ad,t,sz,n,c,xs,by rw[Nat.add_assoc],e2⟩,h⟩
  ·rename_i k o p;obtain⟨g,t,cs,d,e2⟩:=uD he p;rcases e2 with e2 | ⟨b,q,j,e2,e3⟩
   ·rw[e2];exact⟨.ownv k (o+off),⟨_,.inr ⟨g,o,off,rfl,rfl⟩,by simp only[Rel];exact⟨g,t,cs,d,rfl⟩⟩,h⟩
   ·rw[e2];injection e3 with e3
    injection e3 with e3
    injection e3 with e4 e5
    subst e4;exact⟨.ownv k (o+off),⟨_,.inr ⟨g,q,j+off,rfl,rfl⟩,by simp only[Rel];exact⟨g,t,cs,d,by rw[e5,Nat.add_assoc]⟩⟩,h⟩
  ·exact h.elim
 case idxA sz x i =>
  split at h
  ·rename_i els k i p hi;obtain⟨es,h1,h2,h3,h4⟩:=h;obtain⟨a,c,ar,d,e2,e3,e4,e5⟩:=lV he p;rw[d,(gW he hi).1];have bt:i.toNat<els.length:=(aa6.1 h2).1;obtain⟨vs,k1,⟨ad,ce,t,fr,e,hb,cz,hv⟩,k3,k4⟩:=oC.1 e5 _ _ h2;have hs:ar=sz:=by rw[<-k1,k4.len,cn h3]
   subst hs;subst e;refine⟨by simp,h1,by omega,_,KX hb cz (fun i v hi=>?_) k3 k4,h4⟩;have:=hv i v hi;simpa using this
  ·rename_i k i' i p hi;split at h
   case h_2=>exact h.elim
   rename_i t ar els hk;split at h
   case h_2=>exact h.elim
   rename_i cr;have:=aa5 cr;subst this;obtain⟨h1,h2,h3⟩:=h;obtain⟨a,c,t',ar,n,bs,d,e2⟩:=F5 he (CB p);obtain⟨v,xs,e3,⟨_,a',c',q6,q7⟩,hr⟩:=mR ht.tl hk;rw[e2] at e3;injection e3 with e3
   injection e3 with q1 q2 q3 q4 q5
   subst q2 q3 q4;rw[d,(gW he hi).1];cases a with
   | none =>
    rw[<-q1] at q6;injection q6 with q6
    have:=q7 q6.symm;omega
   | some ad=>exact⟨by simp,h1,h2,.elr k i.toNat 0,⟨ad,_,_,_,c,_,by simp,e2⟩,h3⟩
  ·exact h.elim
 case extr x i =>
  split at h
  case h_2=>exact h.elim
  rename_i cs p;split at h
  case h_2=>exact h.elim
  rename_i v hv;obtain⟨vs,d,hr⟩:=OL he p;rw[d];have bt:i<vs.length:=by rw[hr.len];exact(aa6.1 hv).1
  simp only[aa4 bt];exact⟨_,kX (hr.at hv (aa4 bt)),h⟩
 case len x =>
  have wl:∀n:Nat,n<=maxLen->(Lit.int .i64 (n:Int)).wf=true:=by
   intro n hn;simp only[maxLen] at hn;simp[Lit.wf,IntKind.min,IntKind.max,IntKind.bits,IntKind.signed];omega
  split at h
  ·rename_i els p;obtain⟨a,c,ar,d,e2,e3,e4,e5⟩:=lV he p;rw[d];exact⟨_,mT (wl _ e3),h⟩
  ·rename_i k p;split at h
   case h_2=>exact h.elim
   rename_i t ar els hk;obtain⟨a,c,t',ar,n,bs,d,e2⟩:=F5 he (CB p);obtain⟨v,xs,e3,⟨hm,_⟩,hr⟩:=mR ht.tl hk;rw[e2] at e3;injection e3 with e3
   injection e3 with q1 q2 q3 q4 q5
   subst q4;rw[d];exact⟨_,mT (wl _ hm),h⟩
  ·rename_i k p;obtain⟨n,h1,h2,h3⟩:=h;obtain⟨v,d,e2⟩:=G8 he (OT p);obtain⟨a,c,rfl⟩:=NY e2 h1;rw[d];exact⟨_,mT (wl _ (by simpa[maxLen] using h2)),h3⟩
  ·exact h.elim
 case mlook str ok z x i =>
  split at h
  case h_2=>exact h.elim
  rename_i k p;split at h
  case h_2=>exact h.elim
  rename_i es hk;obtain⟨g,cs,d,e2⟩:=He he p;obtain⟨g',vs,e3,hE⟩:=KY ht.tl hk;rw[e2] at e3;injection e3 with e3
  injection e3 with q1 q2 q3
  subst q1 q3;rw[d];refine⟨k,cs,e2,hE.isMap,⟨?_⟩⟩;rcases h.out with⟨c,h1,h2⟩ | ⟨h1,h2⟩
  ·obtain⟨j,v,h3,h4⟩:=yQ (Hf he) 0 hE h1;refine .inl ⟨j,v,h3,?_⟩;have h5:Rel F L c v:=h4.lift;cases ok with
   | true=>exact⟨_,Bu h5,h2⟩
   | false=>exact⟨_,kX h5,h2⟩
  ·refine .inr ⟨yQ (Hf he) 0 hE h1,?_⟩;have h5:Rel F L (cv z) z:=Td z;cases ok with
   | true=>exact⟨_,Bu h5,h2⟩
   | false=>exact⟨_,U9 z,h2⟩
 case mm mx args =>
  split at h
  case h_2=>exact h.elim
  rename_i k a l hl;split at h
  case h_2=>exact h.elim
  rename_i m hm
  match args,hl with
  | x::args,hl =>
   simp only[abe,List.cons.injEq] at hl;obtain⟨p,rfl⟩:=hl;simp only[abe,(gW he p).1,KU he mx args hm];exact⟨_,mT h.1,h.2⟩
end
theorem TL.aap (L:TL) (k:Nat) (o:TO) (j:Nat):(L.set k o).get j=if j=k then some o else L.get j:=by
 induction L with
 | nil =>
  simp only[TL.set,TL.get];cases h:Nat.beq k j with
  | true=>have:=aa5 h;simp[this]
  | false=>have:=gO h;simp;omega
 | cons p l a =>
  obtain⟨i,q⟩:=p;simp only[TL.set];cases h:Nat.beq i k with
  | true =>
   have e:=aa5 h;subst e;simp only[TL.get];cases h2:Nat.beq i j with
   | true=>have:=aa5 h2;simp[this]
   | false=>have:=gO h2;simp;omega
  | false =>
   have b:=gO h;simp only[];cases h3:Nat.ble i k with
   | true =>
    simp only[TL.get];cases h2:Nat.beq i j with
    | true=>have:=aa5 h2;simp;omega
    | false=>simpa using a
   | false =>
    simp only[TL.get];cases h2:Nat.beq k j with
    | true=>have:=aa5 h2;simp[this]
    | false =>
     have:=gO h2;simp only[];rw[fo (by omega)]
theorem TL.aau (L:TL) (k j:Nat):(L.del k).get j=if j=k then none else L.get j:=by
 induction L with
 | nil=>simp[TL.del,TL.get]
 | cons p l b =>
  obtain⟨i,q⟩:=p;simp only[TL.del];cases h:Nat.beq i k with
  | true =>
   have e:=aa5 h;subst e;simp only[TL.get,b]
   by_cases a:j=i
   ·simp[a]
   ·have:Nat.beq i j=false:=by cases h2:Nat.beq i j with | true=>exact o5 (aa5 h2).symm a | false=>rfl
    simp[a,this]
  | false =>
   have c:=gO h;simp only[TL.get];cases h2:Nat.beq i j with
   | true=>have:=aa5 h2;simp;omega
   | false=>simpa using b
theorem uF:∀(l:List TO) (k j:Nat),TL.get (qI k l) j=if k<=j then l[j-k]? else none
 | [],k,j=>by simp[qI,TL.get]
 | o::l,k,j=>by
  simp only[qI,TL.get];cases h:Nat.beq k j with
  | true=>have:=aa5 h;subst this;simp
  | false =>
   have a:=gO h;simp only[uF l (k+1) j]
   by_cases h1:k<=j
   ·rw[eu (by omega),eu h1,show j-k=(j-(k+1))+1 by omega,abv]
   ·rw[fo (by omega),fo h1]
theorem cG (l:List TO) (j:Nat):TL.get (cT l) j=if 1000<=j then l[j-1000]? else none:=uF l 1000 j
theorem yR:∀{L:TL}{ks:List Nat}{l:List TO},L.sub ks=some l->l.length=ks.length/\∀(i:Nat) (k:Nat),ks[i]?=some k->L.get k=l[i]?
 | L,[],l,h=>by simp only[TL.sub,aa1] at h;subst h;simp
 | L,k::ks,l,h=>by
  simp only[TL.sub] at h;split at h
  case h_2=>cases h
  rename_i o d h1 h2;injection h with h
  subst h;obtain⟨c,a⟩:=yR h2;refine⟨by simp[c],fun i b hi=>?_⟩;cases i with
  | zero=>simp at hi;subst hi;simpa using h1
  | succ i=>simp at hi;simpa using a i b hi
theorem rM:∀(ks:List Nat) (L:TL) (j:Nat),(L.aas ks).get j=if j∈ks then none else L.get j
 | [],L,j=>by simp[TL.aas]
 | k::ks,L,j=>by
  simp only[TL.aas,rM ks,TL.aau,abd]
  by_cases h1:j=k<;>by_cases h2:j∈ks<;>simp[h1,h2]
theorem oH:∀(ko:List Nat) (l:List TO) (L:TL) (j:Nat),ko.Nodup->ko.length=l.length ->
  ((L.puts ko l).get j=L.get j/\j∉ko)\/∃i,ko[i]?=some j/\(L.puts ko l).get j=l[i]?/\i<l.length
 | [],l,L,j,_,h=>by
  refine .inl ⟨?_,by simp⟩;cases l<;>rfl
 | k::ko,[],L,j,_,h=>by simp at h
 | k::ko,o::l,L,j,b,h=>by
  simp only[abo,Nat.add_right_cancel_iff] at h;rw[List.nodup_cons] at b;simp only[TL.puts];rcases oH ko l (L.set k o) j b.2 h with⟨h1,h2⟩ | ⟨i,h1,h2,h3⟩
  ·rw[TL.aap] at h1
   by_cases a:j=k
   ·subst a;rw[eu rfl] at h1;exact .inr ⟨0,by simp,by simpa using h1,by simp⟩
   ·rw[fo a] at h1;exact .inl ⟨h1,by simp[a,h2]⟩
  ·exact .inr ⟨i+1,by simpa using h1,by simpa using h2,by simp;omega⟩
theorem qP (g:C->C):∀(L:TL) (k:Nat),(TL.aaq g L).get k=(L.get k).map (TO.aaq g)
 | [],k=>rfl
 | (j,o)::l,k=>by
  simp only[TL.aaq,TL.get];cases h:Nat.beq j k with
  | true=>rfl
  | false=>exact qP g l k
section
variable {P:Program}{G:Nat->Option (Nat×TypeId)}{F:aA}{L:Loc}{ρ:Env}{M:TL}{τ:aG}
theorem CD (d:Option Nat) (c:C) (τ:aG) (t:Nat):bH d c τ t=match d with | some k=>if t=k then c else τ t | none=>τ t:=by
 cases d with
 | none=>rfl
 | some k =>
  simp only[bH];cases h:Nat.beq t k with
  | true=>have:=aa5 h;simp[this]
  | false=>have:=gO h;simp[this]
theorem OX {F:aA}{L:Loc}{τ:aG}{ρ:Env}(h:∀j,aN F L (τ j) (ρ j)) {c:C}{sv:SV}(a:aN F L c sv) (d:Option Nat):∀j,aN F L (bH d c τ j) (put d sv ρ j):=by
 intro j;rw[CD,put_eq];cases d with
 | none=>exact h j
 | some k =>
  simp only[];split
  ·exact a
  ·exact h j
theorem TS.put (a:TS G F L ρ M τ) {c:C}{sv:SV}(b:aN F L c sv) (d:Option Nat):TS G F L (put d sv ρ) M (bH d c τ):=⟨a.tl,OX a.env b d,a.kp,a.glob⟩
theorem eL {F:aA}{L:Loc}{a:Option TO}{b:Option Own}(h:yL F L a b):(a=none/\b=none)\/∃o p,a=some o/\b=some p/\cZ F L o p:=by
 cases a<;>cases b<;>simp only[yL] at h
 ·exact .inl ⟨rfl,rfl⟩
 ·exact .inr ⟨_,_,rfl,rfl,h⟩
theorem TS.new {F':aA}(c:F.le F') (b:TS G F L ρ M τ) {k:Nat}(l:L.get k=none) {o:Own}{to:TO}(n:cZ F' (L.set k o) to o):TS G F' (L.set k o) ρ (M.set k to) τ:=by
 have a:Ext L (L.set k o):=by
  intro j p e;refine⟨p,?_,Own.aav p⟩;rw[Loc.aap,fo (by rintro rfl;rw[l] at e;cases e)];exact e
 refine⟨fun j=>?_,fun j=>(b.env j).ext c a,fun j g t e=>?_,b.glob.mono c⟩
 ·rw[TL.aap,Loc.aap];split
  ·exact n
  ·rcases eL (b.tl j) with⟨d,f⟩ | ⟨p,q,d,f,m⟩
   ·rw[d,f];trivial
   ·rw[d,f];exact m.ext c a
 ·obtain⟨cs,h⟩:=b.kp j g t e;exact⟨cs,by rw[Loc.aap,fo (by rintro rfl;rw[l] at h;cases h)];exact h⟩
theorem TS.mono {F':aA}(b:F.le F') (a:TS G F L ρ M τ):TS G F' L ρ M τ:=⟨a.tl.mono b,fun j=>(a.env j).mono b,a.kp,a.glob.mono b⟩
theorem TS.turn (c:TS G F L ρ M τ) {k:Nat}{o o':Own}(m:L.get k=some o) (r:Own.like o o') (b:∀g t cs,o=.box g t cs->∃cs',o'=.box g t cs') {to:TO}(u:∀L',Ext L L'->cZ F L' to o') :
  TS G F (L.set k o') ρ (M.set k to) τ:=by
 have a:Ext L (L.set k o'):=by
  intro j p e;rw[Loc.aap];split
  ·rename_i f;subst f;rw[m] at e;injection e with e
   subst e;exact⟨o',rfl,r⟩
  ·exact⟨p,e,Own.aav p⟩
 refine⟨fun j=>?_,fun j=>(c.env j).ext (aA.le_refl F) a,fun j g t e=>?_,c.glob⟩
 ·rw[TL.aap,Loc.aap];split
  ·exact u _ a
  ·rcases eL (c.tl j) with⟨d,l⟩ | ⟨p,q,d,l,n⟩
   ·rw[d,l];trivial
   ·rw[d,l];exact n.ext (aA.le_refl F) a
 ·obtain⟨cs,h⟩:=c.kp j g t e;rw[Loc.aap];split
  ·rename_i f;subst f;rw[m] at h;injection h with h
   obtain⟨cs',s⟩:=b g t cs h;exact⟨cs',by rw[s]⟩
  ·exact⟨cs,h⟩
theorem oI {L':Loc}{k:Nat}(a:∀g t cs,L.get k≠some (.box g t cs)) (d:∀j,j≠k->∀o,L.get j=some o->∃o',L'.get j=some o'/\Own.like o o') {F':aA}(b:F.le F') (c:C) (v:Value) (l:c.leaf=true)
  (h:Rel F L c v):Rel F' L' (gG k c) v:=by
 cases c<;>simp only[C.leaf,abl] at l<;>simp only[gG]
 case rw j =>
  cases m:Nat.beq j k with
  | true=>simp only[Rel]
  | false=>exact bP b (fun f e=>by
    rcases e with⟨off,e⟩ | e | e
    ·cases e
    ·injection e with e;subst e;exact d j (gO m)
    ·cases e) rfl h
 case own j off =>
  refine bP b (fun f e=>?_) rfl h;rcases e with⟨off,e⟩ | e | e
  ·injection e with e e2
   subst e;simp only[Rel] at h;obtain⟨g,t,cs,h1,_⟩:=h;exact d j (by rintro rfl;exact a _ _ _ h1)
  ·cases e
  ·cases e
 case elr=>exact h.elim
 case mpr j =>
  refine bP b (fun f e=>?_) rfl h;rcases e with⟨off,e⟩ | e | e
  ·cases e
  ·cases e
  ·injection e with e
   subst e;simp only[Rel] at h;obtain⟨g,cs,h1,_⟩:=h;exact d j (by rintro rfl;exact a _ _ _ h1)
 all_goals
  exact bP b (fun f e=>by rcases e with⟨off,e⟩ | e | e<;>cases e) rfl h
theorem pL {L':Loc}{k:Nat}(d:∀g t cs,L.get k≠some (.box g t cs)) (l:∀j,j≠k->∀o,L.get j=some o->∃o',L'.get j=some o'/\Own.like o o') {F':aA}(f:F.le F') (c:C) (sv:SV) (q:c.leaf=true)
  (h:aN F L c sv):aN F' L' (gG k c) sv:=by
 cases c<;>simp only[C.leaf,abl] at q<;>simp only[gG]
 case rw j =>
  cases p:Nat.beq j k with
  | true=>trivial
  | false=>exact dX f (fun n e=>by
    rcases e with⟨off,e⟩ | ⟨off,e⟩ | e | ⟨a,b,e⟩ | e<;>first | cases e;done | skip
    injection e with e;subst e;exact l j (gO p)) rfl h
 case elr j a b =>
  cases p:Nat.beq j k with
  | true=>trivial
  | false=>exact dX f (fun n e=>by
    rcases e with⟨off,e⟩ | ⟨off,e⟩ | e | ⟨a,b,e⟩ | e<;>first | cases e;done | skip
    injection e with e;subst e;exact l j (gO p)) rfl h
 case own j off =>
  refine dX f (fun n e=>?_) rfl h;obtain⟨_,g,t,cs,h1⟩:=h;rcases e with⟨off,e⟩ | ⟨off,e⟩ | e | ⟨a,b,e⟩ | e<;>first | cases e;done | skip
  injection e with e
  subst e;exact l j (by rintro rfl;exact d _ _ _ h1)
 case ownv j off =>
  refine dX f (fun n e=>?_) rfl h;obtain⟨v,_,m⟩:=h;simp only[Rel] at m;obtain⟨g,t,cs,h1,_⟩:=m;rcases e with⟨off,e⟩ | ⟨off,e⟩ | e | ⟨a,b,e⟩ | e<;>first | cases e;done | skip
  injection e with e
  subst e;exact l j (by rintro rfl;exact d _ _ _ h1)
 case mpr j =>
  refine dX f (fun n e=>?_) rfl h;obtain⟨v,_,m⟩:=h;simp only[Rel] at m;obtain⟨g,cs,h1,_⟩:=m;rcases e with⟨off,e⟩ | ⟨off,e⟩ | e | ⟨a,b,e⟩ | e<;>first | cases e;done | skip
  injection e with e
  subst e;exact l j (by rintro rfl;exact d _ _ _ h1)
 all_goals
  exact dX f (fun n e=>by rcases e with⟨off,e⟩ | ⟨off,e⟩ | e | ⟨a,b,e⟩ | e<;>cases e) rfl h
theorem cZ.aaL {L':Loc}{k:Nat}(a:∀g t cs,L.get k≠some (.box g t cs)) (e:∀j,j≠k->∀o,L.get j=some o->∃o',L'.get j=some o'/\Own.like o o') {F':aA}(b:F.le F'):∀{o:TO}{p:Own},cZ F L o p->cZ F' L' (o.aaq (C.kill k)) p
 | .box t cs,.box g d l,r=>⟨r.1,r.2.map fun c _ v h=>Rel.mp (oI a e b) 3 h⟩
 | .row t sz els,.row v d f n xs,r=>⟨r.1,r.2.1,r.2.2.1,r.2.2.2.1,r.2.2.2.2.mono b⟩
 | .box _ _,.row ..,r=>r.elim
 | .row ..,.box ..,r=>r.elim
 | .map _,.row ..,r=>r.elim
 | .map es,.box g d l,r=>⟨r.1,r.2.mono b⟩
theorem TS.aaL (b:TS G F L ρ M τ) {k:Nat}{o':Own}(a:∀g t cs,L.get k≠some (.box g t cs)) {to:TO}(n:cZ F (L.set k o') to o') :
  TS G F (L.set k o') ρ ((M.aaq (C.kill k)).set k to) (fun j=>(τ j).kill k):=by
 have c:∀j,j≠k->∀o,L.get j=some o->∃p,(L.set k o').get j=some p/\Own.like o p:=fun j m o e=>⟨o,by rw[Loc.aap,fo m];exact e,Own.aav o⟩;refine⟨fun j=>?_,fun j=>aN.mp (oI a c (aA.le_refl F)) (pL a c (aA.le_refl F)) 3 (b.env j),fun j g t e=>?_,b.glob⟩
 ·rw[TL.aap,Loc.aap,qP];split
  ·exact n
  ·rcases eL (b.tl j) with⟨d,f⟩ | ⟨p,q,d,f,l⟩
   ·rw[d,f];trivial
   ·rw[d,f];exact l.aaL a c (aA.le_refl F)
 ·obtain⟨cs,h⟩:=b.kp j g t e;exact⟨cs,by rw[Loc.aap,fo (by rintro rfl;exact a _ _ _ h)];exact h⟩
theorem jJ {a:Option Addr}{sz b:Nat}{els:List (List C)}(h:gU F a b 0 els) (hs:∀es∈els,es.length=sz):∃xs,xs.length=els.length*sz/\(dY F a 0 xs\/(els.length=0/\xs=[]))/\aR F sz els xs:=by
 cases k:els with
 | nil=>exact⟨[],by simp,.inr ⟨rfl,rfl⟩,by simp only[aR]⟩
 | cons u f =>
  rw[k] at h hs;have h0:=oC.1 h 0 u (by simp);obtain⟨am,k1,⟨e,m,t,fr,ea,hb,w,_⟩,_,k4⟩:=h0;have p:b=sz:=by rw[<-k1,k4.len,hs u (by simp)]
  subst p;subst ea;have key:∀(l:List (List C)) (i:Nat),gU F (some e) b i l->∃xs,aR F b l xs/\∀(j:Nat) v,xs[j]?=some v->m[e.off+i*b+j]?=some v:=by
   intro l
   induction l with
   | nil=>intro i _;exact⟨[],by simp only[aR],by simp⟩
   | cons es l ih =>
    intro i x;simp only[gU] at x;obtain⟨⟨o,z,⟨av,y,t',ac,s,c,aa,hv⟩,q3,q4⟩,q5⟩:=x;injection s with s
    subst s;rw[hb] at c;injection c with c
    injection c with r1 r2 r3
    subst r1;obtain⟨xs,n,q⟩:=ih (i+1) q5;refine⟨o++xs,by simp only[aR];exact⟨o,xs,rfl,z,q3,q4,n⟩,fun j v d=>?_⟩
    by_cases r:j<o.length
    ·rw[abV r] at d;exact hv j v d
    ·rw[abW (by omega)] at d;have:=q _ _ d;rw[show e.off+i*b+j=e.off+(i+1)*b+(j-o.length) by rw[z,Nat.add_mul];omega];exact this
  obtain⟨xs,n,q⟩:=key (u::f) 0 h;exact⟨xs,iM n,.inl ⟨e,m,t,fr,rfl,hb,w,fun j v d=>by have:=q j v d;simpa using this⟩,n⟩
theorem aR.ones {sz:Nat}:∀{l:List (List C)}{xs:List Value},aR F sz l xs->∀u∈xs,u.oneCell'=true
 | [],xs,h=>by simp only[aR] at h;subst h;simp
 | es::l,xs,h=>by
  simp only[aR] at h;obtain⟨c,b,rfl,h2,h3,h4,h5⟩:=h;intro u a;rcases aa9.1 a with a | a
  ·exact oG h4 h3 u a
  ·exact aR.ones h5 u a
theorem aR.set {sz:Nat}:∀{l:List (List C)}{xs:List Value},aR F sz l xs->∀{j:Nat}{es ds:List C}{us:List Value}{off:Nat},l[j]?=some es->off+us.length<=sz->aB F [] ds us->fB ds=true ->
  aR F sz (l.set j (jw es off ds)) (bY xs (j*sz+off) us)
 | [],xs,h,j,es,ds,us,off,e,_,_,_=>by simp at e
 | x::l,xs,h,j,es,ds,us,off,e,m,f,h1=>by
  simp only[aR] at h;obtain⟨b,d,rfl,h2,h3,h4,h5⟩:=h;cases j with
  | zero =>
   simp only[abm,aa1] at e;subst e;simp only[List.set_cons_zero,aR];refine⟨bY b off us,d,?_,?_,?_,nK h4 f,h5⟩
   ·simp only[bY,Nat.zero_mul,Nat.zero_add];rw[List.take_append_of_le_length (by omega),List.drop_append_of_le_length (by omega)];simp
   ·simp only[bY,abP,abM,List.length_drop];omega
   ·rw[oD] at h3 h1 ⊢;intro c a;simp only[jw,aa9] at a;rcases a with(a | a) | a
    ·exact h3 c (List.mem_of_mem_take a)
    ·exact h1 c a
    ·exact h3 c (List.mem_of_mem_drop a)
  | succ j =>
   simp only[List.set_cons_succ,aR];have k:=aR.set h5 (j:=j) (by simpa using e) m f h1;refine⟨b,_,?_,h2,h3,h4,k⟩;simp only[bY];rw[show(j+1)*sz+off=b.length+(j*sz+off) by rw[h2,Nat.add_mul];omega];rw[List.take_length_add_append,show b.length+(j*sz+off)+us.length=b.length+(j*sz+off+us.length) by omega,List.drop_length_add_append];simp[abZ]
end
end Go.Fr.T
