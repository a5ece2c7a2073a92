/- Part of the proofs of the statements of this seat. -/
import Derived.Test.YtnlegbokpofcaaaGreatDoorSpE8G
import Derived.Test.YtnlegbokpofcaaaGreatDoorSpP6G
import Derived.Test.YtnlegbokpofcaaaGreatDoorFW3
set_option maxRecDepth 10000
set_option linter.unusedVariables false
set_option linter.unusedSimpArgs false
namespace Go.Fr.Tryz
open Go Go.RowKit Go.Proofs Go.Fr Go.Fr.T Go.Fr.Api
def Vl.kind:Vl->Int | .mk a _ _ _ _ _ _ _=>a
def Vl.id:Vl->Int | .mk _ a _ _ _ _ _ _=>a
def Vl.var:Vl->Int | .mk _ _ a _ _ _ _ _=>a
def Vl.num:Vl->Int | .mk _ _ _ a _ _ _ _=>a
def Vl.fs:Vl->List Vl | .mk _ _ _ _ a _ _ _=>a
def Vl.ex:Vl->Bool | .mk _ _ _ _ _ a _ _=>a
def Vl.path:Vl->List Int | .mk _ _ _ _ _ _ a _=>a
def Vl.lns:Vl->List Int | .mk _ _ _ _ _ _ _ a=>a
def Yn (x:Vl):List C:=[IC x.kind,IC x.id,IC x.var,IC x.num,.sl (x.fs.map mS),.bool x.ex,.sl (oO x.path),.sl (oO x.lns)]
theorem I7 (x:Vl):mS x=Yn x:=by
 cases x;rw[mS,si];rfl
def DY (x:Vl):C:=.agg (Yn x)
def Yo (x:Ce):List C:=.bool x.live::IC x.arena::Yn x.value
theorem Tg (x:Ce):tY x=Yo x:=by rw[tY,I7];rfl
theorem XH {x y:Vl}(j:x.kind=y.kind) (a:x.id=y.id) (b:x.var=y.var) (e:x.num=y.num) (c:x.ex=y.ex) (h:x.path=y.path) (d:x.lns=y.lns) (f:x.fs=y.fs):x=y:=by
 cases x;cases y
 simp_all [Vl.kind,Vl.id,Vl.var,Vl.num,Vl.ex,Vl.path,Vl.lns,Vl.fs]
theorem I8 {x t:Vl}(h:x∈t.fs):SizeOf.sizeOf x<SizeOf.sizeOf t:=by
 cases t;have:=List.sizeOf_lt_of_mem h;simp only[Vl.fs] at this;simp only[Vl.mk.sizeOf_spec];omega
theorem ngT {p:Prop}[Decidable p] (h:pA true (decide p)=true):¬p:=by simpa[pA] using h
theorem ngF {p:Prop}[Decidable p] (h:pA true (decide p)=false):p:=by simpa[pA] using h
section
variable {K:List C->Prop}{k:Nat}
theorem qa {l:List Vl}{x:Vl}(a:l[k]?=some x) (h:K (Yn x)):Eu (l.map mS) (k:Int) 8 K:=bK a (I7 x) rfl h
theorem AA {l:List Ce}{x:Ce}(a:l[k]?=some x) (h:K (Yo x)):Eu (l.map tY) (k:Int) 10 K:=bK a (Tg x) rfl h
end
theorem RE (a b:List Int):dY 121 [.sl (oO a),.sl (oO b)] (a=b):=by
 refine au Tryz.func121 Mv rfl fun u _=>?_;refine aj (fun p=>?_) (fun p=>?_)
 ·exact aM rfl (j3 C.bool (aH fun e=>(jJ (by have q:=lM p;rwa [wO,wO] at q)) (by rw[e])))
 have p:=NM p;refine aP a.length 5 [] () (fun _=>[]) (fun _=>[]) (fun k _=>∀j<k,a[j]?=b[j]?) (fun j s=>s6 s (by omega)) (af rfl) trivial trivial ?_;rintro o ⟨⟩ t d _ _ _;refine aF (fun c=>?_) (fun m=>?_)
 ·have c:o<a.length:=by rw[wO] at c;omega
  have v:=(bw u.1:a.length<=_);obtain⟨x,f⟩:=aO c;obtain⟨y,h⟩:=aO (l:=b) (k:=o) (by omega);refine wG f ?_;refine wG h ?_;refine aj (fun r=>?_) (fun r=>?_)
  ·exact aM rfl (j3 C.bool (aH fun e=>cP f h (lM r) (by rw[e])))
  refine bf ?_;exact⟨(o+1,()),⟨c,cu d f h (qV r)⟩,⟨aR,trivial⟩,trivial,aS c⟩
 ·have m:¬o<a.length:=by rw[wO] at m;omega
  have w:a=b:=ct (n:=o) (by omega) (by omega) d;exact aM rfl (j3 C.bool (dJ w))
theorem XI:∀(n:Nat) (x y:Vl),SizeOf.sizeOf x<n->dY 96 [DY x,DY y] (x=y)
 | 0,x,y,h=>s6 h (by omega)
 | n+1,x,y,h=>by
  have ih:∀z∈x.fs,∀w,dY 96 [DY z,DY w] (z=w):=fun z hz w=>XI n z w (by have:=I8 hz;omega);refine au Tryz.func96 QY rfl fun hw _=>?_;have s:Wf (.sl (x.fs.map mS)):=hw.1.2.2.2.2.1;refine aj (fun v=>?_) (fun v=>?_)
  ·exact aM rfl (j3 C.bool (aH fun e=>(lM v) (by rw[e])))
  refine aj (fun h1=>?_) (fun h1=>?_)
  ·exact aM rfl (j3 C.bool (aH fun e=>(lM h1) (by rw[e])))
  refine aj (fun p=>?_) (fun p=>?_)
  ·exact aM rfl (j3 C.bool (aH fun e=>(lM p) (by rw[e])))
  refine aj (fun h3=>?_) (fun h3=>?_)
  ·exact aM rfl (j3 C.bool (aH fun e=>(lM h3) (by rw[e])))
  refine aj (fun t=>?_) (fun t=>?_)
  ·exact aM rfl (j3 C.bool (aH fun e=>(ngT t) (by rw[e])))
  refine aj (fun o=>?_) (fun o=>?_)
  ·exact aM rfl (j3 C.bool (aH fun e=>(jJ (by have q:=lM o;rwa [bL,bL] at q)) (by rw[e])))
  have o:=iI o;refine bM (RE x.path y.path) rfl fun _=>?_;refine aj (fun u=>?_) (fun u=>?_)
  ·exact aM rfl (j3 C.bool (aH fun e=>(xV u) (by rw[e])))
  refine bM (RE x.lns y.lns) rfl fun _=>?_;refine aj (fun h6=>?_) (fun h6=>?_)
  ·exact aM rfl (j3 C.bool (aH fun e=>(xV h6) (by rw[e])))
  refine aP x.fs.length 5 [] () (fun _=>[]) (fun _=>[]) (fun k _=>∀j<k,x.fs[j]?=y.fs[j]?) (fun j hj=>s6 hj (by omega)) (af rfl) trivial trivial ?_;rintro m ⟨⟩ ae c _ _ _;refine aF (fun a=>?_) (fun f=>?_)
  ·have a:m<x.fs.length:=by rw[bL] at a;omega
   have am:=bw s;obtain⟨xA,b⟩:=aO a;obtain⟨yA,d⟩:=aO (l:=y.fs) (k:=m) (by omega);refine qa b ?_;refine qa d ?_;refine cR (ih xA (acS b) yA) rfl fun _=>?_;refine aj (fun r=>?_) (fun r=>?_)
   ·exact aM rfl (j3 C.bool (aH fun e=>cP b d (xV r) (by rw[e])))
   refine bf ?_;exact⟨(m+1,()),⟨a,cu c b d (xW r)⟩,⟨aR,trivial⟩,trivial,aS a⟩
  ·have f:¬m<x.fs.length:=by rw[bL] at f;omega
   have eA:x.fs=y.fs:=ct (n:=m) (by omega) (by omega) c;exact aM rfl (j3 C.bool (dJ (XH (qV v) (qV h1) (qV p) (qV h3) (ngF t) (xW u) (xW h6) eA)))
theorem t96 (x y:Vl):dY 96 [DY x,DY y] (x=y):=XI _ x y (adF _)
theorem XJ {x y:Ce}(c:x.live=y.live) (a:x.arena=y.arena) (b:x.value=y.value):x=y:=by
 rcases x with⟨⟩
 rcases y with⟨⟩
 simp_all
theorem abZ (x y:Ce):dY 120 [.agg (Yo x),.agg (Yo y)] (x=y):=by
 refine au Tryz.func120 Mu rfl fun c _=>?_;refine aF (fun b=>?_) (fun b=>aM rfl (j3 C.bool (aH fun e=>b (by rw[e]))));refine aF (fun a=>?_) (fun a=>aM rfl (j3 C.bool (aH fun e=>a (by rw[e]))));refine bM (t96 x.value y.value) rfl fun _=>?_;exact aM rfl (j3 C.bool (iF ⟨fun h=>XJ b a h,fun e=>by rw[e]⟩))
theorem t93 (a b:List Ce) (p q:List Bool):dY 93 [.agg [.sl (a.map tY),.sl (p.map Af)],.agg [.sl (b.map tY),.sl (q.map Af)]] (a=b/\p=q):=by
 refine au Tryz.func93 QU rfl fun hw _=>?_;have ac:Wf (.sl (a.map tY)):=hw.1.1;have aa:Wf (.sl (p.map Af)):=hw.1.2.1;refine aj (fun x=>?_) (fun x=>?_)
 ·exact aM rfl (j3 C.bool (aH fun e=>(jJ (by have q:=lM x;rwa [bL,bL] at q)) (by rw[e.1])))
 have x:=iI x;refine aj (fun y=>?_) (fun y=>?_)
 ·exact aM rfl (j3 C.bool (aH fun e=>(jJ (by have q:=lM y;rwa [bL,bL] at q)) (by rw[e.2])))
 have y:=iI y;refine aP a.length 5 [] () (fun _=>[]) (fun _=>[]) (fun k _=>∀j<k,a[j]?=b[j]?) (fun j hj=>s6 hj (by omega)) (af rfl) trivial trivial ?_;rintro w ⟨⟩ al f _ _ _;refine aF (fun d=>?_) (fun u=>?_)
 ·have d:w<a.length:=by rw[bL] at d;omega
  have ao:=bw ac;obtain⟨xA,o⟩:=aO d;obtain⟨yA,s⟩:=aO (l:=b) (k:=w) (by omega);refine AA o ?_;refine AA s ?_;refine cR (abZ xA yA) rfl fun _=>?_;refine aj (fun z=>?_) (fun z=>?_)
  ·exact aM rfl (j3 C.bool (aH fun e=>cP o s (xV z) e.1))
  refine bf ?_;exact⟨(w+1,()),⟨d,cu f o s (xW z)⟩,⟨aR,trivial⟩,trivial,aS d⟩
 ·have u:¬w<a.length:=by rw[bL] at u;omega
  have eA:a=b:=ct (n:=w) (by omega) (by omega) f;refine aP p.length 6 [] () (fun _=>[]) (fun _=>[]) (fun k _=>∀j<k,p[j]?=q[j]?) (fun j hj=>s6 hj (by omega)) (af rfl) trivial trivial ?_;rintro v ⟨⟩ ag h _ _ _;refine aF (fun c=>?_) (fun t=>?_)
  ·have c:v<p.length:=by rw[bL] at c;omega
   have am:=bw aa;obtain⟨xB,m⟩:=aO c;obtain⟨yB,r⟩:=aO (l:=q) (k:=v) (by omega);refine bK m rfl rfl ?_;refine bK r rfl rfl ?_;refine aj (fun h3=>?_) (fun h3=>?_)
   ·exact aM rfl (j3 C.bool (aH fun e=>cP m r (ngT h3) e.2))
   refine bf ?_;exact⟨(v+1,()),⟨c,cu h m r (ngF h3)⟩,⟨aR,trivial⟩,trivial,aS c⟩
  ·have t:¬v<p.length:=by rw[bL] at t;omega
   have eB:p=q:=ct (n:=v) (by omega) (by omega) h;exact aM rfl (j3 C.bool (dJ ⟨eA,eB⟩))
theorem t94 (a b:List Ou):dY 94 [.sl (a.map GR),.sl (b.map GR)] (a=b):=by
 refine au Tryz.func94 QW rfl fun u _=>?_;refine aj (fun p=>?_) (fun p=>?_)
 ·exact aM rfl (j3 C.bool (aH fun e=>(jJ (by have q:=lM p;rwa [bL,bL] at q)) (by rw[e])))
 have p:=iI p;refine aP a.length 5 [] () (fun _=>[]) (fun _=>[]) (fun k _=>∀j<k,a[j]?=b[j]?) (fun j s=>s6 s (by omega)) (af rfl) trivial trivial ?_;rintro o ⟨⟩ t d _ _ _;refine aF (fun c=>?_) (fun m=>?_)
 ·have c:o<a.length:=by rw[bL] at c;omega
  have w:=bw u.1;obtain⟨v,f⟩:=aO c;obtain⟨y,h⟩:=aO (l:=b) (k:=o) (by omega);refine bK f rfl rfl ?_;refine bK h rfl rfl ?_;refine aj (fun r=>?_) (fun r=>?_)
  ·exact aM rfl (j3 C.bool (aH fun e=>cP f h ((fun e=>by subst e;simp[pA] at r)) (by rw[e])))
  refine bf ?_;exact⟨(o+1,()),⟨c,cu d f h (by rcases v with⟨⟩;rcases y with⟨⟩;simp[pA] at r;simp[r])⟩,⟨aR,trivial⟩,trivial,aS c⟩
 ·have m:¬o<a.length:=by rw[bL] at m;omega
  have x:a=b:=ct (n:=o) (by omega) (by omega) d;exact aM rfl (j3 C.bool (dJ x))
theorem XK {x y:Ac}(h:x.number=y.number) (a:x.routine=y.routine) (b:x.block=y.block) (e:x.index=y.index) (c:x.dst=y.dst) (f:x.slots=y.slots) (d:x.since=y.since):x=y:=by
 rcases x with⟨⟩
 rcases y with⟨⟩
 simp_all
theorem ab0 (x y:Ac):dY 122 [.agg (yE x),.agg (yE y)] (x=y):=by
 refine au Tryz.func122 Mw rfl fun hw _=>?_;have r:Wf (.sl (x.slots.map mS)):=hw.1.2.2.2.2.2.1;refine aj (fun t=>?_) (fun t=>?_)
 ·exact aM rfl (j3 C.bool (aH fun e=>(lM t) (by rw[e])))
 refine aj (fun u=>?_) (fun u=>?_)
 ·exact aM rfl (j3 C.bool (aH fun e=>(lM u) (by rw[e])))
 refine aj (fun o=>?_) (fun o=>?_)
 ·exact aM rfl (j3 C.bool (aH fun e=>(lM o) (by rw[e])))
 refine aj (fun w=>?_) (fun w=>?_)
 ·exact aM rfl (j3 C.bool (aH fun e=>(lM w) (by rw[e])))
 refine aj (fun s=>?_) (fun s=>?_)
 ·exact aM rfl (j3 C.bool (aH fun e=>(lM s) (by rw[e])))
 refine aj (fun m=>?_) (fun m=>?_)
 ·exact aM rfl (j3 C.bool (aH fun e=>(jJ (by have q:=lM m;rwa [bL,bL] at q)) (by rw[e])))
 have m:=iI m;refine bM (RE x.since y.since) rfl fun _=>?_;refine aj (fun v=>?_) (fun v=>?_)
 ·exact aM rfl (j3 C.bool (aH fun e=>(xV v) (by rw[e])))
 refine aP x.slots.length 5 [] () (fun _=>[]) (fun _=>[]) (fun k _=>∀j<k,x.slots[j]?=y.slots[j]?) (fun j z=>s6 z (by omega)) (af rfl) trivial trivial ?_;rintro h ⟨⟩ aa b _ _ _;refine aF (fun a=>?_) (fun f=>?_)
 ·have a:h<x.slots.length:=by rw[bL] at a;omega
  have ad:=bw r;obtain⟨xA,c⟩:=aO a;obtain⟨yA,d⟩:=aO (l:=y.slots) (k:=h) (by omega);refine qa c ?_;refine qa d ?_;refine cR (t96 xA yA) rfl fun _=>?_;refine aj (fun p=>?_) (fun p=>?_)
  ·exact aM rfl (j3 C.bool (aH fun e=>cP c d (xV p) (by rw[e])))
  refine bf ?_;exact⟨(h+1,()),⟨a,cu b c d (xW p)⟩,⟨aR,trivial⟩,trivial,aS a⟩
 ·have f:¬h<x.slots.length:=by rw[bL] at f;omega
  have eA:x.slots=y.slots:=ct (n:=h) (by omega) (by omega) b;exact aM rfl (j3 C.bool (dJ (XK (qV t) (qV u) (qV o) (qV w) (qV s) eA (xW v))))
theorem XL {x y:Tk}(h:x.state=y.state) (a:x.frames=y.frames) (b:x.loans=y.loans) (e:x.allocs=y.allocs) (c:x.clock=y.clock) (f:x.next=y.next) (d:x.cells=y.cells):x=y:=by
 rcases x with⟨⟩
 rcases y with⟨⟩
 simp_all
theorem t95 (x y:Tk):dY 95 [.agg (vM x),.agg (vM y)] (x=y):=by
 refine au Tryz.func95 QX rfl fun hw _=>?_;have ad:Wf (.sl (x.frames.map yE)):=hw.1.2.1;have ab:Wf (.sl (x.loans.map F8)):=hw.1.2.2.1;refine aj (fun h0=>?_) (fun h0=>?_)
 ·exact aM rfl (j3 C.bool (aH fun e=>(lM h0) (by rw[e])))
 refine aj (fun h1=>?_) (fun h1=>?_)
 ·exact aM rfl (j3 C.bool (aH fun e=>(lM h1) (by rw[e])))
 refine aj (fun z=>?_) (fun z=>?_)
 ·exact aM rfl (j3 C.bool (aH fun e=>(lM z) (by rw[e])))
 refine aj (fun h3=>?_) (fun h3=>?_)
 ·exact aM rfl (j3 C.bool (aH fun e=>(lM h3) (by rw[e])))
 refine bM (RE x.cells y.cells) rfl fun _=>?_;refine aj (fun h4=>?_) (fun h4=>?_)
 ·exact aM rfl (j3 C.bool (aH fun e=>(xV h4) (by rw[e])))
 refine aj (fun u=>?_) (fun u=>?_)
 ·exact aM rfl (j3 C.bool (aH fun e=>(jJ (by have q:=lM u;rwa [bL,bL] at q)) (by rw[e])))
 have u:=iI u;refine aj (fun w=>?_) (fun w=>?_)
 ·exact aM rfl (j3 C.bool (aH fun e=>(jJ (by have q:=lM w;rwa [bL,bL] at q)) (by rw[e])))
 have w:=iI w;refine aP x.frames.length 5 [] () (fun _=>[]) (fun _=>[]) (fun k _=>∀j<k,x.frames[j]?=y.frames[j]?) (fun j hj=>s6 hj (by omega)) (af rfl) trivial trivial ?_;rintro t ⟨⟩ ap c _ _ _;refine aF (fun b=>?_) (fun r=>?_)
 ·have b:t<x.frames.length:=by rw[bL] at b;omega
  have ax:=bw ad;obtain⟨xA,h⟩:=aO b;obtain⟨yA,o⟩:=aO (l:=y.frames) (k:=t) (by omega);refine bK h rfl rfl ?_;refine bK o rfl rfl ?_;refine cR (ab0 xA yA) rfl fun _=>?_;refine aj (fun h8=>?_) (fun h8=>?_)
  ·exact aM rfl (j3 C.bool (aH fun e=>cP h o (xV h8) (by rw[e])))
  refine bf ?_;exact⟨(t+1,()),⟨b,cu c h o (xW h8)⟩,⟨aR,trivial⟩,trivial,aS b⟩
 ·have r:¬t<x.frames.length:=by rw[bL] at r;omega
  have eA:x.frames=y.frames:=ct (n:=t) (by omega) (by omega) c;refine aP x.loans.length 6 [] () (fun _=>[]) (fun _=>[]) (fun k _=>∀j<k,x.loans[j]?=y.loans[j]?) (fun j hj=>s6 hj (by omega)) (af rfl) trivial trivial ?_;rintro s ⟨⟩ an d _ _ _;refine aF (fun a=>?_) (fun p=>?_)
  ·have a:s<x.loans.length:=by rw[bL] at a;omega
   have av:=bw ab;obtain⟨xB,f⟩:=aO a;obtain⟨yB,m⟩:=aO (l:=y.loans) (k:=s) (by omega);refine bK f rfl rfl ?_;refine bK m rfl rfl ?_;refine aj (fun v=>?_) (fun v=>?_)
   ·exact aM rfl (j3 C.bool (aH fun e=>cP f m ((fun e=>by subst e;simp[pA] at v)) (by rw[e])))
   refine bf ?_;exact⟨(s+1,()),⟨a,cu d f m (by rcases xB with⟨⟩;rcases yB with⟨⟩;simp[pA] at v;simp[v])⟩,⟨aR,trivial⟩,trivial,aS a⟩
  ·have p:¬s<x.loans.length:=by rw[bL] at p;omega
   have eB:x.loans=y.loans:=ct (n:=s) (by omega) (by omega) d;exact aM rfl (j3 C.bool (dJ (XL (qV h0) eA eB (qV h1) (qV z) (qV h3) (xW h4))))
theorem XM {x y:Wd}(h:x.cells=y.cells/\x.arenas=y.arenas) (a:x.tasks=y.tasks) (d:x.channels=y.channels) (b:x.outputs=y.outputs) (f:x.made=y.made) (c:x.dropped=y.dropped) (e:x.closed=y.closed):x=y:=by
 rcases x with⟨⟩
 rcases y with⟨⟩
 simp_all
theorem RF {c:Type}{a b:List c}{k:Nat}{x y:c}(d:a[k]?=some x) (e:b[k]?=some y) (h:¬x=y):a≠b:=cP d e h
theorem t58 (i1 i2 j1 j2:List (List C)) (im jm:Int) (x y:Wd):dY 58 [.agg (q9 i1 i2 im x),.agg (q9 j1 j2 jm y)] (x=y):=by
 refine au Tryz.func58 Qu rfl fun hw _=>?_;have ao:Wf (.sl (x.tasks.map vM)):=hw.1.2.2.2.2.2.1;have z:Wf (.sl (x.channels.map DX)):=hw.1.2.2.2.2.2.2.1;refine bM (t93 x.cells y.cells x.arenas y.arenas) rfl fun _=>?_;refine aj (fun h0=>?_) (fun h0=>?_)
 ·exact aM rfl (j3 C.bool (aH fun e=>(xV h0) (by rw[e];exact⟨rfl,rfl⟩)))
 refine aj (fun h1=>?_) (fun h1=>?_)
 ·exact aM rfl (j3 C.bool (aH fun e=>(jJ (by have q:=lM h1;rwa [bL,bL] at q)) (by rw[e])))
 have h1:=iI h1;refine aj (fun h2=>?_) (fun h2=>?_)
 ·exact aM rfl (j3 C.bool (aH fun e=>(jJ (by have q:=lM h2;rwa [bL,bL] at q)) (by rw[e])))
 have h2:=iI h2;refine bM (t94 x.outputs y.outputs) rfl fun _=>?_;refine aj (fun h3=>?_) (fun h3=>?_)
 ·exact aM rfl (j3 C.bool (aH fun e=>(xV h3) (by rw[e])))
 refine aj (fun h4=>?_) (fun h4=>?_)
 ·exact aM rfl (j3 C.bool (aH fun e=>(lM h4) (by rw[e])))
 refine aj (fun h5=>?_) (fun h5=>?_)
 ·exact aM rfl (j3 C.bool (aH fun e=>(lM h5) (by rw[e])))
 refine aj (fun h6=>?_) (fun h6=>?_)
 ·exact aM rfl (j3 C.bool (aH fun e=>(lM h6) (by rw[e])))
 refine aP x.tasks.length 5 [] () (fun _=>[]) (fun _=>[]) (fun k _=>∀j<k,x.tasks[j]?=y.tasks[j]?) (fun j hj=>s6 hj (by omega)) (af rfl) trivial trivial ?_;rintro kA ⟨⟩ bo h _ _ _;refine aF (fun d=>?_) (fun ac=>?_)
 ·have d:kA<x.tasks.length:=by rw[bL] at d;omega
  have bv:=bw ao;obtain⟨xA,s⟩:=aO d;obtain⟨yA,u⟩:=aO (l:=y.tasks) (k:=kA) (by omega);refine bK s rfl rfl ?_;refine bK u rfl rfl ?_;refine cR (t95 xA yA) rfl fun _=>?_;refine aj (fun h8=>?_) (fun h8=>?_)
  ·exact aM rfl (j3 C.bool (aH fun e=>cP s u (xV h8) (by rw[e])))
  refine bf ?_;exact⟨(kA+1,()),⟨d,cu h s u (xW h8)⟩,⟨aR,trivial⟩,trivial,aS d⟩
 ·have ac:¬kA<x.tasks.length:=by rw[bL] at ac;omega
  have eA:x.tasks=y.tasks:=ct (n:=kA) (by omega) (by omega) h;refine aP x.channels.length 6 [] () (fun _=>[]) (fun _=>[]) (fun k _=>∀j<k,x.channels[j]?=y.channels[j]?) (fun j hj=>s6 hj (by omega)) (af rfl) trivial trivial ?_;rintro kB ⟨⟩ be o _ _ _;refine aF (fun c=>?_) (fun ab=>?_)
  ·have c:kB<x.channels.length:=by rw[bL] at c;omega
   have bs:=bw z;obtain⟨v,a⟩:=aO c;obtain⟨yB,f⟩:=aO (l:=y.channels) (k:=kB) (by omega);have az:Wf (.sl (v.map mS)):=(oD z (acS a)).1;refine bK a rfl rfl ?_;refine bK f rfl rfl ?_;refine aj (fun h9=>?_) (fun h9=>?_)
   ·exact aM rfl (j3 C.bool (aH fun e=>cP a f (fun e2=>(jJ (by have q:=lM h9;rwa [bL,bL] at q)) (by rw[e2])) (by rw[e])))
   have h9:=iI h9;refine aP v.length 7 [] () (fun _=>[]) (fun _=>[]) (fun k _=>∀j<k,v[j]?=yB[j]?) (fun j hj=>s6 hj (by omega)) (af rfl) trivial trivial ?_;rintro w ⟨⟩ bb m _ _ _;refine bK a rfl rfl ?_;refine aF (fun b=>?_) (fun ad=>?_)
   ·have b:w<v.length:=by rw[bL] at b;omega
    have ba:=bw az;obtain⟨xC,p⟩:=aO b;obtain⟨yC,t⟩:=aO (l:=yB) (k:=w) (by omega);refine bK a rfl rfl ?_;refine qa p ?_;refine bK f rfl rfl ?_;refine qa t ?_;refine cR (t96 xC yC) rfl fun _=>?_;refine aj (fun r=>?_) (fun r=>?_)
    ·exact aM rfl (j3 C.bool (aH fun e=>cP a f (RF p t (xV r)) (by rw[e])))
    refine bf ?_;exact⟨(w+1,()),⟨b,cu m p t (xW r)⟩,⟨aR,trivial⟩,trivial,aS b⟩
   ·have ad:¬w<v.length:=by rw[bL] at ad;omega
    have eC:v=yB:=ct (n:=w) (by omega) (by omega) m;refine bf ?_;exact⟨(kB+1,()),⟨c,cu o a f (eC)⟩,⟨aR,trivial⟩,trivial,aS c⟩
  ·have ab:¬kB<x.channels.length:=by rw[bL] at ab;omega
   have eB:x.channels=y.channels:=ct (n:=kB) (by omega) (by omega) o;exact aM rfl (j3 C.bool (dJ (XM (xW h0) eA eB (xW h3) (qV h4) (qV h5) (qV h6))))
theorem t16 (i j:uQ) (x y:Wd):dY 16 [.agg (yK i x),.agg (yK j y)] (i=j/\x=y):=by
 refine au Tryz.func16 PK rfl fun b _=>?_;refine bM (t57 i j) rfl fun _=>?_;refine aj (fun a=>?_) (fun a=>aM rfl (j3 C.bool (aH fun e=>lu a e.1)));refine bM (t58 _ _ _ _ _ _ x y) rfl fun _=>?_;exact aM rfl (j3 C.bool (iF ⟨fun h=>⟨kH a,h⟩,fun e=>e.2⟩))
abbrev FM (f:Nat) (args:List C):Prop:=CallsT PZ f args [] (Such True)
theorem XO:∀(n:Nat) (x:Vl) (l:Int),SizeOf.sizeOf x<n->Bq 71 [DY x,IC l]
 | 0,x,l,h=>s6 h (by omega)
 | n+1,x,l,h=>by
  have o:∀z∈x.fs,∀m,Bq 71 [DY z,IC m]:=fun z r m=>XO n z m (by have:=I8 r;omega);refine au Tryz.func71 QI rfl fun k _=>?_;have c:Wf (.sl (x.fs.map mS)):=k.1.2.2.2.2.1;refine aP x.fs.length 6 [5] (_:Int) (fun n=>[IC n]) (fun _=>[]) (fun _ _=>True) trivial (af rfl) ⟨af rfl,trivial⟩ trivial ?_;rintro e s j _ _ _ _;refine aF (fun a=>?_) (fun f=>?_)
  ·refine aF (fun d=>?_) (fun d=>?_)
   ·have a:e<x.fs.length:=by rw[bL] at a;omega
    have q:=bw c;obtain⟨p,b⟩:=aO a;refine qa b ?_;refine Fit.mk ?_;refine vT (o p (acS b) _) rfl fun m=>?_;refine Fit.mk ?_;refine bf ?_;exact⟨(e+1,_),⟨a,trivial⟩,⟨aR,⟨af rfl,trivial⟩⟩,trivial,aS a⟩
   skip
   exact Aa _ rfl rfl
  ·skip
   exact Aa _ rfl rfl
theorem Yp (x:Vl) (l:Int):Bq 71 [DY x,IC l]:=XO _ x l (adF _)
def vlZ:Vl:=.mk 0 0 0 0 [] false [] []
theorem t69 (l:List Int):FM 69 [.sl (oO l)]:=by
 refine au Tryz.func69 QG rfl fun h _=>?_;refine aP l.length 3 [] () (fun _=>[]) (fun _=>[]) (fun _ _=>True) trivial (af rfl) trivial trivial ?_;rintro c j f _ _ _ _;refine aF (fun a=>?_) (fun e=>?_)
 ·have a:c<l.length:=by rw[wO] at a;omega
  have d:=(bw h.1:l.length<=_);obtain⟨k,b⟩:=aO a;refine wG b ?_;refine aj (fun _=>?_) (fun _=>?_)
  ·exact iR _ rfl rfl fun _=>trivial
  refine wG b ?_;refine aj (fun _=>?_) (fun _=>?_)
  ·exact iR _ rfl rfl fun _=>trivial
  refine bf ?_;exact⟨(c+1,()),⟨a,trivial⟩,⟨aR,trivial⟩,trivial,aS a⟩
 ·skip
  exact iR _ rfl rfl fun _=>trivial
theorem t70 (l:List Vl):FM 70 [.sl (l.map mS)]:=by
 refine au Tryz.func70 QH rfl fun j _=>?_;refine aP l.length 3 [] () (fun _=>[]) (fun _=>[]) (fun _ _=>True) trivial (af rfl) trivial trivial ?_;rintro c k f _ _ _ _;refine aF (fun a=>?_) (fun e=>?_)
 ·have a:c<l.length:=by rw[bL] at a;omega
  have d:=bw j.1;obtain⟨h,b⟩:=aO a;refine qa b ?_;refine vT (Yp h 60) rfl fun m=>?_;refine aj (fun _=>?_) (fun _=>?_)
  ·exact iR _ rfl rfl fun _=>trivial
  refine bf ?_;exact⟨(c+1,()),⟨a,trivial⟩,⟨aR,trivial⟩,trivial,aS a⟩
 ·skip
  exact iR _ rfl rfl fun _=>trivial
theorem t68 (a:List Ce) (p:List Bool):FM 68 [.agg [.sl (a.map tY),.sl (p.map Af)],DY vlZ]:=by
 refine au Tryz.func68 QF rfl fun l _=>?_;have d:Wf (.sl (a.map tY)):=l.1.1;refine aj (fun _=>?_) (fun _=>?_)
 ·exact iR _ rfl rfl fun _=>trivial
 refine aj (fun _=>?_) (fun _=>?_)
 ·exact iR _ rfl rfl fun _=>trivial
 refine vT (Yp vlZ 60) rfl fun m=>?_;refine aj (fun _=>?_) (fun _=>?_)
 ·exact iR _ rfl rfl fun _=>trivial
 refine aP a.length 5 [] () (fun _=>[]) (fun _=>[]) (fun _ _=>True) trivial (af rfl) trivial trivial ?_;rintro e n j _ _ _ _;refine aF (fun b=>?_) (fun h=>?_)
 ·have b:e<a.length:=by rw[bL] at b;omega
  have f:=bw d;obtain⟨k,c⟩:=aO b;refine AA c ?_;refine vT (Yp k.value 60) rfl fun m=>?_;refine aj (fun _=>?_) (fun _=>?_)
  ·exact iR _ rfl rfl fun _=>trivial
  refine bf ?_;exact⟨(e+1,()),⟨b,trivial⟩,⟨aR,trivial⟩,trivial,aS b⟩
 ·skip
  exact iR _ rfl rfl fun _=>trivial
theorem XP:∀(n:Nat) (x:Vl),SizeOf.sizeOf x<n->FM 26 [DY x]
 | 0,x,h=>s6 h (by omega)
 | n+1,x,h=>by
  have k:∀z∈x.fs,FM 26 [DY z]:=fun z p=>XP n z (by have:=I8 p;omega);refine au Tryz.func26 P1 rfl fun j _=>?_;have c:Wf (.sl (x.fs.map mS)):=j.1.2.2.2.2.1;refine aP x.fs.length 3 [] () (fun _=>[]) (fun _=>[]) (fun _ _=>True) trivial (af rfl) trivial trivial ?_;rintro d q f _ _ _ _;refine aF (fun a=>?_) (fun e=>?_)
  ·have a:d<x.fs.length:=by rw[bL] at a;omega
   have o:=bw c;obtain⟨l,b⟩:=aO a;refine qa b ?_;refine pW (k l (acS b)) rfl fun r _=>?_;refine aj (fun _=>?_) (fun _=>?_)
   ·exact iR _ rfl rfl fun _=>trivial
   refine bf ?_;exact⟨(d+1,()),⟨a,trivial⟩,⟨aR,trivial⟩,trivial,aS a⟩
  ·skip
   refine aj (fun _=>?_) (fun _=>iR _ rfl rfl fun _=>trivial);refine aj (fun _=>?_) (fun _=>iR _ rfl rfl fun _=>trivial);refine vT (Yp x 60) rfl fun m=>?_;exact iR _ rfl rfl fun _=>trivial
theorem t26 (x:Vl):FM 26 [DY x]:=XP _ x (adF _)
theorem t25 (w y:List (List C)) (s:Int) (x:Wd):FM 25 [.agg (q9 w y s x)]:=by
 refine au Tryz.func25 P0 rfl fun n _=>?_;have h:Wf (.sl (x.tasks.map vM)):=n.1.2.2.2.2.2.1;have j:Wf (.sl (x.channels.map DX)):=n.1.2.2.2.2.2.2.1;refine pW (t68 x.cells x.arenas) rfl fun b1 _=>?_;refine aj (fun _=>?_) (fun _=>?_)
 ·exact iR _ rfl rfl fun _=>trivial
 refine aj (fun _=>?_) (fun _=>?_)
 ·exact iR _ rfl rfl fun _=>trivial
 refine aj (fun _=>?_) (fun _=>?_)
 ·exact iR _ rfl rfl fun _=>trivial
 refine aj (fun _=>?_) (fun _=>?_)
 ·exact iR _ rfl rfl fun _=>trivial
 refine aj (fun _=>?_) (fun _=>?_)
 ·exact iR _ rfl rfl fun _=>trivial
 refine pW (t69 [x.made,x.dropped,x.closed]) rfl fun b2 _=>?_;refine aj (fun _=>?_) (fun _=>?_)
 ·exact iR _ rfl rfl fun _=>trivial
 refine aP x.tasks.length 3 [] () (fun _=>[]) (fun _=>[]) (fun _ _=>True) trivial (af rfl) trivial trivial ?_;rintro p lA z _ _ _ _;refine aF (fun d=>?_) (fun u=>?_)
 ·have d:p<x.tasks.length:=by rw[bL] at d;omega
  have ae:=bw h;obtain⟨e,a⟩:=aO d;have l:Wf (.sl (e.frames.map yE)):=(oD h (acS a)).2.1;refine bK a rfl rfl ?_;refine aj (fun _=>?_) (fun _=>?_)
  ·exact iR _ rfl rfl fun _=>trivial
  refine bK a rfl rfl ?_;refine aj (fun _=>?_) (fun _=>?_)
  ·exact iR _ rfl rfl fun _=>trivial
  refine bK a rfl rfl ?_;refine aj (fun _=>?_) (fun _=>?_)
  ·exact iR _ rfl rfl fun _=>trivial
  refine bK a rfl rfl ?_;refine bK a rfl rfl ?_;refine bK a rfl rfl ?_;refine UN (t69 [e.allocs,e.clock,e.next]) rfl fun b3 _=>?_;refine aj (fun _=>?_) (fun _=>?_)
  ·exact iR _ rfl rfl fun _=>trivial
  refine aP e.frames.length 4 [] () (fun _=>[]) (fun _=>[]) (fun _ _=>True) trivial (af rfl) trivial trivial ?_;rintro o lB v _ _ _ _;refine bK a rfl rfl ?_;refine aF (fun c=>?_) (fun t=>?_)
  ·have c:o<e.frames.length:=by rw[bL] at c;omega
   have ad:=bw l;obtain⟨xB,f⟩:=aO c;refine bK a rfl rfl ?_;refine bK f rfl rfl ?_;refine pW (t70 xB.slots) rfl fun b4 _=>?_;refine aj (fun _=>?_) (fun _=>?_)
   ·exact iR _ rfl rfl fun _=>trivial
   refine bK a rfl rfl ?_;refine bK f rfl rfl ?_;refine aj (fun _=>?_) (fun _=>?_)
   ·exact iR _ rfl rfl fun _=>trivial
   refine bf ?_;exact⟨(o+1,()),⟨c,trivial⟩,⟨aR,trivial⟩,trivial,aS c⟩
  ·skip
   refine bf ?_;exact⟨(p+1,()),⟨d,trivial⟩,⟨aR,trivial⟩,trivial,aS d⟩
 ·skip
  refine aP x.channels.length 5 [] () (fun _=>[]) (fun _=>[]) (fun _ _=>True) trivial (af rfl) trivial trivial ?_;rintro m lC r _ _ _ _;refine aF (fun b=>?_) (fun aa=>?_)
  ·have b:m<x.channels.length:=by rw[bL] at b;omega
   have q:=bw j;obtain⟨xC,k⟩:=aO b;refine bK k rfl rfl ?_;refine pW (t70 xC) rfl fun b5 _=>?_;refine aj (fun _=>?_) (fun _=>?_)
   ·exact iR _ rfl rfl fun _=>trivial
   refine bf ?_;exact⟨(m+1,()),⟨b,trivial⟩,⟨aR,trivial⟩,trivial,aS b⟩
  ·skip
   exact iR _ rfl rfl fun _=>trivial
theorem t8 (j:uQ) (x:Wd):FM 8 [.agg (yK j x)]:=by
 refine au Tryz.func8 UH rfl fun r _=>?_;have p:Wf (.sl (x.cells.map tY)):=r.1.2.2.2.1;have o:Wf (.sl (x.tasks.map vM)):=r.1.2.2.2.2.2.1;have n:Wf (.sl (x.channels.map DX)):=r.1.2.2.2.2.2.2.1;refine pW (t25 _ _ _ x) rfl fun b1 _=>?_;refine aj (fun _=>?_) (fun _=>?_)
 ·exact iR _ rfl rfl fun _=>trivial
 refine pW (t9 j) rfl fun b2 _=>?_;refine aj (fun _=>?_) (fun _=>?_)
 ·exact iR _ rfl rfl fun _=>trivial
 refine aj (fun _=>?_) (fun _=>?_)
 ·exact iR _ rfl rfl fun _=>trivial
 refine aP x.cells.length 3 [] () (fun _=>[]) (fun _=>[]) (fun _ _=>True) trivial (af rfl) trivial trivial ?_;rintro kA lA ay _ _ _ _;refine aF (fun e=>?_) (fun aw=>?_)
 ·have e:kA<x.cells.length:=by rw[bL] at e;omega
  have be:=bw p;obtain⟨xA,y⟩:=aO e;refine AA y ?_;refine pW (t26 xA.value) rfl fun b3 _=>?_;refine aj (fun _=>?_) (fun _=>?_)
  ·exact iR _ rfl rfl fun _=>trivial
  refine bf ?_;exact⟨(kA+1,()),⟨e,trivial⟩,⟨aR,trivial⟩,trivial,aS e⟩
 ·skip
  refine aP x.tasks.length 4 [] () (fun _=>[]) (fun _=>[]) (fun _ _=>True) trivial (af rfl) trivial trivial ?_;rintro kB lB ax _ _ _ _;refine aF (fun d=>?_) (fun av=>?_)
  ·have d:kB<x.tasks.length:=by rw[bL] at d;omega
   have bb:=bw o;obtain⟨s,h⟩:=aO d;have m:Wf (.sl (s.frames.map yE)):=(oD o (acS h)).2.1;refine aP s.frames.length 5 [] () (fun _=>[]) (fun _=>[]) (fun _ _=>True) trivial (af rfl) trivial trivial ?_;rintro kD lD ao _ _ _ _;refine bK h rfl rfl ?_;refine aF (fun c=>?_) (fun am=>?_)
   ·have c:kD<s.frames.length:=by rw[bL] at c;omega
    have aE:=bw m;obtain⟨v,l⟩:=aO c;have q:Wf (.sl (v.slots.map mS)):=(oD m (acS l)).2.2.2.2.2.1;refine aP v.slots.length 6 [] () (fun _=>[]) (fun _=>[]) (fun _ _=>True) trivial (af rfl) trivial trivial ?_;rintro kE lE az _ _ _ _;refine bK h rfl rfl ?_;refine bK l rfl rfl ?_;refine aF (fun f=>?_) (fun ar=>?_)
    ·have f:kE<v.slots.length:=by rw[bL] at f;omega
     have bc:=bw q;obtain⟨xE,w⟩:=aO f;refine bK h rfl rfl ?_;refine bK l rfl rfl ?_;refine qa w ?_;refine pW (t26 xE) rfl fun b4 _=>?_;refine aj (fun _=>?_) (fun _=>?_)
     ·exact iR _ rfl rfl fun _=>trivial
     refine bf ?_;exact⟨(kE+1,()),⟨f,trivial⟩,⟨aR,trivial⟩,trivial,aS f⟩
    ·skip
     refine bf ?_;exact⟨(kD+1,()),⟨c,trivial⟩,⟨aR,trivial⟩,trivial,aS c⟩
   ·skip
    refine bf ?_;exact⟨(kB+1,()),⟨d,trivial⟩,⟨aR,trivial⟩,trivial,aS d⟩
  ·skip
   refine aP x.channels.length 7 [] () (fun _=>[]) (fun _=>[]) (fun _ _=>True) trivial (af rfl) trivial trivial ?_;rintro kC lC al _ _ _ _;refine aF (fun b=>?_) (fun ba=>?_)
   ·have b:kC<x.channels.length:=by rw[bL] at b;omega
    have ak:=bw n;obtain⟨t,k⟩:=aO b;have u:Wf (.sl (t.map mS)):=(oD n (acS k)).1;refine aP t.length 8 [] () (fun _=>[]) (fun _=>[]) (fun _ _=>True) trivial (af rfl) trivial trivial ?_;rintro kG lG an _ _ _ _;refine bK k rfl rfl ?_;refine aF (fun a=>?_) (fun bk=>?_)
    ·have a:kG<t.length:=by rw[bL] at a;omega
     have bj:=bw u;obtain⟨xG,z⟩:=aO a;refine bK k rfl rfl ?_;refine qa z ?_;refine pW (t26 xG) rfl fun b5 _=>?_;refine aj (fun _=>?_) (fun _=>?_)
     ·exact iR _ rfl rfl fun _=>trivial
     refine bf ?_;exact⟨(kG+1,()),⟨a,trivial⟩,⟨aR,trivial⟩,trivial,aS a⟩
    ·skip
     refine bf ?_;exact⟨(kC+1,()),⟨b,trivial⟩,⟨aR,trivial⟩,trivial,aS b⟩
   ·skip
    exact iR _ rfl rfl fun _=>trivial
end Go.Fr.Tryz
namespace Go.Fr.Tryz
open Go Go.Fr.T
structure RT {α:Type}(d:Dec α) (e:α->Enc):Prop where
 wr:∀x r,(e x).2=true->d ((e x).1++r)=some (x,r)
 rd:∀l x r,d l=some (x,r)->(e x).2=true/\l=(e x).1++r
theorem eL {a b:Enc}:(br a b).2=true↔a.2=true/\b.2=true:=by simp[br]
theorem gq {a b:Enc}:(br a b).1=a.1++b.1:=rfl
theorem fC {b c:Type}{f:Dec b}{k:b->Dec c}{l r:List UInt8}{y:c}(h:gN f k l=some (y,r)):∃x a,f l=some (x,a)/\k x a=some (y,r):=by
 unfold gN at h;split at h
 ·cases h
 ·rename_i x a e;exact⟨x,a,e,h⟩
theorem Vo (z:Nat):zz (Bh z)=z:=by
 unfold Bh zz;split
 ·split<;>omega
 ·split<;>omega
theorem FN:∀(f k z:Nat) (l:List UInt8) (n:Int) (r:List UInt8),lp f k z l=some (n,r)->∃w,l=bN w++r/\n=Bh (z+w*128 ^ k)/\(0<w\/k=0)
 | 0,k,z,l,n,r,h=>by cases h
 | f+1,k,z,[],n,r,h=>by cases h
 | f+1,k,z,c::l,n,r,h=>by
  simp only[lp] at h;split at h
  ·rename_i d;split at h
   ·rename_i o;injection h with h
    injection h with a b
    subst a b;refine⟨c.toNat,?_,rfl,o⟩;rw[bN,dif_pos d];simp
   ·cases h
  ·rename_i d;obtain⟨w,a,b,p⟩:=FN f (k+1) _ l n r h;have q:0<w:=by omega
   have e:=c.toNat_lt;refine⟨(c.toNat-128)+128*w,?_,?_,.inl (by omega)⟩
   ·rw[bN,dif_neg (by omega),a];have j:(c.toNat-128+128*w) / 128=w:=by omega
    have m:128+(c.toNat-128+128*w) % 128=c.toNat:=by omega
    rw[j,m];simp
   ·rw[b];congr 1;rw[Nat.pow_succ,Nat.add_mul,Nat.add_assoc,Nat.mul_comm (128 ^ k) 128,<-Nat.mul_assoc,Nat.mul_comm 128 w]
theorem DH {l r:List UInt8}{n:Int}(h:getD l=some (n,r)):l=bN (zz n)++r:=by
 obtain⟨w,b,a,c⟩:=FN 6 0 0 l n r h;have e:n=Bh w:=by rw[a];simp
 rw[e,Vo];exact b
theorem iU:RT gW kW.num:=by
 refine⟨fun n r h=>?_,fun l n r h=>?_⟩
 ·have a:(decide (-1099511627776<=n)&&decide (n<=1099511627776))=true:=h;simp only[acR,ado] at a;show gW (bN (zz n)++r)=_;simp only[gW,ju n r a.1 a.2];rw[o6 ⟨a.1,a.2⟩]
 ·unfold gW at h;split at h
  ·rename_i b c e;split at h
   ·rename_i hb;injection h with h
    injection h with h1 h2
    subst h1 h2;refine⟨?_,DH e⟩;show(decide (-1099511627776<=b)&&decide (b<=1099511627776))=true;simp only[acR,ado];exact hb
   ·cases h
  ·cases h
theorem sI:RT pu (iS kW):=by
 refine⟨fun b r h=>?_,fun l b r h=>?_⟩
 ·have a:=iU.wr (if b=true then 1 else 0) r h;unfold pu;rw[show iS kW b=kW.num (if b=true then 1 else 0) from rfl,a];cases b<;>simp
 ·unfold pu at h;split at h
  ·rename_i d c e;split at h
   ·rename_i hb;injection h with h
    injection h with a h2
    subst a h2;have:=iU.rd _ _ _ e;rcases hb with rfl | rfl
    ·exact this
    ·exact this
   ·cases h
  ·cases h
theorem lH {a:Type}{d:Dec a}{e:a->Enc}(h:RT d e):∀(l:List a) (r:List UInt8),(aL e l).2=true->bT d l.length ((aL e l).1++r)=some (l,r)
 | [],r,_=>rfl
 | x::l,r,c=>by
  have b:=eL.1 c;have f:(aL e (x::l)).1=(e x).1++(aL e l).1:=rfl;rw[f,acM];simp only[xo,bT,h.wr x _ b.1,lH h l r b.2]
theorem lI {b:Type}{d:Dec b}{e:b->Enc}(h:RT d e):∀(n:Nat) (l:List UInt8) (xs:List b) (r:List UInt8),bT d n l=some (xs,r)->(aL e xs).2=true/\l=(aL e xs).1++r/\xs.length=n
 | 0,l,xs,r,a=>by
  injection a with a
  injection a with h1 h2
  subst h1 h2;exact⟨rfl,rfl,rfl⟩
 | n+1,l,xs,r,a=>by
  simp only[bT] at a;split at a
  case h_2=>cases a
  rename_i x f m;split at a
  case h_2=>cases a
  rename_i ys c q;injection a with a
  injection a with h1 h2
  subst h1 h2;obtain⟨s,o⟩:=h.rd l x f m;obtain⟨p,j,k⟩:=lI h n f ys c q;refine⟨eL.2 ⟨s,p⟩,?_,by simp[k]⟩;show l=(e x).1++(aL e ys).1++c;rw[o,j];simp
theorem yM {a:Type}{e:a->Enc}(h:∀x,1<=(e x).1.length):∀l:List a,l.length<=(aL e l).1.length
 | []=>by simp
 | x::l=>by
  have:=h x;have:=yM h l;show(x::l).length<=((e x).1++(aL e l).1).length;rw[yo,xo];omega
theorem gR {j:Type}{d:Dec j}{e:j->Enc}(h:RT d e) (p:∀x,1<=(e x).1.length):RT (eu d) (bI kW e):=by
 refine⟨fun l r b=>?_,fun bs l r b=>?_⟩
 ·have f:=eL.1 b;have u:(l.length:Int)<=100000:=ada f.1;have a:(bI kW e l).1=bN (zz l.length)++(aL e l).1:=rfl;have y:=yM p l;rw[a,acM];have s:Bj (bN (zz l.length)++((aL e l).1++r))=some (l.length,(aL e l).1++r):=by
   simp only[Bj,ju (l.length:Int) _ (by omega) (by omega)];rw[o6 ⟨by omega,u,by rw[yo];omega⟩];rfl
  unfold eu;rw[aD s];exact lH h l r f.2
 ·obtain⟨n,r1,a,t⟩:=fC b;obtain⟨q,k,w⟩:=lI h _ _ _ _ t;unfold Bj at a;split at a
  case h_2=>cases a
  rename_i m z o;split at a
  case isFalse=>cases a
  rename_i v;injection a with a
  injection a with f h2
  subst h2;have c:(l.length:Int)=m:=by omega
  refine⟨eL.2 ⟨adE (by omega),q⟩,?_⟩;show bs=bN (zz l.length)++(aL e l).1++r;rw[c,DH o,k];simp
theorem qI (n:Int):1<=(kW.num n).1.length:=jU _
theorem I9 (b:Bool):1<=(iS kW b).1.length:=jU _
theorem oS:RT (eu gW) (bI kW kW.num):=gR iU qI
theorem je {c e:Type}{f:Dec c}{k:c->Dec e}{a b:Enc}{x:c}{y:e}{r:List UInt8}(h:(br a b).2=true) (j:a.2=true->∀s,f (a.1++s)=some (x,s)) (l:b.2=true->k x (b.1++r)=some (y,r)):gN f k ((br a b).1++r)=some (y,r):=by
 have d:=eL.1 h;rw[gq,acM,aD (j d.1 _)];exact l d.2
theorem oU {b c:Type}{f:Dec b}{k:b->Dec c}{a:Enc}{x:b}{y:c}{r:List UInt8}(h:a.2=true) (d:a.2=true->∀s,f (a.1++s)=some (x,s)) (e:k x r=some (y,r)):gN f k (a.1++r)=some (y,r):=by
 rw[aD (d h r)];exact e
theorem ab2 {e:Type}{l:List e}(h:l.length=4):∃a b c d,l=[a,b,c,d]:=by
 match l,h with
 | [a,b,c,d],_=>exact⟨a,b,c,d,rfl⟩
theorem NN {b:Type}{l:List b}(h:l.length=1):∃a,l=[a]:=by
 match l,h with
 | [a],_=>exact⟨a,rfl⟩
theorem XQ {c:Type}{l:List c}(h:l.length=2):∃a b,l=[a,b]:=by
 match l,h with
 | [a,b],_=>exact⟨a,b,rfl⟩
theorem Vp {d:Type}{l:List d}(h:l.length=3):∃a b c,l=[a,b,c]:=by
 match l,h with
 | [a,b,c],_=>exact⟨a,b,c,rfl⟩
theorem ab3 {f:Type}{l:List f}(h:l.length=5):∃a b c d e,l=[a,b,c,d,e]:=by
 match l,h with
 | [a,b,c,d,e],_=>exact⟨a,b,c,d,e,rfl⟩
theorem oV {a:Type}{x y:a}{l r:List UInt8}(h:xU x l=some (y,r)):x=y/\l=r:=by
 injection h with h
 injection h with h1 h2
 exact⟨h1,h2⟩
theorem DI (v:Vl) (d:Int):1<=(ni kW v d).1.length:=by
 cases v with
 | mk a b c n f e p l =>
  rw[ni];simp only[gq,aL,yo];have:=qI a;omega
theorem Ti:∀d:Nat,RT (GS d) (fun v=>ni kW v d)
 | 0=>⟨fun v r h=>by
   cases v with
   | mk a b c n f e p l =>
    have j:(ni kW (.mk a b c n f e p l) ((0:Nat):Int)).2=true:=h;rw[ni] at j;have:=(eL.1 j).1;exact s6 this (by decide),fun l x r h=>by cases h⟩
 | d+1=>by
  have k:RT (GS d) (fun v=>ni kW v (((d+1:Nat):Int)-1)):=by
   have e:((d+1:Nat):Int)-1=(d:Int):=by omega
   rw[e];exact Ti d
  refine⟨fun v r h=>?_,fun bs v r h=>?_⟩
  ·cases v with
   | mk a b c n f e p l =>
    have j:(ni kW (.mk a b c n f e p l) ((d+1:Nat):Int)).2=true:=h;show GS (d+1) ((ni kW (.mk a b c n f e p l) ((d+1:Nat):Int)).1++r)=_;rw[ni,nU] at j ⊢;have h1:=(eL.1 j).2;rw[gq];show GS (d+1) ((br (aL kW.num [a,b,c,n]) _).1++r)=_;unfold GS;refine je h1 (fun q s=>lH iU _ _ q) fun m=>?_;refine je m (fun q s=>(gR k (fun x=>DI x _)).wr f s q) fun h3=>?_;refine je h3 (fun q s=>lH sI _ _ q) fun h4=>?_;refine je h4 (fun q s=>oS.wr _ _ q) fun h5=>?_;exact oU h5 (fun q s=>oS.wr _ _ q) rfl
  ·unfold GS at h;obtain⟨a,r1,e1,h⟩:=fC h;obtain⟨f,r2,e2,h⟩:=fC h;obtain⟨b,r3,e3,h⟩:=fC h;obtain⟨p,r4,e4,h⟩:=fC h;obtain⟨l,r5,t,h⟩:=fC h;obtain⟨rfl,rfl⟩:=oV h;obtain⟨a1,a2,a3⟩:=lI iU _ _ _ _ e1;obtain⟨f1,o⟩:=(gR k (fun x=>DI x _)).rd _ _ _ e2;obtain⟨b1,b2,b3⟩:=lI sI _ _ _ _ e3;obtain⟨p1,p2⟩:=oS.rd _ _ _ e4;obtain⟨l1,l2⟩:=oS.rd _ _ _ t;obtain⟨w,x,y,z,rfl⟩:=ab2 a3;obtain⟨u,rfl⟩:=NN b3;show(ni kW (.mk w x y z f u p l) ((d+1:Nat):Int)).2=true/\bs=(ni kW (.mk w x y z f u p l) ((d+1:Nat):Int)).1++r5;rw[ni,nU];refine⟨eL.2 ⟨?_,eL.2 ⟨a1,eL.2 ⟨f1,eL.2 ⟨b1,eL.2 ⟨p1,l1⟩⟩⟩⟩⟩,?_⟩
   ·show(decide (0<((d+1:Nat):Int))||kW.deep)=true;simp only[adl,ado];exact .inl (by omega)
   ·rw[a2,o,b2,p2,l2];simp only[gq,bI,acM];rfl
theorem DJ:RT Iw (oQ kW):=Ti 60
theorem FO (v:Vl):1<=(oQ kW v).1.length:=DI v 60
theorem Ja:RT WL (GU kW):=gR DJ FO
theorem NP {a:Type}(e:a->Enc) (l:List a):1<=(bI kW e l).1.length:=by
 show 1<=(bN (zz l.length)++(aL e l).1).length;have:=jU (zz l.length);rw[yo];omega
theorem qb {a:Type}{e:a->Enc}(h:∀x,1<=(e x).1.length) (x:a) (l:List a):1<=(aL e (x::l)).1.length:=by
 have:=yM h (x::l);simp only[xo] at this;omega
theorem yN {a b:Enc}(h:1<=a.1.length):1<=(br a b).1.length:=by rw[gq,yo];omega
theorem Tj:RT SS (Fp kW):=by
 refine⟨fun x r h=>?_,fun bs x r h=>?_⟩
 ·unfold SS;refine je h (fun q s=>lH sI _ _ q) fun h=>?_;refine je h (fun q s=>lH iU _ _ q) fun h=>?_;exact oU h (fun q s=>DJ.wr _ _ q) rfl
 ·obtain⟨b,z,e,h⟩:=fC h;obtain⟨a,t,m,h⟩:=fC h;obtain⟨v,y,d,h⟩:=fC h;obtain⟨rfl,rfl⟩:=oV h;obtain⟨o,j,n⟩:=lI sI _ _ _ _ e;obtain⟨f,p,l⟩:=lI iU _ _ _ _ m;obtain⟨k,c⟩:=DJ.rd _ _ _ d;obtain⟨u,rfl⟩:=NN n;obtain⟨w,rfl⟩:=NN l;refine⟨eL.2 ⟨o,eL.2 ⟨f,k⟩⟩,?_⟩;rw[j,p,c];simp only[Fp,gq,acM];rfl
theorem Tl:RT SW (Fq kW):=by
 refine⟨fun x r h=>?_,fun bs x r h=>?_⟩
 ·unfold SW;refine je h (fun q s=>lH iU _ _ q) fun h=>?_;refine je h (fun q s=>Ja.wr _ _ q) fun h=>?_;exact oU h (fun q s=>oS.wr _ _ q) rfl
 ·obtain⟨b,z,e,h⟩:=fC h;obtain⟨a,w,l,h⟩:=fC h;obtain⟨v,y,d,h⟩:=fC h;obtain⟨rfl,rfl⟩:=oV h;obtain⟨n,j,m⟩:=lI iU _ _ _ _ e;obtain⟨f,o⟩:=Ja.rd _ _ _ l;obtain⟨k,c⟩:=oS.rd _ _ _ d;obtain⟨p,q,s,t,u,rfl⟩:=ab3 m;refine⟨eL.2 ⟨n,eL.2 ⟨f,k⟩⟩,?_⟩;rw[j,o,c];simp only[Fq,gq,acM];rfl
theorem Tm:RT UQ (Fs kW):=by
 refine⟨fun x r h=>?_,fun bs x r h=>?_⟩
 ·unfold UQ;refine je h (fun q s=>lH iU _ _ q) fun h=>?_;exact oU h (fun q s=>lH sI [x.excl,x.re,x.over] _ q) rfl
 ·obtain⟨a,o,c,h⟩:=fC h;obtain⟨b,n,j,h⟩:=fC h;obtain⟨rfl,rfl⟩:=oV h;obtain⟨l,e,k⟩:=lI iU _ _ _ _ c;obtain⟨d,m,f⟩:=lI sI _ _ _ _ j;obtain⟨p,q,rfl⟩:=XQ k;obtain⟨s,t,u,rfl⟩:=Vp f;refine⟨eL.2 ⟨l,d⟩,?_⟩;rw[e,m];simp only[Fs,gq,acM];rfl
theorem He (x:Ac):1<=(Fq kW x).1.length:=yN (qb qI _ _)
theorem Hf (x:Ln):1<=(Fs kW x).1.length:=yN (qb qI _ _)
theorem Hg (x:Ce):1<=(Fp kW x).1.length:=yN (qb I9 _ _)
theorem Hh (x:Tk):1<=(Du kW x).1.length:=yN (qb qI _ _)
theorem Hj (x:Ou):1<=(F9 kW x).1.length:=qb qI _ _
theorem Hl (x:Bool):1<=(Iy kW x).1.length:=qb I9 _ _
theorem Tn:RT Oo (Du kW):=by
 refine⟨fun x r h=>?_,fun bs x r h=>?_⟩
 ·unfold Oo;refine je h (fun q s=>lH iU _ _ q) fun h=>?_;refine je h (fun q s=>(gR Tl He).wr _ _ q) fun h=>?_;refine je h (fun q s=>(gR Tm Hf).wr _ _ q) fun h=>?_;refine je h (fun q s=>lH iU [x.allocs,x.clock,x.next] _ q) fun h=>?_;exact oU h (fun q s=>oS.wr _ _ q) rfl
 ·obtain⟨a,r1,o,h⟩:=fC h;obtain⟨f,r2,e2,h⟩:=fC h;obtain⟨l,r3,m,h⟩:=fC h;obtain⟨n,r4,e4,h⟩:=fC h;obtain⟨c,r5,j,h⟩:=fC h;obtain⟨rfl,rfl⟩:=oV h;obtain⟨a1,y,a3⟩:=lI iU _ _ _ _ o;obtain⟨v,b2⟩:=(gR Tl He).rd _ _ _ e2;obtain⟨z,b⟩:=(gR Tm Hf).rd _ _ _ m;obtain⟨e,k,d3⟩:=lI iU _ _ _ _ e4;obtain⟨w,d⟩:=oS.rd _ _ _ j;obtain⟨p,rfl⟩:=NN a3;obtain⟨s,t,u,rfl⟩:=Vp d3;refine⟨eL.2 ⟨a1,eL.2 ⟨v,eL.2 ⟨z,eL.2 ⟨e,w⟩⟩⟩⟩,?_⟩;rw[y,b2,b,k,d];simp only[Du,gq,acM];rfl
theorem Tp:RT WM (F9 kW):=by
 refine⟨fun x r h=>?_,fun bs x r h=>?_⟩
 ·unfold WM;exact oU h (fun q s=>lH iU [x.task,x.number] _ q) rfl
 ·obtain⟨a,f,e,h⟩:=fC h;obtain⟨rfl,rfl⟩:=oV h;obtain⟨b,c,d⟩:=lI iU _ _ _ _ e;obtain⟨p,q,rfl⟩:=XQ d;exact⟨b,c⟩
theorem Tq:RT WN (Iy kW):=by
 refine⟨fun x r h=>?_,fun bs x r h=>?_⟩
 ·unfold WN;exact oU h (fun q s=>lH sI [x] _ q) rfl
 ·obtain⟨a,f,e,h⟩:=fC h;obtain⟨rfl,rfl⟩:=oV h;obtain⟨b,c,d⟩:=lI sI _ _ _ _ e;obtain⟨p,rfl⟩:=NN d;exact⟨b,c⟩
theorem Ho (l:List Vl):1<=(GU kW l).1.length:=NP _ _
theorem Tr:RT Fm (mQ kW):=by
 refine⟨fun x r h=>?_,fun bs x r h=>?_⟩
 ·unfold Fm;refine je h (fun q s=>(gR Tj Hg).wr _ _ q) fun h=>?_;refine je h (fun q s=>(gR Tq Hl).wr _ _ q) fun h=>?_;refine je h (fun q s=>(gR Tn Hh).wr _ _ q) fun h=>?_;refine je h (fun q s=>(gR Ja Ho).wr _ _ q) fun h=>?_;refine je h (fun q s=>(gR Tp Hj).wr _ _ q) fun h=>?_;exact oU h (fun q s=>lH iU [x.made,x.dropped,x.closed] _ q) rfl
 ·obtain⟨a,r1,v,h⟩:=fC h;obtain⟨b,r2,e2,h⟩:=fC h;obtain⟨c,r3,u,h⟩:=fC h;obtain⟨d,r4,e4,h⟩:=fC h;obtain⟨f,r5,l,h⟩:=fC h;obtain⟨m,r6,t,h⟩:=fC h;obtain⟨rfl,rfl⟩:=oV h;obtain⟨a1,a2⟩:=(gR Tj Hg).rd _ _ _ v;obtain⟨w,b2⟩:=(gR Tq Hl).rd _ _ _ e2;obtain⟨c1,e⟩:=(gR Tn Hh).rd _ _ _ u;obtain⟨k,o⟩:=(gR Ja Ho).rd _ _ _ e4;obtain⟨y,j⟩:=(gR Tp Hj).rd _ _ _ l;obtain⟨z,n,m3⟩:=lI iU _ _ _ _ t;obtain⟨p,q,s,rfl⟩:=Vp m3;refine⟨eL.2 ⟨a1,eL.2 ⟨w,eL.2 ⟨c1,eL.2 ⟨k,eL.2 ⟨y,z⟩⟩⟩⟩⟩,?_⟩;rw[a2,b2,e,o,j,n];simp only[mQ,gq,acM];rfl
end Go.Fr.Tryz
namespace Go.Fr.Try.Pure
def stp (h x:Int):Int:=(h*1000003+x+1) % 2147483647
def run (h:Int) (l:List Int):Int:=l.foldl stp h
end Go.Fr.Try.Pure
namespace Go.Fr.Tryz
open Go Go.Fr.T Go.Fr.Dm
open Go.Fr.Try
theorem AB (bs:List UInt8):(l8 bs).length=4:=rfl
theorem FP (b:List UInt8):(fV b).length=b.length+4:=by simp[fV,AB]
theorem RG (b:List UInt8):(fV b).take ((fV b).length-4)=b:=by
 rw[FP,Nat.add_sub_cancel];simp[fV]
theorem FQ {bs:List UInt8}{x:Wd}:oH bs=some x↔Fm bs=some (x,[]):=by
 unfold oH;constructor
 ·intro h;split at h
  ·rename_i e;injection h with h;subst h;exact e
  ·cases h
 ·intro h;rw[h]
theorem Cy {bs:List UInt8}:cB <+: bs↔bs.take 3=cB:=by
 rw[List.prefix_iff_eq_take];exact eq_comm
theorem RH {x:Wd}(h:(mQ kW x).2=true):l9 (kg x)=(some x,0):=by
 unfold kg;rw[o6 h];have f:=FP (cB++(mQ kW x).1);have c:=RG (cB++(mQ kW x).1);have b:(cB++(mQ kW x).1).length=(mQ kW x).1.length+3:=by simp[cB]
 unfold l9;rw[c,s8,s8 (fun q=>q rfl)]
 ·have e:=Tr.wr x [] h;rw[acT] at e;have d:(cB++(mQ kW x).1).drop 3=(mQ kW x).1:=rfl;rw[d,FQ.2 e]
 ·rintro(a | a)
  ·omega
  ·exact a (List.IsPrefix.trans (List.prefix_append _ _) (List.prefix_append _ _))
theorem Vq {x:Wd}(h:(kg x).length≠0):(mQ kW x).2=true:=by
 cases e:(mQ kW x).2 with
 | true=>rfl
 | false=>unfold kg at h;rw[e] at h;exact s6 rfl h
end Go.Fr.Tryz
namespace Go.Fr.Tryz
open Go Go.RowKit Go.Proofs Go.Fr Go.Fr.T Go.Fr.Api
def Jb (x:Ki):G:=.st [I x.slot,.bool x.excl,.bool x.re]
def Jc (x:Slot):G:=.st [I x.state,x.type.g,I x.var,I x.flag,.sl 3 (x.lent.map Jb)]
def AE (l:List Slot):G:=.sl 7 (l.map Jc)
def FR (r:Ar):G:=.st [.str r.name,.sl 3 (r.params.map Ty.g),r.result.g,.sl 1 (r.ties.map I),I r.slots,.sl 4 (r.blocks.map Block.g),.sl 1 (r.entry.map AE)]
def Br (i:uQ):G:=.st [.sl 5 (i.datas.map Data.g),.sl 9 (i.routs.map FR),I i.main]
mutual
def nC:Vl->G
 | .mk a b c d f e p l=>.st [I a,I b,I c,I d,.sl 8 (sJ f),.bool e,.sl 1 (p.map I),.sl 1 (l.map I)]
def sJ:List Vl->List G
 | []=>[]
 | x::l=>nC x::sJ l
end
theorem sK:∀l:List Vl,sJ l=l.map nC
 | []=>rfl
 | x::l=>by rw[sJ,sK l];rfl
def xK (x:Ce):G:=.st [.bool x.live,I x.arena,nC x.value]
def vW (l:List Vl):G:=.sl 8 (l.map nC)
def yO (x:Ac):G:=.st [I x.number,I x.routine,I x.block,I x.index,I x.dst,vW x.slots,.sl 1 (x.since.map I)]
def DK (x:Ln):G:=.st [I x.frame,I x.slot,.bool x.excl,.bool x.re,.bool x.over]
def wP (x:Tk):G:=.st [I x.state,.sl 7 (x.frames.map yO),.sl 5 (x.loans.map DK),I x.allocs,I x.clock,I x.next,.sl 1 (x.cells.map I)]
def Cz (x:Ou):G:=.st [I x.task,I x.number]
def yP (i:uQ) (x:Wd):G:=.st [Br i,.st [.sl 10 (x.cells.map xK),.sl 1 (x.arenas.map .bool)],.sl 7 (x.tasks.map wP),.sl 1 (x.channels.map vW),.sl 2 (x.outputs.map Cz),I x.made,I x.dropped,I x.closed]
theorem NQ (x:Ki):nM (Jb x)=Au x:=rfl
theorem NR (x:Slot):nM (Jc x)=i9 x:=by simp only[Jc,nM,jT,i9,Dq,GP,fu NQ,acT,acW,acX]
theorem Kn (l:List Slot):nM (AE l)=oz l:=by simp only[AE,nM,oz,fu NR]
theorem FT (r:Ar):nM (FR r)=iJ r:=by simp only[FR,nM,jT,iJ,Dq,GP,Dr,wF,fu J7,fu Kn,acT,acW,acX]
theorem RJ (i:uQ):nM (Br i)=wN i:=by simp only[Br,nM,jT,wN,fu Fj,fu FT,acT,acW,acX]
theorem NS (i:uQ):xT (Br i)=.agg (wN i):=by rw[<-RJ];exact Iv
mutual
theorem DL:∀x:Vl,nM (nC x)=mS x
 | .mk a b c d f e p l=>by simp only[nC,nM,jT,mS,Jd f,wF,acT,acW,acX]
theorem Jd:∀l:List Vl,tI (sJ l)=J9 l
 | []=>rfl
 | x::l=>by simp only[sJ,tI,J9,DL x,Jd l]
end
theorem Vr (x:Ce):nM (xK x)=tY x:=by simp only[xK,nM,jT,tY,DL,acT,acW,acX]
theorem Vs (l:List Vl):nM (vW l)=DX l:=by simp only[vW,nM,DX,fu DL]
theorem Vt (x:Ac):nM (yO x)=yE x:=by simp only[yO,vW,nM,jT,yE,fu DL,wF,acT,acW,acX]
theorem Vu (x:Ln):nM (DK x)=F8 x:=rfl
theorem Vv (x:Tk):nM (wP x)=vM x:=by simp only[wP,nM,jT,vM,fu Vt,fu Vu,wF,acT,acW,acX]
theorem Vw (x:Ou):nM (Cz x)=GR x:=rfl
theorem Vx (b:Bool):nM (.bool b)=Af b:=rfl
theorem Vy (i:uQ) (x:Wd):nM (yP i x)=yK i x:=by
 simp only[yP,nM,jT,yK,q9,UO,Br,fu Fj,fu FT,fu Vr,fu Vx,fu Vv,fu Vs,fu Vw,acT,acW,acX]
theorem RM (i:uQ) (x:Wd):xT (yP i x)=.agg (yK i x):=by rw[<-Vy];exact Iv
theorem DM {n:Nat}{g:G}(h:Ok Tryz.prog n 79 g):∃x:Ty,g=x.g:=WD (ti:=3) (ts:=74) (by kernel_rfl) (by kernel_rfl) (by kernel_rfl) n g h
theorem Hp {n:Nat}{g:G}(h:Ok Tryz.prog n 74 g):∃x:List Ty,g=.sl 3 (x.map Ty.g):=fF (e:=79) (by kernel_rfl) h fun _ _ _ a=>DM a
theorem Vz {n:Nat}{g:G}(h:Ok Tryz.prog n 76 g):∃v:Variant,g=v.g:=by
 obtain⟨m,l,f,rfl,e⟩:=gQ (t:=76) (ts:=[9,74]) (by kernel_rfl) h;obtain⟨a,r,rfl,d,c⟩:=aQ e;obtain⟨b,rfl,hb⟩:=qZ c;obtain⟨x,rfl⟩:=GN (by kernel_rfl) d;obtain⟨p,rfl⟩:=Hp hb;exact⟨⟨x,p⟩,rfl⟩
theorem RN {n:Nat}{g:G}(h:Ok Tryz.prog n 70 g):∃x:List Variant,g=.sl 2 (x.map Variant.g):=fF (e:=76) (by kernel_rfl) h fun _ _ _ a=>Vz a
theorem VA {n:Nat}{g:G}(h:Ok Tryz.prog n 72 g):∃d:Api.Data,g=d.g:=by
 obtain⟨m,l,u,rfl,o⟩:=gQ (t:=72) (ts:=[9,3,3,70,3]) (by kernel_rfl) h;obtain⟨a,r,rfl,k,f⟩:=aQ o;obtain⟨b,r,rfl,hb,f⟩:=aQ f;obtain⟨c,r,rfl,p,f⟩:=aQ f;obtain⟨d,r,rfl,j,f⟩:=aQ f;obtain⟨e,rfl,s⟩:=qZ f;obtain⟨x,rfl⟩:=GN (by kernel_rfl) k;obtain⟨y,rfl⟩:=cU (by kernel_rfl) hb;obtain⟨z,rfl⟩:=cU (by kernel_rfl) p;obtain⟨v,rfl⟩:=RN j;obtain⟨q,rfl⟩:=cU (by kernel_rfl) s;exact⟨⟨x,y,z,v,q⟩,rfl⟩
theorem RO {n:Nat}{g:G}(h:Ok Tryz.prog n 22 g):∃x:List Api.Data,g=.sl 5 (x.map Data.g):=fF (e:=72) (by kernel_rfl) h fun _ _ _ a=>VA a
theorem AF {n:Nat}{g:G}(h:Ok Tryz.prog n 59 g):∃l:List Int,g=.sl 1 (l.map I):=fF (e:=3) (by kernel_rfl) h fun _ _ _ a=>cU (by kernel_rfl) a
theorem VB {n:Nat}{g:G}(h:Ok Tryz.prog n 144 g):∃x:Ip,g=x.g:=by
 obtain⟨m,l,y,rfl,p⟩:=gQ (t:=144) (ts:=[3,3,3,3,3,59,74]) (by kernel_rfl) h;obtain⟨a,r,rfl,o,j⟩:=aQ p;obtain⟨b,r,rfl,hb,j⟩:=aQ j;obtain⟨c,r,rfl,u,j⟩:=aQ j;obtain⟨d,r,rfl,k,j⟩:=aQ j;obtain⟨e,r,rfl,v,j⟩:=aQ j;obtain⟨f,r,rfl,w,j⟩:=aQ j;obtain⟨q,rfl,s⟩:=qZ j;obtain⟨a,rfl⟩:=cU (by kernel_rfl) o;obtain⟨b,rfl⟩:=cU (by kernel_rfl) hb;obtain⟨c,rfl⟩:=cU (by kernel_rfl) u;obtain⟨d,rfl⟩:=cU (by kernel_rfl) k;obtain⟨e,rfl⟩:=cU (by kernel_rfl) v;obtain⟨f,rfl⟩:=AF w;obtain⟨q,rfl⟩:=Hp s;exact⟨⟨a,b,c,d,e,f,q⟩,rfl⟩
theorem RP {n:Nat}{g:G}(h:Ok Tryz.prog n 140 g):∃x:Api.Term,g=x.g:=by
 obtain⟨m,l,k,rfl,j⟩:=gQ (t:=140) (ts:=[3,3,59]) (by kernel_rfl) h;obtain⟨a,r,rfl,f,d⟩:=aQ j;obtain⟨b,r,rfl,hb,d⟩:=aQ d;obtain⟨c,rfl,e⟩:=qZ d;obtain⟨a,rfl⟩:=cU (by kernel_rfl) f;obtain⟨b,rfl⟩:=cU (by kernel_rfl) hb;obtain⟨c,rfl⟩:=AF e;exact⟨⟨a,b,c⟩,rfl⟩
theorem NT {n:Nat}{g:G}(h:Ok Tryz.prog n 142 g):∃x:Block,g=x.g:=by
 obtain⟨m,l,o,rfl,d⟩:=gQ (t:=142) (ts:=[138,140]) (by kernel_rfl) h;obtain⟨a,r,rfl,j,c⟩:=aQ d;obtain⟨b,rfl,hb⟩:=qZ c;obtain⟨a,rfl⟩:=fF (e:=144) (sz:=7) (f:=Ip.g) (by kernel_rfl) j fun _ _ _ k=>VB k;obtain⟨b,rfl⟩:=RP hb;exact⟨⟨a,b⟩,rfl⟩
theorem RQ {n:Nat}{g:G}(h:Ok Tryz.prog n 224 g):∃x:Ki,g=Jb x:=by
 obtain⟨m,l,k,rfl,j⟩:=gQ (t:=224) (ts:=[3,4,4]) (by kernel_rfl) h;obtain⟨a,r,rfl,f,d⟩:=aQ j;obtain⟨b,r,rfl,hb,d⟩:=aQ d;obtain⟨c,rfl,e⟩:=qZ d;obtain⟨a,rfl⟩:=cU (by kernel_rfl) f;obtain⟨b,rfl⟩:=rX (by kernel_rfl) hb;obtain⟨c,rfl⟩:=rX (by kernel_rfl) e;exact⟨⟨a,b,c⟩,rfl⟩
theorem RS {n:Nat}{g:G}(h:Ok Tryz.prog n 148 g):∃x:Slot,g=Jc x:=by
 obtain⟨m,l,v,rfl,p⟩:=gQ (t:=148) (ts:=[3,79,3,3,146]) (by kernel_rfl) h;obtain⟨a,r,rfl,o,j⟩:=aQ p;obtain⟨b,r,rfl,hb,j⟩:=aQ j;obtain⟨c,r,rfl,q,j⟩:=aQ j;obtain⟨d,r,rfl,k,j⟩:=aQ j;obtain⟨e,rfl,s⟩:=qZ j;obtain⟨a,rfl⟩:=cU (by kernel_rfl) o;obtain⟨b,rfl⟩:=DM hb;obtain⟨c,rfl⟩:=cU (by kernel_rfl) q;obtain⟨d,rfl⟩:=cU (by kernel_rfl) k;obtain⟨e,rfl⟩:=fF (e:=224) (sz:=3) (f:=Jb) (by kernel_rfl) s fun _ _ _ u=>RQ u;exact⟨⟨a,b,c,d,e⟩,rfl⟩
theorem NU {n:Nat}{g:G}(h:Ok Tryz.prog n 145 g):∃x:List Slot,g=AE x:=fF (e:=148) (by kernel_rfl) h fun _ _ _ a=>RS a
theorem RU {n:Nat}{g:G}(h:Ok Tryz.prog n 83 g):∃x:Ar,g=FR x:=by
 obtain⟨m,l,z,rfl,s⟩:=gQ (t:=83) (ts:=[9,74,79,59,3,80,81]) (by kernel_rfl) h;obtain⟨a,r,rfl,p,j⟩:=aQ s;obtain⟨b,r,rfl,hb,j⟩:=aQ j;obtain⟨c,r,rfl,v,j⟩:=aQ j;obtain⟨d,r,rfl,o,j⟩:=aQ j;obtain⟨e,r,rfl,w,j⟩:=aQ j;obtain⟨f,r,rfl,y,j⟩:=aQ j;obtain⟨q,rfl,u⟩:=qZ j;obtain⟨a,rfl⟩:=GN (by kernel_rfl) p;obtain⟨b,rfl⟩:=Hp hb;obtain⟨c,rfl⟩:=DM v;obtain⟨d,rfl⟩:=AF o;obtain⟨e,rfl⟩:=cU (by kernel_rfl) w;obtain⟨f,rfl⟩:=fF (e:=142) (sz:=4) (f:=Block.g) (by kernel_rfl) y fun _ _ _ k=>NT k;obtain⟨q,rfl⟩:=fF (e:=145) (sz:=1) (f:=AE) (by kernel_rfl) u fun _ _ _ k=>NU k;exact⟨⟨a,b,c,d,e,f,q⟩,rfl⟩
theorem NV {n:Nat}{g:G}(h:Ok Tryz.prog n 25 g):∃x:uQ,g=Br x:=by
 obtain⟨m,l,q,rfl,k⟩:=gQ (t:=25) (ts:=[22,23,3]) (by kernel_rfl) h;obtain⟨a,r,rfl,j,d⟩:=aQ k;obtain⟨b,r,rfl,hb,d⟩:=aQ d;obtain⟨c,rfl,o⟩:=qZ d;obtain⟨a,rfl⟩:=RO j;obtain⟨b,rfl⟩:=fF (e:=83) (sz:=9) (f:=FR) (by kernel_rfl) hb fun _ _ _ p=>RU p;obtain⟨c,rfl⟩:=cU (by kernel_rfl) o;exact⟨⟨a,b,c⟩,rfl⟩
theorem Tt:∀(n:Nat) (g:G),Ok Tryz.prog n 61 g->∃x:Vl,g=nC x:=by
 intro n
 induction n using Nat.strongRecOn with
 | _ n s =>
  intro g k;obtain⟨m,l,hm,rfl,y⟩:=gQ (t:=61) (ts:=[3,3,3,3,58,4,59,59]) (by kernel_rfl) k;obtain⟨a,r,rfl,v,h⟩:=aQ y;obtain⟨b,r,rfl,hb,h⟩:=aQ h;obtain⟨c,r,rfl,hc,h⟩:=aQ h;obtain⟨d,r,rfl,j,h⟩:=aQ h;obtain⟨e,r,rfl,he,h⟩:=aQ h;obtain⟨f,r,rfl,hf,h⟩:=aQ h;obtain⟨p,r,rfl,o,h⟩:=aQ h;obtain⟨q,rfl,z⟩:=qZ h;obtain⟨a,rfl⟩:=cU (by kernel_rfl) v;obtain⟨b,rfl⟩:=cU (by kernel_rfl) hb;obtain⟨c,rfl⟩:=cU (by kernel_rfl) hc;obtain⟨d,rfl⟩:=cU (by kernel_rfl) j;obtain⟨e,rfl⟩:=fF (e:=61) (sz:=8) (f:=nC) (by kernel_rfl) he (fun w x u hx=>s w (by omega) x hx);obtain⟨f,rfl⟩:=rX (by kernel_rfl) hf;obtain⟨p,rfl⟩:=AF o;obtain⟨q,rfl⟩:=AF z;exact⟨.mk a b c d e f p q,by rw[nC,sK]⟩
theorem Tv {n:Nat}{g:G}(h:Ok Tryz.prog n 58 g):∃x:List Vl,g=vW x:=fF (e:=61) (by kernel_rfl) h fun _ _ _ a=>Tt _ _ a
theorem XR {n:Nat}{g:G}(h:Ok Tryz.prog n 63 g):∃x:Ce,g=xK x:=by
 obtain⟨m,l,k,rfl,j⟩:=gQ (t:=63) (ts:=[4,3,61]) (by kernel_rfl) h;obtain⟨a,r,rfl,f,d⟩:=aQ j;obtain⟨b,r,rfl,hb,d⟩:=aQ d;obtain⟨c,rfl,e⟩:=qZ d;obtain⟨a,rfl⟩:=rX (by kernel_rfl) f;obtain⟨b,rfl⟩:=cU (by kernel_rfl) hb;obtain⟨c,rfl⟩:=Tt _ _ e;exact⟨⟨a,b,c⟩,rfl⟩
theorem XS {n:Nat}{g:G}(h:Ok Tryz.prog n 69 g):∃x:Ac,g=yO x:=by
 obtain⟨m,l,w,rfl,q⟩:=gQ (t:=69) (ts:=[3,3,3,3,3,58,59]) (by kernel_rfl) h;obtain⟨a,r,rfl,p,j⟩:=aQ q;obtain⟨b,r,rfl,hb,j⟩:=aQ j;obtain⟨c,r,rfl,s,j⟩:=aQ j;obtain⟨d,r,rfl,k,j⟩:=aQ j;obtain⟨e,r,rfl,u,j⟩:=aQ j;obtain⟨f,r,rfl,v,j⟩:=aQ j;obtain⟨g,rfl,o⟩:=qZ j;obtain⟨a,rfl⟩:=cU (by kernel_rfl) p;obtain⟨b,rfl⟩:=cU (by kernel_rfl) hb;obtain⟨c,rfl⟩:=cU (by kernel_rfl) s;obtain⟨d,rfl⟩:=cU (by kernel_rfl) k;obtain⟨e,rfl⟩:=cU (by kernel_rfl) u;obtain⟨f,rfl⟩:=Tv v;obtain⟨g,rfl⟩:=AF o;exact⟨⟨a,b,c,d,e,f,g⟩,rfl⟩
theorem XT {n:Nat}{g:G}(h:Ok Tryz.prog n 129 g):∃x:Ln,g=DK x:=by
 obtain⟨m,l,s,rfl,o⟩:=gQ (t:=129) (ts:=[3,3,4,4,4]) (by kernel_rfl) h;obtain⟨a,r,rfl,k,f⟩:=aQ o;obtain⟨b,r,rfl,hb,f⟩:=aQ f;obtain⟨c,r,rfl,p,f⟩:=aQ f;obtain⟨d,r,rfl,j,f⟩:=aQ f;obtain⟨e,rfl,q⟩:=qZ f;obtain⟨a,rfl⟩:=cU (by kernel_rfl) k;obtain⟨b,rfl⟩:=cU (by kernel_rfl) hb;obtain⟨c,rfl⟩:=rX (by kernel_rfl) p;obtain⟨d,rfl⟩:=rX (by kernel_rfl) j;obtain⟨e,rfl⟩:=rX (by kernel_rfl) q;exact⟨⟨a,b,c,d,e⟩,rfl⟩
theorem XU {n:Nat}{g:G}(h:Ok Tryz.prog n 67 g):∃x:Tk,g=wP x:=by
 obtain⟨m,l,y,rfl,s⟩:=gQ (t:=67) (ts:=[3,64,65,3,3,3,59]) (by kernel_rfl) h;obtain⟨a,r,rfl,q,j⟩:=aQ s;obtain⟨b,r,rfl,hb,j⟩:=aQ j;obtain⟨c,r,rfl,u,j⟩:=aQ j;obtain⟨d,r,rfl,o,j⟩:=aQ j;obtain⟨e,r,rfl,v,j⟩:=aQ j;obtain⟨f,r,rfl,w,j⟩:=aQ j;obtain⟨g,rfl,p⟩:=qZ j;obtain⟨a,rfl⟩:=cU (by kernel_rfl) q;obtain⟨b,rfl⟩:=fF (e:=69) (sz:=7) (f:=yO) (by kernel_rfl) hb fun _ _ _ k=>XS k;obtain⟨c,rfl⟩:=fF (e:=129) (sz:=5) (f:=DK) (by kernel_rfl) u fun _ _ _ k=>XT k;obtain⟨d,rfl⟩:=cU (by kernel_rfl) o;obtain⟨e,rfl⟩:=cU (by kernel_rfl) v;obtain⟨f,rfl⟩:=cU (by kernel_rfl) w;obtain⟨g,rfl⟩:=AF p;exact⟨⟨a,b,c,d,e,f,g⟩,rfl⟩
theorem XV {n:Nat}{g:G}(h:Ok Tryz.prog n 101 g):∃x:Ou,g=Cz x:=by
 obtain⟨m,l,f,rfl,e⟩:=gQ (t:=101) (ts:=[3,3]) (by kernel_rfl) h;obtain⟨a,r,rfl,d,c⟩:=aQ e;obtain⟨b,rfl,hb⟩:=qZ c;obtain⟨a,rfl⟩:=cU (by kernel_rfl) d;obtain⟨b,rfl⟩:=cU (by kernel_rfl) hb;exact⟨⟨a,b⟩,rfl⟩
theorem XW {n:Nat}{g:G}(h:Ok Tryz.prog n 29 g):∃(a:List Ce) (b:List Bool),g=.st [.sl 10 (a.map xK),.sl 1 (b.map .bool)]:=by
 obtain⟨m,l,o,rfl,j⟩:=gQ (t:=29) (ts:=[26,27]) (by kernel_rfl) h;obtain⟨a,r,rfl,k,d⟩:=aQ j;obtain⟨b,rfl,hb⟩:=qZ d;obtain⟨a,rfl⟩:=fF (e:=63) (sz:=10) (f:=xK) (by kernel_rfl) k fun _ _ _ c=>XR c;obtain⟨b,rfl⟩:=fF (e:=4) (sz:=1) (f:=G.bool) (by kernel_rfl) hb fun _ _ _ c=>rX (by kernel_rfl) c;exact⟨a,b,rfl⟩
theorem Tw {n:Nat}{g:G}(u:Ok Tryz.prog n 34 g):∃(i:uQ) (x:Wd),g=yP i x:=by
 obtain⟨m,l,hm,rfl,s⟩:=gQ (t:=34) (ts:=[25,29,30,31,32,3,3,3]) (by kernel_rfl) u;obtain⟨a,r,rfl,q,j⟩:=aQ s;obtain⟨b,r,rfl,hb,j⟩:=aQ j;obtain⟨c,r,rfl,w,j⟩:=aQ j;obtain⟨d,r,rfl,o,j⟩:=aQ j;obtain⟨e,r,rfl,z,j⟩:=aQ j;obtain⟨f,r,rfl,hf,j⟩:=aQ j;obtain⟨g,r,rfl,p,j⟩:=aQ j;obtain⟨h,rfl,v⟩:=qZ j;obtain⟨a,rfl⟩:=NV q;obtain⟨b,y,rfl⟩:=XW hb;obtain⟨c,rfl⟩:=fF (e:=67) (sz:=7) (f:=wP) (by kernel_rfl) w fun _ _ _ k=>XU k;obtain⟨d,rfl⟩:=fF (e:=58) (sz:=1) (f:=vW) (by kernel_rfl) o fun _ _ _ k=>Tv k;obtain⟨e,rfl⟩:=fF (e:=101) (sz:=2) (f:=Cz) (by kernel_rfl) z fun _ _ _ k=>XV k;obtain⟨f,rfl⟩:=cU (by kernel_rfl) hf;obtain⟨g,rfl⟩:=cU (by kernel_rfl) p;obtain⟨h,rfl⟩:=cU (by kernel_rfl) v;exact⟨a,⟨b,y,c,d,e,f,g,h⟩,rfl⟩
end Go.Fr.Tryz
