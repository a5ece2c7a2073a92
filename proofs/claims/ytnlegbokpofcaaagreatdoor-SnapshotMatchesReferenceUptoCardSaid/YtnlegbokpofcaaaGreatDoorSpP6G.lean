/- Part of the proofs of the statements of this seat. -/
import Derived.Test.YtnlegbokpofcaaaGreatDoorSpP2G
import Derived.Test.YtnlegbokpofcaaaGreatDoorSpW1G
set_option maxRecDepth 10000
set_option linter.unusedVariables false
set_option linter.unusedSimpArgs false
namespace Go.Fr.Tryz
open Go Go.RowKit Go.Proofs Go.Fr Go.Fr.T Go.Fr.Api
def w0:Wd:=⟨[],[],[],[],[],0,0,0⟩
def DB (bs:List UInt8) (cs:List C):List TO:=[.box 86 [.own 1001 0],RB bs,.box 34 cs]
def oH (bs:List UInt8):Option Wd:=match Fm bs with
 | some (x,[])=>some x
 | _=>none
theorem Kf {bs:List UInt8}(h:Fm bs=none):oH bs=none:=by unfold oH;rw[h]
theorem Kg {bs r:List UInt8}{x:Wd}(h:Fm bs=some (x,r)) (a:decide (((ah r).length:Int)=0)=false):oH bs=none:=by
 unfold oH;rw[h];cases r with
 | nil=>simp[ah] at a
 | cons=>rfl
theorem Kh {bs r:List UInt8}{x:Wd}(h:Fm bs=some (x,r)) (b:decide (((ah r).length:Int)=0)=true):oH bs=some x/\r=[]:=by
 unfold oH;rw[h];cases r with
 | nil=>exact⟨rfl,rfl⟩
 | cons a l=>simp[ah] at b;omega
theorem t34 (b d:List (List C)) (a:Int) (bs:List UInt8) :
  CallsTX PZ 34 [.own 1000 0,.own 1002 0] (DB bs (q9 b d a w0)) (fun Mo c=>∃x,oH bs=some x/\Mo=DB [] (q9 b d a x)/\c=.tup []) (fun v=>v=gC/\oH bs=none):=by
 refine aC Tryz.func34 P8 rfl fun l j=>?_;refine cH [1001,1002] (aaW 34 b d a bs) rfl rfl rfl rfl (fun v h=>⟨h.1,Kf h.2⟩) ?_;rintro v Mo ⟨x,r,e,rfl,rfl⟩ _ _;refine⟨rfl,?_⟩;refine cH [] (vV (decide (((ah r).length:Int)=0))) rfl rfl rfl rfl (fun v h=>⟨h.1,Kg e h.2⟩) ?_;rintro v Mo ⟨f,rfl,rfl⟩ _ _;refine⟨rfl,?_⟩;obtain⟨k,rfl⟩:=Kh e f;exact cD [1000,1001,1002] rfl rfl rfl rfl ⟨x,k,rfl,rfl⟩
theorem abm (b d:List (List C)) (a:Int) (bs:List UInt8) :
  CallsT PZ 33 [.fn 34 [] [.own 1000 0,.own 1002 0]] (DB bs (q9 b d a w0)) (fun Mo c=>(∃x,oH bs=some x/\Mo=DB [] (q9 b d a x)/\c=.bool true)\/(oH bs=none/\tV (DB bs (q9 b d a w0)) Mo/\c=.bool false)):=by
 refine iP (PS:=fun v=>v=gC/\oH bs=none) (ns:=[1]) (out:=Nv) Tryz.func33 yu (qP.mono yH fun v h=>h.1) (fun v h=>rfl) rfl rfl ?_ fun n f=>?_
 ·rintro v ⟨rfl,h⟩;refine⟨.bool false,.bool false,?_,?_,fun Mo k=>.inr ⟨h,k,rfl⟩⟩
  ·intro L ρ m;obtain⟨l,g,t,e⟩:=m 0 2 _ rfl rfl;simp only[mU,l,e];rfl
  ·intro F L;rw[Rel]
 refine⟨rfl,?_⟩;refine cH [1000,1001,1002] (t34 b d a bs) rfl rfl rfl rfl (fun v h=>h) ?_;rintro v Mo ⟨x,j,rfl,rfl⟩ _ _;refine⟨rfl,?_⟩;exact cD [1000,1001,1002] rfl rfl rfl rfl (.inl ⟨x,j,rfl,rfl⟩)
theorem wL {L L1:TL}:Lb L L1 .nils (.sl []):=.inr (.inr (.inl ⟨rfl,rfl⟩))
theorem jV {t:Nat}(n:Nat) (F:aJ) (L:Loc) (p:Own) (r:dW F L (.box t (List.replicate n .any)) p):dW F L (.win t (List.replicate n .any) [] []) p :=
 yx (by simp) (Ch n) (fun c h=>by cases h) F L p r
theorem Xy (b d:List (List C)) (a:Int) (bs:List UInt8) :
  CallsT PZ 33 [.fn 34 [] [.own 1000 0,.own 1002 0]] [.box 86 [.own 1001 0],RB bs,.box 34 [.sl b,.sl d,IC a,.nils,.nils,.nils,.nils,.nils,IC 0,IC 0,IC 0]]
   (fun Mo c=>(∃x,oH bs=some x/\Mo=DB [] (q9 b d a x)/\c=.bool true)\/(oH bs=none/\(∃l e f,Mo=[.win 86 l [] [],.win 88 e [] [],.win 34 f [] []])/\c=.bool false)) :=
 (((CallsT.gives (Lin:=[.box 86 [.own 1001 0],RB bs,.box 34 [.sl b,.sl d,IC a,.nils,.nils,.nils,.nils,.nils,IC 0,IC 0,IC 0]]) (abm b d a bs)
    ⟨bJ,bJ,.inl ⟨_,rfl,.inr ⟨34,_,_,rfl,rfl,⟨_,_,rfl,af rfl,⟨_,_,rfl,af rfl,⟨_,_,rfl,af rfl,⟨_,_,rfl,wL,⟨_,_,rfl,wL,⟨_,_,rfl,wL,⟨_,_,rfl,wL,⟨_,_,rfl,wL,⟨_,_,rfl,af rfl,⟨_,_,rfl,af rfl,⟨_,_,rfl,af rfl,rfl⟩⟩⟩⟩⟩⟩⟩⟩⟩⟩⟩⟩⟩,trivial⟩ (ac4 3):CallsT PZ 33 _ _ _).toX (Pp:=fun _=>False)).view (vw.refl _) (by
  rintro Mo c (h | ⟨k,⟨j,M1,rfl,m,M2,rfl,n,M3,rfl,rfl⟩,rfl⟩)
  ·exact⟨Mo,vw.refl _,.inl h⟩
  ·exact⟨_,vw.cons (jV j) (vw.cons (jV m) (vw.cons (jV n) (vw.refl []))),.inr ⟨k,⟨_,_,_,rfl⟩,rfl⟩⟩) fun _ h=>h).noPan
def l9 (bs:List UInt8):Option Wd×Int :=
 if bs.length<7\/¬cB <+: bs then(none,16)
 else if¬fV (bs.take (bs.length-4))=bs then(none,17)
 else match oH ((bs.take (bs.length-4)).drop 3) with
  | some x=>(some x,0)
  | none=>(none,16)
def Ry (a b:List (List C)) (c:Int):Option Wd×Int->C
 | (some x,e)=>.tup [.agg (q9 a b c x),IC e]
 | (none,e)=>.tup [.agg (q9 [] [] 0 w0),IC e]
theorem t10 (o p:List (List C)) (n:Int) (bs:List UInt8) (hb:bs.length<=70368744177664) :
  CallsT PZ 10 [.agg [.sl o,.sl p,IC n],.sl (ah bs)] [] (gL [] (Ry o p n (l9 bs))):=by
 have j:(ah bs).length=bs.length:=aG;obtain⟨s,k⟩:∃s,bs.take (bs.length-4)=s:=⟨_,rfl⟩;have am:s.length<=bs.length:=by rw[<-k,ac2];omega
 obtain⟨d,f⟩:∃d,l9 bs=d:=⟨_,rfl⟩;rw[f];have z:bs.length<7->d=(none,16):=fun h=>by rw[<-f];unfold l9;rw[o6 (.inl h)]
 have t:¬cB <+: bs->d=(none,16):=fun h=>by rw[<-f];unfold l9;rw[o6 (.inr h)]
 have w:¬bs.length<7->cB <+: bs->¬fV s=bs->d=(none,17):=fun a r h3=>by
  rw[<-f];unfold l9;rw[s8 (fun h=>h.elim a (fun h=>h r)),k,o6 h3]
 have e:¬bs.length<7->cB <+: bs->fV s=bs->d=match oH (s.drop 3) with | some x=>(some x,0) | none=>(none,16):=fun a r h3=>by
  rw[<-f];unfold l9;rw[s8 (fun h=>h.elim a (fun h=>h r)),k,s8 (fun h=>h h3)]
 have l:=Xy o p n (s.drop 3);generalize oH (s.drop 3)=ad at e l;refine au Tryz.func10 PA rfl fun hw ae=>?_;refine aF (fun h0=>?_) (fun h0=>?_)
 ·exact aM rfl (by rw[z (by omega)];rfl)
 have h7:¬bs.length<7:=by omega
 have m:((ah bs).drop 0).take (((ah bs).length-4:Int).toNat-0)=ah s:=by
  rw[dI,j,show((bs.length:Int)-4).toNat-0=bs.length-4 by omega,<-k];rfl
 have e2:(3:Int)<=((((ah bs).drop 0).take (((ah bs).length-4:Int).toNat-0)).length:Int):=by rw[m,aG,<-k,ac2];omega
 have e3:∀es∈(((ah bs).drop 0).take (((ah bs).length-4:Int).toNat-0)),es.length=1:=by rw[m];exact dM
 have u:((((ah bs).drop 0).take (((ah bs).length-4:Int).toNat-0)).drop 3).take (((((ah bs).drop 0).take (((ah bs).length-4:Int).toNat-0)).length:Int).toNat-3)=ah (s.drop 3):=by
  rw[m,dI,aG,adv (by simp)]
 refine bM t30 rfl fun _=>?_;refine bM (t29 bs cB) rfl fun _=>?_;refine aj (fun a=>?_) (fun a=>?_)
 ·have a:(!decide (cB <+: bs))=true:=a;exact aM rfl (by rw[t (by simpa using a)];rfl)
 have a:(!decide (cB <+: bs))=false:=a;have a:cB <+: bs:=by simpa using a
 refine bf ?_;refine tF.mk (by omega) (by omega) (by omega) dM ?_;refine callO [] [25] (t32 s (by omega)) rfl rfl (j3 (fun q=>[C.sl q]) m) rfl rfl fun _ _=>?_;refine vG [25] [] [] (t31 (fV s) bs) ⟨_,rfl,rfl,rfl,rfl,rfl,fun _ _=>?_⟩;refine aj (fun c=>?_) (fun b=>?_)
 ·have c:(!decide (fV s=bs))=true:=c;exact aM rfl (by rw[w h7 a (by simpa using c)];rfl)
 have b:(!decide (fV s=bs))=false:=b;have h4:=e h7 a (by simpa using b);refine tF.mk (by decide) e2 (ac9 _) e3 ?_;refine cO [7,33,8] l rfl rfl rfl (j3 (fun q=>[TO.box 86 [C.own 1001 0],.box 88 [.sl q],.box 34 [.sl o,.sl p,IC n,.nils,.nils,.nils,.nils,.nils,IC 0,IC 0,IC 0]]) u) ?_;rintro v Mo (⟨x,y,rfl,rfl⟩ | ⟨y,⟨p1,p2,p3,rfl⟩,rfl⟩) _ _
 ·refine⟨rfl,?_⟩;exact aM rfl (by rw[h4,y];rfl)
 ·refine⟨rfl,?_⟩;exact aM rfl (by rw[h4,y];rfl)
structure Ki where
 slot:Int
 excl:Bool
 re:Bool
structure Slot where
 state:Int
 type:Ty
 var:Int
 flag:Int
 lent:List Ki
structure Ar where
 name:ByteArray
 params:List Ty
 result:Ty
 ties:List Int
 slots:Int
 blocks:List Block
 entry:List (List Slot)
structure uQ where
 datas:List Api.Data
 routs:List Ar
 main:Int
def Au (x:Ki):List C:=[IC x.slot,.bool x.excl,.bool x.re]
def i9 (x:Slot):List C:=[IC x.state,IC x.type.kind,IC x.type.id,.sl (x.type.args.map tW),IC x.var,IC x.flag,.sl (x.lent.map Au)]
def oz (l:List Slot):List C:=[.sl (l.map i9)]
def iJ (r:Ar):List C:=[.str r.name,.sl (r.params.map tW),IC r.result.kind,IC r.result.id,.sl (r.result.args.map tW),.sl (oO r.ties),IC r.slots,.sl (r.blocks.map iQ),.sl (r.entry.map oz)]
def wN (i:uQ):List C:=[.sl (i.datas.map iC),.sl (i.routs.map iJ),IC i.main]
def Bp (t:Ty):C:=.agg [IC t.kind,IC t.id,.sl (t.args.map tW)]
noncomputable def Cr (p:Prop):Bool:=@decide p (Classical.propDecidable p)
theorem DE {p:Prop}:Cr p=true↔p:=by unfold Cr;exact @decide_eq_true_iff p (Classical.propDecidable p)
theorem kH {p:Prop}(h:Cr p=true):p:=DE.1 h
theorem lu {p:Prop}(h:Cr p=false):¬p:=fun q=>by rw[DE.2 q] at h;cases h
theorem aH {p:Prop}(h:¬p):false=Cr p:=by
 cases e:Cr p with
 | true=>exact s6 (kH e) h
 | false=>rfl
theorem dJ {p:Prop}(h:p):true=Cr p:=(DE.2 h).symm
theorem iF {p q:Prop}(h:p↔q):Cr p=Cr q:=by rw[show p=q from propext h]
theorem py {c:Type}{a b:List c}(h:¬a.length=b.length):a≠b:=fun e=>h (by rw[e])
theorem ct {c:Type}{a b:List c}{n:Nat}(d:a.length=n) (hb:b.length=n) (h:∀j<n,a[j]?=b[j]?):a=b:=by
 apply adt;intro i
 by_cases hi:i<n
 ·exact h i hi
 ·rw[ac3 (by omega),ac3 (by omega)]
theorem cP {d:Type}{a b:List d}{k:Nat}{x y:d}(c:a[k]?=some x) (f:b[k]?=some y) (h:x≠y):a≠b:=fun e=>h (by rw[e,f] at c;injection c with c;exact c.symm)
theorem cu {d:Type}{a b:List d}{k:Nat}{x y:d}(h:∀j<k,a[j]?=b[j]?) (f:a[k]?=some x) (l:b[k]?=some y) (e:x=y):∀j<k+1,a[j]?=b[j]?:=by
 intro j m
 by_cases c:j=k
 ·rw[c,f,l,e]
 ·exact h j (by omega)
theorem aO {a:Type}{l:List a}{k:Nat}(h:k<l.length):∃x,l[k]?=some x:=⟨l[k],w8 h⟩
theorem tv {a b:ByteArray}(h:a.data.toList=b.data.toList):a=b:=by
 cases a;cases b;simp only at h;rw[Array.toList_inj.1 h]
def dY (f:Nat) (args:List C) (p:Prop):Prop:=CallsT PZ f args [] (gL [] (.bool (Cr p)))
theorem Va (a b:List (Int)):dY 129 [.sl (oO a),.sl (oO b)] (a=b):=by
 refine au Tryz.func129 MD rfl fun r _=>?_;have n:(oO a).length=a.length:=by simp[oO]
 have hb:(oO b).length=b.length:=by simp[oO]
 have t:a.length<=9223372036854775807:=by have:=oq r.1;rwa [n] at this
 refine aj (fun d=>?_) (fun d=>?_)
 ·have d:¬a.length=b.length:=fun e=>by
   rw[n,hb,e] at d;simp at d
  exact aM rfl (j3 C.bool (aH (py d)))
 have d:a.length=b.length:=by
  rw[n,hb] at d;simp at d;omega
 refine aP a.length 13 [] () (fun _=>[]) (fun _=>[]) (fun k _=>∀j<k,a[j]?=b[j]?) (fun j q=>s6 q (by omega)) (af rfl) trivial trivial ?_;rintro k ⟨⟩ s f _ _ _;refine aF (fun c=>?_) (fun m=>?_)
 ·have c:k<a.length:=by rw[n] at c;omega
  obtain⟨x,p⟩:=aO c;obtain⟨y,o⟩:=aO (l:=b) (k:=k) (by omega);refine wG p ?_;refine wG o ?_;refine aj (fun h=>?_) (fun h=>?_)
  ·have h:¬x=y:=by simpa using h
   exact aM rfl (j3 C.bool (aH (cP p o h)))
  ·have h:x=y:=by simpa using h
   refine bf ?_;exact⟨(k+1,()),⟨c,cu f p o h⟩,⟨aR,trivial⟩,trivial,aS c⟩
 ·have m:¬k<a.length:=by rw[n] at m;omega
  have:k=a.length:=by omega
  subst this;exact aM rfl (j3 C.bool (dJ (ct rfl d.symm f)))
theorem abo (a b:List (Ki)):dY 145 [.sl (a.map Au),.sl (b.map Au)] (a=b):=by
 refine au Tryz.func145 MT rfl fun r _=>?_;have n:(a.map Au).length=a.length:=by simp
 have hb:(b.map Au).length=b.length:=by simp
 have t:a.length<=9223372036854775807:=by have:=oq r.1;rwa [n] at this
 refine aj (fun d=>?_) (fun d=>?_)
 ·have d:¬a.length=b.length:=fun e=>by
   rw[n,hb,e] at d;simp at d
  exact aM rfl (j3 C.bool (aH (py d)))
 have d:a.length=b.length:=by
  rw[n,hb] at d;simp at d;omega
 refine aP a.length 13 [] () (fun _=>[]) (fun _=>[]) (fun k _=>∀j<k,a[j]?=b[j]?) (fun j q=>s6 q (by omega)) (af rfl) trivial trivial ?_;rintro k ⟨⟩ s f _ _ _;refine aF (fun c=>?_) (fun m=>?_)
 ·have c:k<a.length:=by rw[n] at c;omega
  obtain⟨x,p⟩:=aO c;obtain⟨y,o⟩:=aO (l:=b) (k:=k) (by omega);refine bK p rfl rfl ?_;refine bK o rfl rfl ?_;refine aj (fun h=>?_) (fun h=>?_)
  ·have h:¬x=y:=fun e=>by subst e;simp[pA] at h
   exact aM rfl (j3 C.bool (aH (cP p o h)))
  ·have h:x=y:=by cases x;cases y;simp[pA] at h;simp[h]
   refine bf ?_;exact⟨(k+1,()),⟨c,cu f p o h⟩,⟨aR,trivial⟩,trivial,aS c⟩
 ·have m:¬k<a.length:=by rw[n] at m;omega
  have:k=a.length:=by omega
  subst this;exact aM rfl (j3 C.bool (dJ (ct rfl d.symm f)))
theorem t138 (a b:List (Ty)) (s:∀x∈a,∀y,dY 127 [Bp x,Bp y] (x=y)):dY 138 [.sl (a.map tW),.sl (b.map tW),.fn 127 [] []] (a=b):=by
 refine au Tryz.func138 ML rfl fun r _=>?_;have n:(a.map tW).length=a.length:=by simp
 have hb:(b.map tW).length=b.length:=by simp
 have u:a.length<=9223372036854775807:=by have:=oq r.1;rwa [n] at this
 refine aj (fun d=>?_) (fun d=>?_)
 ·have d:¬a.length=b.length:=fun e=>by
   rw[n,hb,e] at d;simp at d
  exact aM rfl (j3 C.bool (aH (py d)))
 have d:a.length=b.length:=by
  rw[n,hb] at d;simp at d;omega
 refine aP a.length 17 [] () (fun _=>[]) (fun _=>[]) (fun k _=>∀j<k,a[j]?=b[j]?) (fun j q=>s6 q (by omega)) (af rfl) trivial trivial ?_;rintro k ⟨⟩ t f _ _ _;refine aF (fun c=>?_) (fun m=>?_)
 ·have c:k<a.length:=by rw[n] at c;omega
  obtain⟨x,o⟩:=aO c;obtain⟨y,p⟩:=aO (l:=b) (k:=k) (by omega);refine xu o ?_;refine xu p ?_;refine bM (s x (acS o) y) rfl fun _=>?_;refine aj (fun h=>?_) (fun h=>?_)
  ·have h:¬x=y:=lu (by simpa using h);exact aM rfl (j3 C.bool (aH (cP o p h)))
  ·have h:x=y:=kH (by simpa using h);refine bf ?_;exact⟨(k+1,()),⟨c,cu f o p h⟩,⟨aR,trivial⟩,trivial,aS c⟩
 ·have m:¬k<a.length:=by rw[n] at m;omega
  have:k=a.length:=by omega
  subst this;exact aM rfl (j3 C.bool (dJ (ct rfl d.symm f)))
theorem Xz (a b:List (Ty)) (c:∀x∈a,∀y,dY 127 [Bp x,Bp y] (x=y)):dY 126 [.sl (a.map tW),.sl (b.map tW),.fn 127 [] []] (a=b):=by
 refine au Tryz.func126 MA rfl fun d _=>?_;refine bM (t138 a b c) rfl fun _=>?_;exact aM rfl rfl
theorem Tc {x y:Ty}(c:x.kind=y.kind) (a:x.id=y.id) (b:x.args=y.args):x=y:=by
 cases x;cases y
 simp_all [Ty.kind,Ty.id,Ty.args]
theorem Nx {x t:Ty}(h:x∈t.args):SizeOf.sizeOf x<SizeOf.sizeOf t:=by
 cases t;have:=List.sizeOf_lt_of_mem h;simp only[Ty.args] at this;simp only[Ty.mk.sizeOf_spec];omega
theorem Td:∀(n:Nat) (x y:Ty),SizeOf.sizeOf x<n->dY 127 [Bp x,Bp y] (x=y)
 | 0,x,y,h=>s6 h (by omega)
 | n+1,x,y,h=>by
  have c:∀z∈x.args,∀w,dY 127 [Bp z,Bp w] (z=w):=fun z d w=>Td n z w (by have:=Nx d;omega);refine au Tryz.func127 MB rfl fun f _=>?_;refine aF (fun b=>?_) (fun b=>aM rfl (j3 C.bool (aH fun e=>b (by rw[e]))));refine aF (fun a=>?_) (fun a=>aM rfl (j3 C.bool (aH fun e=>a (by rw[e]))));refine bM (Xz x.args y.args c) rfl fun _=>?_;exact aM rfl (j3 C.bool (iF ⟨fun h=>Tc b a h,fun e=>by rw[e]⟩))
theorem Vb (x y:Ty):dY 127 [Bp x,Bp y] (x=y):=Td _ x y (adF _)
theorem Ny (a b:List Ty):dY 126 [.sl (a.map tW),.sl (b.map tW),.fn 127 [] []] (a=b):=Xz a b fun x _ y=>Vb x y
theorem var_eq {x y:Variant}(b:x.name=y.name) (a:x.fields=y.fields):x=y:=by
 rcases x with⟨⟩
 rcases y with⟨⟩
 simp_all
theorem abp (x y:Variant):dY 125 [.agg (fK x),.agg (fK y)] (x=y):=by
 refine au Tryz.func125 Mz rfl fun b _=>?_;refine aF (fun a=>?_) (fun a=>aM rfl (j3 C.bool (aH fun e=>a (by rw[e]))));refine bM (Ny x.fields y.fields) rfl fun _=>?_;exact aM rfl (j3 C.bool (iF ⟨fun h=>var_eq (tv a) h,fun e=>by rw[e]⟩))
theorem abq (a b:List (Variant)) (s:∀x∈a,∀y,dY 125 [.agg (fK x),.agg (fK y)] (x=y)):dY 137 [.sl (a.map fK),.sl (b.map fK),.fn 125 [] []] (a=b):=by
 refine au Tryz.func137 MK rfl fun r _=>?_;have n:(a.map fK).length=a.length:=by simp
 have hb:(b.map fK).length=b.length:=by simp
 have u:a.length<=9223372036854775807:=by have:=oq r.1;rwa [n] at this
 refine aj (fun d=>?_) (fun d=>?_)
 ·have d:¬a.length=b.length:=fun e=>by
   rw[n,hb,e] at d;simp at d
  exact aM rfl (j3 C.bool (aH (py d)))
 have d:a.length=b.length:=by
  rw[n,hb] at d;simp at d;omega
 refine aP a.length 17 [] () (fun _=>[]) (fun _=>[]) (fun k _=>∀j<k,a[j]?=b[j]?) (fun j q=>s6 q (by omega)) (af rfl) trivial trivial ?_;rintro k ⟨⟩ t f _ _ _;refine aF (fun c=>?_) (fun m=>?_)
 ·have c:k<a.length:=by rw[n] at c;omega
  obtain⟨x,o⟩:=aO c;obtain⟨y,p⟩:=aO (l:=b) (k:=k) (by omega);refine bK o rfl rfl ?_;refine bK p rfl rfl ?_;refine bM (s x (acS o) y) rfl fun _=>?_;refine aj (fun h=>?_) (fun h=>?_)
  ·have h:¬x=y:=lu (by simpa using h);exact aM rfl (j3 C.bool (aH (cP o p h)))
  ·have h:x=y:=kH (by simpa using h);refine bf ?_;exact⟨(k+1,()),⟨c,cu f o p h⟩,⟨aR,trivial⟩,trivial,aS c⟩
 ·have m:¬k<a.length:=by rw[n] at m;omega
  have:k=a.length:=by omega
  subst this;exact aM rfl (j3 C.bool (dJ (ct rfl d.symm f)))
theorem abr (a b:List (Variant)) (c:∀x∈a,∀y,dY 125 [.agg (fK x),.agg (fK y)] (x=y)):dY 124 [.sl (a.map fK),.sl (b.map fK),.fn 125 [] []] (a=b):=by
 refine au Tryz.func124 My rfl fun d _=>?_;refine bM (abq a b c) rfl fun _=>?_;exact aM rfl rfl
theorem IZ {x y:Api.Data}(e:x.name=y.name) (a:x.module=y.module) (b:x.params=y.params) (d:x.drop=y.drop) (c:x.variants=y.variants):x=y:=by
 rcases x with⟨⟩
 rcases y with⟨⟩
 simp_all
theorem t98 (x y:Api.Data):dY 98 [.agg (iC x),.agg (iC y)] (x=y):=by
 refine au Tryz.func98 Q0 rfl fun k _=>?_;refine aF (fun j=>?_) (fun j=>aM rfl (j3 C.bool (aH fun e=>j (by rw[e]))));refine aF (fun c=>?_) (fun c=>aM rfl (j3 C.bool (aH fun e=>c (by rw[e]))));refine aF (fun d=>?_) (fun d=>aM rfl (j3 C.bool (aH fun e=>d (by rw[e]))));refine aF (fun f=>?_) (fun f=>aM rfl (j3 C.bool (aH fun e=>f (by rw[e]))));refine bM (abr x.variants y.variants fun a _ b=>abp a b) rfl fun _=>?_;exact aM rfl (j3 C.bool (iF ⟨fun h=>IZ (tv j) c d f h,fun e=>by rw[e]⟩))
theorem abt (a b:List (Api.Data)) (s:∀x∈a,∀y,dY 98 [.agg (iC x),.agg (iC y)] (x=y)):dY 123 [.sl (a.map iC),.sl (b.map iC),.fn 98 [] []] (a=b):=by
 refine au Tryz.func123 Mx rfl fun r _=>?_;have n:(a.map iC).length=a.length:=by simp
 have hb:(b.map iC).length=b.length:=by simp
 have u:a.length<=9223372036854775807:=by have:=oq r.1;rwa [n] at this
 refine aj (fun d=>?_) (fun d=>?_)
 ·have d:¬a.length=b.length:=fun e=>by
   rw[n,hb,e] at d;simp at d
  exact aM rfl (j3 C.bool (aH (py d)))
 have d:a.length=b.length:=by
  rw[n,hb] at d;simp at d;omega
 refine aP a.length 17 [] () (fun _=>[]) (fun _=>[]) (fun k _=>∀j<k,a[j]?=b[j]?) (fun j q=>s6 q (by omega)) (af rfl) trivial trivial ?_;rintro k ⟨⟩ t f _ _ _;refine aF (fun c=>?_) (fun m=>?_)
 ·have c:k<a.length:=by rw[n] at c;omega
  obtain⟨x,o⟩:=aO c;obtain⟨y,p⟩:=aO (l:=b) (k:=k) (by omega);refine bK o rfl rfl ?_;refine bK p rfl rfl ?_;refine bM (s x (acS o) y) rfl fun _=>?_;refine aj (fun h=>?_) (fun h=>?_)
  ·have h:¬x=y:=lu (by simpa using h);exact aM rfl (j3 C.bool (aH (cP o p h)))
  ·have h:x=y:=kH (by simpa using h);refine bf ?_;exact⟨(k+1,()),⟨c,cu f o p h⟩,⟨aR,trivial⟩,trivial,aS c⟩
 ·have m:¬k<a.length:=by rw[n] at m;omega
  have:k=a.length:=by omega
  subst this;exact aM rfl (j3 C.bool (dJ (ct rfl d.symm f)))
theorem t97 (a b:List (Api.Data)) (c:∀x∈a,∀y,dY 98 [.agg (iC x),.agg (iC y)] (x=y)):dY 97 [.sl (a.map iC),.sl (b.map iC),.fn 98 [] []] (a=b):=by
 refine au Tryz.func97 QZ rfl fun d _=>?_;refine bM (abt a b c) rfl fun _=>?_;exact aM rfl rfl
theorem Nz {x y:Ip}(k:x.op=y.op) (c:x.dst=y.dst) (d:x.a=y.a) (h:x.b=y.b) (e:x.n=y.n) (j:x.args=y.args) (f:x.types=y.types):x=y:=by
 rcases x with⟨⟩
 rcases y with⟨⟩
 simp_all
theorem t141 (x y:Ip):dY 141 [.agg (qG x),.agg (qG y)] (x=y):=by
 refine au Tryz.func141 MP rfl fun k _=>?_;refine aF (fun j=>?_) (fun j=>aM rfl (j3 C.bool (aH fun e=>j (by rw[e]))));refine aF (fun a=>?_) (fun a=>aM rfl (j3 C.bool (aH fun e=>a (by rw[e]))));refine aF (fun b=>?_) (fun b=>aM rfl (j3 C.bool (aH fun e=>b (by rw[e]))));refine aF (fun d=>?_) (fun d=>aM rfl (j3 C.bool (aH fun e=>d (by rw[e]))));refine aF (fun c=>?_) (fun c=>aM rfl (j3 C.bool (aH fun e=>c (by rw[e]))));refine bM (Va x.args y.args) rfl fun _=>?_;refine aj (fun f=>?_) (fun f=>aM rfl (j3 C.bool (aH fun e=>lu f (by rw[e]))));refine bM (Ny x.types y.types) rfl fun _=>?_;exact aM rfl (j3 C.bool (iF ⟨fun h=>Nz j a b d c (kH f) h,fun e=>by rw[e]⟩))
theorem abu (a b:List (Ip)) (s:∀x∈a,∀y,dY 141 [.agg (qG x),.agg (qG y)] (x=y)):dY 147 [.sl (a.map qG),.sl (b.map qG),.fn 141 [] []] (a=b):=by
 refine au Tryz.func147 MU rfl fun r _=>?_;have n:(a.map qG).length=a.length:=by simp
 have hb:(b.map qG).length=b.length:=by simp
 have u:a.length<=9223372036854775807:=by have:=oq r.1;rwa [n] at this
 refine aj (fun d=>?_) (fun d=>?_)
 ·have d:¬a.length=b.length:=fun e=>by
   rw[n,hb,e] at d;simp at d
  exact aM rfl (j3 C.bool (aH (py d)))
 have d:a.length=b.length:=by
  rw[n,hb] at d;simp at d;omega
 refine aP a.length 17 [] () (fun _=>[]) (fun _=>[]) (fun k _=>∀j<k,a[j]?=b[j]?) (fun j q=>s6 q (by omega)) (af rfl) trivial trivial ?_;rintro k ⟨⟩ t f _ _ _;refine aF (fun c=>?_) (fun m=>?_)
 ·have c:k<a.length:=by rw[n] at c;omega
  obtain⟨x,o⟩:=aO c;obtain⟨y,p⟩:=aO (l:=b) (k:=k) (by omega);refine bK o rfl rfl ?_;refine bK p rfl rfl ?_;refine bM (s x (acS o) y) rfl fun _=>?_;refine aj (fun h=>?_) (fun h=>?_)
  ·have h:¬x=y:=lu (by simpa using h);exact aM rfl (j3 C.bool (aH (cP o p h)))
  ·have h:x=y:=kH (by simpa using h);refine bf ?_;exact⟨(k+1,()),⟨c,cu f o p h⟩,⟨aR,trivial⟩,trivial,aS c⟩
 ·have m:¬k<a.length:=by rw[n] at m;omega
  have:k=a.length:=by omega
  subst this;exact aM rfl (j3 C.bool (dJ (ct rfl d.symm f)))
theorem abv (a b:List (Ip)) (c:∀x∈a,∀y,dY 141 [.agg (qG x),.agg (qG y)] (x=y)):dY 140 [.sl (a.map qG),.sl (b.map qG),.fn 141 [] []] (a=b):=by
 refine au Tryz.func140 MO rfl fun d _=>?_;refine bM (abu a b c) rfl fun _=>?_;exact aM rfl rfl
theorem FC {x y:Block}(f:x.code=y.code) (b:x.fin.kind=y.fin.kind) (d:x.fin.a=y.fin.a) (e:x.fin.targets=y.fin.targets):x=y:=by
 rcases x with⟨c,⟨⟩⟩
 rcases y with⟨c,⟨⟩⟩
 simp_all
theorem abw (x y:Block):dY 131 [.agg (iQ x),.agg (iQ y)] (x=y):=by
 refine au Tryz.func131 MF rfl fun j _=>?_;refine bM (abv x.code y.code fun a _ b=>t141 a b) rfl fun _=>?_;refine aj (fun f=>?_) (fun f=>aM rfl (j3 C.bool (aH fun e=>lu f (by rw[e]))));refine aF (fun c=>?_) (fun c=>aM rfl (j3 C.bool (aH fun e=>c (by rw[e]))));refine aF (fun d=>?_) (fun d=>aM rfl (j3 C.bool (aH fun e=>d (by rw[e]))));refine bM (Va x.fin.targets y.fin.targets) rfl fun _=>?_;exact aM rfl (j3 C.bool (iF ⟨fun h=>FC (kH f) c d h,fun e=>by rw[e]⟩))
theorem t139 (a b:List (Block)) (s:∀x∈a,∀y,dY 131 [.agg (iQ x),.agg (iQ y)] (x=y)):dY 139 [.sl (a.map iQ),.sl (b.map iQ),.fn 131 [] []] (a=b):=by
 refine au Tryz.func139 MN rfl fun r _=>?_;have n:(a.map iQ).length=a.length:=by simp
 have hb:(b.map iQ).length=b.length:=by simp
 have u:a.length<=9223372036854775807:=by have:=oq r.1;rwa [n] at this
 refine aj (fun d=>?_) (fun d=>?_)
 ·have d:¬a.length=b.length:=fun e=>by
   rw[n,hb,e] at d;simp at d
  exact aM rfl (j3 C.bool (aH (py d)))
 have d:a.length=b.length:=by
  rw[n,hb] at d;simp at d;omega
 refine aP a.length 17 [] () (fun _=>[]) (fun _=>[]) (fun k _=>∀j<k,a[j]?=b[j]?) (fun j q=>s6 q (by omega)) (af rfl) trivial trivial ?_;rintro k ⟨⟩ t f _ _ _;refine aF (fun c=>?_) (fun m=>?_)
 ·have c:k<a.length:=by rw[n] at c;omega
  obtain⟨x,o⟩:=aO c;obtain⟨y,p⟩:=aO (l:=b) (k:=k) (by omega);refine bK o rfl rfl ?_;refine bK p rfl rfl ?_;refine bM (s x (acS o) y) rfl fun _=>?_;refine aj (fun h=>?_) (fun h=>?_)
  ·have h:¬x=y:=lu (by simpa using h);exact aM rfl (j3 C.bool (aH (cP o p h)))
  ·have h:x=y:=kH (by simpa using h);refine bf ?_;exact⟨(k+1,()),⟨c,cu f o p h⟩,⟨aR,trivial⟩,trivial,aS c⟩
 ·have m:¬k<a.length:=by rw[n] at m;omega
  have:k=a.length:=by omega
  subst this;exact aM rfl (j3 C.bool (dJ (ct rfl d.symm f)))
theorem abx (a b:List (Block)) (c:∀x∈a,∀y,dY 131 [.agg (iQ x),.agg (iQ y)] (x=y)):dY 130 [.sl (a.map iQ),.sl (b.map iQ),.fn 131 [] []] (a=b):=by
 refine au Tryz.func130 ME rfl fun d _=>?_;refine bM (t139 a b c) rfl fun _=>?_;exact aM rfl rfl
theorem I0 {x y:Slot}(e:x.state=y.state) (a:x.type=y.type) (b:x.var=y.var) (d:x.flag=y.flag) (c:x.lent=y.lent):x=y:=by
 rcases x with⟨⟩
 rcases y with⟨⟩
 simp_all
theorem aby (x y:Slot):dY 144 [.agg (i9 x),.agg (i9 y)] (x=y):=by
 refine au Tryz.func144 MS rfl fun f _=>?_;refine aF (fun d=>?_) (fun d=>aM rfl (j3 C.bool (aH fun e=>d (by rw[e]))));refine bM (Vb x.type y.type) rfl fun _=>?_;refine aj (fun a=>?_) (fun a=>aM rfl (j3 C.bool (aH fun e=>lu a (by rw[e]))));refine aF (fun b=>?_) (fun b=>aM rfl (j3 C.bool (aH fun e=>b (by rw[e]))));refine aF (fun c=>?_) (fun c=>aM rfl (j3 C.bool (aH fun e=>c (by rw[e]))));refine bM (abo x.lent y.lent) rfl fun _=>?_;exact aM rfl (j3 C.bool (iF ⟨fun h=>I0 d (kH a) b c h,fun e=>by rw[e]⟩))
theorem abz (a b:List (Slot)) (s:∀x∈a,∀y,dY 144 [.agg (i9 x),.agg (i9 y)] (x=y)):dY 148 [.sl (a.map i9),.sl (b.map i9),.fn 144 [] []] (a=b):=by
 refine au Tryz.func148 MV rfl fun r _=>?_;have n:(a.map i9).length=a.length:=by simp
 have hb:(b.map i9).length=b.length:=by simp
 have u:a.length<=9223372036854775807:=by have:=oq r.1;rwa [n] at this
 refine aj (fun d=>?_) (fun d=>?_)
 ·have d:¬a.length=b.length:=fun e=>by
   rw[n,hb,e] at d;simp at d
  exact aM rfl (j3 C.bool (aH (py d)))
 have d:a.length=b.length:=by
  rw[n,hb] at d;simp at d;omega
 refine aP a.length 17 [] () (fun _=>[]) (fun _=>[]) (fun k _=>∀j<k,a[j]?=b[j]?) (fun j q=>s6 q (by omega)) (af rfl) trivial trivial ?_;rintro k ⟨⟩ t f _ _ _;refine aF (fun c=>?_) (fun m=>?_)
 ·have c:k<a.length:=by rw[n] at c;omega
  obtain⟨x,o⟩:=aO c;obtain⟨y,p⟩:=aO (l:=b) (k:=k) (by omega);refine bK o rfl rfl ?_;refine bK p rfl rfl ?_;refine bM (s x (acS o) y) rfl fun _=>?_;refine aj (fun h=>?_) (fun h=>?_)
  ·have h:¬x=y:=lu (by simpa using h);exact aM rfl (j3 C.bool (aH (cP o p h)))
  ·have h:x=y:=kH (by simpa using h);refine bf ?_;exact⟨(k+1,()),⟨c,cu f o p h⟩,⟨aR,trivial⟩,trivial,aS c⟩
 ·have m:¬k<a.length:=by rw[n] at m;omega
  have:k=a.length:=by omega
  subst this;exact aM rfl (j3 C.bool (dJ (ct rfl d.symm f)))
theorem abA (a b:List (Slot)) (c:∀x∈a,∀y,dY 144 [.agg (i9 x),.agg (i9 y)] (x=y)):dY 143 [.sl (a.map i9),.sl (b.map i9),.fn 144 [] []] (a=b):=by
 refine au Tryz.func143 MR rfl fun d _=>?_;refine bM (abz a b c) rfl fun _=>?_;exact aM rfl rfl
theorem abB (a b:List Slot):dY 133 [.sl (a.map i9),.sl (b.map i9)] (a=b):=by
 refine au Tryz.func133 MH rfl fun c _=>?_;refine bM (abA a b fun x _ y=>aby x y) rfl fun _=>?_;exact aM rfl rfl
theorem abC (a b:List (List Slot)) (s:∀x∈a,∀y,dY 133 [.sl (x.map i9),.sl (y.map i9)] (x=y)):dY 142 [.sl (a.map oz),.sl (b.map oz),.fn 133 [] []] (a=b):=by
 refine au Tryz.func142 MQ rfl fun r _=>?_;have n:(a.map oz).length=a.length:=by simp
 have hb:(b.map oz).length=b.length:=by simp
 have u:a.length<=9223372036854775807:=by have:=oq r.1;rwa [n] at this
 refine aj (fun d=>?_) (fun d=>?_)
 ·have d:¬a.length=b.length:=fun e=>by
   rw[n,hb,e] at d;simp at d
  exact aM rfl (j3 C.bool (aH (py d)))
 have d:a.length=b.length:=by
  rw[n,hb] at d;simp at d;omega
 refine aP a.length 17 [] () (fun _=>[]) (fun _=>[]) (fun k _=>∀j<k,a[j]?=b[j]?) (fun j q=>s6 q (by omega)) (af rfl) trivial trivial ?_;rintro k ⟨⟩ t f _ _ _;refine aF (fun c=>?_) (fun m=>?_)
 ·have c:k<a.length:=by rw[n] at c;omega
  obtain⟨x,o⟩:=aO c;obtain⟨y,p⟩:=aO (l:=b) (k:=k) (by omega);refine bK o rfl rfl ?_;refine bK p rfl rfl ?_;refine bM (s x (acS o) y) rfl fun _=>?_;refine aj (fun h=>?_) (fun h=>?_)
  ·have h:¬x=y:=lu (by simpa using h);exact aM rfl (j3 C.bool (aH (cP o p h)))
  ·have h:x=y:=kH (by simpa using h);refine bf ?_;exact⟨(k+1,()),⟨c,cu f o p h⟩,⟨aR,trivial⟩,trivial,aS c⟩
 ·have m:¬k<a.length:=by rw[n] at m;omega
  have:k=a.length:=by omega
  subst this;exact aM rfl (j3 C.bool (dJ (ct rfl d.symm f)))
theorem abD (a b:List (List Slot)) (c:∀x∈a,∀y,dY 133 [.sl (x.map i9),.sl (y.map i9)] (x=y)):dY 132 [.sl (a.map oz),.sl (b.map oz),.fn 133 [] []] (a=b):=by
 refine au Tryz.func132 MG rfl fun d _=>?_;refine bM (abC a b c) rfl fun _=>?_;exact aM rfl rfl
theorem I3 {x y:Ar}(h:x.name=y.name) (a:x.params=y.params) (b:x.result=y.result) (e:x.ties=y.ties) (c:x.slots=y.slots) (f:x.blocks=y.blocks) (d:x.entry=y.entry):x=y:=by
 rcases x with⟨⟩
 rcases y with⟨⟩
 simp_all
theorem Vc (x y:Ar):dY 100 [.agg (iJ x),.agg (iJ y)] (x=y):=by
 refine au Tryz.func100 Mj rfl fun m _=>?_;refine aF (fun l=>?_) (fun l=>aM rfl (j3 C.bool (aH fun e=>l (by rw[e]))));refine bM (Ny x.params y.params) rfl fun _=>?_;refine aj (fun c=>?_) (fun c=>aM rfl (j3 C.bool (aH fun e=>lu c (by rw[e]))));refine bM (Vb x.result y.result) rfl fun _=>?_;refine aj (fun d=>?_) (fun d=>aM rfl (j3 C.bool (aH fun e=>lu d (by rw[e]))));refine bM (Va x.ties y.ties) rfl fun _=>?_;refine aj (fun j=>?_) (fun j=>aM rfl (j3 C.bool (aH fun e=>lu j (by rw[e]))));refine aF (fun f=>?_) (fun f=>aM rfl (j3 C.bool (aH fun e=>f (by rw[e]))));refine bM (abx x.blocks y.blocks fun a _ b=>abw a b) rfl fun _=>?_;refine aj (fun k=>?_) (fun k=>aM rfl (j3 C.bool (aH fun e=>lu k (by rw[e]))));refine bM (abD x.entry y.entry fun a _ b=>abB a b) rfl fun _=>?_;exact aM rfl (j3 C.bool (iF ⟨fun h=>I3 (tv l) (kH c) (kH d) (kH j) f (kH k) h,fun e=>by rw[e]⟩))
theorem abE (a b:List (Ar)) (s:∀x∈a,∀y,dY 100 [.agg (iJ x),.agg (iJ y)] (x=y)):dY 128 [.sl (a.map iJ),.sl (b.map iJ),.fn 100 [] []] (a=b):=by
 refine au Tryz.func128 MC rfl fun r _=>?_;have n:(a.map iJ).length=a.length:=by simp
 have hb:(b.map iJ).length=b.length:=by simp
 have u:a.length<=9223372036854775807:=by have:=oq r.1;rwa [n] at this
 refine aj (fun d=>?_) (fun d=>?_)
 ·have d:¬a.length=b.length:=fun e=>by
   rw[n,hb,e] at d;simp at d
  exact aM rfl (j3 C.bool (aH (py d)))
 have d:a.length=b.length:=by
  rw[n,hb] at d;simp at d;omega
 refine aP a.length 17 [] () (fun _=>[]) (fun _=>[]) (fun k _=>∀j<k,a[j]?=b[j]?) (fun j q=>s6 q (by omega)) (af rfl) trivial trivial ?_;rintro k ⟨⟩ t f _ _ _;refine aF (fun c=>?_) (fun m=>?_)
 ·have c:k<a.length:=by rw[n] at c;omega
  obtain⟨x,o⟩:=aO c;obtain⟨y,p⟩:=aO (l:=b) (k:=k) (by omega);refine bK o rfl rfl ?_;refine bK p rfl rfl ?_;refine bM (s x (acS o) y) rfl fun _=>?_;refine aj (fun h=>?_) (fun h=>?_)
  ·have h:¬x=y:=lu (by simpa using h);exact aM rfl (j3 C.bool (aH (cP o p h)))
  ·have h:x=y:=kH (by simpa using h);refine bf ?_;exact⟨(k+1,()),⟨c,cu f o p h⟩,⟨aR,trivial⟩,trivial,aS c⟩
 ·have m:¬k<a.length:=by rw[n] at m;omega
  have:k=a.length:=by omega
  subst this;exact aM rfl (j3 C.bool (dJ (ct rfl d.symm f)))
theorem t99 (a b:List (Ar)) (c:∀x∈a,∀y,dY 100 [.agg (iJ x),.agg (iJ y)] (x=y)):dY 99 [.sl (a.map iJ),.sl (b.map iJ),.fn 100 [] []] (a=b):=by
 refine au Tryz.func99 Q5 rfl fun d _=>?_;refine bM (abE a b c) rfl fun _=>?_;exact aM rfl rfl
theorem NA {x y:uQ}(c:x.main=y.main) (a:x.datas=y.datas) (b:x.routs=y.routs):x=y:=by
 rcases x with⟨⟩
 rcases y with⟨⟩
 simp_all
theorem t60 (x y:uQ):dY 60 [.agg (wN x),.agg (wN y)] (x=y):=by
 refine au Tryz.func60 Qw rfl fun f _=>?_;refine aF (fun d=>?_) (fun d=>aM rfl (j3 C.bool (aH fun e=>d (by rw[e]))));refine bM (t97 x.datas y.datas fun a _ b=>t98 a b) rfl fun _=>?_;refine aj (fun c=>?_) (fun c=>aM rfl (j3 C.bool (aH fun e=>lu c (by rw[e]))));refine bM (t99 x.routs y.routs fun a _ b=>Vc a b) rfl fun _=>?_;exact aM rfl (j3 C.bool (iF ⟨fun h=>NA d (kH c) h,fun e=>by rw[e]⟩))
theorem fj {a b:Enc}(h:a.2=true) (k:b.2=true):(br a b).2=true:=by simp[br,h,k]
theorem ia {a:Type}{f:a->Enc}(h:∀x,(f x).2=true):∀l:List a,(aL f l).2=true
 | []=>rfl
 | x::l=>fj (h x) (ia h l)
theorem iG {a:Type}{f:a->Enc}(h:∀x,(f x).2=true) (l:List a):(bI kL f l).2=true:=fj rfl (ia h l)
theorem j5 (n:Int):(kL.num n).2=true:=rfl
theorem yJ (b:Bool):(iS kL b).2=true:=rfl
mutual
theorem NC:∀(v:Vl) (d:Int),(ni kL v d).2=true
 | .mk a b c n f e p l,d=>by
  rw[ni];exact fj (by simp[sj,kL]) (fj (ia j5 _) (fj (fj rfl (I4 f _)) (fj (ia yJ _) (fj (iG j5 _) (iG j5 _)))))
theorem I4:∀(l:List Vl) (d:Int),(vN kL l d).2=true
 | [],_=>rfl
 | x::xs,d=>by rw[vN];exact fj (NC x d) (I4 xs d)
end
theorem Ve (x:Wd):(mQ kL x).2=true:=by
 have d:∀v,(oQ kL v).2=true:=fun v=>NC v 60;exact fj (iG (fun c=>fj (ia yJ _) (fj (ia j5 _) (d _))) _)
  (fj (iG (fun b=>ia yJ _) _)
  (fj (iG (fun t=>fj (ia j5 _) (fj (iG (fun a=>fj (ia j5 _) (fj (iG d _) (iG j5 _))) _)
   (fj (iG (fun l=>fj (ia j5 _) (ia yJ _)) _) (fj (ia j5 _) (iG j5 _))))) _)
  (fj (iG (fun l=>iG d l) _)
  (fj (iG (fun o=>ia j5 _) _) (ia j5 _)))))
def sF (x:Wd):List UInt8:=(mQ kL x).1
theorem abG (b d:List (List C)) (a:Int) (x:Wd) (e:Ga x) (hb:(sF x).length<=70368744177664) :
  CallsT PZ 35 [.ifo none 123 1000 0,.pt (q9 b d a x) 0] (WB 124 []) (gL (WB 124 (sF x)) (.tup [])) :=
 ((Xt aa6 b d a x e [] (by simp only[acV,Nat.zero_add];exact hb)).imp (Pp':=fun _=>False) (R':=gL (WB 124 (sF x)) (.tup []))
  (fun Mo c ⟨_,f,j⟩=>⟨by rw[f];rfl,j⟩) (fun v ⟨_,h⟩=>by rw[Ve] at h;cases h)).noPan
theorem t59 (c d:List (List C)) (b:Int) (x:Wd) (e:Ga x) (hb:(sF x).length<=70368744177664) :
  CallsT PZ 59 [.agg (q9 c d b x)] [] (gL [] (.sl (ah (sF x)))):=by
 have a:=abG c d b x e hb;refine au Tryz.func59 Qv rfl fun h f=>?_;refine Wy [(5,.box 124 [.rw 50,IC 0,.int .i8 0]),(50,.row 5 1 [])] [5,50] [5,50] a
  ⟨.inl ⟨_,rfl,.inr ⟨124,_,_,rfl,rfl,⟨_,_,rfl,jK rfl rfl,⟨_,_,rfl,af rfl,⟨_,_,rfl,af rfl,rfl⟩⟩⟩⟩⟩,.inr ⟨rfl,5,1,rfl⟩,trivial⟩ rfl rfl rfl rfl rfl fun _ _=>?_
 refine vG [50] [5] [5] (UW 124 (sF x)) ⟨_,rfl,rfl,rfl,rfl,rfl,fun _ _=>?_⟩;exact aM rfl rfl
noncomputable def DF (i j:uQ) (x y:Wd):Bool:=Cr (i=j)&&decide (sF x=sF y)
def yK (i:uQ) (x:Wd):List C:=q9 (i.datas.map iC) (i.routs.map iJ) i.main x
theorem t17 (i j:uQ) (x y:Wd) (c:Ga x) (f:Ga y) (b:(sF x).length<=70368744177664) (a:(sF y).length<=70368744177664) :
  CallsT PZ 17 [.agg (yK i x),.agg (yK j y)] [] (gL [] (.bool (DF i j x y))):=by
 have d:=t59 (i.datas.map iC) (i.routs.map iJ) i.main x c b;have e:=t59 (j.datas.map iC) (j.routs.map iJ) j.main y f a;refine au Tryz.func17 PL rfl fun l k=>?_;refine cR (t60 i j) rfl fun _=>?_;refine aj (fun h=>?_) (fun h=>?_)
 ·refine cR d rfl fun _=>?_;refine cR e rfl fun _=>?_;refine cR (t31 (sF x) (sF y)) rfl fun _=>?_;exact aM rfl (by rw[DF,h];rfl)
 ·exact aM rfl (by rw[DF,h];rfl)
end Go.Fr.Tryz
namespace Go.Fr.Tryz
open Go Go.RowKit Go.Proofs Go.Fr Go.Fr.T Go.Fr.Api Go.Fr.Dm
theorem nO (a:List UInt8) (b:UInt8):ah a++ah [b]=ah (a++[b]):=by simp[ah]
theorem t22 (n:Int) (h:-2305843009213693952<=n) (l:n<=2305843009213693952):CallsT PZ 22 [IC n] [] (gL [.row 5 1 (ah (bN (zz n)))] (.rw 1000)):=by
 have k:zz n<=4611686018427387904:=by unfold zz;split<;>omega
 have o:=jt n h l;refine au Tryz.func22 PW rfl fun p _=>?_;refine bf ?_;refine aF (fun f=>?_) (fun e=>?_)
 ·refine bf ?_;refine bf ?_;refine vv.mk ⟨Nat×List UInt8,(zz n,[]),fun y=>y.1<=4611686018427387904/\y.2++bN y.1=bN (zz n),[3,4],fun y=>[.int .i64 y.1,.rw 20],fun y=>[(20,.row 5 1 (ah y.2))],fun y=>y.1,⟨k,rfl⟩,⟨.inr (.inl ⟨?_,rfl⟩),jK rfl rfl,trivial⟩,
    ⟨.inr ⟨rfl,5,1,rfl⟩,trivial⟩,fun _=>rfl,fun _=>rfl,?_⟩
  ·exact j3 (C.int .i64) (by unfold zz;rw[o6 f];omega)
  rintro⟨m,done⟩ ⟨d,a⟩ _ _;simp only at a d;have j:done.length+(bN m).length<=10:=by
   have:=j3 List.length a;simp only[yo] at this;omega
  have h:=jU m;refine aF (fun c=>?_) (fun c=>?_)
  ·have c:128<=m:=by have:(128:Int)<=(m:Int):=c;omega
   have b:bN m=UInt8.ofNat (128+m % 128)::bN (m / 128):=by rw[bN,dif_neg (by omega)]
   refine kK.mk (by omega) ?_;refine Fit.to (m:=128+(m:Int).tmod 128) (bP (by rw[show(m:Int).tmod 128=((m % 128:Nat):Int) from rfl];omega) (by rw[show(m:Int).tmod 128=((m % 128:Nat):Int) from rfl];omega)) ?_;refine Fit.to (Dw m) ?_;refine m9 (bs:=[UInt8.ofNat (128+m % 128)]) done.length aG (by simp;omega) ?_;refine kK.mk (by omega) ?_;refine Fit.to (m:=((m / 128:Nat):Int)) (by show IntKind.wrap .i64 ((m / 128:Nat):Int)=_;exact bP (by omega) (by omega)) ?_;refine⟨(m / 128,done++[UInt8.ofNat (128+m % 128)]),⟨?_,?_⟩,⟨.inr (.inl ⟨rfl,rfl⟩),af rfl,trivial⟩,⟨.inl ⟨_,rfl,.inl ⟨j3 (TO.row 5 1) (nO done _),rfl⟩⟩,trivial⟩,?_⟩
   ·show m / 128<=_;omega
   ·show done++[UInt8.ofNat (128+m % 128)]++bN (m / 128)=bN (zz n);rw[<-a,b];simp
   ·show m / 128<m;omega
  ·have c:m<128:=by have:¬(128:Int)<=(m:Int):=c;omega
   have b:bN m=[UInt8.ofNat m]:=by rw[bN,dif_pos c]
   refine Fit.to (Dx m) ?_;refine m9 (bs:=[UInt8.ofNat m]) done.length aG (by simp;omega) ?_;exact xP [20] rfl rfl (j3 (fun q=>[TO.row 5 1 q]) ((nO done _).trans (j3 ah (by rw[<-a,b]:done++[UInt8.ofNat m]=bN (zz n))))) rfl
 ·refine vv.mk ⟨Nat×List UInt8,(zz n,[]),fun y=>y.1<=4611686018427387904/\y.2++bN y.1=bN (zz n),[3,4],fun y=>[.int .i64 y.1,.rw 20],fun y=>[(20,.row 5 1 (ah y.2))],fun y=>y.1,⟨k,rfl⟩,⟨.inr (.inl ⟨?_,rfl⟩),jK rfl rfl,trivial⟩,
    ⟨.inr ⟨rfl,5,1,rfl⟩,trivial⟩,fun _=>rfl,fun _=>rfl,?_⟩
  ·exact j3 (C.int .i64) (by unfold zz;rw[s8 e];omega)
  rintro⟨m,done⟩ ⟨d,a⟩ _ _;simp only at a d;have j:done.length+(bN m).length<=10:=by
   have:=j3 List.length a;simp only[yo] at this;omega
  have h:=jU m;refine aF (fun c=>?_) (fun c=>?_)
  ·have c:128<=m:=by have:(128:Int)<=(m:Int):=c;omega
   have b:bN m=UInt8.ofNat (128+m % 128)::bN (m / 128):=by rw[bN,dif_neg (by omega)]
   refine kK.mk (by omega) ?_;refine Fit.to (m:=128+(m:Int).tmod 128) (bP (by rw[show(m:Int).tmod 128=((m % 128:Nat):Int) from rfl];omega) (by rw[show(m:Int).tmod 128=((m % 128:Nat):Int) from rfl];omega)) ?_;refine Fit.to (Dw m) ?_;refine m9 (bs:=[UInt8.ofNat (128+m % 128)]) done.length aG (by simp;omega) ?_;refine kK.mk (by omega) ?_;refine Fit.to (m:=((m / 128:Nat):Int)) (by show IntKind.wrap .i64 ((m / 128:Nat):Int)=_;exact bP (by omega) (by omega)) ?_;refine⟨(m / 128,done++[UInt8.ofNat (128+m % 128)]),⟨?_,?_⟩,⟨.inr (.inl ⟨rfl,rfl⟩),af rfl,trivial⟩,⟨.inl ⟨_,rfl,.inl ⟨j3 (TO.row 5 1) (nO done _),rfl⟩⟩,trivial⟩,?_⟩
   ·show m / 128<=_;omega
   ·show done++[UInt8.ofNat (128+m % 128)]++bN (m / 128)=bN (zz n);rw[<-a,b];simp
   ·show m / 128<m;omega
  ·have c:m<128:=by have:¬(128:Int)<=(m:Int):=c;omega
   have b:bN m=[UInt8.ofNat m]:=by rw[bN,dif_pos c]
   refine Fit.to (Dx m) ?_;refine m9 (bs:=[UInt8.ofNat m]) done.length aG (by simp;omega) ?_;exact xP [20] rfl rfl (j3 (fun q=>[TO.row 5 1 q]) ((nO done _).trans (j3 ah (by rw[<-a,b]:done++[UInt8.ofNat m]=bN (zz n))))) rfl
theorem XA (n:Nat):List.replicate (n:Int).toNat [C.int .u8 0]=ah (List.replicate n 0):=by simp[ah,iX]
theorem t21 (n:Nat) (b:UInt8) (m:n<=1048576):CallsT PZ 21 [IC n,iX b] [] (gL [.row 5 1 (ah (List.replicate n b))] (.rw 1000)):=by
 refine au Tryz.func21 PV rfl fun p _=>?_;refine vY.mk (by omega) (ac9 _) (by omega) (by unfold maxLen;omega) ?_;refine aP n 6 [5] (List.replicate n 0) (fun _=>[.rw 8]) (fun s=>[(8,.row 5 1 (ah s))]) (fun k s=>s=List.replicate k b++List.replicate (n-k) 0) rfl (af rfl) ⟨af rfl,trivial⟩
  ⟨.inl ⟨_,rfl,.inl ⟨j3 (TO.row 5 1) (XA n),rfl⟩⟩,trivial⟩ ?_
 rintro k s o h _ _ l;refine aF (fun a=>?_) (fun f=>?_)
 ·have a:k<n:=by omega
  have e:s[k]?=some 0:=by rw[h,ac7 (by simp),List.getElem?_replicate];simp;omega
  have d:s.set k b=List.replicate (k+1) b++List.replicate (n-(k+1)) 0:=by
   rw[h,show n-k=(n-(k+1))+1 by omega,List.replicate_succ' (n:=k),List.set_append_right _ _ (by simp)];simp[adB]
  have c:(ah s).length=n:=by rw[aG,h];simp;omega
  refine Yb.mk (by omega) (by rw[c];omega) ?_;have j:(ah s)[k]?=some [iX 0]:=by simp[ah,e]
  refine⟨rfl,?_⟩;refine Nt (es0:=[iX 0]) (by show(ah s)[k]?=_;simp[ah,e]) rfl ?_;refine bf ?_;exact⟨(k+1,s.set k b),⟨a,d⟩,⟨aR,af rfl,trivial⟩,⟨.inl ⟨_,rfl,.inl ⟨j3 (TO.row 5 1) (by show(ah s).set k [iX b]=ah (s.set k b);simp[ah,List.map_set]),rfl⟩⟩,trivial⟩,aS a⟩
 ·have f:k=n:=by omega
  exact xP [8] rfl rfl (j3 (fun q=>[TO.row 5 1 (ah q)]) (by rw[h,f];simp)) rfl
def p8:Dec (Int×Int):=gN getD fun x=>gN getD fun y=>xU (x,y)
def PB (bs:List UInt8) (x y:Int):List TO:=[.box 86 [.own 1001 0],RB bs,.box 3 [IC x],.box 3 [IC y]]
theorem t43 (bs:List UInt8):CallsTX PZ 43 [.own 1000 0,.own 1002 0,.own 1003 0] (PB bs 0 0) (fun Mo c=>∃x y r,p8 bs=some ((x,y),r)/\Mo=PB r x y/\c=.tup []) (fun v=>v=gC/\p8 bs=none):=by
 refine aC Tryz.func43 Qe rfl fun k f=>?_;refine cS [1001] (S1 bs) rfl rfl rfl rfl (fun v h=>⟨h.1,bn h.2⟩) ?_;rintro v Mo ⟨x,r,d,rfl,rfl⟩ _ _;refine⟨rfl,?_⟩;have a:p8 bs=_:=aD d;refine cS [1001] (S1 r) rfl rfl rfl rfl (fun v h=>⟨h.1,a.trans (bn h.2)⟩) ?_;rintro v Mo ⟨y,b,j,rfl,rfl⟩ _ _;refine⟨rfl,?_⟩;have e:=a.trans (aD j);exact cD [1000,1001,1002,1003] rfl rfl rfl rfl ⟨x,y,b,e,rfl,rfl⟩
def jM (out:List UInt8) (off:Nat) (b:List UInt8):List UInt8:=out.take off++b++out.drop (off+b.length)
theorem mR {out b:List UInt8}{off:Nat}(h:off+b.length<=out.length):(jM out off b).length=out.length:=by
 simp only[jM,yo,ac2,ads];omega
theorem Cs (out:List UInt8) (off:Nat) (b:List UInt8):bq (dX out) off (dX b)=dX (jM out off b):=by
 simp[bq,jM,dX]
theorem abI (F:aJ) (a:Option Addr) (n c i:Nat) (q:n<=c) (s:c<=9223372036854775807) (hi:i<=1125899906842624) :
  CallsA PZ 62 #[.slice a n c,.int .i64 i] F [] (fun _ Lo v=>Lo=[]/\v=gU a c (min (32*i) n) (min (32*i+32) n) 1):=by
 have d:(if(n:Int)<32*(i:Int) then(n:Int) else 32*(i:Int))=((min (32*i) n:Nat):Int):=by split<;>omega
 have b:(if(n:Int)<32*(i:Int)+32 then(n:Int) else 32*(i:Int)+32)=((min (32*i+32) n:Nat):Int):=by split<;>omega
 have p:0<=(if(n:Int)<32*(i:Int) then(n:Int) else 32*(i:Int)):=by rw[d];omega
 have l:(if(n:Int)<32*(i:Int) then(n:Int) else 32*(i:Int))<=(if(n:Int)<32*(i:Int)+32 then(n:Int) else 32*(i:Int)+32):=by rw[d,b];omega
 have o:(if(n:Int)<32*(i:Int)+32 then(n:Int) else 32*(i:Int)+32)<=(c:Int):=by rw[b];omega
 have m:gU a c (if(n:Int)<32*(i:Int) then(n:Int) else 32*(i:Int)).toNat (if(n:Int)<32*(i:Int)+32 then(n:Int) else 32*(i:Int)+32).toNat 1=gU a c (min (32*i) n) (min (32*i+32) n) 1:=by rw[d,b];rfl
 refine fG (svs:=[.v (.slice a n c),.v (.int .i64 i)]) Tryz.func62 H8 rfl rfl (fun v f=>?_) (fun _ _ _ _ _ h=>h) ?_
 ·refine⟨fun k off e=>?_,fun r j e=>?_⟩<;>subst e<;>simp at f
 refine bf ?_;refine bf ?_;refine bf ?_;refine qL.mk p l o ?_;exact⟨[],[],rfl,by decide,rfl,m⟩
section
variable {G:Nat->Option (Nat×TypeId)}{F:aJ}{L:Loc}{ρ:Env}{M:TL}{τ:bg}
theorem row_of (f:TS G F L ρ M τ) {k:Nat}{out:List UInt8}(h:M.get k=some (.row 5 1 (ah out))) :
  ∃a c,L.get k=some (.row (.slice a out.length c) 5 1 out.length (dX out))/\(a=none->out.length=0)/\out.length<=maxLen:=by
 have b:=f.tl k;rw[h] at b;cases e:L.get k with
 | none=>rw[e] at b;exact b.elim
 | some o =>
  rw[e] at b;cases o with
  | box=>exact b.elim
  | row v t sz n xs =>
   obtain⟨rfl,rfl,d,⟨m,a,c,rfl,j⟩,l⟩:=b;rw[aG] at d;subst d;rw[lq l];exact⟨a,c,rfl,j,m⟩
theorem FD (h:TS G F L ρ M τ) {k n c:Nat}{a:Option Addr}{out out':List UInt8}(f:L.get k=some (.row (.slice a n c) 5 1 n (dX out))) (b:out'.length=n) (d:n<=maxLen) (j:a=none->n=0) :
  TS G F (L.set k (.row (.slice a n c) 5 1 n (dX out'))) ρ (M.set k (.row 5 1 (ah out'))) τ:=by
 refine h.turn (o':=.row (.slice a n c) 5 1 n (dX out')) f ⟨rfl,rfl,rfl⟩ (fun g t cs e=>by cases e) fun L' _=>?_;refine⟨rfl,rfl,by rw[aG,b],⟨d,a,c,rfl,j⟩,qR _⟩
theorem TS.acI (a:TS G F L ρ M τ) {M':TL}(h:∀k,M'.get k=M.get k):TS G F L ρ M' τ:=⟨fun k=>by rw[h k];exact a.tl k,a.env,a.kp,a.glob⟩
theorem Rz {P:Program}{K:TL->bg->Prop}{d:Option Nat}{z x k:Nat}{out a:List UInt8}(hk:M.get k=some (.row 5 1 (ah out))) (h1:τ z=.rw k) (q:τ x=.sl (ah a))
  (hK:K (M.set k (.row 5 1 (ah (jM out 0 (a.take out.length))))) (bV d (IC ((min a.length out.length:Nat):Int)) τ)):Wv P (.copy 5 1 (.t z) (.t x)) d M τ K:=by
 refine⟨fun G F L ρ l=>?_⟩;obtain⟨b,c,u,ha,y⟩:=row_of l hk;obtain⟨a1,c1,t1,ag,n1,al,e1,f⟩:=uH (x:=.t z) l.env h1;rw[u] at f;injection f with f
 injection f with f _ _ _ _
 injection f with e3 e4 e5
 subst e3 e4 e5;have p:=eY l.env (.t x);have q:eD τ (.t x)=.sl (ah a):=q;rw[q] at p;obtain⟨v,s,p⟩:=p;obtain⟨w,r,rfl,_,am,hf⟩:=Ah p;have s:ev ρ (.t x)=.v (.slice w a.length r):=s;simp only[evalOp,e1,s];have hl:(a.take out.length).length=min out.length a.length:=ac2;have o:∀{L:Loc}(m:Nat),m<=maxLen->bh F L (IC (m:Int)) (.v (.int .i64 m)):=fun m y=>⟨_,rfl,by
  rw[Rel];refine⟨rfl,?_⟩;rw[CW];simp only[IntKind.min,IntKind.max,IntKind.signed,IntKind.bits,adk];unfold maxLen at y;omega⟩
 cases b with
 | none =>
  have h0:out.length=0:=ha rfl;have n:out=[]:=ade h0;subst n;refine⟨.inr ⟨none,0,c,w,a.length,r,rfl,rfl,by simp,?_⟩⟩;refine⟨M.set k (.row 5 1 (ah (jM [] 0 (a.take 0)))),bV d (IC ((min a.length 0:Nat):Int)) τ,?_,hK⟩;refine TS.acI (M:=M) ?_ fun j=>?_
  ·have:=l.put (o 0 (by decide)) d;simpa using this
  ·rw[TL.aa4];split
   ·rename_i e;subst e;rw[hk];simp[jM]
   ·rfl
 | some b =>
  refine⟨.inl ⟨k,out.length,.slice (some b) out.length c,out.length,dX out,b,c,c,0,a.length,w,r,dX (a.take out.length),u,rfl,?_,by omega,rfl,?_,?_,ow _,?_⟩⟩
  ·rw[Nat.zero_mul,show b.add 0=b by cases b;rfl]
  ·rw[pX,hl,Nat.mul_one,Nat.min_comm]
  ·rcases hf with h | ⟨h,_⟩
   ·refine .inl ?_;rw[show dX (a.take out.length)=(dX a).take out.length by simp[dX]];exact Fv h
   ·exact .inr ⟨by omega,by rw[ade h];simp[dX]⟩
  ·rw[Nat.zero_mul,Cs];refine⟨_,_,?_,hK⟩;have h3:=FD l u (out':=jM out 0 (a.take out.length)) (mR (by rw[hl];omega)) y ha;exact h3.put (o _ (by omega)) d
end
def Te:List aB:=[.op (some 56) (.mov (.t 8)) none,
     .op (some 57) (.mov (.t 9)) none,
     .op (some 58) (.bin .mul (.c (.int .i64 32)) (.t 57)) none,
     .op (some 59) (.slc 1 (.t 56) (some (.t 58)) none) none,
     .op (some 60) (.mov (.t 0)) none,
     .op (some 61) (.mov (.t 8)) none,
     .op (some 62) (.mov (.t 9)) none,
     .op (some 63) (.callD 62 [(.t 61),(.t 62)]) none,
     .op (some 64) (.len (.t 63)) none,
     .pc (some 65) (.call 87 [(.t 60),(.t 64)]) none,
     .op (some 66) (.copyX 5 1 (.t 59) (.t 65)) none]
def FE (k:Nat) (a:Nat) (τ:bg):bg :=
 bV (some 64) (IC (a:Int)) (bV (some 63) .any (bV (some 62) .any (bV (some 61) .any (bV (some 60) (.own 1000 0) (bV (some 59) .any (bV (some 58) .any (bV (some 57) .any (bV (some 56) (.rw k) τ))))))))
theorem G7 {ρ:Env}{j:Nat}{v:SV}(h:ρ j=v):ρ=put (some j) v ρ:=by
 funext i
 simp only[put];cases e:Nat.beq i j with
 | true=>rw[vz e,h]
 | false=>rfl
theorem Vf {PS:qX}{M:TL}{τ:bg}{N:TK}(k i:Nat) (out d:List UInt8) (aw:PS.st=none) (hs:M.sub [1000]=some [RB d]) (hk:M.get k=some (.row 5 1 (ah out))) (h8:τ 8=.rw k) (h9:τ 9=IC (i:Int)) (h0:τ 0=.own 1000 0)
  (ap:rowsOf M [1000]=[]) (hh:mF M [1000] PS.hb=true) (cc:k≠1000) (hi:32*i<out.length) (ca:out.length<=1073741824)
  (hp:takeD (((cJ out i).length:Nat):Int) d=none->PS.ps gC)
  (av:∀r,(((M.aa7 [1000]).kills []).puts [1000] [RB r]).get k=some (.row 5 1 (ah out)))
  (hN:∀b r,takeD (((cJ out i).length:Nat):Int) d=some (b,r) ->
   N ((((M.aa7 [1000]).kills []).puts [1000] [RB r]).set k (.row 5 1 (ah (jM out (32*i) b)))) (bV (some 66) .any (bV (some 65) .any (fQ [] (FE k (cJ out i).length τ))))) :
  Uq PZ PS Te M τ N:=by
 refine⟨aw,fun G PX u F L ρ hr j=>?_⟩;obtain⟨ad,c,hL,ha,hm⟩:=row_of j hk;obtain⟨a1,c1,t1,ce,n1,cp,e8,e2⟩:=uH (x:=.t 8) j.env h8;rw[hL] at e2;injection e2 with e2
 injection e2 with e2 _ _ _ _
 injection e2 with e3 e4 e5
 subst e3 e4 e5;obtain⟨e9,w9⟩:=gP (x:=.t 9) j.env h9;obtain⟨e0,_⟩:=iz (x:=.t 0) j.env h0;have e8:ρ 8=.v (.slice ad out.length c):=e8;have e9:ρ 9=.v (.int .i64 i):=e9;have e0:ρ 0=.own 1000 0:=e0;have p:out.length<=c/\c<=9223372036854775807:=by
  obtain⟨w,hw⟩:=hr;obtain⟨c',hv⟩:=Dv hw hL;obtain⟨a',e,y,l,_⟩:=hv.form;injection e with _ _ e
  subst e;exact⟨y,by unfold maxLen at l;exact l⟩
 have az:(cJ out i).length=min (32*i+32) out.length-min (32*i) out.length:=by
  unfold cJ;rw[ac2,ads];omega
 rw[az] at hp hN;have f:ρ=put (some 8) (.v (.slice ad out.length c)) (put (some 9) (.v (.int .i64 i)) (put (some 0) (.own 1000 0) ρ)) :=
  (G7 e8).trans (j3 (put (some 8) _) ((G7 e9).trans (j3 (put (some 9) _) (G7 e0))))
 generalize o:ρ=ρ1 at f;rw[o] at j
 clear e8 e9 e0
 subst o;rw[f] at j ⊢
 clear f
 refine⟨_,rfl,?_⟩;refine⟨_,rfl,?_⟩;refine⟨_,rfl,?_⟩;refine bf ?_;refine⟨_,rfl,?_⟩;refine qL.mk (by omega) (by omega) (by omega) ?_;refine⟨_,rfl,?_⟩;refine⟨_,rfl,?_⟩;refine⟨_,rfl,?_⟩;refine⟨_,rfl,?_⟩;refine .frz _ (abI F ad out.length c i p.1 p.2 (by omega)) fun v F1 Lo ab hR=>?_;obtain⟨rfl,rfl⟩:=hR;refine⟨rfl,fun cr=>?_⟩;refine⟨_,rfl,?_⟩;have hI:∀{L:Loc}(m:Nat),m<=9223372036854775807->bh F1 L (IC (m:Int)) (.v (.int .i64 m)):=fun m hm=>⟨_,rfl,by
  rw[Rel];refine⟨rfl,?_⟩;rw[CW];simp only[IntKind.min,IntKind.max,IntKind.signed,IntKind.bits,adk];omega⟩
 have t73:=(j.mono ab).put (j.mono ab |>.env 8) (some 56);have any:∀sv,bh F1 L .any sv:=fun sv=>trivial;have t99:=(((t73.put (any (.v (.int .i64 i))) (some 57)).put (any (.v (.int .i64 (32*(i:Int))))) (some 58)).put (any (.v (gU ad c (32*(i:Int)).toNat (out.length:Int).toNat 1))) (some 59));have Vc:=t99.put (j.mono ab |>.env 0) (some 60);have ak:=((Vc.put (any (.v (.slice ad out.length c))) (some 61)).put (any (.v (.int .i64 i))) (some 62)).put (any (.v (gU ad c (min (32*i) out.length) (min (32*i+32) out.length) 1))) (some 63);have a:=ak.put (hI (min (32*i+32) out.length-min (32*i) out.length) (by omega)) (some 64);rw[h8,h0] at a;have a:TS G F1 L _ M (FE k (min (32*i+32) out.length-min (32*i) out.length) τ):=a;have hx:nH PZ PS (CR Te) 87 [.own 1000 0,IC (((min (32*i+32) out.length-min (32*i) out.length):Nat):Int)] M (FE k (min (32*i+32) out.length-min (32*i) out.length) τ) (fun M' ar v=>∃b r,takeD (((min (32*i+32) out.length-min (32*i) out.length):Nat):Int) d=some (b,r)/\M'=(((M.aa7 [1000]).kills []).puts [1000] [RB r])/\ar=fQ [] (FE k (min (32*i+32) out.length-min (32*i) out.length) τ)/\v=.sl (ah b)):=by
  refine cS [1000] (t87 (((min (32*i+32) out.length-min (32*i) out.length):Nat):Int) d) hs rfl rfl rfl (fun v h=>h.1▸hp h.2) ?_ hh;rintro v Mo ⟨b,r,h1,rfl,rfl⟩ _ _;rw[ap];exact⟨rfl,b,r,h1,rfl,rfl,rfl⟩
 have hc:=u F1 L _ M (FE k (min (32*i+32) out.length-min (32*i) out.length) τ) 87 [.own 1000 0,IC (((min (32*i+32) out.length-min (32*i) out.length):Nat):Int)] _ _ a (dV a.env [.t 60,.t 64]) hx;refine CallXDPt.imp hc fun F2 L2 v bm bt cM _ bv hK=>?_;obtain⟨M2,bo,c2,aa,z,b,r,hb,rfl,rfl,rfl⟩:=hK;obtain⟨v',s,z⟩:=z;injection s with s
 subst s;obtain⟨a2,c2,rfl,_,ci,hf⟩:=Ah z;obtain⟨ax,cx,q,_,_⟩:=row_of aa (av r);obtain⟨ay,cy,ty,bA,ny,xy,y,l⟩:=uH (x:=.t 56) aa.env (k:=k) rfl;have y:(SV.v (.slice ad out.length c))=.v (.slice ay ny cy):=y;injection y with y
 injection y with q3 q4 q5
 subst q3 q4 q5;rw[q] at l;injection l with l
 injection l with l _ _ _ _
 injection l with q3 _ q5
 subst q3 q5;obtain⟨n,rfl⟩:∃x,ax=some x:=by
  cases ax with
  | none=>have:=ha rfl;omega
  | some x=>exact⟨x,rfl⟩
 have cf:b.length=min (32*i+32) out.length-min (32*i) out.length:=by
  unfold takeD at hb;split at hb
  case isFalse=>cases hb
  rename_i h;injection hb with hb
  injection hb with hb _
  rw[<-hb,ac2];omega
 have ao:gU (some n) cx (32*(i:Int)).toNat (out.length:Int).toNat 1=.slice (some (n.add (32*i*1))) (out.length-32*i) (cx-32*i):=by
  rw[show(32*(i:Int)).toNat=32*i by omega,show(out.length:Int).toNat=out.length by omega];unfold gU;rw[s8 (by omega)];rfl
 refine⟨_,rfl,?_⟩;refine⟨.inl ⟨k,out.length-32*i,.slice (some n) out.length cx,out.length,dX out,n,cx,cx-32*i,32*i,b.length,a2,c2,dX b,q,rfl,ao,by omega,rfl,by rw[pX];omega,?_,ow _,fun _=>?_⟩⟩
 ·rcases hf with h | ⟨h1,h2⟩
  ·exact .inl h
  ·exact .inr ⟨by omega,h2⟩
 ·rw[Nat.mul_one,Cs];refine⟨_,_,?_,hN b r hb⟩;have h3:=FD aa q (out':=jM out (32*i) b) (mR (by omega)) hm ha;exact(h3.put (c:=.any) trivial (some 65)).put (c:=.any) trivial (some 66)
theorem FG:∀(f k z:Nat) (l:List UInt8) (n:Int) (r:List UInt8),lp f k z l=some (n,r)->z<128 ^ k->f+k=6->(-4398046511104<=n/\n<=4398046511104)/\r.length<l.length
 | 0,_,_,_,_,_,h,_,_=>by simp[lp] at h
 | _+1,_,_,[],_,_,h,_,_=>by simp[lp] at h
 | f+1,k,z,c::d,n,r,h,q,s=>by
  have o:=c.toNat_lt;rw[lp] at h;split at h
  ·rename_i a;split at h
   ·injection h with h
    injection h with h1 h2
    subst h2;have p:z+c.toNat*128 ^ k<128 ^ (k+1):=by
     have:c.toNat*128 ^ k<=127*128 ^ k:=Nat.mul_le_mul_right _ (by omega);rw[Nat.pow_succ];omega
    have j:128 ^ (k+1)<=128 ^ 6:=Nat.pow_le_pow_right (by omega) (by omega);have m:(128:Nat) ^ 6=4398046511104:=by decide
    refine⟨?_,by simp⟩;rw[<-h1];unfold Bh;split<;>omega
   ·cases h
  ·obtain⟨b,e⟩:=FG f (k+1) _ d n r h (by
    have:(c.toNat-128)*128 ^ k<=127*128 ^ k:=Nat.mul_le_mul_right _ (by omega);rw[Nat.pow_succ];omega) (by omega)
   exact⟨b,by simp;omega⟩
theorem j6 {l r:List UInt8}{n:Int}(h:getD l=some (n,r)):(-4398046511104<=n/\n<=4398046511104)/\r.length<l.length:=FG 6 0 0 l n r h (by decide) rfl
def vR (size:Nat):Nat->Int->List UInt8->Dec (List UInt8)
 | 0,_,out=>xU out
 | n+1,p,out=>gN getD fun d=>if 0<=p+d/\p+d<dG size then gN (takeD (((cJ out (p+d).toNat).length:Nat):Int)) fun b=>vR size n (p+d) (jM out (32*(p+d).toNat) b) else fun _=>none
def uR (a:List UInt8) (size:Nat):List UInt8:=jM (List.replicate size 0) 0 (a.take size)
def FH (a:List UInt8) (s c:Int):Dec (List UInt8):=fun r=>if(0<=s/\s<=(a.length:Int)+r.length)/\0<=c then vR s.toNat c.toNat (-1) (uR a s.toNat) r else none
def pz (a:List UInt8):Dec (List UInt8):=gN getD fun s=>gN getD fun _=>gN getD fun c=>FH a s c
theorem p9 (a:List UInt8) (n:Nat):(uR a n).length=n:=by
 unfold uR;rw[mR (by simp;omega)];simp
theorem G8 (n:Nat):List.replicate n [C.int .u8 0]=ah (List.replicate n 0):=by simp[ah,iX]
theorem yL {i n:Nat}(h:i<dG n):32*i<n:=by unfold dG at h;omega
theorem abJ (s:Int) (a:0<=s) (b:s<=4611686018427387904):CallsT PZ 61 [IC s] [] (gL [] (IC ((dG s.toNat:Nat):Int))):=by
 obtain⟨n,rfl⟩:=Int.eq_ofNat_of_zero_le a;exact t61 n (by omega)
set_option maxRecDepth 20000 in
theorem t46 (a bs:List UInt8) (ha:a.length<=268435456) (hb:bs.length<=268435456):CallsTX PZ 46 [.own 1000 0,.sl (ah a)] [RB bs]
  (fun Mo c=>∃out r,pz a bs=some (out,r)/\Mo=[RB r]/\c=.sl (ah out)) (fun v=>v=gC/\pz a bs=none):=by
 have bd:(ah a).length=a.length:=aG;refine aC Tryz.func46 Qi rfl fun hw aE=>?_;refine rn 1000 (S1 bs) rfl rfl rfl (fun h=>⟨rfl,bn h⟩) fun s r1 e1 _=>?_;refine rn 1000 (S1 r1) rfl rfl rfl (fun h=>⟨rfl,(aD e1).trans (bn h)⟩) fun s2 r2 e2 _=>?_;refine rn 1000 (S1 r2) rfl rfl rfl (fun h=>⟨rfl,(aD e1).trans ((aD e2).trans (bn h))⟩) fun n w e3 _=>?_;have m:pz a bs=FH a s n w:=(aD e1).trans ((aD e2).trans (aD e3));obtain⟨⟨b1,b2⟩,b3⟩:=j6 e1;obtain⟨_,b4⟩:=j6 e2;obtain⟨⟨b5,b6⟩,b7⟩:=j6 e3;have be:(ah w).length=w.length:=aG;refine aF (fun y=>?_) (fun y=>?_)
 ·refine bf ?_;refine aF (fun h1=>?_) (fun h1=>?_)
  ·refine wK (vV (decide (0<=n))) rfl (fun h=>⟨rfl,?_⟩) fun h2=>?_
   ·rw[m,FH,s8 (fun h3=>by have:=adq h;omega)]
   have h2:=ada h2;have y:0<=s:=y;have h1:s<=(a.length:Int)+w.length:=by omega
   have ar:pz a bs=vR s.toNat n.toNat (-1) (uR a s.toNat) w:=by rw[m,FH,o6 ⟨⟨y,h1⟩,h2⟩]
   have bb:s.toNat<=536870912:=by omega
   have ag:(List.replicate s.toNat (0:UInt8)).length=s.toNat:=adw;have z:=abJ s y (by omega);refine vY.mk y (ac9 _) (by omega) (by unfold maxLen;omega) ?_;refine Rz (k:=36) (out:=List.replicate s.toNat 0) (a:=a) (j3 (fun q=>some (TO.row 5 1 q)) (G8 s.toNat)) rfl rfl ?_;refine aP n.toNat 41 [9,8] ((w,(-1:Int),uR a s.toNat):List UInt8×Int×List UInt8) (fun x=>[IC x.2.1,.rw 36]) (fun x=>[(1000,RB x.1),(36,.row 5 1 (ah x.2.2))])
    (fun k x=>vR s.toNat (n.toNat-k) x.2.1 x.2.2 x.1=pz a bs/\(-1<=x.2.1/\x.2.1<=4294967296)/\x.2.2.length=s.toNat) ⟨ar.symm,⟨(by decide:(-1:Int)<=-1),(by decide:(-1:Int)<=4294967296)⟩,p9 a s.toNat⟩ (af rfl) ⟨af rfl,af rfl,trivial⟩
    ⟨bJ,.inl ⟨_,rfl,.inl ⟨j3 (fun q=>TO.row 5 1 (ah q)) (by rw[uR,ag]),rfl⟩⟩,trivial⟩ ?_
   rintro k ⟨f,p,out⟩ hk ⟨e,⟨p1,p2⟩,o⟩ _ _ ax;have e:vR s.toNat (n.toNat-k) p out f=pz a bs:=e;have p1:-1<=p:=p1;have p2:p<=4294967296:=p2;have o:out.length=s.toNat:=o;refine aF (fun t=>?_) (fun ap=>?_)
   ·have t:k<n.toNat:=by omega
    have ab:pz a bs=gN getD (fun d=>if 0<=p+d/\p+d<dG s.toNat then gN (takeD (((cJ out (p+d).toNat).length:Nat):Int)) fun b=>vR s.toNat (n.toNat-(k+1)) (p+d) (jM out (32*(p+d).toNat) b) else fun _=>none) f:=by
     rw[<-e,show n.toNat-k=(n.toNat-(k+1))+1 by omega];rfl
    refine rn 1000 (S1 f) rfl rfl rfl (fun h=>⟨rfl,ab.trans (bn h)⟩) fun d r4 e4 _=>?_;have j:=ab.trans (aD e4);obtain⟨⟨d1,d2⟩,_⟩:=j6 e4;refine bf ?_;refine aF (fun u=>?_) (fun u=>?_)
    ·have u:0<=p+d:=u;refine bM z rfl fun _=>?_;refine wK (vV (decide (p+d<((dG s.toNat:Nat):Int)))) rfl (fun h=>⟨rfl,?_⟩) fun g1=>?_
     ·rw[j,s8 (fun h3=>by have:=adq h;omega)]
     have g1:=ada g1;rw[o6 ⟨u,g1⟩] at j;have hi:32*(p+d).toNat<out.length:=by rw[o];exact yL (by omega)
     refine Vf 36 (p+d).toNat out r4 rfl rfl rfl rfl (j3 IC (show p+d=(((p+d).toNat:Nat):Int) by omega)) rfl rfl rfl (by decide) hi (by omega) (fun h=>⟨rfl,j.trans (bn h)⟩) (fun _=>rfl) fun b r5 l=>?_;have aa:=j.trans (aD l);have bi:dG s.toNat<=4294967296:=by unfold dG;omega
     have ak:b.length=(cJ out (p+d).toNat).length:=by
      unfold takeD at l;split at l
      case isFalse=>cases l
      rename_i h;injection l with l
      injection l with l _
      rw[<-l,ac2];omega
     have al:32*(p+d).toNat+b.length<=out.length:=by
      rw[ak];unfold cJ;rw[ac2,ads];omega
     refine bf ?_;exact⟨(k+1,(r5,p+d,jM out (32*(p+d).toNat) b)),⟨t,aa.symm,⟨by show -1<=p+d;omega,by show p+d<=4294967296;omega⟩,(mR al).trans o⟩,⟨aR,af rfl,af rfl,trivial⟩,
      ⟨bJ,bJ,trivial⟩,aS t⟩
    ·have u:¬0<=p+d:=u;refine wK (vV false) rfl (fun _=>⟨rfl,?_⟩) fun h=>by cases h
     rw[j,s8 (fun h3=>u h3.1)]
   ·have ap:¬k<n.toNat:=by omega
    have e:xU out f=pz a bs:=by rw[<-e,show n.toNat-k=0 by omega];rfl
    exact nB [36] [1000] ⟨_,_,rfl,rfl,rfl,out,f,e.symm,rfl,rfl⟩
  ·refine wK (vV false) rfl (fun _=>⟨rfl,?_⟩) fun h=>by cases h
   rw[m,FH,s8 (fun h3=>by omega)]
 ·refine wK (vV false) rfl (fun _=>⟨rfl,?_⟩) fun h=>by cases h
  rw[m,FH,s8 (fun h3=>by omega)]
end Go.Fr.Tryz
