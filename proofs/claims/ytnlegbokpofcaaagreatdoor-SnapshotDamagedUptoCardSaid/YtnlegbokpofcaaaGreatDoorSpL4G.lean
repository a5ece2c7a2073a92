/- Part of the proofs of the statements of this seat. -/
import Derived.Test.YtnlegbokpofcaaaGreatDoorSpE9G
import Derived.Test.YtnlegbokpofcaaaGreatDoorSpP4G
import Derived.Test.YtnlegbokpofcaaaGreatDoorFW3
set_option maxRecDepth 10000
set_option linter.unusedVariables false
set_option linter.unusedSimpArgs false
namespace Go.Fr.Tryz
open Go Go.RowKit Go.Proofs Go.Fr Go.Fr.T Go.Fr.Api
abbrev Eg (f:Nat) (args:List C):Prop:=CallsT PZ f args [] (Such True)
theorem UU:∀(n:Nat) (x:Vl) (l:Int),SizeOf.sizeOf x<n->zU 71 [SL x,IC l]
 | 0,x,l,h=>o4 h (by omega)
 | n+1,x,l,h=>by
  have j:∀z∈x.fs,∀m,zU 71 [SL z,IC m]:=fun z o m=>UU n z m (by have:=Qw o;omega);refine au Tryz.func71 Ot rfl fun f _=>?_;have d:Wf (.sl (x.fs.map oH)):=f.1.2.2.2.2.1;refine bw x.fs.length 6 [5] (_:Int) (fun n=>[IC n]) (fun _=>[]) (fun _ _=>True) trivial (ah rfl) ⟨ah rfl,trivial⟩ trivial (fun _=>rfl) (fun _=>rfl) ?_;rintro e s p _ _ _ _;refine aM (fun a=>?_) (fun q=>?_)
  ·refine aM (fun c=>?_) (fun c=>?_)
   ·have a:e<x.fs.length:=by rw[l9] at a;omega
    have r:=cJ d;obtain⟨k,b⟩:=bV a;refine Ef b ?_;refine Fit.mk ?_;refine uV (j k (aaQ b) _) rfl fun m=>?_;refine Fit.mk ?_;refine Fit.aae (by omega) (by omega) ?_;exact⟨(e+1,_),⟨a,trivial⟩,⟨bE,⟨ah rfl,trivial⟩⟩,trivial,bF a⟩
   skip
   exact yL _ rfl rfl
  ·skip
   exact yL _ rfl rfl
theorem Vp (x:Vl) (l:Int):zU 71 [SL x,IC l]:=UU _ x l (abL _)
def Y3:Vl:=.mk 0 0 0 0 [] false [] []
theorem Y4 (l:List Int):Eg 69 [.sl (tM l)]:=by
 refine au Tryz.func69 Oo rfl fun f _=>?_;refine bw l.length 3 [] () (fun _=>[]) (fun _=>[]) (fun _ _=>True) trivial (ah rfl) trivial trivial (fun _=>rfl) (fun _=>rfl) ?_;rintro c j d _ _ _ _;refine aM (fun a=>?_) (fun e=>?_)
 ·have a:c<l.length:=by rw[YA] at a;omega
  have h:=(cJ f.1:l.length<=_);obtain⟨k,b⟩:=bV a;refine K0 b ?_;refine aB (fun _=>?_) (fun _=>?_)
  ·exact hU _ rfl rfl fun _=>trivial
  refine K0 b ?_;refine aB (fun _=>?_) (fun _=>?_)
  ·exact hU _ rfl rfl fun _=>trivial
  refine Fit.aae (by omega) (by omega) ?_;exact⟨(c+1,()),⟨a,trivial⟩,⟨bE,trivial⟩,trivial,bF a⟩
 ·skip
  exact hU _ rfl rfl fun _=>trivial
theorem Y5 (l:List Vl):Eg 70 [.sl (l.map oH)]:=by
 refine au Tryz.func70 Oq rfl fun h _=>?_;refine bw l.length 3 [] () (fun _=>[]) (fun _=>[]) (fun _ _=>True) trivial (ah rfl) trivial trivial (fun _=>rfl) (fun _=>rfl) ?_;rintro c k d _ _ _ _;refine aM (fun a=>?_) (fun e=>?_)
 ·have a:c<l.length:=by rw[l9] at a;omega
  have j:=cJ h.1;obtain⟨f,b⟩:=bV a;refine Ef b ?_;refine uV (Vp f 60) rfl fun m=>?_;refine aB (fun _=>?_) (fun _=>?_)
  ·exact hU _ rfl rfl fun _=>trivial
  refine Fit.aae (by omega) (by omega) ?_;exact⟨(c+1,()),⟨a,trivial⟩,⟨bE,trivial⟩,trivial,bF a⟩
 ·skip
  exact hU _ rfl rfl fun _=>trivial
theorem t68 (a:List Ce) (p:List Bool):Eg 68 [.agg [.sl (a.map zk),.sl (p.map Ip)],SL Y3]:=by
 refine au Tryz.func68 Om rfl fun k _=>?_;have d:Wf (.sl (a.map zk)):=k.1.1;refine aB (fun _=>?_) (fun _=>?_)
 ·exact hU _ rfl rfl fun _=>trivial
 refine aB (fun _=>?_) (fun _=>?_)
 ·exact hU _ rfl rfl fun _=>trivial
 refine uV (Vp Y3 60) rfl fun m=>?_;refine aB (fun _=>?_) (fun _=>?_)
 ·exact hU _ rfl rfl fun _=>trivial
 refine bw a.length 5 [] () (fun _=>[]) (fun _=>[]) (fun _ _=>True) trivial (ah rfl) trivial trivial (fun _=>rfl) (fun _=>rfl) ?_;rintro e n f _ _ _ _;refine aM (fun b=>?_) (fun h=>?_)
 ·have b:e<a.length:=by rw[l9] at b;omega
  have l:=cJ d;obtain⟨j,c⟩:=bV b;refine Qx c ?_;refine uV (Vp j.value 60) rfl fun m=>?_;refine aB (fun _=>?_) (fun _=>?_)
  ·exact hU _ rfl rfl fun _=>trivial
  refine Fit.aae (by omega) (by omega) ?_;exact⟨(e+1,()),⟨b,trivial⟩,⟨bE,trivial⟩,trivial,bF b⟩
 ·skip
  exact hU _ rfl rfl fun _=>trivial
theorem UW:∀(n:Nat) (x:Vl),SizeOf.sizeOf x<n->Eg 26 [SL x]
 | 0,x,h=>o4 h (by omega)
 | n+1,x,h=>by
  have f:∀z∈x.fs,Eg 26 [SL z]:=fun z k=>UW n z (by have:=Qw k;omega);refine au Tryz.func26 NR rfl fun e _=>?_;have c:Wf (.sl (x.fs.map oH)):=e.1.2.2.2.2.1;refine bw x.fs.length 3 [] () (fun _=>[]) (fun _=>[]) (fun _ _=>True) trivial (ah rfl) trivial trivial (fun _=>rfl) (fun _=>rfl) ?_;rintro d q l _ _ _ _;refine aM (fun a=>?_) (fun o=>?_)
  ·have a:d<x.fs.length:=by rw[l9] at a;omega
   have p:=cJ c;obtain⟨j,b⟩:=bV a;refine Ef b ?_;refine rm (f j (aaQ b)) rfl fun r _=>?_;refine aB (fun _=>?_) (fun _=>?_)
   ·exact hU _ rfl rfl fun _=>trivial
   refine Fit.aae (by omega) (by omega) ?_;exact⟨(d+1,()),⟨a,trivial⟩,⟨bE,trivial⟩,trivial,bF a⟩
  ·skip
   refine aB (fun _=>?_) (fun _=>hU _ rfl rfl fun _=>trivial);refine aB (fun _=>?_) (fun _=>hU _ rfl rfl fun _=>trivial);refine uV (Vp x 60) rfl fun m=>?_;exact hU _ rfl rfl fun _=>trivial
theorem YC (x:Vl):Eg 26 [SL x]:=UW _ x (abL _)
theorem t25 (r i2:List (List C)) (y:Int) (x:Wd):Eg 25 [.agg (uQ r i2 y x)]:=by
 refine au Tryz.func25 NQ rfl fun m _=>?_;have h:Wf (.sl (x.tasks.map CC)):=m.1.2.2.2.2.2.1;have l:Wf (.sl (x.channels.map IV)):=m.1.2.2.2.2.2.2.1;refine rm (t68 x.cells x.arenas) rfl fun b1 _=>?_;refine aB (fun _=>?_) (fun _=>?_)
 ·exact hU _ rfl rfl fun _=>trivial
 refine aB (fun _=>?_) (fun _=>?_)
 ·exact hU _ rfl rfl fun _=>trivial
 refine aB (fun _=>?_) (fun _=>?_)
 ·exact hU _ rfl rfl fun _=>trivial
 refine aB (fun _=>?_) (fun _=>?_)
 ·exact hU _ rfl rfl fun _=>trivial
 refine aB (fun _=>?_) (fun _=>?_)
 ·exact hU _ rfl rfl fun _=>trivial
 refine rm (Y4 [x.made,x.dropped,x.closed]) rfl fun b2 _=>?_;refine aB (fun _=>?_) (fun _=>?_)
 ·exact hU _ rfl rfl fun _=>trivial
 refine bw x.tasks.length 3 [] () (fun _=>[]) (fun _=>[]) (fun _ _=>True) trivial (ah rfl) trivial trivial (fun _=>rfl) (fun _=>rfl) ?_;rintro p lA aa _ _ _ _;refine aM (fun b=>?_) (fun ac=>?_)
 ·have b:p<x.tasks.length:=by rw[l9] at b;omega
  have ae:=cJ h;obtain⟨e,a⟩:=bV b;have k:Wf (.sl (e.frames.map Ep)):=(rF h (aaQ a)).2.1;refine cD a rfl rfl ?_;refine aB (fun _=>?_) (fun _=>?_)
  ·exact hU _ rfl rfl fun _=>trivial
  refine cD a rfl rfl ?_;refine aB (fun _=>?_) (fun _=>?_)
  ·exact hU _ rfl rfl fun _=>trivial
  refine cD a rfl rfl ?_;refine aB (fun _=>?_) (fun _=>?_)
  ·exact hU _ rfl rfl fun _=>trivial
  refine cD a rfl rfl ?_;refine cD a rfl rfl ?_;refine cD a rfl rfl ?_;refine R6 (Y4 [e.allocs,e.clock,e.next]) rfl fun b3 _=>?_;refine aB (fun _=>?_) (fun _=>?_)
  ·exact hU _ rfl rfl fun _=>trivial
  refine bw e.frames.length 4 [] () (fun _=>[]) (fun _=>[]) (fun _ _=>True) trivial (ah rfl) trivial trivial (fun _=>rfl) (fun _=>rfl) ?_;rintro o lB u _ _ _ _;refine cD a rfl rfl ?_;refine aM (fun d=>?_) (fun z=>?_)
  ·have d:o<e.frames.length:=by rw[l9] at d;omega
   have v:=cJ k;obtain⟨xB,f⟩:=bV d;refine cD a rfl rfl ?_;refine cD f rfl rfl ?_;refine rm (Y5 xB.slots) rfl fun b4 _=>?_;refine aB (fun _=>?_) (fun _=>?_)
   ·exact hU _ rfl rfl fun _=>trivial
   refine cD a rfl rfl ?_;refine cD f rfl rfl ?_;refine aB (fun _=>?_) (fun _=>?_)
   ·exact hU _ rfl rfl fun _=>trivial
   refine Fit.aae (by omega) (by omega) ?_;exact⟨(o+1,()),⟨d,trivial⟩,⟨bE,trivial⟩,trivial,bF d⟩
  ·skip
   refine Fit.aae (by omega) (by omega) ?_;exact⟨(p+1,()),⟨b,trivial⟩,⟨bE,trivial⟩,trivial,bF b⟩
 ·skip
  refine bw x.channels.length 5 [] () (fun _=>[]) (fun _=>[]) (fun _ _=>True) trivial (ah rfl) trivial trivial (fun _=>rfl) (fun _=>rfl) ?_;rintro n lC s _ _ _ _;refine aM (fun c=>?_) (fun w=>?_)
  ·have c:n<x.channels.length:=by rw[l9] at c;omega
   have q:=cJ l;obtain⟨t,j⟩:=bV c;refine cD j rfl rfl ?_;refine rm (Y5 t) rfl fun b5 _=>?_;refine aB (fun _=>?_) (fun _=>?_)
   ·exact hU _ rfl rfl fun _=>trivial
   refine Fit.aae (by omega) (by omega) ?_;exact⟨(n+1,()),⟨c,trivial⟩,⟨bE,trivial⟩,trivial,bF c⟩
  ·skip
   exact hU _ rfl rfl fun _=>trivial
theorem t8 (j:zT) (x:Wd):Eg 8 [.agg (Mr j x)]:=by
 refine au Tryz.func8 RZ rfl fun q _=>?_;have p:Wf (.sl (x.cells.map zk)):=q.1.2.2.2.1;have n:Wf (.sl (x.tasks.map CC)):=q.1.2.2.2.2.2.1;have o:Wf (.sl (x.channels.map IV)):=q.1.2.2.2.2.2.2.1;refine rm (t25 _ _ _ x) rfl fun b1 _=>?_;refine aB (fun _=>?_) (fun _=>?_)
 ·exact hU _ rfl rfl fun _=>trivial
 refine rm (t9 j) rfl fun b2 _=>?_;refine aB (fun _=>?_) (fun _=>?_)
 ·exact hU _ rfl rfl fun _=>trivial
 refine aB (fun _=>?_) (fun _=>?_)
 ·exact hU _ rfl rfl fun _=>trivial
 refine bw x.cells.length 3 [] () (fun _=>[]) (fun _=>[]) (fun _ _=>True) trivial (ah rfl) trivial trivial (fun _=>rfl) (fun _=>rfl) ?_;rintro kA lA be _ _ _ _;refine aM (fun b=>?_) (fun bj=>?_)
 ·have b:kA<x.cells.length:=by rw[l9] at b;omega
  have ao:=cJ p;obtain⟨xA,w⟩:=bV b;refine Qx w ?_;refine rm (YC xA.value) rfl fun b3 _=>?_;refine aB (fun _=>?_) (fun _=>?_)
  ·exact hU _ rfl rfl fun _=>trivial
  refine Fit.aae (by omega) (by omega) ?_;exact⟨(kA+1,()),⟨b,trivial⟩,⟨bE,trivial⟩,trivial,bF b⟩
 ·skip
  refine bw x.tasks.length 4 [] () (fun _=>[]) (fun _=>[]) (fun _ _=>True) trivial (ah rfl) trivial trivial (fun _=>rfl) (fun _=>rfl) ?_;rintro kB lB ax _ _ _ _;refine aM (fun f=>?_) (fun bd=>?_)
  ·have f:kB<x.tasks.length:=by rw[l9] at f;omega
   have az:=cJ n;obtain⟨z,h⟩:=bV f;have m:Wf (.sl (z.frames.map Ep)):=(rF n (aaQ h)).2.1;refine bw z.frames.length 5 [] () (fun _=>[]) (fun _=>[]) (fun _ _=>True) trivial (ah rfl) trivial trivial (fun _=>rfl) (fun _=>rfl) ?_;rintro kD lD aw _ _ _ _;refine cD h rfl rfl ?_;refine aM (fun c=>?_) (fun bi=>?_)
   ·have c:kD<z.frames.length:=by rw[l9] at c;omega
    have bl:=cJ m;obtain⟨y,l⟩:=bV c;have u:Wf (.sl (y.slots.map oH)):=(rF m (aaQ l)).2.2.2.2.2.1;refine bw y.slots.length 6 [] () (fun _=>[]) (fun _=>[]) (fun _ _=>True) trivial (ah rfl) trivial trivial (fun _=>rfl) (fun _=>rfl) ?_;rintro kE lE av _ _ _ _;refine cD h rfl rfl ?_;refine cD l rfl rfl ?_;refine aM (fun a=>?_) (fun bk=>?_)
    ·have a:kE<y.slots.length:=by rw[l9] at a;omega
     have al:=cJ u;obtain⟨xE,t⟩:=bV a;refine cD h rfl rfl ?_;refine cD l rfl rfl ?_;refine Ef t ?_;refine rm (YC xE) rfl fun b4 _=>?_;refine aB (fun _=>?_) (fun _=>?_)
     ·exact hU _ rfl rfl fun _=>trivial
     refine Fit.aae (by omega) (by omega) ?_;exact⟨(kE+1,()),⟨a,trivial⟩,⟨bE,trivial⟩,trivial,bF a⟩
    ·skip
     refine Fit.aae (by omega) (by omega) ?_;exact⟨(kD+1,()),⟨c,trivial⟩,⟨bE,trivial⟩,trivial,bF c⟩
   ·skip
    refine Fit.aae (by omega) (by omega) ?_;exact⟨(kB+1,()),⟨f,trivial⟩,⟨bE,trivial⟩,trivial,bF f⟩
  ·skip
   refine bw x.channels.length 7 [] () (fun _=>[]) (fun _=>[]) (fun _ _=>True) trivial (ah rfl) trivial trivial (fun _=>rfl) (fun _=>rfl) ?_;rintro kC lC ap _ _ _ _;refine aM (fun e=>?_) (fun ba=>?_)
   ·have e:kC<x.channels.length:=by rw[l9] at e;omega
    have an:=cJ o;obtain⟨r,k⟩:=bV e;have v:Wf (.sl (r.map oH)):=(rF o (aaQ k)).1;refine bw r.length 8 [] () (fun _=>[]) (fun _=>[]) (fun _ _=>True) trivial (ah rfl) trivial trivial (fun _=>rfl) (fun _=>rfl) ?_;rintro kG lG bb _ _ _ _;refine cD k rfl rfl ?_;refine aM (fun d=>?_) (fun bc=>?_)
    ·have d:kG<r.length:=by rw[l9] at d;omega
     have aE:=cJ v;obtain⟨xG,s⟩:=bV d;refine cD k rfl rfl ?_;refine Ef s ?_;refine rm (YC xG) rfl fun b5 _=>?_;refine aB (fun _=>?_) (fun _=>?_)
     ·exact hU _ rfl rfl fun _=>trivial
     refine Fit.aae (by omega) (by omega) ?_;exact⟨(kG+1,()),⟨d,trivial⟩,⟨bE,trivial⟩,trivial,bF d⟩
    ·skip
     refine Fit.aae (by omega) (by omega) ?_;exact⟨(kC+1,()),⟨e,trivial⟩,⟨bE,trivial⟩,trivial,bF e⟩
   ·skip
    exact hU _ rfl rfl fun _=>trivial
end Go.Fr.Tryz
namespace Go.Fr.Tryz
open Go Go.Fr.T
structure RT {α:Type}(d:Dec α) (e:α->Enc):Prop where
 wr:∀x r,(e x).2=true->d ((e x).1++r)=some (x,r)
 rd:∀l x r,d l=some (x,r)->(e x).2=true/\l=(e x).1++r
theorem eV {a b:Enc}:(bh a b).2=true↔a.2=true/\b.2=true:=by simp[bh]
theorem nJ {a b:Enc}:(bh a b).1=a.1++b.1:=rfl
theorem eK {c b:Type}{f:Dec c}{k:c->Dec b}{l r:List UInt8}{y:b}(h:fP f k l=some (y,r)):∃x a,f l=some (x,a)/\k x a=some (y,r):=by
 unfold fP at h;split at h
 ·cases h
 ·rename_i x a e;exact⟨x,a,e,h⟩
theorem SM (z:Nat):zz (IW z)=z:=by
 unfold IW zz;split
 ·split<;>omega
 ·split<;>omega
theorem Eh:∀(f k z:Nat) (l:List UInt8) (n:Int) (r:List UInt8),lO f k z l=some (n,r)->∃w,l=bR w++r/\n=IW (z+w*128 ^ k)/\(0<w\/k=0)
 | 0,k,z,l,n,r,h=>by cases h
 | f+1,k,z,[],n,r,h=>by cases h
 | f+1,k,z,c::l,n,r,h=>by
  simp only[lO] at h;split at h
  ·rename_i d;split at h
   ·rename_i j;injection h with h
    injection h with a b
    subst a b;refine⟨c.toNat,?_,rfl,j⟩;rw[bR,dif_pos d];simp
   ·cases h
  ·rename_i d;obtain⟨w,a,b,q⟩:=Eh f (k+1) _ l n r h;have p:0<w:=by omega
   have e:=c.toNat_lt;refine⟨(c.toNat-128)+128*w,?_,?_,.inl (by omega)⟩
   ·rw[bR,dif_neg (by omega),a];have o:(c.toNat-128+128*w) / 128=w:=by omega
    have m:128+(c.toNat-128+128*w) % 128=c.toNat:=by omega
    rw[o,m];simp
   ·rw[b];congr 1;rw[Nat.pow_succ,Nat.add_mul,Nat.add_assoc,Nat.mul_comm (128 ^ k) 128,<-Nat.mul_assoc,Nat.mul_comm 128 w]
theorem GW {l r:List UInt8}{n:Int}(h:getD l=some (n,r)):l=bR (zz n)++r:=by
 obtain⟨w,a,b,c⟩:=Eh 6 0 0 l n r h;have e:n=IW w:=by rw[b];simp
 rw[e,SM];exact a
theorem ic:RT gk kW.num:=by
 refine⟨fun n r h=>?_,fun l n r h=>?_⟩
 ·have a:(decide (-1099511627776<=n)&&decide (n<=1099511627776))=true:=h;simp only[xo,abo] at a;show gk (bR (zz n)++r)=_;simp only[gk,lS n r a.1 a.2];rw[eu ⟨a.1,a.2⟩]
 ·unfold gk at h;split at h
  ·rename_i b c e;split at h
   ·rename_i hb;injection h with h
    injection h with h1 h2
    subst h1 h2;refine⟨?_,GW e⟩;show(decide (-1099511627776<=b)&&decide (b<=1099511627776))=true;simp only[xo,abo];exact hb
   ·cases h
  ·cases h
theorem rG:RT oz (nM kW):=by
 refine⟨fun b r h=>?_,fun l b r h=>?_⟩
 ·have a:=ic.wr (if b=true then 1 else 0) r h;unfold oz;rw[show nM kW b=kW.num (if b=true then 1 else 0) from rfl,a];cases b<;>simp
 ·unfold oz at h;split at h
  ·rename_i c d e;split at h
   ·rename_i hb;injection h with h
    injection h with a h2
    subst a h2;have:=ic.rd _ _ _ e;rcases hb with rfl | rfl
    ·exact this
    ·exact this
   ·cases h
  ·cases h
theorem kF {a:Type}{d:Dec a}{e:a->Enc}(h:RT d e):∀(l:List a) (r:List UInt8),(aS e l).2=true->bA d l.length ((aS e l).1++r)=some (l,r)
 | [],r,_=>rfl
 | x::l,r,f=>by
  have b:=eV.1 f;have c:(aS e (x::l)).1=(e x).1++(aS e l).1:=rfl;rw[c,aaR];simp only[aaV,bA,h.wr x _ b.1,kF h l r b.2]
theorem kH {b:Type}{d:Dec b}{e:b->Enc}(h:RT d e):∀(n:Nat) (l:List UInt8) (xs:List b) (r:List UInt8),bA d n l=some (xs,r)->(aS e xs).2=true/\l=(aS e xs).1++r/\xs.length=n
 | 0,l,xs,r,a=>by
  injection a with a
  injection a with h1 h2
  subst h1 h2;exact⟨rfl,rfl,rfl⟩
 | n+1,l,xs,r,a=>by
  simp only[bA] at a;split at a
  case h_2=>cases a
  rename_i x f o;split at a
  case h_2=>cases a
  rename_i ys c j;injection a with a
  injection a with h1 h2
  subst h1 h2;obtain⟨q,s⟩:=h.rd l x f o;obtain⟨p,m,k⟩:=kH h n f ys c j;refine⟨eV.2 ⟨q,p⟩,?_,by simp[k]⟩;show l=(e x).1++(aS e ys).1++c;rw[s,m];simp
theorem Ct {a:Type}{e:a->Enc}(h:∀x,1<=(e x).1.length):∀l:List a,l.length<=(aS e l).1.length
 | []=>by simp
 | x::l=>by
  have:=h x;have:=Ct h l;show(x::l).length<=((e x).1++(aS e l).1).length;rw[yo,aaV];omega
theorem fV {j:Type}{d:Dec j}{e:j->Enc}(h:RT d e) (p:∀x,1<=(e x).1.length):RT (dn d) (bO kW e):=by
 refine⟨fun l r c=>?_,fun bs l r c=>?_⟩
 ·have f:=eV.1 c;have t:(l.length:Int)<=100000:=aa4 f.1;have a:(bO kW e l).1=bR (zz l.length)++(aS e l).1:=rfl;have y:=Ct p l;rw[a,aaR];have m:zJ (bR (zz l.length)++((aS e l).1++r))=some (l.length,(aS e l).1++r):=by
   simp only[zJ,lS (l.length:Int) _ (by omega) (by omega)];rw[eu ⟨by omega,t,by rw[yo];omega⟩];rfl
  unfold dn;rw[aq m];exact kF h l r f.2
 ·obtain⟨n,r1,a,o⟩:=eK c;obtain⟨s,q,v⟩:=kH h _ _ _ _ o;unfold zJ at a;split at a
  case h_2=>cases a
  rename_i k z u;split at a
  case isFalse=>cases a
  rename_i w;injection a with a
  injection a with f h2
  subst h2;have b:(l.length:Int)=k:=by omega
  refine⟨eV.2 ⟨decide_eq_true (by omega),s⟩,?_⟩;show bs=bR (zz l.length)++(aS e l).1++r;rw[b,GW u,q];simp
theorem rW (n:Int):1<=(kW.num n).1.length:=j9 _
theorem GX (b:Bool):1<=(nM kW b).1.length:=j9 _
theorem nX:RT (dn gk) (bO kW kW.num):=fV ic rW
theorem iA {c d:Type}{f:Dec c}{k:c->Dec d}{a b:Enc}{x:c}{y:d}{r:List UInt8}(h:(bh a b).2=true) (j:a.2=true->∀s,f (a.1++s)=some (x,s)) (l:b.2=true->k x (b.1++r)=some (y,r)):fP f k ((bh a b).1++r)=some (y,r):=by
 have e:=eV.1 h;rw[nJ,aaR,aq (j e.1 _)];exact l e.2
theorem nY {b c:Type}{f:Dec b}{k:b->Dec c}{a:Enc}{x:b}{y:c}{r:List UInt8}(h:a.2=true) (d:a.2=true->∀s,f (a.1++s)=some (x,s)) (e:k x r=some (y,r)):fP f k (a.1++r)=some (y,r):=by
 rw[aq (d h r)];exact e
theorem YD {e:Type}{l:List e}(h:l.length=4):∃a b c d,l=[a,b,c,d]:=by
 match l,h with
 | [a,b,c,d],_=>exact⟨a,b,c,d,rfl⟩
theorem LI {b:Type}{l:List b}(h:l.length=1):∃a,l=[a]:=by
 match l,h with
 | [a],_=>exact⟨a,rfl⟩
theorem UX {c:Type}{l:List c}(h:l.length=2):∃a b,l=[a,b]:=by
 match l,h with
 | [a,b],_=>exact⟨a,b,rfl⟩
theorem SN {d:Type}{l:List d}(h:l.length=3):∃a b c,l=[a,b,c]:=by
 match l,h with
 | [a,b,c],_=>exact⟨a,b,c,rfl⟩
theorem YE {f:Type}{l:List f}(h:l.length=5):∃a b c d e,l=[a,b,c,d,e]:=by
 match l,h with
 | [a,b,c,d,e],_=>exact⟨a,b,c,d,e,rfl⟩
theorem nZ {a:Type}{x y:a}{l r:List UInt8}(h:wB x l=some (y,r)):x=y/\l=r:=by
 injection h with h
 injection h with h1 h2
 exact⟨h1,h2⟩
theorem Fy (v:Vl) (d:Int):1<=(sL kW v d).1.length:=by
 cases v with
 | mk a b c n f e p l =>
  rw[sL];simp only[nJ,aS,yo];have:=rW a;omega
theorem Qy:∀d:Nat,RT (Fc d) (fun v=>sL kW v d)
 | 0=>⟨fun v r h=>by
   cases v with
   | mk a b c n f e p l =>
    have j:(sL kW (.mk a b c n f e p l) ((0:Nat):Int)).2=true:=h;rw[sL] at j;have:=(eV.1 j).1;exact o4 this (by decide),fun l x r h=>by cases h⟩
 | d+1=>by
  have k:RT (Fc d) (fun v=>sL kW v (((d+1:Nat):Int)-1)):=by
   have e:((d+1:Nat):Int)-1=(d:Int):=by omega
   rw[e];exact Qy d
  refine⟨fun v r h=>?_,fun bs v r h=>?_⟩
  ·cases v with
   | mk a b c n f e p l =>
    have j:(sL kW (.mk a b c n f e p l) ((d+1:Nat):Int)).2=true:=h;show Fc (d+1) ((sL kW (.mk a b c n f e p l) ((d+1:Nat):Int)).1++r)=_;rw[sL,pq] at j ⊢;have h1:=(eV.1 j).2;rw[nJ];show Fc (d+1) ((bh (aS kW.num [a,b,c,n]) _).1++r)=_;unfold Fc;refine iA h1 (fun q s=>kF ic _ _ q) fun h2=>?_;refine iA h2 (fun q s=>(fV k (fun x=>Fy x _)).wr f s q) fun h3=>?_;refine iA h3 (fun q s=>kF rG _ _ q) fun o=>?_;refine iA o (fun q s=>nX.wr _ _ q) fun h5=>?_;exact nY h5 (fun q s=>nX.wr _ _ q) rfl
  ·unfold Fc at h;obtain⟨a,r1,e1,h⟩:=eK h;obtain⟨f,r2,m,h⟩:=eK h;obtain⟨b,r3,e3,h⟩:=eK h;obtain⟨p,r4,e4,h⟩:=eK h;obtain⟨l,r5,t,h⟩:=eK h;obtain⟨rfl,rfl⟩:=nZ h;obtain⟨a1,a2,a3⟩:=kH ic _ _ _ _ e1;obtain⟨f1,f2⟩:=(fV k (fun x=>Fy x _)).rd _ _ _ m;obtain⟨b1,b2,b3⟩:=kH rG _ _ _ _ e3;obtain⟨p1,p2⟩:=nX.rd _ _ _ e4;obtain⟨l1,l2⟩:=nX.rd _ _ _ t;obtain⟨w,x,y,z,rfl⟩:=YD a3;obtain⟨u,rfl⟩:=LI b3;show(sL kW (.mk w x y z f u p l) ((d+1:Nat):Int)).2=true/\bs=(sL kW (.mk w x y z f u p l) ((d+1:Nat):Int)).1++r5;rw[sL,pq];refine⟨eV.2 ⟨?_,eV.2 ⟨a1,eV.2 ⟨f1,eV.2 ⟨b1,eV.2 ⟨p1,l1⟩⟩⟩⟩⟩,?_⟩
   ·show(decide (0<((d+1:Nat):Int))||kW.deep)=true;simp only[abl,abo];exact .inl (by omega)
   ·rw[a2,f2,b2,p2,l2];simp only[nJ,bO,aaR];rfl
theorem Cu:RT Gu (uO kW):=Qy 60
theorem LJ (v:Vl):1<=(uO kW v).1.length:=Fy v 60
theorem GY:RT TM (Qb kW):=fV Cu LJ
theorem LK {a:Type}(e:a->Enc) (l:List a):1<=(bO kW e l).1.length:=by
 show 1<=(bR (zz l.length)++(aS e l).1).length;have:=j9 (zz l.length);rw[yo];omega
theorem pD {a:Type}{e:a->Enc}(h:∀x,1<=(e x).1.length) (x:a) (l:List a):1<=(aS e (x::l)).1.length:=by
 have:=Ct h (x::l);simp only[aaV] at this;omega
theorem xh {a b:Enc}(h:1<=a.1.length):1<=(bh a b).1.length:=by rw[nJ,yo];omega
theorem Qz:RT P9 (OP kW):=by
 refine⟨fun x r h=>?_,fun bs x r h=>?_⟩
 ·unfold P9;refine iA h (fun q s=>kF rG _ _ q) fun h=>?_;refine iA h (fun q s=>kF ic _ _ q) fun h=>?_;exact nY h (fun q s=>Cu.wr _ _ q) rfl
 ·obtain⟨b,z,k,h⟩:=eK h;obtain⟨a,y,d,h⟩:=eK h;obtain⟨v,t,p,h⟩:=eK h;obtain⟨rfl,rfl⟩:=nZ h;obtain⟨m,e,f⟩:=kH rG _ _ _ _ k;obtain⟨n,o,l⟩:=kH ic _ _ _ _ d;obtain⟨c,j⟩:=Cu.rd _ _ _ p;obtain⟨u,rfl⟩:=LI f;obtain⟨w,rfl⟩:=LI l;refine⟨eV.2 ⟨m,eV.2 ⟨n,c⟩⟩,?_⟩;rw[e,o,j];simp only[OP,nJ,aaR];rfl
theorem QA:RT Qa (OQ kW):=by
 refine⟨fun x r h=>?_,fun bs x r h=>?_⟩
 ·unfold Qa;refine iA h (fun q s=>kF ic _ _ q) fun h=>?_;refine iA h (fun q s=>GY.wr _ _ q) fun h=>?_;exact nY h (fun q s=>nX.wr _ _ q) rfl
 ·obtain⟨b,z,k,h⟩:=eK h;obtain⟨a,y,d,h⟩:=eK h;obtain⟨v,w,o,h⟩:=eK h;obtain⟨rfl,rfl⟩:=nZ h;obtain⟨l,e,f⟩:=kH ic _ _ _ _ k;obtain⟨m,n⟩:=GY.rd _ _ _ d;obtain⟨c,j⟩:=nX.rd _ _ _ o;obtain⟨p,q,s,t,u,rfl⟩:=YE f;refine⟨eV.2 ⟨l,eV.2 ⟨m,c⟩⟩,?_⟩;rw[e,n,j];simp only[OQ,nJ,aaR];rfl
theorem QC:RT R8 (OT kW):=by
 refine⟨fun x r h=>?_,fun bs x r h=>?_⟩
 ·unfold R8;refine iA h (fun q s=>kF ic _ _ q) fun h=>?_;exact nY h (fun q s=>kF rG [x.excl,x.re,x.over] _ q) rfl
 ·obtain⟨a,o,f,h⟩:=eK h;obtain⟨b,n,c,h⟩:=eK h;obtain⟨rfl,rfl⟩:=nZ h;obtain⟨k,d,e⟩:=kH ic _ _ _ _ f;obtain⟨l,m,j⟩:=kH rG _ _ _ _ c;obtain⟨p,q,rfl⟩:=UX e;obtain⟨s,t,u,rfl⟩:=SN j;refine⟨eV.2 ⟨k,l⟩,?_⟩;rw[d,m];simp only[OT,nJ,aaR];rfl
theorem LL (x:Ac):1<=(OQ kW x).1.length:=xh (pD rW _ _)
theorem LM (x:Ln):1<=(OT kW x).1.length:=xh (pD rW _ _)
theorem LN (x:Ce):1<=(OP kW x).1.length:=xh (pD GX _ _)
theorem LO (x:Tk):1<=(OU kW x).1.length:=xh (pD rW _ _)
theorem LP (x:Ou):1<=(Qc kW x).1.length:=pD rW _ _
theorem LQ (x:Bool):1<=(Tc kW x).1.length:=pD GX _ _
theorem QD:RT Mp (OU kW):=by
 refine⟨fun x r h=>?_,fun bs x r h=>?_⟩
 ·unfold Mp;refine iA h (fun q s=>kF ic _ _ q) fun h=>?_;refine iA h (fun q s=>(fV QA LL).wr _ _ q) fun h=>?_;refine iA h (fun q s=>(fV QC LM).wr _ _ q) fun h=>?_;refine iA h (fun q s=>kF ic [x.allocs,x.clock,x.next] _ q) fun h=>?_;exact nY h (fun q s=>nX.wr _ _ q) rfl
 ·obtain⟨a,r1,v,h⟩:=eK h;obtain⟨f,r2,d,h⟩:=eK h;obtain⟨l,r3,e3,h⟩:=eK h;obtain⟨n,r4,j,h⟩:=eK h;obtain⟨c,r5,e,h⟩:=eK h;obtain⟨rfl,rfl⟩:=nZ h;obtain⟨a1,k,m⟩:=kH ic _ _ _ _ v;obtain⟨b1,b2⟩:=(fV QA LL).rd _ _ _ d;obtain⟨b,o⟩:=(fV QC LM).rd _ _ _ e3;obtain⟨y,d2,z⟩:=kH ic _ _ _ _ j;obtain⟨w,f2⟩:=nX.rd _ _ _ e;obtain⟨p,rfl⟩:=LI m;obtain⟨s,t,u,rfl⟩:=SN z;refine⟨eV.2 ⟨a1,eV.2 ⟨b1,eV.2 ⟨b,eV.2 ⟨y,w⟩⟩⟩⟩,?_⟩;rw[k,b2,o,d2,f2];simp only[OU,nJ,aaR];rfl
theorem QE:RT TN (Qc kW):=by
 refine⟨fun x r h=>?_,fun bs x r h=>?_⟩
 ·unfold TN;exact nY h (fun q s=>kF ic [x.task,x.number] _ q) rfl
 ·obtain⟨a,f,e,h⟩:=eK h;obtain⟨rfl,rfl⟩:=nZ h;obtain⟨d,b,c⟩:=kH ic _ _ _ _ e;obtain⟨p,q,rfl⟩:=UX c;exact⟨d,b⟩
theorem QF:RT TP (Tc kW):=by
 refine⟨fun x r h=>?_,fun bs x r h=>?_⟩
 ·unfold TP;exact nY h (fun q s=>kF rG [x] _ q) rfl
 ·obtain⟨a,f,e,h⟩:=eK h;obtain⟨rfl,rfl⟩:=nZ h;obtain⟨d,b,c⟩:=kH rG _ _ _ _ e;obtain⟨p,rfl⟩:=LI c;exact⟨d,b⟩
theorem LR (l:List Vl):1<=(Qb kW l).1.length:=LK _ _
theorem GZ:RT DU (kI kW):=by
 refine⟨fun x r h=>?_,fun bs x r h=>?_⟩
 ·unfold DU;refine iA h (fun q s=>(fV Qz LN).wr _ _ q) fun h=>?_;refine iA h (fun q s=>(fV QF LQ).wr _ _ q) fun h=>?_;refine iA h (fun q s=>(fV QD LO).wr _ _ q) fun h=>?_;refine iA h (fun q s=>(fV GY LR).wr _ _ q) fun h=>?_;refine iA h (fun q s=>(fV QE LP).wr _ _ q) fun h=>?_;exact nY h (fun q s=>kF ic [x.made,x.dropped,x.closed] _ q) rfl
 ·obtain⟨a,r1,t,h⟩:=eK h;obtain⟨b,r2,j,h⟩:=eK h;obtain⟨c,r3,e3,h⟩:=eK h;obtain⟨d,r4,l,h⟩:=eK h;obtain⟨f,r5,k,h⟩:=eK h;obtain⟨m,r6,e6,h⟩:=eK h;obtain⟨rfl,rfl⟩:=nZ h;obtain⟨a1,n⟩:=(fV Qz LN).rd _ _ _ t;obtain⟨b1,b2⟩:=(fV QF LQ).rd _ _ _ j;obtain⟨e,o⟩:=(fV QD LO).rd _ _ _ e3;obtain⟨w,d2⟩:=(fV GY LR).rd _ _ _ l;obtain⟨u,z⟩:=(fV QE LP).rd _ _ _ k;obtain⟨m1,y,v⟩:=kH ic _ _ _ _ e6;obtain⟨p,q,s,rfl⟩:=SN v;refine⟨eV.2 ⟨a1,eV.2 ⟨b1,eV.2 ⟨e,eV.2 ⟨w,eV.2 ⟨u,m1⟩⟩⟩⟩⟩,?_⟩;rw[n,b2,o,d2,z,y];simp only[kI,nJ,aaR];rfl
end Go.Fr.Tryz
namespace Go.Fr.Try.Pure
def stp (h x:Int):Int:=(h*1000003+x+1) % 2147483647
theorem cancel {p m mi q d:Int}(e:m*mi=1+p*q) (h:p ∣ d*m):p ∣ d:=by
 obtain⟨c,f⟩:=h;refine⟨c*mi-q*d,?_⟩;have a:d*(m*mi)=p*c*mi:=by rw[<-Int.mul_assoc,f]
 rw[e,Int.mul_add,Int.mul_one] at a;have j:d=p*c*mi-d*(p*q):=by omega
 rw[Int.mul_sub];have k:p*(c*mi)=p*c*mi:=(Int.mul_assoc _ _ _).symm;have b:p*(q*d)=d*(p*q):=by rw[<-Int.mul_assoc,Int.mul_comm]
 rw[k,b];exact j
theorem LS {a b p:Int}(h:a % p=b % p):p ∣ a-b:=Int.dvd_of_emod_eq_zero (Int.emod_eq_emod_iff_emod_sub_eq_zero.1 h)
theorem G0 {d:Int}(h:(2147483647:Int) ∣ d) (b:-2147483647<d) (a:d<2147483647):d=0:=by omega
theorem inv1:(1000003:Int)*1523789695=1+2147483647*709572:=by decide +kernel
theorem Pk {h k x:Int}(c:0<=h) (d:h<2147483647) (f:0<=k) (j:k<2147483647) (e:stp h x=stp k x):h=k:=by
 have b:=LS e;rw[show(h*1000003+x+1)-(k*1000003+x+1)=(h-k)*1000003 by clear e;rw[Int.sub_mul];omega] at b
 clear e
 have a:=cancel (mi:=1523789695) (q:=709572) inv1 b
 clear b
 have:=G0 a (by clear a;omega) (by clear a;omega)
 clear a
 omega
theorem LU {h x y:Int}(b:-256<x-y) (c:x-y<256) (e:stp h x=stp h y):x=y:=by
 have a:=LS e;rw[show(h*1000003+x+1)-(h*1000003+y+1)=x-y by omega] at a;have:=G0 a (by omega) (by omega);omega
theorem stp_bd (h x:Int):0<=stp h x/\stp h x<2147483647:=by simp only[stp];omega
def run (h:Int) (l:List Int):Int:=l.foldl stp h
theorem G3:∀{l:List Int}{h k:Int},0<=h->h<2147483647->0<=k->k<2147483647->run h l=run k l->h=k
 | [],h,k,_,_,_,_,e=>e
 | x::l,h,k,a,b,c,d,e=>by
  have:=G3 (stp_bd h x).1 (stp_bd h x).2 (stp_bd k x).1 (stp_bd k x).2 (show run (stp h x) l=run (stp k x) l from e);exact Pk a b c d this
theorem za (h:Int) (a b:List Int):run h (a++b)=run (run h a) b:=List.foldl_append
theorem run_set {a b:List Int}{x v:Int}(c:0<=x) (f:x<256) (d:0<=v) (v1:v<256):run 7 (a++v::b)=run 7 (a++x::b)↔v=x:=by
 constructor
 ·intro e;rw[za,za] at e;have:=G3 (stp_bd _ v).1 (stp_bd _ v).2 (stp_bd _ x).1 (stp_bd _ x).2 (show run (stp (run 7 a) v) b=run (stp (run 7 a) x) b from e);exact LU (by omega) (by omega) this
 ·rintro rfl;rfl
end Go.Fr.Try.Pure
namespace Go.Fr.Tryz
open Go Go.Fr.T Go.Fr.Dm
open Go.Fr.Try
theorem LV {s x:Int}(h:0<=s) (b:0<=x):pA s x=Pure.stp s x:=by
 have a:0<=s*1000003+x+1:=by omega
 unfold pA Pure.stp
 revert a
 generalize s*1000003+x+1=z;intro a;exact Int.tmod_eq_emod_of_nonneg a
theorem Bb:∀(l:List Int) (s:Int),0<=s->(∀x∈l,0<=x)->l.foldl pA s=l.foldl Pure.stp s
 | [],_,_,_=>by rw[List.foldl_nil,List.foldl_nil]
 | x::l,s,b,a=>by
  rw[List.foldl_cons,List.foldl_cons,LV b (a x (List.mem_cons_self ..))];exact Bb l _ (Pure.stp_bd s x).1 fun y c=>a y (aa8 _ c)
theorem G5 (bs:List UInt8):jf bs=Pure.run 7 (ru bs):=by
 unfold jf Qn Pure.run;refine Bb _ 7 (by omega) fun x a=>?_;obtain⟨b,_,rfl⟩:=abh.1 a;omega
theorem LW {l:List UInt8}{k:Nat}{x:UInt8}(h:l[k]?=some x):∃a b,l=a++x::b/\a.length=k:=by
 obtain⟨c,rfl⟩:=w7.1 h;refine⟨l.take k,l.drop (k+1),?_,by simp;omega⟩;rw[<-abD c,List.take_append_drop]
theorem SQ (a b:List UInt8) (x v:UInt8):(a++x::b).set a.length v=a++v::b:=by simp
theorem Pm {bs:List UInt8}{k:Nat}{x v:UInt8}(h:bs[k]?=some x):jf (bs.set k v)=jf bs↔v=x:=by
 obtain⟨a,b,rfl,rfl⟩:=LW h;rw[SQ,G5,G5];have c:=v.toNat_lt;have d:=x.toNat_lt;have:=Pure.run_set (a:=ru a) (b:=ru b) (x:=(x.toNat:Int)) (v:=(v.toNat:Int)) (by omega) (by omega) (by omega) (by omega);simp only[ru,List.map_append,aaS] at this ⊢;rw[this];constructor
 ·intro e;exact UInt8.toNat_inj.1 (by omega)
 ·rintro rfl;rfl
theorem LX (bs:List UInt8):(lZ bs).length=4:=rfl
theorem n8 {m:Int}(h:0<=m):((Qp m).toNat:Int)=m % 256:=by
 unfold Qp;rw[UInt8.toNat_ofNat'];omega
theorem LY {a b:List UInt8}(h:lZ a=lZ b):jf a=jf b:=by
 obtain⟨f,q⟩:=kg a;obtain⟨d,r⟩:=kg b;simp only[lZ,List.cons.injEq,and_true] at h;obtain⟨j,l,n,k⟩:=h;have o:=n8 (m:=jf a / 16777216) (by omega);have p:=n8 (m:=jf a / 65536) (by omega);have c:=n8 (m:=jf a / 256) (by omega);have e:=n8 (m:=jf a) f;rw[j,n8 (by omega)] at o;rw[l,n8 (by omega)] at p;rw[n,n8 (by omega)] at c;rw[k,n8 d] at e;omega
theorem uW (b:List UInt8):(fR b).length=b.length+4:=by simp[fR,LX]
theorem Pn (b:List UInt8):(fR b).take ((fR b).length-4)=b:=by
 rw[uW,Nat.add_sub_cancel];simp[fR]
theorem Ei {bs:List UInt8}{x:Wd}:oC bs=some x↔DU bs=some (x,[]):=by
 unfold oC;constructor
 ·intro h;split at h
  ·rename_i e;injection h with h;subst h;exact e
  ·cases h
 ·intro h;rw[h]
theorem IQ {bs:List UInt8}:bM <+: bs↔bs.take 3=bM:=by
 rw[List.prefix_iff_eq_take];exact eq_comm
theorem Po {x:Wd}(h:(kI kW x).2=true):nN (dQ x)=(some x,0):=by
 unfold dQ;rw[eu h];have f:=uW (bM++(kI kW x).1);have c:=Pn (bM++(kI kW x).1);have b:(bM++(kI kW x).1).length=(kI kW x).1.length+3:=by simp[bM]
 unfold nN;rw[c,o6,o6 (fun q=>q rfl)]
 ·have e:=GZ.wr x [] h;rw[aaU] at e;have d:(bM++(kI kW x).1).drop 3=(kI kW x).1:=rfl;rw[d,Ei.2 e]
 ·rintro(a | a)
  ·omega
  ·exact a (List.IsPrefix.trans (List.prefix_append _ _) (List.prefix_append _ _))
theorem Cv {x:Wd}(h:(dQ x).length≠0):(kI kW x).2=true:=by
 cases e:(kI kW x).2 with
 | true=>rfl
 | false=>unfold dQ at h;rw[e] at h;exact o4 rfl h
theorem vO (bs:List UInt8):(∃x,nN bs=(some x,0)/\(kI kW x).2=true/\dQ x=bs/\7<=bs.length/\lZ (bs.take (bs.length-4))=bs.drop (bs.length-4))\/nN bs=(none,16)\/nN bs=(none,17):=by
 unfold nN;split
 ·exact .inr (.inl rfl)
 rename_i c;split
 ·exact .inr (.inr rfl)
 rename_i a;split
 ·rename_i x j;refine .inl ⟨x,rfl,?_⟩;have k:7<=bs.length:=Nat.le_of_not_lt fun h=>c (.inl h);have b:bM <+: bs:=Classical.not_not.1 fun h=>c (.inr h);have a:fR (bs.take (bs.length-4))=bs:=Classical.not_not.1 a;have b:=IQ.1 b;obtain⟨d,e⟩:=GZ.rd _ _ _ (Ei.1 j);rw[aaU] at e;refine⟨d,?_,k,?_⟩
  ·unfold dQ;rw[eu d,<-e];have l:(bs.take (bs.length-4)).take 3=bM:=by
    rw[List.take_take,Nat.min_eq_left (by omega)];exact b
   rw[<-l,List.take_append_drop];exact a
  ·have f:bs.take (bs.length-4)++lZ (bs.take (bs.length-4))=bs.take (bs.length-4)++bs.drop (bs.length-4):=by
    rw[List.take_append_drop];exact a
   exact List.append_cancel_left f
 ·exact .inr (.inl rfl)
theorem G6 {x:Wd}(h:(dQ x).length≠0):(dQ x).length=(kI kW x).1.length+7:=by
 unfold dQ;rw[eu (Cv h),uW];simp[bM]
theorem Bc {x:Wd}(h:(dQ x).length≠0):dQ x=bM++(kI kW x).1++lZ (bM++(kI kW x).1):=by
 unfold dQ;rw[eu (Cv h)];rfl
theorem Pq {x y:Wd}{r:List UInt8}(c:(kI kW x).2=true) (b:(kI kW y).2=true) (h:(kI kW x).1=(kI kW y).1++r):r=[]:=by
 have a:=GZ.wr x [] c;have d:=GZ.wr y r b;rw[aaU,h,d] at a;injection a with a
 injection a with _ a
theorem LZ {bs:List UInt8}(h:(nN bs).2=0):∃y,(kI kW y).2=true/\dQ y=bs/\7<=bs.length/\lZ (bs.take (bs.length-4))=bs.drop (bs.length-4):=by
 rcases vO bs with⟨y,_,a,c,d,b⟩ | e | e
 ·exact⟨y,a,c,d,b⟩
 ·rw[e] at h;cases h
 ·rw[e] at h;cases h
theorem Pr {x:Wd}{n:Nat}(h:(dQ x).length≠0) (q:n<(dQ x).length):(nN ((dQ x).take n)).2≠0:=by
 intro k;obtain⟨y,p,b,t,r⟩:=LZ k;have s:=G6 h;have f:(dQ y).length≠0:=by rw[b];omega
 have a:=G6 f;rw[b,aa6,Nat.min_eq_left (by omega)] at a;have m:=Bc h;have d:=Bc f;rw[b,m] at d;have c:((bM++(kI kW x).1++lZ (bM++(kI kW x).1)).take n).take (n-4)=bM++(kI kW y).1:=by
  rw[d];have e:n-4=(bM++(kI kW y).1).length:=by simp[bM];omega
  rw[e,List.take_left]
 rw[List.take_take,Nat.min_eq_left (by omega),List.take_append_of_le_length (by simp[bM];omega),List.take_append,abv (by simp[bM];omega)] at c;have j:=List.append_cancel_left c;have l:(kI kW x).1=(kI kW y).1++(kI kW x).1.drop (n-4-bM.length):=by rw[<-j,List.take_append_drop]
 have o:=Pq (Cv h) p l;have:=j3 List.length o;simp[bM] at this;omega
theorem Ps {x:Wd}{k:Nat}{v u:UInt8}(h:(dQ x).length≠0) (f:(dQ x)[k]?=some u) (m:v≠u):(nN ((dQ x).set k v)).2≠0:=by
 intro o;obtain⟨y,p,s,r,a⟩:=LZ o;have j:k<(dQ x).length:=(w7.1 f).1;rw[List.length_set] at a;have b:lZ ((dQ x).take ((dQ x).length-4))=(dQ x).drop ((dQ x).length-4):=by
  have e:=Po (Cv h);rcases vO (dQ x) with⟨_,_,_,_,_,n⟩ | d | d
  ·exact n
  ·rw[d] at e;cases e
  ·rw[d] at e;cases e
 by_cases c:k<(dQ x).length-4
 ·rw[List.drop_set_of_lt c,<-b,List.take_set] at a;have:=LY a;rw[Pm (x:=u) (by rw[abm,eu c];exact f)] at this;exact m this
 ·rw[List.take_set_of_le (by omega),b] at a;have q:=j3 (fun l:List UInt8=>l[k-((dQ x).length-4)]?) a;simp only[abj] at q;rw[show(dQ x).length-4+(k-((dQ x).length-4))=k by omega,f,List.getElem?_set_self j] at q;injection q with q
  exact m q.symm
end Go.Fr.Tryz
namespace Go.Fr.Tryz
open Go Go.RowKit Go.Proofs Go.Fr Go.Fr.T Go.Fr.Api
def G7 (x:IB):G:=.st [I x.slot,.bool x.excl,.bool x.re]
def G8 (x:Slot):G:=.st [I x.state,x.type.g,I x.var,I x.flag,.sl 3 (x.lent.map G7)]
def zb (l:List Slot):G:=.sl 7 (l.map G8)
def Ej (r:zS):G:=.st [.str r.name,.sl 3 (r.params.map Ty.g),r.result.g,.sl 1 (r.ties.map I),I r.slots,.sl 4 (r.blocks.map Block.g),.sl 1 (r.entry.map zb)]
def SR (i:zT):G:=.st [.sl 5 (i.datas.map Data.g),.sl 9 (i.routs.map Ej),I i.main]
mutual
def ze:Vl->G
 | .mk a b c d f e p l=>.st [I a,I b,I c,I d,.sl 8 (uX f),.bool e,.sl 1 (p.map I),.sl 1 (l.map I)]
def uX:List Vl->List G
 | []=>[]
 | x::l=>ze x::uX l
end
theorem zf:∀l:List Vl,uX l=l.map ze
 | []=>rfl
 | x::l=>by rw[uX,zf l];rfl
def Fz (x:Ce):G:=.st [.bool x.live,I x.arena,ze x.value]
def Es (l:List Vl):G:=.sl 8 (l.map ze)
def G9 (x:Ac):G:=.st [I x.number,I x.routine,I x.block,I x.index,I x.dst,Es x.slots,.sl 1 (x.since.map I)]
def Pt (x:Ln):G:=.st [I x.frame,I x.slot,.bool x.excl,.bool x.re,.bool x.over]
def He (x:Tk):G:=.st [I x.state,.sl 7 (x.frames.map G9),.sl 5 (x.loans.map Pt),I x.allocs,I x.clock,I x.next,.sl 1 (x.cells.map I)]
def Pu (x:Ou):G:=.st [I x.task,I x.number]
def L5 (i:zT) (x:Wd):G:=.st [SR i,.st [.sl 10 (x.cells.map Fz),.sl 1 (x.arenas.map .bool)],.sl 7 (x.tasks.map He),.sl 1 (x.channels.map Es),.sl 2 (x.outputs.map Pu),I x.made,I x.dropped,I x.closed]
theorem L7 (x:IB):nF (G7 x)=AW x:=rfl
theorem L8 (x:Slot):nF (G8 x)=iP x:=by simp only[G8,nF,jG,iP,Cf,Fb,fB L7,aaU,aaT,aa5]
theorem IU (l:List Slot):nF (zb l)=oD l:=by simp only[zb,nF,oD,fB L8]
theorem L9 (r:zS):nF (Ej r)=jd r:=by simp only[Ej,nF,jG,jd,Cf,Fb,Cg,vJ,fB Il,fB IU,aaU,aaT,aa5]
mutual
theorem Cw:∀x:Vl,nF (ze x)=oH x
 | .mk a b c d f e p l=>by simp only[ze,nF,jG,oH,Hf f,vJ,aaU,aaT,aa5]
theorem Hf:∀l:List Vl,si (uX l)=Io l
 | []=>rfl
 | x::l=>by simp only[uX,si,Io,Cw x,Hf l]
end
theorem SS (x:Ce):nF (Fz x)=zk x:=by simp only[Fz,nF,jG,zk,Cw,aaU,aaT,aa5]
theorem SW (l:List Vl):nF (Es l)=IV l:=by simp only[Es,nF,IV,fB Cw]
theorem SX (x:Ac):nF (G9 x)=Ep x:=by simp only[G9,Es,nF,jG,Ep,fB Cw,vJ,aaU,aaT,aa5]
theorem SY (x:Ln):nF (Pt x)=K3 x:=rfl
theorem SZ (x:Tk):nF (He x)=CC x:=by simp only[He,nF,jG,CC,fB SX,fB SY,vJ,aaU,aaT,aa5]
theorem S0 (x:Ou):nF (Pu x)=OO x:=rfl
theorem S1 (b:Bool):nF (.bool b)=Ip b:=rfl
theorem S2 (i:zT) (x:Wd):nF (L5 i x)=Mr i x:=by
 simp only[L5,nF,jG,Mr,uQ,R7,SR,fB KZ,fB L9,fB SS,fB S1,fB SZ,fB SW,fB S0,aaU,aaT,aa5]
theorem Pv (i:zT) (x:Wd):zF (L5 i x)=.agg (Mr i x):=by rw[<-S2];exact OM
theorem Cx {n:Nat}{g:G}(h:Ok Tryz.prog n 79 g):∃x:Ty,g=x.g:=P7 (ti:=3) (ts:=74) (by kernel_rfl) (by kernel_rfl) (by kernel_rfl) n g h
theorem FA {n:Nat}{g:G}(h:Ok Tryz.prog n 74 g):∃x:List Ty,g=.sl 3 (x.map Ty.g):=cO (e:=79) (by kernel_rfl) h fun _ _ _ a=>Cx a
theorem S3 {n:Nat}{g:G}(h:Ok Tryz.prog n 76 g):∃v:Variant,g=v.g:=by
 obtain⟨m,l,f,rfl,c⟩:=dN (t:=76) (ts:=[9,74]) (by kernel_rfl) h;obtain⟨a,r,rfl,e,d⟩:=aG c;obtain⟨b,rfl,hb⟩:=mK d;obtain⟨x,rfl⟩:=Cb (by kernel_rfl) e;obtain⟨p,rfl⟩:=FA hb;exact⟨⟨x,p⟩,rfl⟩
theorem Pw {n:Nat}{g:G}(h:Ok Tryz.prog n 70 g):∃x:List Variant,g=.sl 2 (x.map Variant.g):=cO (e:=76) (by kernel_rfl) h fun _ _ _ a=>S3 a
theorem S5 {n:Nat}{g:G}(h:Ok Tryz.prog n 72 g):∃d:Api.Data,g=d.g:=by
 obtain⟨m,l,u,rfl,p⟩:=dN (t:=72) (ts:=[9,3,3,70,3]) (by kernel_rfl) h;obtain⟨a,r,rfl,j,f⟩:=aG p;obtain⟨b,r,rfl,hb,f⟩:=aG f;obtain⟨c,r,rfl,k,f⟩:=aG f;obtain⟨d,r,rfl,s,f⟩:=aG f;obtain⟨e,rfl,o⟩:=mK f;obtain⟨x,rfl⟩:=Cb (by kernel_rfl) j;obtain⟨y,rfl⟩:=cn (by kernel_rfl) hb;obtain⟨z,rfl⟩:=cn (by kernel_rfl) k;obtain⟨v,rfl⟩:=Pw s;obtain⟨q,rfl⟩:=cn (by kernel_rfl) o;exact⟨⟨x,y,z,v,q⟩,rfl⟩
theorem Px {n:Nat}{g:G}(h:Ok Tryz.prog n 22 g):∃x:List Api.Data,g=.sl 5 (x.map Data.g):=cO (e:=72) (by kernel_rfl) h fun _ _ _ a=>S5 a
theorem zh {n:Nat}{g:G}(h:Ok Tryz.prog n 59 g):∃l:List Int,g=.sl 1 (l.map I):=cO (e:=3) (by kernel_rfl) h fun _ _ _ a=>cn (by kernel_rfl) a
theorem S6 {n:Nat}{g:G}(h:Ok Tryz.prog n 144 g):∃x:E9,g=x.g:=by
 obtain⟨m,l,y,rfl,v⟩:=dN (t:=144) (ts:=[3,3,3,3,3,59,74]) (by kernel_rfl) h;obtain⟨a,r,rfl,o,j⟩:=aG v;obtain⟨b,r,rfl,hb,j⟩:=aG j;obtain⟨c,r,rfl,p,j⟩:=aG j;obtain⟨d,r,rfl,w,j⟩:=aG j;obtain⟨e,r,rfl,u,j⟩:=aG j;obtain⟨f,r,rfl,s,j⟩:=aG j;obtain⟨q,rfl,k⟩:=mK j;obtain⟨a,rfl⟩:=cn (by kernel_rfl) o;obtain⟨b,rfl⟩:=cn (by kernel_rfl) hb;obtain⟨c,rfl⟩:=cn (by kernel_rfl) p;obtain⟨d,rfl⟩:=cn (by kernel_rfl) w;obtain⟨e,rfl⟩:=cn (by kernel_rfl) u;obtain⟨f,rfl⟩:=zh s;obtain⟨q,rfl⟩:=FA k;exact⟨⟨a,b,c,d,e,f,q⟩,rfl⟩
theorem Py {n:Nat}{g:G}(h:Ok Tryz.prog n 140 g):∃x:Api.Term,g=x.g:=by
 obtain⟨m,l,k,rfl,e⟩:=dN (t:=140) (ts:=[3,3,59]) (by kernel_rfl) h;obtain⟨a,r,rfl,j,d⟩:=aG e;obtain⟨b,r,rfl,hb,d⟩:=aG d;obtain⟨c,rfl,f⟩:=mK d;obtain⟨a,rfl⟩:=cn (by kernel_rfl) j;obtain⟨b,rfl⟩:=cn (by kernel_rfl) hb;obtain⟨c,rfl⟩:=zh f;exact⟨⟨a,b,c⟩,rfl⟩
theorem Ma {n:Nat}{g:G}(h:Ok Tryz.prog n 142 g):∃x:Block,g=x.g:=by
 obtain⟨m,l,o,rfl,c⟩:=dN (t:=142) (ts:=[138,140]) (by kernel_rfl) h;obtain⟨a,r,rfl,k,j⟩:=aG c;obtain⟨b,rfl,hb⟩:=mK j;obtain⟨a,rfl⟩:=cO (e:=144) (sz:=7) (f:=E9.g) (by kernel_rfl) k fun _ _ _ d=>S6 d;obtain⟨b,rfl⟩:=Py hb;exact⟨⟨a,b⟩,rfl⟩
theorem Pz {n:Nat}{g:G}(h:Ok Tryz.prog n 224 g):∃x:IB,g=G7 x:=by
 obtain⟨m,l,k,rfl,e⟩:=dN (t:=224) (ts:=[3,4,4]) (by kernel_rfl) h;obtain⟨a,r,rfl,j,d⟩:=aG e;obtain⟨b,r,rfl,hb,d⟩:=aG d;obtain⟨c,rfl,f⟩:=mK d;obtain⟨a,rfl⟩:=cn (by kernel_rfl) j;obtain⟨b,rfl⟩:=rf (by kernel_rfl) hb;obtain⟨c,rfl⟩:=rf (by kernel_rfl) f;exact⟨⟨a,b,c⟩,rfl⟩
theorem PA {n:Nat}{g:G}(h:Ok Tryz.prog n 148 g):∃x:Slot,g=G8 x:=by
 obtain⟨m,l,v,rfl,s⟩:=dN (t:=148) (ts:=[3,79,3,3,146]) (by kernel_rfl) h;obtain⟨a,r,rfl,k,j⟩:=aG s;obtain⟨b,r,rfl,hb,j⟩:=aG j;obtain⟨c,r,rfl,p,j⟩:=aG j;obtain⟨d,r,rfl,u,j⟩:=aG j;obtain⟨e,rfl,q⟩:=mK j;obtain⟨a,rfl⟩:=cn (by kernel_rfl) k;obtain⟨b,rfl⟩:=Cx hb;obtain⟨c,rfl⟩:=cn (by kernel_rfl) p;obtain⟨d,rfl⟩:=cn (by kernel_rfl) u;obtain⟨e,rfl⟩:=cO (e:=224) (sz:=3) (f:=G7) (by kernel_rfl) q fun _ _ _ o=>Pz o;exact⟨⟨a,b,c,d,e⟩,rfl⟩
theorem Mb {n:Nat}{g:G}(h:Ok Tryz.prog n 145 g):∃x:List Slot,g=zb x:=cO (e:=148) (by kernel_rfl) h fun _ _ _ a=>PA a
theorem PD {n:Nat}{g:G}(h:Ok Tryz.prog n 83 g):∃x:zS,g=Ej x:=by
 obtain⟨m,l,z,rfl,w⟩:=dN (t:=83) (ts:=[9,74,79,59,3,80,81]) (by kernel_rfl) h;obtain⟨a,r,rfl,p,j⟩:=aG w;obtain⟨b,r,rfl,hb,j⟩:=aG j;obtain⟨c,r,rfl,s,j⟩:=aG j;obtain⟨d,r,rfl,y,j⟩:=aG j;obtain⟨e,r,rfl,v,j⟩:=aG j;obtain⟨f,r,rfl,u,j⟩:=aG j;obtain⟨q,rfl,o⟩:=mK j;obtain⟨a,rfl⟩:=Cb (by kernel_rfl) p;obtain⟨b,rfl⟩:=FA hb;obtain⟨c,rfl⟩:=Cx s;obtain⟨d,rfl⟩:=zh y;obtain⟨e,rfl⟩:=cn (by kernel_rfl) v;obtain⟨f,rfl⟩:=cO (e:=142) (sz:=4) (f:=Block.g) (by kernel_rfl) u fun _ _ _ k=>Ma k;obtain⟨q,rfl⟩:=cO (e:=145) (sz:=1) (f:=zb) (by kernel_rfl) o fun _ _ _ k=>Mb k;exact⟨⟨a,b,c,d,e,f,q⟩,rfl⟩
theorem S7 {n:Nat}{g:G}(h:Ok Tryz.prog n 25 g):∃x:zT,g=SR x:=by
 obtain⟨m,l,q,rfl,p⟩:=dN (t:=25) (ts:=[22,23,3]) (by kernel_rfl) h;obtain⟨a,r,rfl,j,d⟩:=aG p;obtain⟨b,r,rfl,hb,d⟩:=aG d;obtain⟨c,rfl,o⟩:=mK d;obtain⟨a,rfl⟩:=Px j;obtain⟨b,rfl⟩:=cO (e:=83) (sz:=9) (f:=Ej) (by kernel_rfl) hb fun _ _ _ k=>PD k;obtain⟨c,rfl⟩:=cn (by kernel_rfl) o;exact⟨⟨a,b,c⟩,rfl⟩
theorem QG:∀(n:Nat) (g:G),Ok Tryz.prog n 61 g->∃x:Vl,g=ze x:=by
 intro n
 induction n using Nat.strongRecOn with
 | _ n o =>
  intro g u;obtain⟨m,l,hm,rfl,hl⟩:=dN (t:=61) (ts:=[3,3,3,3,58,4,59,59]) (by kernel_rfl) u;obtain⟨a,r,rfl,s,h⟩:=aG hl;obtain⟨b,r,rfl,hb,h⟩:=aG h;obtain⟨c,r,rfl,y,h⟩:=aG h;obtain⟨d,r,rfl,hd,h⟩:=aG h;obtain⟨e,r,rfl,he,h⟩:=aG h;obtain⟨f,r,rfl,z,h⟩:=aG h;obtain⟨p,r,rfl,k,h⟩:=aG h;obtain⟨q,rfl,j⟩:=mK h;obtain⟨a,rfl⟩:=cn (by kernel_rfl) s;obtain⟨b,rfl⟩:=cn (by kernel_rfl) hb;obtain⟨c,rfl⟩:=cn (by kernel_rfl) y;obtain⟨d,rfl⟩:=cn (by kernel_rfl) hd;obtain⟨e,rfl⟩:=cO (e:=61) (sz:=8) (f:=ze) (by kernel_rfl) he (fun m' x v w=>o m' (by omega) x w);obtain⟨f,rfl⟩:=rf (by kernel_rfl) z;obtain⟨p,rfl⟩:=zh k;obtain⟨q,rfl⟩:=zh j;exact⟨.mk a b c d e f p q,by rw[ze,zf]⟩
theorem QH {n:Nat}{g:G}(h:Ok Tryz.prog n 58 g):∃x:List Vl,g=Es x:=cO (e:=61) (by kernel_rfl) h fun _ _ _ a=>QG _ _ a
theorem UY {n:Nat}{g:G}(h:Ok Tryz.prog n 63 g):∃x:Ce,g=Fz x:=by
 obtain⟨m,l,k,rfl,e⟩:=dN (t:=63) (ts:=[4,3,61]) (by kernel_rfl) h;obtain⟨a,r,rfl,j,d⟩:=aG e;obtain⟨b,r,rfl,hb,d⟩:=aG d;obtain⟨c,rfl,f⟩:=mK d;obtain⟨a,rfl⟩:=rf (by kernel_rfl) j;obtain⟨b,rfl⟩:=cn (by kernel_rfl) hb;obtain⟨c,rfl⟩:=QG _ _ f;exact⟨⟨a,b,c⟩,rfl⟩
theorem UZ {n:Nat}{g:G}(h:Ok Tryz.prog n 69 g):∃x:Ac,g=G9 x:=by
 obtain⟨m,l,w,rfl,u⟩:=dN (t:=69) (ts:=[3,3,3,3,3,58,59]) (by kernel_rfl) h;obtain⟨a,r,rfl,k,j⟩:=aG u;obtain⟨b,r,rfl,hb,j⟩:=aG j;obtain⟨c,r,rfl,p,j⟩:=aG j;obtain⟨d,r,rfl,v,j⟩:=aG j;obtain⟨e,r,rfl,s,j⟩:=aG j;obtain⟨f,r,rfl,q,j⟩:=aG j;obtain⟨g,rfl,o⟩:=mK j;obtain⟨a,rfl⟩:=cn (by kernel_rfl) k;obtain⟨b,rfl⟩:=cn (by kernel_rfl) hb;obtain⟨c,rfl⟩:=cn (by kernel_rfl) p;obtain⟨d,rfl⟩:=cn (by kernel_rfl) v;obtain⟨e,rfl⟩:=cn (by kernel_rfl) s;obtain⟨f,rfl⟩:=QH q;obtain⟨g,rfl⟩:=zh o;exact⟨⟨a,b,c,d,e,f,g⟩,rfl⟩
theorem U0 {n:Nat}{g:G}(h:Ok Tryz.prog n 129 g):∃x:Ln,g=Pt x:=by
 obtain⟨m,l,s,rfl,p⟩:=dN (t:=129) (ts:=[3,3,4,4,4]) (by kernel_rfl) h;obtain⟨a,r,rfl,j,f⟩:=aG p;obtain⟨b,r,rfl,hb,f⟩:=aG f;obtain⟨c,r,rfl,k,f⟩:=aG f;obtain⟨d,r,rfl,q,f⟩:=aG f;obtain⟨e,rfl,o⟩:=mK f;obtain⟨a,rfl⟩:=cn (by kernel_rfl) j;obtain⟨b,rfl⟩:=cn (by kernel_rfl) hb;obtain⟨c,rfl⟩:=rf (by kernel_rfl) k;obtain⟨d,rfl⟩:=rf (by kernel_rfl) q;obtain⟨e,rfl⟩:=rf (by kernel_rfl) o;exact⟨⟨a,b,c,d,e⟩,rfl⟩
theorem U1 {n:Nat}{g:G}(h:Ok Tryz.prog n 67 g):∃x:Tk,g=He x:=by
 obtain⟨m,l,y,rfl,v⟩:=dN (t:=67) (ts:=[3,64,65,3,3,3,59]) (by kernel_rfl) h;obtain⟨a,r,rfl,o,j⟩:=aG v;obtain⟨b,r,rfl,hb,j⟩:=aG j;obtain⟨c,r,rfl,q,j⟩:=aG j;obtain⟨d,r,rfl,w,j⟩:=aG j;obtain⟨e,r,rfl,u,j⟩:=aG j;obtain⟨f,r,rfl,s,j⟩:=aG j;obtain⟨g,rfl,p⟩:=mK j;obtain⟨a,rfl⟩:=cn (by kernel_rfl) o;obtain⟨b,rfl⟩:=cO (e:=69) (sz:=7) (f:=G9) (by kernel_rfl) hb fun _ _ _ k=>UZ k;obtain⟨c,rfl⟩:=cO (e:=129) (sz:=5) (f:=Pt) (by kernel_rfl) q fun _ _ _ k=>U0 k;obtain⟨d,rfl⟩:=cn (by kernel_rfl) w;obtain⟨e,rfl⟩:=cn (by kernel_rfl) u;obtain⟨f,rfl⟩:=cn (by kernel_rfl) s;obtain⟨g,rfl⟩:=zh p;exact⟨⟨a,b,c,d,e,f,g⟩,rfl⟩
theorem U2 {n:Nat}{g:G}(h:Ok Tryz.prog n 101 g):∃x:Ou,g=Pu x:=by
 obtain⟨m,l,f,rfl,c⟩:=dN (t:=101) (ts:=[3,3]) (by kernel_rfl) h;obtain⟨a,r,rfl,e,d⟩:=aG c;obtain⟨b,rfl,hb⟩:=mK d;obtain⟨a,rfl⟩:=cn (by kernel_rfl) e;obtain⟨b,rfl⟩:=cn (by kernel_rfl) hb;exact⟨⟨a,b⟩,rfl⟩
theorem U3 {n:Nat}{g:G}(h:Ok Tryz.prog n 29 g):∃(a:List Ce) (b:List Bool),g=.st [.sl 10 (a.map Fz),.sl 1 (b.map .bool)]:=by
 obtain⟨m,l,o,rfl,d⟩:=dN (t:=29) (ts:=[26,27]) (by kernel_rfl) h;obtain⟨a,r,rfl,k,j⟩:=aG d;obtain⟨b,rfl,hb⟩:=mK j;obtain⟨a,rfl⟩:=cO (e:=63) (sz:=10) (f:=Fz) (by kernel_rfl) k fun _ _ _ c=>UY c;obtain⟨b,rfl⟩:=cO (e:=4) (sz:=1) (f:=G.bool) (by kernel_rfl) hb fun _ _ _ c=>rf (by kernel_rfl) c;exact⟨a,b,rfl⟩
theorem U4 {n:Nat}{g:G}(p:Ok Tryz.prog n 34 g):∃(i:zT) (x:Wd),g=L5 i x:=by
 obtain⟨m,l,hm,rfl,y⟩:=dN (t:=34) (ts:=[25,29,30,31,32,3,3,3]) (by kernel_rfl) p;obtain⟨a,r,rfl,q,j⟩:=aG y;obtain⟨b,r,rfl,hb,j⟩:=aG j;obtain⟨c,r,rfl,u,j⟩:=aG j;obtain⟨d,r,rfl,z,j⟩:=aG j;obtain⟨e,r,rfl,w,j⟩:=aG j;obtain⟨f,r,rfl,v,j⟩:=aG j;obtain⟨g,r,rfl,s,j⟩:=aG j;obtain⟨h,rfl,o⟩:=mK j;obtain⟨a,rfl⟩:=S7 q;obtain⟨b,b2,rfl⟩:=U3 hb;obtain⟨c,rfl⟩:=cO (e:=67) (sz:=7) (f:=He) (by kernel_rfl) u fun _ _ _ k=>U1 k;obtain⟨d,rfl⟩:=cO (e:=58) (sz:=1) (f:=Es) (by kernel_rfl) z fun _ _ _ k=>QH k;obtain⟨e,rfl⟩:=cO (e:=101) (sz:=2) (f:=Pu) (by kernel_rfl) w fun _ _ _ k=>U2 k;obtain⟨f,rfl⟩:=cn (by kernel_rfl) v;obtain⟨g,rfl⟩:=cn (by kernel_rfl) s;obtain⟨h,rfl⟩:=cn (by kernel_rfl) o;exact⟨a,⟨b,b2,c,d,e,f,g,h⟩,rfl⟩
mutual
/-- all numbers are those of their kinds -/
def zn:G->Prop
 | .int k x=>(Lit.int k x).wf=true
 | .bool _=>True
 | .str _=>True
 | .sl _ l=>rH l
 | .st l=>rH l
def rH:List G->Prop
 | []=>True
 | x::l=>zn x/\rH l
end
theorem Cy:∀{l:List G},(∀x∈l,zn x)->rH l
 | [],_=>trivial
 | x::l,h=>⟨h x (List.mem_cons_self ..),Cy fun y a=>h y (aa8 _ a)⟩
theorem Ek:∀{l:List G}{x:G},rH l->x∈l->zn x
 | y::l,x,h,a=>by
  rcases xC.1 a with rfl | a
  ·exact h.1
  ·exact Ek h.2 a
theorem FB {P:Program}:∀(n:Nat) (t:TypeId) (g:G),Ok P n t g->zn g
 | 0,t,g,h=>h.elim
 | n+1,t,g,h=>by
  unfold Ok at h;split at h
  ·obtain⟨b,rfl⟩:=h;exact trivial
  ·obtain⟨x,rfl,h⟩:=h;exact h
  ·obtain⟨s,rfl⟩:=h;exact trivial
  ·obtain⟨l,rfl,h⟩:=h;exact Cy fun x a=>FB n _ x (h x a)
  ·rename_i fs _;obtain⟨l,rfl,e,h⟩:=h;refine Cy fun x a=>?_;obtain⟨i,hi⟩:=List.getElem?_of_mem a;have d:=(w7.1 hi).1;have c:fs[i]?=some fs[i]:=Array.getElem?_eq_getElem (by omega);exact FB n _ x (h i _ x c hi)
  ·exact h.elim
def i64 (n:Int):Prop:=-9223372036854775808<=n/\n<=9223372036854775807
theorem U5 {n:Int}(h:zn (I n)):i64 n:=wf_i64 h
theorem Mc:∀{l:List Int},rH (l.map I)->∀n∈l,i64 n
 | m::l,h,n,a=>by
  rcases xC.1 a with rfl | a
  ·exact U5 h.1
  ·exact Mc h.2 n a
theorem wI {n:Int}(h:(Lit.int .i64 n).wf=true):i64 n:=wf_i64 h
theorem QI:∀n∈([]:List Int),i64 n:=fun n h=>by cases h
theorem ai {a:Int}{l:List Int}(h:i64 a) (t:∀n∈l,i64 n):∀n∈a::l,i64 n:=List.forall_mem_cons.2 ⟨h,t⟩
structure U6 (k:Kd):Prop where
 num:∀n,i64 n->(k.num n).1.length<=10
 siz:∀n:Nat,n<=1099511627776->(k.siz n).1.length<=10
theorem Md {n:Int}(h:i64 n):zz n<128 ^ (9+1):=by
 obtain⟨a,b⟩:=h;have:zz n<18446744073709551616:=by unfold zz;split<;>omega
 exact abO this (by decide)
theorem YF:U6 kW where
 num n h:=wZ 9 _ (Md h)
 siz n h:=wZ 9 _ (Md ⟨by omega,by omega⟩)
theorem Me (g:G):1<=g.bulk:=by cases g<;>simp only[G.bulk]<;>omega
theorem Cz {a:Type}(g:a->G):∀l:List a,l.length<=G.aad (l.map g)
 | []=>by simp
 | x::l=>by
  have:=Me (g x);have:=Cz g l;simp only[aaS,G.aad,aaV];omega
theorem gT {a:Type}{g:a->G}:∀{l:List a}{x:a},x∈l->(g x).bulk<=G.aad (l.map g)
 | y::l,x,h=>by
  rcases xC.1 h with rfl | h
  ·simp only[aaS,G.aad];omega
  ·have:=gT (g:=g) h;simp only[aaS,G.aad];omega
theorem nK (a b:Enc):(bh a b).1.length=a.1.length+b.1.length:=by rw[nJ,yo]
theorem Mf {a:Type}{f:a->Enc}{g:a->G}:∀{l:List a},(∀x∈l,(f x).1.length<=10*(g x).bulk)->(aS f l).1.length<=10*G.aad (l.map g)
 | [],_=>by simp[aS,Mq]
 | x::l,h=>by
  have c:=h x (List.mem_cons_self ..);have d:=Mf fun y b=>h y (aa8 _ b);rw[aS,nK];simp only[aaS,G.aad];omega
theorem gm {a:Type}{g:a->G}{l:List a}{x:a}(c:rH (l.map g)) (b:x∈l):zn (g x):=Ek c (List.mem_map_of_mem b)
section
variable {k:Kd}(hk:U6 k)
include hk
theorem U7 (b:Bool):(nM k b).1.length<=10:=hk.num _ (by cases b<;>exact⟨by decide,by decide⟩)
theorem qi:∀{l:List Int},(∀n∈l,i64 n)->(aS k.num l).1.length<=10*l.length
 | [],_=>by simp[aS,Mq]
 | x::l,h=>by
  have b:=hk.num x (h x (List.mem_cons_self ..));have c:=qi fun y a=>h y (aa8 _ a);rw[aS,nK,aaV];omega
theorem zi:∀l:List Bool,(aS (nM k) l).1.length<=10*l.length
 | []=>by simp[aS,Mq]
 | x::l=>by
  have a:=U7 hk x;have b:=zi l;rw[aS,nK,aaV];omega
theorem qj {a:Type}{f:a->Enc}{g:a->G}{sz:Nat}{l:List a}(hb:(G.sl sz (l.map g)).bulk<=1099511627776) (h:∀x∈l,(f x).1.length<=10*(g x).bulk):(bO k f l).1.length<=10*(G.sl sz (l.map g)).bulk:=by
 simp only[G.bulk] at hb ⊢;have b:=Cz g l;have c:=hk.siz l.length (by omega);have d:=Mf h;rw[bO,nK];omega
theorem CA {l:List Int}(b:rH (l.map I)) (hb:(G.sl 1 (l.map I)).bulk<=1099511627776):(bO k k.num l).1.length<=10*(G.sl 1 (l.map I)).bulk :=
 qj hk hb fun x a=>hk.num x (Mc b x a)
end
mutual
theorem U8 {k:Kd}(hk:U6 k):∀(v:Vl) (d:Int),zn (ze v)->(ze v).bulk<=1099511627776->(sL k v d).1.length<=10*(ze v).bulk
 | .mk a b c n f e p l,d,hw,hb=>by
  simp only[ze,zn,rH] at hw;obtain⟨wa,wb,wc,wn,wf,_,wp,wl,_⟩:=hw;simp only[ze,G.bulk,G.aad] at hb ⊢;have h1:=qi hk (l:=[a,b,c,n]) (ai (wI (wa)) (ai (wI (wb)) (ai (wI (wc)) (ai (wI (wn)) QI))));have h2:=QJ hk f (d-1) wf (by omega);have hfl:f.length<=G.aad (uX f):=by rw[zf];exact Cz ze f
  have h3:=hk.siz f.length (by omega);have h4:=zi hk [e];have h5:=CA hk wp (by simp only[G.bulk];omega);have h6:=CA hk wl (by simp only[G.bulk];omega);simp only[G.bulk] at h5 h6;have e1:(I a).bulk=1:=rfl;have e2:(I b).bulk=1:=rfl;have e3:(I c).bulk=1:=rfl;have e4:(I n).bulk=1:=rfl;simp only[aaV,abb] at h1 h4;rw[sL];simp only[nK,zK,abb];omega
theorem QJ {k:Kd}(hk:U6 k):∀(l:List Vl) (d:Int),rH (uX l)->G.aad (uX l)<=1099511627776->(zL k l d).1.length<=10*G.aad (uX l)
 | [],d,_,_=>by simp[zL,Mq]
 | x::xs,d,hw,hb=>by
  simp only[uX,rH] at hw;simp only[uX,G.aad] at hb ⊢;have h1:=U8 hk x d hw.1 (by omega);have h2:=QJ hk xs d hw.2 (by omega);rw[zL,nK];omega
end
section
variable {k:Kd}(hk:U6 k)
include hk
theorem Mg (v:Vl) (a:zn (ze v)) (hb:(ze v).bulk<=1099511627776):(uO k v).1.length<=10*(ze v).bulk:=U8 hk v 60 a hb
theorem U9 (l:List Vl) (b:zn (Es l)) (hb:(Es l).bulk<=1099511627776):(Qb k l).1.length<=10*(Es l).bulk:=by
 refine qj hk (g:=ze) (sz:=8) hb fun x a=>Mg hk x (gm b a) ?_;have:=gT (g:=ze) a;simp only[Es,G.bulk] at hb;omega
theorem YG (x:Ce) (a:zn (Fz x)) (hb:(Fz x).bulk<=1099511627776):(OP k x).1.length<=10*(Fz x).bulk:=by
 simp only[Fz,zn,rH] at a;simp only[Fz,G.bulk,G.aad] at hb ⊢;have b:=zi hk [x.live];have c:=qi hk (l:=[x.arena]) (ai (wI a.2.1) QI);have e:=Mg hk x.value a.2.2.1 (by omega);have d:(I x.arena).bulk=1:=rfl;simp only[aaV,abb] at b c;rw[OP];simp only[nK];omega
theorem YH (x:Ac) (a:zn (G9 x)) (hb:(G9 x).bulk<=1099511627776):(OQ k x).1.length<=10*(G9 x).bulk:=by
 simp only[G9,zn,rH] at a;obtain⟨e,j,d,m,b,h,c,_⟩:=a;simp only[G9,G.bulk,G.aad] at hb ⊢;have f:=qi hk (l:=[x.number,x.routine,x.block,x.index,x.dst]) (ai (wI (e)) (ai (wI (j)) (ai (wI (d)) (ai (wI (m)) (ai (wI (b)) QI)))));have o:=U9 hk x.slots h (by omega);have n:=CA hk c (by simp only[G.bulk];omega);simp only[G.bulk] at n;simp only[aaV,abb] at f;rw[OQ];simp only[nK];omega
theorem YI (x:Ln) (a:zn (Pt x)):(OT k x).1.length<=10*(Pt x).bulk:=by
 simp only[Pt,zn,rH] at a;simp only[Pt,G.bulk,G.aad];have b:=qi hk (l:=[x.frame,x.slot]) (ai (wI (a.1)) (ai (wI (a.2.1)) QI));have c:=zi hk [x.excl,x.re,x.over];simp only[aaV,abb] at b c;rw[OT];simp only[nK];omega
theorem YJ (x:Tk) (b:zn (He x)) (hb:(He x).bulk<=1099511627776):(OU k x).1.length<=10*(He x).bulk:=by
 simp only[He,zn,rH] at b;obtain⟨j,n,e,q,c,m,d,_⟩:=b;simp only[He,G.bulk,G.aad] at hb ⊢;have h:=qi hk (l:=[x.state]) (ai (wI j) QI);have p:=qj hk (f:=OQ k) (g:=G9) (sz:=7) (l:=x.frames) (by simp only[G.bulk];omega) fun y a=>YH hk y (gm n a) (by have:=gT (g:=G9) a;omega);have r:=qj hk (f:=OT k) (g:=Pt) (sz:=5) (l:=x.loans) (by simp only[G.bulk];omega) fun y a=>YI hk y (gm e a);have o:=qi hk (l:=[x.allocs,x.clock,x.next]) (ai (wI (q)) (ai (wI (c)) (ai (wI (m)) QI)));have s:=CA hk d (by simp only[G.bulk];omega);simp only[G.bulk] at p r s;simp only[aaV,abb] at h o;rw[OU];simp only[nK];omega
theorem YK (x:Ou) (a:zn (Pu x)):(Qc k x).1.length<=10*(Pu x).bulk:=by
 simp only[Pu,zn,rH] at a;simp only[Pu,G.bulk,G.aad];have b:=qi hk (l:=[x.task,x.number]) (ai (wI (a.1)) (ai (wI (a.2.1)) QI));simp only[aaV,abb] at b;rw[Qc];omega
theorem YL (i:zT) (x:Wd) (b:zn (L5 i x)) (hb:(L5 i x).bulk<=1099511627776):(kI k x).1.length<=10*(L5 i x).bulk:=by
 simp only[L5,zn,rH] at b;obtain⟨_,⟨p,u,_⟩,q,n,m,s,c,e,_⟩:=b;simp only[L5,G.bulk,G.aad] at hb ⊢;have r:=qj hk (f:=OP k) (g:=Fz) (sz:=10) (l:=x.cells) (by simp only[G.bulk];omega) fun y a=>YG hk y (gm p a) (by have:=gT (g:=Fz) a;omega);have j:=qj hk (f:=Tc k) (g:=G.bool) (sz:=1) (l:=x.arenas) (by simp only[G.bulk];omega) fun y a=>zi hk [y];have o:=qj hk (f:=OU k) (g:=He) (sz:=7) (l:=x.tasks) (by simp only[G.bulk];omega) fun y a=>YJ hk y (gm q a) (by have:=gT (g:=He) a;omega);have h:=qj hk (f:=Qb k) (g:=Es) (sz:=1) (l:=x.channels) (by simp only[G.bulk];omega) fun y a=>U9 hk y (gm n a) (by have:=gT (g:=Es) a;omega);have t:=qj hk (f:=Qc k) (g:=Pu) (sz:=2) (l:=x.outputs) (by simp only[G.bulk];omega) fun y a=>YK hk y (gm m a);have d:=qi hk (l:=[x.made,x.dropped,x.closed]) (ai (wI (s)) (ai (wI (c)) (ai (wI (e)) QI)));simp only[G.bulk] at r j o h t;simp only[aaV,abb] at d;rw[kI];simp only[nK];omega
end
mutual
theorem Mh:∀v:Vl,Fe v<=(ze v).bulk
 | .mk a b c n f e p l=>by
  have:=Mi f;simp only[Fe,ze,G.bulk,G.aad];omega
theorem Mi:∀l:List Vl,DV l<=G.aad (uX l)
 | []=>by simp[DV]
 | x::xs=>by
  have h1:=Mh x;have h2:=Mi xs;simp only[DV,uX,G.aad];omega
end
theorem QK {l:List Vl}(hb:(Es l).bulk<=1099511627776):vsB l:=fun v a=>by
 have b:=Mh v;have c:=gT (g:=ze) a;simp only[Es,G.bulk] at hb;omega
theorem Va (i:zT) (x:Wd) (hb:(L5 i x).bulk<=1099511627776):Fs x:=by
 simp only[L5,G.bulk,G.aad] at hb;refine⟨fun c h=>?_,fun t e f j=>?_,fun l d=>?_⟩
 ·have a:=gT (g:=Fz) h;have b:=Mh c.value;simp only[Fz,G.bulk,G.aad] at a;unfold Vk;omega
 ·have a:=gT (g:=He) e;simp only[He,G.bulk,G.aad] at a;have b:=gT (g:=G9) j;simp only[G9,G.bulk,G.aad] at b;exact QK (by omega)
 ·have a:=gT (g:=Es) d;exact QK (by omega)
end Go.Fr.Tryz
namespace Go.Fr.Tryz
open Go Go.RowKit Go.Proofs Go.Fr Go.Fr.T Go.Fr.Api Go.Fr.Dm
theorem S8 {x:Wd}{n:Nat}(h:(kI kW x).1.length<=n):(dQ x).length<=n+7:=by
 unfold dQ;split
 ·rw[uW];simp[bM];omega
 ·simp
theorem YM (i:zT) (x:Wd) (a:Fs x) (hb:(kI kW x).1.length<=20000000):CallsT PZ 14 [.agg (Mr i x)] [] (iQ [] (.sl (af (dQ x)))) :=
 (X1 _ _ _ x a (by omega)).give
end Go.Fr.Tryz
