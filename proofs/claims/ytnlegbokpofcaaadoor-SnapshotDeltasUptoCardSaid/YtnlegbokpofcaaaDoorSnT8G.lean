/- Part of the proofs of the statements of this seat. -/
import Derived.Test.YtnlegbokpofcaaaDoorSnT5G
set_option maxRecDepth 10000
set_option linter.unusedVariables false
set_option linter.unusedSimpArgs false
namespace Go.Fr.Tryd
open Go Go.RowKit Go.Proofs Go.Fr Go.Fr.T Go.Fr.Api
theorem QO {α:Type}{f:Nat}{a:Dec α}{cs:α->List C}(w:fV f [] [] a [IC 0] cs) (he:lX PZ f) (aa:∀x,xw 1 (cs x)):fV 70 [] [.fn f [] []] (dz a) [.sl []] (fun l=>[.sl (l.map cs)]):=by
 intro t pre post bs _ _;refine ai Tryd.func70 DZ rfl fun hw av=>?_;refine⟨.inl ⟨0,rfl,?_⟩⟩;refine⟨rfl,?_⟩;refine⟨114,xT,?_⟩;refine bY [1000] (xS 0 bs) rfl rfl rfl rfl (fun v ⟨e,h⟩=>⟨e,aR h⟩) ?_;rintro v Mo ⟨n,p,e0,rfl,rfl⟩ _ _;refine⟨rfl,?_⟩;have hD:dz a bs=bA a n p:=aj e0;have hn:=j6 e0;refine⟨.inl ⟨0,rfl,?_⟩⟩;refine aH (fun hb=>?_) (fun hb=>?_)
 ·refine⟨by omega,Xr _,by omega,by simp only[maxLen];omega,?_⟩;refine⟨.inl ⟨0,rfl,?_⟩⟩;refine⟨.inl ⟨0,rfl,?_⟩⟩;have u:∀m:Nat,((List.replicate m [IC 0]:List (List C)).length:Int)=m:=fun m=>by simp
  refine bW n 31 [] (([],p):List α×List UInt8) (fun _=>[]) (fun s=>[(25,.row 3 1 (s.1.map cs++List.replicate (n-s.1.length) [IC 0])),(1000,RB s.2),(1001,.win t pre [.rw 25] post)])
   (fun k s=>s.1.length=k/\(∀xs r,bA a (n-k) s.2=some (xs,r)->bA a n p=some (s.1++xs,r))/\(bA a (n-k) s.2=none->bA a n p=none))
   ⟨rfl,fun xs r h=>h,fun h=>h⟩ (aq rfl) trivial ⟨.inl ⟨_,rfl,.inl ⟨rfl,rfl⟩⟩,.inl ⟨_,rfl,.inl ⟨rfl,rfl⟩⟩,.inl ⟨_,rfl,.inl ⟨rfl,rfl⟩⟩,trivial⟩ (fun _=>rfl) (fun _=>rfl) ?_
  rintro k ⟨done,b⟩ hk ⟨h1,o,y⟩ _ _ ag;simp only at h1 o y;refine aV (fun c=>?_) (fun j=>?_)
  ·have c:k<n:=by have h:(k:Int)<((List.replicate n [IC 0]:List (List C)).length:Int):=c;rw[u] at h;omega
   refine⟨.inl ⟨0,rfl,?_⟩⟩;refine⟨by omega,by simp;omega,?_⟩;refine mZ [1000,25] (gG (e:=3) (sz:=1) (ca:=[]) w he rfl (fun d w=>by
    rcases WZ.1 w with rfl | w
    ·exact⟨rfl,rfl⟩
    ·cases w) aa ⟨rfl,rfl,rfl⟩ h1 c b) rfl rfl rfl rfl (fun v ⟨e,h⟩=>⟨e,?_⟩) ?_
   ·rw[hD];exact y (by rw[show n-k=(n-(k+1))+1 by omega];simp only[bA,h])
   rintro v Mo ⟨x,r,e1,rfl,rfl⟩ _ _;refine⟨rfl,?_⟩;refine Fit.Wi (by omega) (by omega) ?_;rw[show n-k=(n-(k+1))+1 by omega] at o y;simp only[bA,e1] at o y;refine⟨(k+1,done++[x],r),⟨by omega,by simp[h1],fun xs r' h=>?_,fun h=>?_⟩,⟨cF,trivial⟩,⟨.inl ⟨_,rfl,.inl ⟨rfl,rfl⟩⟩,.inl ⟨_,rfl,.inl ⟨rfl,rfl⟩⟩,.inl ⟨_,rfl,.inl ⟨rfl,rfl⟩⟩,trivial⟩,cG c⟩
   ·rw[o (x::xs) r' (by simp only[h])];simp
   ·exact y (by simp only[h])
  ·have j:n-k=0:=by
    have h:¬(k:Int)<((List.replicate n [IC 0]:List (List C)).length:Int):=j;rw[u] at h;omega
   rw[j] at o;have hf:=o [] b rfl;rw[Xl] at hf;refine qd [25] [1000,1001] ⟨_,_,rfl,rfl,rfl,done,b,by rw[hD];exact hf,?_,rfl⟩;have hl:n-done.length=0:=by omega
   exact o6 (fun q=>[RB b,TO.win t pre [C.sl q] post]) (show done.map cs++List.replicate (n-done.length) [IC 0]=done.map cs by rw[hl];simp)
 ·have z:n=0:=by
   have h:=hb;simp at h;omega
  subst z;refine⟨.inl ⟨0,rfl,?_⟩⟩;refine bW 0 31 [] () (fun _=>[]) (fun _=>[(1000,RB p),(1001,.win t pre [.sl []] post)]) (fun _ _=>True) trivial (aq rfl) trivial ⟨.inl ⟨_,rfl,.inl ⟨rfl,rfl⟩⟩,.inl ⟨_,rfl,.inl ⟨rfl,rfl⟩⟩,trivial⟩ (fun _=>rfl) (fun _=>rfl) ?_;rintro k ⟨⟩ hk _ _ _ _;exact cR [1000,1001] rfl rfl rfl rfl ⟨[],p,by rw[hD];rfl,rfl,rfl⟩
theorem QR {α:Type}{f:Nat}{a:Dec α}{cs:α->List C}(w:fV f [] [] a [.bool false] cs) (he:lX PZ f) (aa:∀x,xw 1 (cs x)):fV 47 [] [.fn f [] []] (dz a) [.sl []] (fun l=>[.sl (l.map cs)]):=by
 intro t pre post bs _ _;refine ai Tryd.func47 DI rfl fun hw av=>?_;refine⟨.inl ⟨0,rfl,?_⟩⟩;refine⟨rfl,?_⟩;refine⟨114,xT,?_⟩;refine bY [1000] (xS 0 bs) rfl rfl rfl rfl (fun v ⟨e,h⟩=>⟨e,aR h⟩) ?_;rintro v Mo ⟨n,p,e0,rfl,rfl⟩ _ _;refine⟨rfl,?_⟩;have hD:dz a bs=bA a n p:=aj e0;have hn:=j6 e0;refine⟨.inl ⟨0,rfl,?_⟩⟩;refine aH (fun hb=>?_) (fun hb=>?_)
 ·refine⟨by omega,Xr _,by omega,by simp only[maxLen];omega,?_⟩;refine⟨.inl ⟨0,rfl,?_⟩⟩;refine⟨.inl ⟨0,rfl,?_⟩⟩;have u:∀m:Nat,((List.replicate m [.bool false]:List (List C)).length:Int)=m:=fun m=>by simp
  refine bW n 31 [] (([],p):List α×List UInt8) (fun _=>[]) (fun s=>[(25,.row 4 1 (s.1.map cs++List.replicate (n-s.1.length) [.bool false])),(1000,RB s.2),(1001,.win t pre [.rw 25] post)])
   (fun k s=>s.1.length=k/\(∀xs r,bA a (n-k) s.2=some (xs,r)->bA a n p=some (s.1++xs,r))/\(bA a (n-k) s.2=none->bA a n p=none))
   ⟨rfl,fun xs r h=>h,fun h=>h⟩ (aq rfl) trivial ⟨.inl ⟨_,rfl,.inl ⟨rfl,rfl⟩⟩,.inl ⟨_,rfl,.inl ⟨rfl,rfl⟩⟩,.inl ⟨_,rfl,.inl ⟨rfl,rfl⟩⟩,trivial⟩ (fun _=>rfl) (fun _=>rfl) ?_
  rintro k ⟨done,b⟩ hk ⟨h1,o,y⟩ _ _ ag;simp only at h1 o y;refine aV (fun c=>?_) (fun j=>?_)
  ·have c:k<n:=by have h:(k:Int)<((List.replicate n [.bool false]:List (List C)).length:Int):=c;rw[u] at h;omega
   refine⟨.inl ⟨0,rfl,?_⟩⟩;refine⟨by omega,by simp;omega,?_⟩;refine mZ [1000,25] (gG (e:=4) (sz:=1) (ca:=[]) w he rfl (fun d w=>by
    rcases WZ.1 w with rfl | w
    ·exact⟨rfl,rfl⟩
    ·cases w) aa ⟨rfl,rfl,rfl⟩ h1 c b) rfl rfl rfl rfl (fun v ⟨e,h⟩=>⟨e,?_⟩) ?_
   ·rw[hD];exact y (by rw[show n-k=(n-(k+1))+1 by omega];simp only[bA,h])
   rintro v Mo ⟨x,r,e1,rfl,rfl⟩ _ _;refine⟨rfl,?_⟩;refine Fit.Wi (by omega) (by omega) ?_;rw[show n-k=(n-(k+1))+1 by omega] at o y;simp only[bA,e1] at o y;refine⟨(k+1,done++[x],r),⟨by omega,by simp[h1],fun xs r' h=>?_,fun h=>?_⟩,⟨cF,trivial⟩,⟨.inl ⟨_,rfl,.inl ⟨rfl,rfl⟩⟩,.inl ⟨_,rfl,.inl ⟨rfl,rfl⟩⟩,.inl ⟨_,rfl,.inl ⟨rfl,rfl⟩⟩,trivial⟩,cG c⟩
   ·rw[o (x::xs) r' (by simp only[h])];simp
   ·exact y (by simp only[h])
  ·have j:n-k=0:=by
    have h:¬(k:Int)<((List.replicate n [.bool false]:List (List C)).length:Int):=j;rw[u] at h;omega
   rw[j] at o;have hf:=o [] b rfl;rw[Xl] at hf;refine qd [25] [1000,1001] ⟨_,_,rfl,rfl,rfl,done,b,by rw[hD];exact hf,?_,rfl⟩;have hl:n-done.length=0:=by omega
   exact o6 (fun q=>[RB b,TO.win t pre [C.sl q] post]) (show done.map cs++List.replicate (n-done.length) [.bool false]=done.map cs by rw[hl];simp)
 ·have z:n=0:=by
   have h:=hb;simp at h;omega
  subst z;refine⟨.inl ⟨0,rfl,?_⟩⟩;refine bW 0 31 [] () (fun _=>[]) (fun _=>[(1000,RB p),(1001,.win t pre [.sl []] post)]) (fun _ _=>True) trivial (aq rfl) trivial ⟨.inl ⟨_,rfl,.inl ⟨rfl,rfl⟩⟩,.inl ⟨_,rfl,.inl ⟨rfl,rfl⟩⟩,trivial⟩ (fun _=>rfl) (fun _=>rfl) ?_;rintro k ⟨⟩ hk _ _ _ _;exact cR [1000,1001] rfl rfl rfl rfl ⟨[],p,by rw[hD];rfl,rfl,rfl⟩
theorem QS {α:Type}{f:Nat}{a:Dec α}{cs:α->List C}(w:fV f [] [] a [.bool false,IC 0,IC 0,IC 0,IC 0,IC 0,.sl [],.bool false,.sl [],.sl []] cs) (he:lX PZ f) (aa:∀x,xw 10 (cs x)):fV 45 [] [.fn f [] []] (dz a) [.sl []] (fun l=>[.sl (l.map cs)]):=by
 intro t pre post bs _ _;refine ai Tryd.func45 DG rfl fun hw av=>?_;refine⟨.inl ⟨0,rfl,?_⟩⟩;refine⟨rfl,?_⟩;refine⟨114,xT,?_⟩;refine bY [1000] (xS 0 bs) rfl rfl rfl rfl (fun v ⟨e,h⟩=>⟨e,aR h⟩) ?_;rintro v Mo ⟨n,p,e0,rfl,rfl⟩ _ _;refine⟨rfl,?_⟩;have hD:dz a bs=bA a n p:=aj e0;have hn:=j6 e0;refine⟨.inl ⟨0,rfl,?_⟩⟩;refine aH (fun hb=>?_) (fun hb=>?_)
 ·refine⟨by omega,Xr _,by omega,by simp only[maxLen];omega,?_⟩;refine⟨.inl ⟨0,rfl,?_⟩⟩;refine⟨.inl ⟨0,rfl,?_⟩⟩;have u:∀m:Nat,((List.replicate m [.bool false,IC 0,IC 0,IC 0,IC 0,IC 0,.sl [],.bool false,.sl [],.sl []]:List (List C)).length:Int)=m:=fun m=>by simp
  refine bW n 31 [] (([],p):List α×List UInt8) (fun _=>[]) (fun s=>[(25,.row 92 10 (s.1.map cs++List.replicate (n-s.1.length) [.bool false,IC 0,IC 0,IC 0,IC 0,IC 0,.sl [],.bool false,.sl [],.sl []])),(1000,RB s.2),(1001,.win t pre [.rw 25] post)])
   (fun k s=>s.1.length=k/\(∀xs r,bA a (n-k) s.2=some (xs,r)->bA a n p=some (s.1++xs,r))/\(bA a (n-k) s.2=none->bA a n p=none))
   ⟨rfl,fun xs r h=>h,fun h=>h⟩ (aq rfl) trivial ⟨.inl ⟨_,rfl,.inl ⟨rfl,rfl⟩⟩,.inl ⟨_,rfl,.inl ⟨rfl,rfl⟩⟩,.inl ⟨_,rfl,.inl ⟨rfl,rfl⟩⟩,trivial⟩ (fun _=>rfl) (fun _=>rfl) ?_
  rintro k ⟨done,b⟩ hk ⟨h1,o,y⟩ _ _ ag;simp only at h1 o y;refine aV (fun c=>?_) (fun j=>?_)
  ·have c:k<n:=by have h:(k:Int)<((List.replicate n [.bool false,IC 0,IC 0,IC 0,IC 0,IC 0,.sl [],.bool false,.sl [],.sl []]:List (List C)).length:Int):=c;rw[u] at h;omega
   refine⟨.inl ⟨0,rfl,?_⟩⟩;refine⟨by omega,by simp;omega,?_⟩;refine mZ [1000,25] (gG (e:=92) (sz:=10) (ca:=[]) w he rfl (fun d w=>by
    rcases WZ.1 w with rfl | w
    ·exact⟨rfl,rfl⟩
    ·cases w) aa ⟨rfl,rfl,rfl⟩ h1 c b) rfl rfl rfl rfl (fun v ⟨e,h⟩=>⟨e,?_⟩) ?_
   ·rw[hD];exact y (by rw[show n-k=(n-(k+1))+1 by omega];simp only[bA,h])
   rintro v Mo ⟨x,r,e1,rfl,rfl⟩ _ _;refine⟨rfl,?_⟩;refine Fit.Wi (by omega) (by omega) ?_;rw[show n-k=(n-(k+1))+1 by omega] at o y;simp only[bA,e1] at o y;refine⟨(k+1,done++[x],r),⟨by omega,by simp[h1],fun xs r' h=>?_,fun h=>?_⟩,⟨cF,trivial⟩,⟨.inl ⟨_,rfl,.inl ⟨rfl,rfl⟩⟩,.inl ⟨_,rfl,.inl ⟨rfl,rfl⟩⟩,.inl ⟨_,rfl,.inl ⟨rfl,rfl⟩⟩,trivial⟩,cG c⟩
   ·rw[o (x::xs) r' (by simp only[h])];simp
   ·exact y (by simp only[h])
  ·have j:n-k=0:=by
    have h:¬(k:Int)<((List.replicate n [.bool false,IC 0,IC 0,IC 0,IC 0,IC 0,.sl [],.bool false,.sl [],.sl []]:List (List C)).length:Int):=j;rw[u] at h;omega
   rw[j] at o;have hf:=o [] b rfl;rw[Xl] at hf;refine qd [25] [1000,1001] ⟨_,_,rfl,rfl,rfl,done,b,by rw[hD];exact hf,?_,rfl⟩;have hl:n-done.length=0:=by omega
   exact o6 (fun q=>[RB b,TO.win t pre [C.sl q] post]) (show done.map cs++List.replicate (n-done.length) [.bool false,IC 0,IC 0,IC 0,IC 0,IC 0,.sl [],.bool false,.sl [],.sl []]=done.map cs by rw[hl];simp)
 ·have z:n=0:=by
   have h:=hb;simp at h;omega
  subst z;refine⟨.inl ⟨0,rfl,?_⟩⟩;refine bW 0 31 [] () (fun _=>[]) (fun _=>[(1000,RB p),(1001,.win t pre [.sl []] post)]) (fun _ _=>True) trivial (aq rfl) trivial ⟨.inl ⟨_,rfl,.inl ⟨rfl,rfl⟩⟩,.inl ⟨_,rfl,.inl ⟨rfl,rfl⟩⟩,trivial⟩ (fun _=>rfl) (fun _=>rfl) ?_;rintro k ⟨⟩ hk _ _ _ _;exact cR [1000,1001] rfl rfl rfl rfl ⟨[],p,by rw[hD];rfl,rfl,rfl⟩
theorem QT {α:Type}{f:Nat}{a:Dec α}{cs:α->List C}(w:fV f [] [] a [IC 0,.sl [],.sl [],IC 0,IC 0,IC 0,.sl []] cs) (he:lX PZ f) (aa:∀x,xw 7 (cs x)):fV 49 [] [.fn f [] []] (dz a) [.sl []] (fun l=>[.sl (l.map cs)]):=by
 intro t pre post bs _ _;refine ai Tryd.func49 DK rfl fun hw av=>?_;refine⟨.inl ⟨0,rfl,?_⟩⟩;refine⟨rfl,?_⟩;refine⟨114,xT,?_⟩;refine bY [1000] (xS 0 bs) rfl rfl rfl rfl (fun v ⟨e,h⟩=>⟨e,aR h⟩) ?_;rintro v Mo ⟨n,p,e0,rfl,rfl⟩ _ _;refine⟨rfl,?_⟩;have hD:dz a bs=bA a n p:=aj e0;have hn:=j6 e0;refine⟨.inl ⟨0,rfl,?_⟩⟩;refine aH (fun hb=>?_) (fun hb=>?_)
 ·refine⟨by omega,Xr _,by omega,by simp only[maxLen];omega,?_⟩;refine⟨.inl ⟨0,rfl,?_⟩⟩;refine⟨.inl ⟨0,rfl,?_⟩⟩;have u:∀m:Nat,((List.replicate m [IC 0,.sl [],.sl [],IC 0,IC 0,IC 0,.sl []]:List (List C)).length:Int)=m:=fun m=>by simp
  refine bW n 31 [] (([],p):List α×List UInt8) (fun _=>[]) (fun s=>[(25,.row 88 7 (s.1.map cs++List.replicate (n-s.1.length) [IC 0,.sl [],.sl [],IC 0,IC 0,IC 0,.sl []])),(1000,RB s.2),(1001,.win t pre [.rw 25] post)])
   (fun k s=>s.1.length=k/\(∀xs r,bA a (n-k) s.2=some (xs,r)->bA a n p=some (s.1++xs,r))/\(bA a (n-k) s.2=none->bA a n p=none))
   ⟨rfl,fun xs r h=>h,fun h=>h⟩ (aq rfl) trivial ⟨.inl ⟨_,rfl,.inl ⟨rfl,rfl⟩⟩,.inl ⟨_,rfl,.inl ⟨rfl,rfl⟩⟩,.inl ⟨_,rfl,.inl ⟨rfl,rfl⟩⟩,trivial⟩ (fun _=>rfl) (fun _=>rfl) ?_
  rintro k ⟨done,b⟩ hk ⟨h1,o,y⟩ _ _ ag;simp only at h1 o y;refine aV (fun c=>?_) (fun j=>?_)
  ·have c:k<n:=by have h:(k:Int)<((List.replicate n [IC 0,.sl [],.sl [],IC 0,IC 0,IC 0,.sl []]:List (List C)).length:Int):=c;rw[u] at h;omega
   refine⟨.inl ⟨0,rfl,?_⟩⟩;refine⟨by omega,by simp;omega,?_⟩;refine mZ [1000,25] (gG (e:=88) (sz:=7) (ca:=[]) w he rfl (fun d w=>by
    rcases WZ.1 w with rfl | w
    ·exact⟨rfl,rfl⟩
    ·cases w) aa ⟨rfl,rfl,rfl⟩ h1 c b) rfl rfl rfl rfl (fun v ⟨e,h⟩=>⟨e,?_⟩) ?_
   ·rw[hD];exact y (by rw[show n-k=(n-(k+1))+1 by omega];simp only[bA,h])
   rintro v Mo ⟨x,r,e1,rfl,rfl⟩ _ _;refine⟨rfl,?_⟩;refine Fit.Wi (by omega) (by omega) ?_;rw[show n-k=(n-(k+1))+1 by omega] at o y;simp only[bA,e1] at o y;refine⟨(k+1,done++[x],r),⟨by omega,by simp[h1],fun xs r' h=>?_,fun h=>?_⟩,⟨cF,trivial⟩,⟨.inl ⟨_,rfl,.inl ⟨rfl,rfl⟩⟩,.inl ⟨_,rfl,.inl ⟨rfl,rfl⟩⟩,.inl ⟨_,rfl,.inl ⟨rfl,rfl⟩⟩,trivial⟩,cG c⟩
   ·rw[o (x::xs) r' (by simp only[h])];simp
   ·exact y (by simp only[h])
  ·have j:n-k=0:=by
    have h:¬(k:Int)<((List.replicate n [IC 0,.sl [],.sl [],IC 0,IC 0,IC 0,.sl []]:List (List C)).length:Int):=j;rw[u] at h;omega
   rw[j] at o;have hf:=o [] b rfl;rw[Xl] at hf;refine qd [25] [1000,1001] ⟨_,_,rfl,rfl,rfl,done,b,by rw[hD];exact hf,?_,rfl⟩;have hl:n-done.length=0:=by omega
   exact o6 (fun q=>[RB b,TO.win t pre [C.sl q] post]) (show done.map cs++List.replicate (n-done.length) [IC 0,.sl [],.sl [],IC 0,IC 0,IC 0,.sl []]=done.map cs by rw[hl];simp)
 ·have z:n=0:=by
   have h:=hb;simp at h;omega
  subst z;refine⟨.inl ⟨0,rfl,?_⟩⟩;refine bW 0 31 [] () (fun _=>[]) (fun _=>[(1000,RB p),(1001,.win t pre [.sl []] post)]) (fun _ _=>True) trivial (aq rfl) trivial ⟨.inl ⟨_,rfl,.inl ⟨rfl,rfl⟩⟩,.inl ⟨_,rfl,.inl ⟨rfl,rfl⟩⟩,trivial⟩ (fun _=>rfl) (fun _=>rfl) ?_;rintro k ⟨⟩ hk _ _ _ _;exact cR [1000,1001] rfl rfl rfl rfl ⟨[],p,by rw[hD];rfl,rfl,rfl⟩
theorem QU {α:Type}{f:Nat}{a:Dec α}{cs:α->List C}(w:fV f [] [] a [.sl []] cs) (he:lX PZ f) (aa:∀x,xw 1 (cs x)):fV 51 [] [.fn f [] []] (dz a) [.sl []] (fun l=>[.sl (l.map cs)]):=by
 intro t pre post bs _ _;refine ai Tryd.func51 DM rfl fun hw av=>?_;refine⟨.inl ⟨0,rfl,?_⟩⟩;refine⟨rfl,?_⟩;refine⟨114,xT,?_⟩;refine bY [1000] (xS 0 bs) rfl rfl rfl rfl (fun v ⟨e,h⟩=>⟨e,aR h⟩) ?_;rintro v Mo ⟨n,p,e0,rfl,rfl⟩ _ _;refine⟨rfl,?_⟩;have hD:dz a bs=bA a n p:=aj e0;have hn:=j6 e0;refine⟨.inl ⟨0,rfl,?_⟩⟩;refine aH (fun hb=>?_) (fun hb=>?_)
 ·refine⟨by omega,Xr _,by omega,by simp only[maxLen];omega,?_⟩;refine⟨.inl ⟨0,rfl,?_⟩⟩;refine⟨.inl ⟨0,rfl,?_⟩⟩;have u:∀m:Nat,((List.replicate m [.sl []]:List (List C)).length:Int)=m:=fun m=>by simp
  refine bW n 31 [] (([],p):List α×List UInt8) (fun _=>[]) (fun s=>[(25,.row 78 1 (s.1.map cs++List.replicate (n-s.1.length) [.sl []])),(1000,RB s.2),(1001,.win t pre [.rw 25] post)])
   (fun k s=>s.1.length=k/\(∀xs r,bA a (n-k) s.2=some (xs,r)->bA a n p=some (s.1++xs,r))/\(bA a (n-k) s.2=none->bA a n p=none))
   ⟨rfl,fun xs r h=>h,fun h=>h⟩ (aq rfl) trivial ⟨.inl ⟨_,rfl,.inl ⟨rfl,rfl⟩⟩,.inl ⟨_,rfl,.inl ⟨rfl,rfl⟩⟩,.inl ⟨_,rfl,.inl ⟨rfl,rfl⟩⟩,trivial⟩ (fun _=>rfl) (fun _=>rfl) ?_
  rintro k ⟨done,b⟩ hk ⟨h1,o,y⟩ _ _ ag;simp only at h1 o y;refine aV (fun c=>?_) (fun j=>?_)
  ·have c:k<n:=by have h:(k:Int)<((List.replicate n [.sl []]:List (List C)).length:Int):=c;rw[u] at h;omega
   refine⟨.inl ⟨0,rfl,?_⟩⟩;refine⟨by omega,by simp;omega,?_⟩;refine mZ [1000,25] (gG (e:=78) (sz:=1) (ca:=[]) w he rfl (fun d w=>by
    rcases WZ.1 w with rfl | w
    ·exact⟨rfl,rfl⟩
    ·cases w) aa ⟨rfl,rfl,rfl⟩ h1 c b) rfl rfl rfl rfl (fun v ⟨e,h⟩=>⟨e,?_⟩) ?_
   ·rw[hD];exact y (by rw[show n-k=(n-(k+1))+1 by omega];simp only[bA,h])
   rintro v Mo ⟨x,r,e1,rfl,rfl⟩ _ _;refine⟨rfl,?_⟩;refine Fit.Wi (by omega) (by omega) ?_;rw[show n-k=(n-(k+1))+1 by omega] at o y;simp only[bA,e1] at o y;refine⟨(k+1,done++[x],r),⟨by omega,by simp[h1],fun xs r' h=>?_,fun h=>?_⟩,⟨cF,trivial⟩,⟨.inl ⟨_,rfl,.inl ⟨rfl,rfl⟩⟩,.inl ⟨_,rfl,.inl ⟨rfl,rfl⟩⟩,.inl ⟨_,rfl,.inl ⟨rfl,rfl⟩⟩,trivial⟩,cG c⟩
   ·rw[o (x::xs) r' (by simp only[h])];simp
   ·exact y (by simp only[h])
  ·have j:n-k=0:=by
    have h:¬(k:Int)<((List.replicate n [.sl []]:List (List C)).length:Int):=j;rw[u] at h;omega
   rw[j] at o;have hf:=o [] b rfl;rw[Xl] at hf;refine qd [25] [1000,1001] ⟨_,_,rfl,rfl,rfl,done,b,by rw[hD];exact hf,?_,rfl⟩;have hl:n-done.length=0:=by omega
   exact o6 (fun q=>[RB b,TO.win t pre [C.sl q] post]) (show done.map cs++List.replicate (n-done.length) [.sl []]=done.map cs by rw[hl];simp)
 ·have z:n=0:=by
   have h:=hb;simp at h;omega
  subst z;refine⟨.inl ⟨0,rfl,?_⟩⟩;refine bW 0 31 [] () (fun _=>[]) (fun _=>[(1000,RB p),(1001,.win t pre [.sl []] post)]) (fun _ _=>True) trivial (aq rfl) trivial ⟨.inl ⟨_,rfl,.inl ⟨rfl,rfl⟩⟩,.inl ⟨_,rfl,.inl ⟨rfl,rfl⟩⟩,trivial⟩ (fun _=>rfl) (fun _=>rfl) ?_;rintro k ⟨⟩ hk _ _ _ _;exact cR [1000,1001] rfl rfl rfl rfl ⟨[],p,by rw[hD];rfl,rfl,rfl⟩
theorem QV {α:Type}{f:Nat}{a:Dec α}{cs:α->List C}(w:fV f [] [] a [IC 0,IC 0] cs) (he:lX PZ f) (aa:∀x,xw 2 (cs x)):fV 53 [] [.fn f [] []] (dz a) [.sl []] (fun l=>[.sl (l.map cs)]):=by
 intro t pre post bs _ _;refine ai Tryd.func53 DP rfl fun hw av=>?_;refine⟨.inl ⟨0,rfl,?_⟩⟩;refine⟨rfl,?_⟩;refine⟨114,xT,?_⟩;refine bY [1000] (xS 0 bs) rfl rfl rfl rfl (fun v ⟨e,h⟩=>⟨e,aR h⟩) ?_;rintro v Mo ⟨n,p,e0,rfl,rfl⟩ _ _;refine⟨rfl,?_⟩;have hD:dz a bs=bA a n p:=aj e0;have hn:=j6 e0;refine⟨.inl ⟨0,rfl,?_⟩⟩;refine aH (fun hb=>?_) (fun hb=>?_)
 ·refine⟨by omega,Xr _,by omega,by simp only[maxLen];omega,?_⟩;refine⟨.inl ⟨0,rfl,?_⟩⟩;refine⟨.inl ⟨0,rfl,?_⟩⟩;have u:∀m:Nat,((List.replicate m [IC 0,IC 0]:List (List C)).length:Int)=m:=fun m=>by simp
  refine bW n 31 [] (([],p):List α×List UInt8) (fun _=>[]) (fun s=>[(25,.row 90 2 (s.1.map cs++List.replicate (n-s.1.length) [IC 0,IC 0])),(1000,RB s.2),(1001,.win t pre [.rw 25] post)])
   (fun k s=>s.1.length=k/\(∀xs r,bA a (n-k) s.2=some (xs,r)->bA a n p=some (s.1++xs,r))/\(bA a (n-k) s.2=none->bA a n p=none))
   ⟨rfl,fun xs r h=>h,fun h=>h⟩ (aq rfl) trivial ⟨.inl ⟨_,rfl,.inl ⟨rfl,rfl⟩⟩,.inl ⟨_,rfl,.inl ⟨rfl,rfl⟩⟩,.inl ⟨_,rfl,.inl ⟨rfl,rfl⟩⟩,trivial⟩ (fun _=>rfl) (fun _=>rfl) ?_
  rintro k ⟨done,b⟩ hk ⟨h1,o,y⟩ _ _ ag;simp only at h1 o y;refine aV (fun c=>?_) (fun j=>?_)
  ·have c:k<n:=by have h:(k:Int)<((List.replicate n [IC 0,IC 0]:List (List C)).length:Int):=c;rw[u] at h;omega
   refine⟨.inl ⟨0,rfl,?_⟩⟩;refine⟨by omega,by simp;omega,?_⟩;refine mZ [1000,25] (gG (e:=90) (sz:=2) (ca:=[]) w he rfl (fun d w=>by
    rcases WZ.1 w with rfl | w
    ·exact⟨rfl,rfl⟩
    ·cases w) aa ⟨rfl,rfl,rfl⟩ h1 c b) rfl rfl rfl rfl (fun v ⟨e,h⟩=>⟨e,?_⟩) ?_
   ·rw[hD];exact y (by rw[show n-k=(n-(k+1))+1 by omega];simp only[bA,h])
   rintro v Mo ⟨x,r,e1,rfl,rfl⟩ _ _;refine⟨rfl,?_⟩;refine Fit.Wi (by omega) (by omega) ?_;rw[show n-k=(n-(k+1))+1 by omega] at o y;simp only[bA,e1] at o y;refine⟨(k+1,done++[x],r),⟨by omega,by simp[h1],fun xs r' h=>?_,fun h=>?_⟩,⟨cF,trivial⟩,⟨.inl ⟨_,rfl,.inl ⟨rfl,rfl⟩⟩,.inl ⟨_,rfl,.inl ⟨rfl,rfl⟩⟩,.inl ⟨_,rfl,.inl ⟨rfl,rfl⟩⟩,trivial⟩,cG c⟩
   ·rw[o (x::xs) r' (by simp only[h])];simp
   ·exact y (by simp only[h])
  ·have j:n-k=0:=by
    have h:¬(k:Int)<((List.replicate n [IC 0,IC 0]:List (List C)).length:Int):=j;rw[u] at h;omega
   rw[j] at o;have hf:=o [] b rfl;rw[Xl] at hf;refine qd [25] [1000,1001] ⟨_,_,rfl,rfl,rfl,done,b,by rw[hD];exact hf,?_,rfl⟩;have hl:n-done.length=0:=by omega
   exact o6 (fun q=>[RB b,TO.win t pre [C.sl q] post]) (show done.map cs++List.replicate (n-done.length) [IC 0,IC 0]=done.map cs by rw[hl];simp)
 ·have z:n=0:=by
   have h:=hb;simp at h;omega
  subst z;refine⟨.inl ⟨0,rfl,?_⟩⟩;refine bW 0 31 [] () (fun _=>[]) (fun _=>[(1000,RB p),(1001,.win t pre [.sl []] post)]) (fun _ _=>True) trivial (aq rfl) trivial ⟨.inl ⟨_,rfl,.inl ⟨rfl,rfl⟩⟩,.inl ⟨_,rfl,.inl ⟨rfl,rfl⟩⟩,trivial⟩ (fun _=>rfl) (fun _=>rfl) ?_;rintro k ⟨⟩ hk _ _ _ _;exact cR [1000,1001] rfl rfl rfl rfl ⟨[],p,by rw[hD];rfl,rfl,rfl⟩
theorem QW {α:Type}{f:Nat}{a:Dec α}{cs:α->List C}(w:fV f [] [] a [IC 0,IC 0,IC 0,IC 0,IC 0,.sl [],.sl []] cs) (he:lX PZ f) (aa:∀x,xw 7 (cs x)):fV 66 [] [.fn f [] []] (dz a) [.sl []] (fun l=>[.sl (l.map cs)]):=by
 intro t pre post bs _ _;refine ai Tryd.func66 DV rfl fun hw av=>?_;refine⟨.inl ⟨0,rfl,?_⟩⟩;refine⟨rfl,?_⟩;refine⟨114,xT,?_⟩;refine bY [1000] (xS 0 bs) rfl rfl rfl rfl (fun v ⟨e,h⟩=>⟨e,aR h⟩) ?_;rintro v Mo ⟨n,p,e0,rfl,rfl⟩ _ _;refine⟨rfl,?_⟩;have hD:dz a bs=bA a n p:=aj e0;have hn:=j6 e0;refine⟨.inl ⟨0,rfl,?_⟩⟩;refine aH (fun hb=>?_) (fun hb=>?_)
 ·refine⟨by omega,Xr _,by omega,by simp only[maxLen];omega,?_⟩;refine⟨.inl ⟨0,rfl,?_⟩⟩;refine⟨.inl ⟨0,rfl,?_⟩⟩;have u:∀m:Nat,((List.replicate m [IC 0,IC 0,IC 0,IC 0,IC 0,.sl [],.sl []]:List (List C)).length:Int)=m:=fun m=>by simp
  refine bW n 31 [] (([],p):List α×List UInt8) (fun _=>[]) (fun s=>[(25,.row 82 7 (s.1.map cs++List.replicate (n-s.1.length) [IC 0,IC 0,IC 0,IC 0,IC 0,.sl [],.sl []])),(1000,RB s.2),(1001,.win t pre [.rw 25] post)])
   (fun k s=>s.1.length=k/\(∀xs r,bA a (n-k) s.2=some (xs,r)->bA a n p=some (s.1++xs,r))/\(bA a (n-k) s.2=none->bA a n p=none))
   ⟨rfl,fun xs r h=>h,fun h=>h⟩ (aq rfl) trivial ⟨.inl ⟨_,rfl,.inl ⟨rfl,rfl⟩⟩,.inl ⟨_,rfl,.inl ⟨rfl,rfl⟩⟩,.inl ⟨_,rfl,.inl ⟨rfl,rfl⟩⟩,trivial⟩ (fun _=>rfl) (fun _=>rfl) ?_
  rintro k ⟨done,b⟩ hk ⟨h1,o,y⟩ _ _ ag;simp only at h1 o y;refine aV (fun c=>?_) (fun j=>?_)
  ·have c:k<n:=by have h:(k:Int)<((List.replicate n [IC 0,IC 0,IC 0,IC 0,IC 0,.sl [],.sl []]:List (List C)).length:Int):=c;rw[u] at h;omega
   refine⟨.inl ⟨0,rfl,?_⟩⟩;refine⟨by omega,by simp;omega,?_⟩;refine mZ [1000,25] (gG (e:=82) (sz:=7) (ca:=[]) w he rfl (fun d w=>by
    rcases WZ.1 w with rfl | w
    ·exact⟨rfl,rfl⟩
    ·cases w) aa ⟨rfl,rfl,rfl⟩ h1 c b) rfl rfl rfl rfl (fun v ⟨e,h⟩=>⟨e,?_⟩) ?_
   ·rw[hD];exact y (by rw[show n-k=(n-(k+1))+1 by omega];simp only[bA,h])
   rintro v Mo ⟨x,r,e1,rfl,rfl⟩ _ _;refine⟨rfl,?_⟩;refine Fit.Wi (by omega) (by omega) ?_;rw[show n-k=(n-(k+1))+1 by omega] at o y;simp only[bA,e1] at o y;refine⟨(k+1,done++[x],r),⟨by omega,by simp[h1],fun xs r' h=>?_,fun h=>?_⟩,⟨cF,trivial⟩,⟨.inl ⟨_,rfl,.inl ⟨rfl,rfl⟩⟩,.inl ⟨_,rfl,.inl ⟨rfl,rfl⟩⟩,.inl ⟨_,rfl,.inl ⟨rfl,rfl⟩⟩,trivial⟩,cG c⟩
   ·rw[o (x::xs) r' (by simp only[h])];simp
   ·exact y (by simp only[h])
  ·have j:n-k=0:=by
    have h:¬(k:Int)<((List.replicate n [IC 0,IC 0,IC 0,IC 0,IC 0,.sl [],.sl []]:List (List C)).length:Int):=j;rw[u] at h;omega
   rw[j] at o;have hf:=o [] b rfl;rw[Xl] at hf;refine qd [25] [1000,1001] ⟨_,_,rfl,rfl,rfl,done,b,by rw[hD];exact hf,?_,rfl⟩;have hl:n-done.length=0:=by omega
   exact o6 (fun q=>[RB b,TO.win t pre [C.sl q] post]) (show done.map cs++List.replicate (n-done.length) [IC 0,IC 0,IC 0,IC 0,IC 0,.sl [],.sl []]=done.map cs by rw[hl];simp)
 ·have z:n=0:=by
   have h:=hb;simp at h;omega
  subst z;refine⟨.inl ⟨0,rfl,?_⟩⟩;refine bW 0 31 [] () (fun _=>[]) (fun _=>[(1000,RB p),(1001,.win t pre [.sl []] post)]) (fun _ _=>True) trivial (aq rfl) trivial ⟨.inl ⟨_,rfl,.inl ⟨rfl,rfl⟩⟩,.inl ⟨_,rfl,.inl ⟨rfl,rfl⟩⟩,trivial⟩ (fun _=>rfl) (fun _=>rfl) ?_;rintro k ⟨⟩ hk _ _ _ _;exact cR [1000,1001] rfl rfl rfl rfl ⟨[],p,by rw[hD];rfl,rfl,rfl⟩
theorem QX {α:Type}{f:Nat}{a:Dec α}{cs:α->List C}(w:fV f [] [] a [IC 0,IC 0,.bool false,.bool false,.bool false] cs) (he:lX PZ f) (aa:∀x,xw 5 (cs x)):fV 68 [] [.fn f [] []] (dz a) [.sl []] (fun l=>[.sl (l.map cs)]):=by
 intro t pre post bs _ _;refine ai Tryd.func68 DX rfl fun hw av=>?_;refine⟨.inl ⟨0,rfl,?_⟩⟩;refine⟨rfl,?_⟩;refine⟨114,xT,?_⟩;refine bY [1000] (xS 0 bs) rfl rfl rfl rfl (fun v ⟨e,h⟩=>⟨e,aR h⟩) ?_;rintro v Mo ⟨n,p,e0,rfl,rfl⟩ _ _;refine⟨rfl,?_⟩;have hD:dz a bs=bA a n p:=aj e0;have hn:=j6 e0;refine⟨.inl ⟨0,rfl,?_⟩⟩;refine aH (fun hb=>?_) (fun hb=>?_)
 ·refine⟨by omega,Xr _,by omega,by simp only[maxLen];omega,?_⟩;refine⟨.inl ⟨0,rfl,?_⟩⟩;refine⟨.inl ⟨0,rfl,?_⟩⟩;have u:∀m:Nat,((List.replicate m [IC 0,IC 0,.bool false,.bool false,.bool false]:List (List C)).length:Int)=m:=fun m=>by simp
  refine bW n 31 [] (([],p):List α×List UInt8) (fun _=>[]) (fun s=>[(25,.row 85 5 (s.1.map cs++List.replicate (n-s.1.length) [IC 0,IC 0,.bool false,.bool false,.bool false])),(1000,RB s.2),(1001,.win t pre [.rw 25] post)])
   (fun k s=>s.1.length=k/\(∀xs r,bA a (n-k) s.2=some (xs,r)->bA a n p=some (s.1++xs,r))/\(bA a (n-k) s.2=none->bA a n p=none))
   ⟨rfl,fun xs r h=>h,fun h=>h⟩ (aq rfl) trivial ⟨.inl ⟨_,rfl,.inl ⟨rfl,rfl⟩⟩,.inl ⟨_,rfl,.inl ⟨rfl,rfl⟩⟩,.inl ⟨_,rfl,.inl ⟨rfl,rfl⟩⟩,trivial⟩ (fun _=>rfl) (fun _=>rfl) ?_
  rintro k ⟨done,b⟩ hk ⟨h1,o,y⟩ _ _ ag;simp only at h1 o y;refine aV (fun c=>?_) (fun j=>?_)
  ·have c:k<n:=by have h:(k:Int)<((List.replicate n [IC 0,IC 0,.bool false,.bool false,.bool false]:List (List C)).length:Int):=c;rw[u] at h;omega
   refine⟨.inl ⟨0,rfl,?_⟩⟩;refine⟨by omega,by simp;omega,?_⟩;refine mZ [1000,25] (gG (e:=85) (sz:=5) (ca:=[]) w he rfl (fun d w=>by
    rcases WZ.1 w with rfl | w
    ·exact⟨rfl,rfl⟩
    ·cases w) aa ⟨rfl,rfl,rfl⟩ h1 c b) rfl rfl rfl rfl (fun v ⟨e,h⟩=>⟨e,?_⟩) ?_
   ·rw[hD];exact y (by rw[show n-k=(n-(k+1))+1 by omega];simp only[bA,h])
   rintro v Mo ⟨x,r,e1,rfl,rfl⟩ _ _;refine⟨rfl,?_⟩;refine Fit.Wi (by omega) (by omega) ?_;rw[show n-k=(n-(k+1))+1 by omega] at o y;simp only[bA,e1] at o y;refine⟨(k+1,done++[x],r),⟨by omega,by simp[h1],fun xs r' h=>?_,fun h=>?_⟩,⟨cF,trivial⟩,⟨.inl ⟨_,rfl,.inl ⟨rfl,rfl⟩⟩,.inl ⟨_,rfl,.inl ⟨rfl,rfl⟩⟩,.inl ⟨_,rfl,.inl ⟨rfl,rfl⟩⟩,trivial⟩,cG c⟩
   ·rw[o (x::xs) r' (by simp only[h])];simp
   ·exact y (by simp only[h])
  ·have j:n-k=0:=by
    have h:¬(k:Int)<((List.replicate n [IC 0,IC 0,.bool false,.bool false,.bool false]:List (List C)).length:Int):=j;rw[u] at h;omega
   rw[j] at o;have hf:=o [] b rfl;rw[Xl] at hf;refine qd [25] [1000,1001] ⟨_,_,rfl,rfl,rfl,done,b,by rw[hD];exact hf,?_,rfl⟩;have hl:n-done.length=0:=by omega
   exact o6 (fun q=>[RB b,TO.win t pre [C.sl q] post]) (show done.map cs++List.replicate (n-done.length) [IC 0,IC 0,.bool false,.bool false,.bool false]=done.map cs by rw[hl];simp)
 ·have z:n=0:=by
   have h:=hb;simp at h;omega
  subst z;refine⟨.inl ⟨0,rfl,?_⟩⟩;refine bW 0 31 [] () (fun _=>[]) (fun _=>[(1000,RB p),(1001,.win t pre [.sl []] post)]) (fun _ _=>True) trivial (aq rfl) trivial ⟨.inl ⟨_,rfl,.inl ⟨rfl,rfl⟩⟩,.inl ⟨_,rfl,.inl ⟨rfl,rfl⟩⟩,trivial⟩ (fun _=>rfl) (fun _=>rfl) ?_;rintro k ⟨⟩ hk _ _ _ _;exact cR [1000,1001] rfl rfl rfl rfl ⟨[],p,by rw[hD];rfl,rfl,rfl⟩
theorem QY {α:Type}{f:Nat}{a:Dec α}{cs:α->List C}(w:fV f [] [] a [IC 0,IC 0,IC 0,IC 0,.sl [],.bool false,.sl [],.sl []] cs) (he:lX PZ f) (aa:∀x,xw 8 (cs x)):fV 72 [] [.fn f [] []] (dz a) [.sl []] (fun l=>[.sl (l.map cs)]):=by
 intro t pre post bs _ _;refine ai Tryd.func72 uW rfl fun hw av=>?_;refine⟨.inl ⟨0,rfl,?_⟩⟩;refine⟨rfl,?_⟩;refine⟨114,xT,?_⟩;refine bY [1000] (xS 0 bs) rfl rfl rfl rfl (fun v ⟨e,h⟩=>⟨e,aR h⟩) ?_;rintro v Mo ⟨n,p,e0,rfl,rfl⟩ _ _;refine⟨rfl,?_⟩;have hD:dz a bs=bA a n p:=aj e0;have hn:=j6 e0;refine⟨.inl ⟨0,rfl,?_⟩⟩;refine aH (fun hb=>?_) (fun hb=>?_)
 ·refine⟨by omega,Xr _,by omega,by simp only[maxLen];omega,?_⟩;refine⟨.inl ⟨0,rfl,?_⟩⟩;refine⟨.inl ⟨0,rfl,?_⟩⟩;have u:∀m:Nat,((List.replicate m [IC 0,IC 0,IC 0,IC 0,.sl [],.bool false,.sl [],.sl []]:List (List C)).length:Int)=m:=fun m=>by simp
  refine bW n 31 [] (([],p):List α×List UInt8) (fun _=>[]) (fun s=>[(25,.row 80 8 (s.1.map cs++List.replicate (n-s.1.length) [IC 0,IC 0,IC 0,IC 0,.sl [],.bool false,.sl [],.sl []])),(1000,RB s.2),(1001,.win t pre [.rw 25] post)])
   (fun k s=>s.1.length=k/\(∀xs r,bA a (n-k) s.2=some (xs,r)->bA a n p=some (s.1++xs,r))/\(bA a (n-k) s.2=none->bA a n p=none))
   ⟨rfl,fun xs r h=>h,fun h=>h⟩ (aq rfl) trivial ⟨.inl ⟨_,rfl,.inl ⟨rfl,rfl⟩⟩,.inl ⟨_,rfl,.inl ⟨rfl,rfl⟩⟩,.inl ⟨_,rfl,.inl ⟨rfl,rfl⟩⟩,trivial⟩ (fun _=>rfl) (fun _=>rfl) ?_
  rintro k ⟨done,b⟩ hk ⟨h1,o,y⟩ _ _ ag;simp only at h1 o y;refine aV (fun c=>?_) (fun j=>?_)
  ·have c:k<n:=by have h:(k:Int)<((List.replicate n [IC 0,IC 0,IC 0,IC 0,.sl [],.bool false,.sl [],.sl []]:List (List C)).length:Int):=c;rw[u] at h;omega
   refine⟨.inl ⟨0,rfl,?_⟩⟩;refine⟨by omega,by simp;omega,?_⟩;refine mZ [1000,25] (gG (e:=80) (sz:=8) (ca:=[]) w he rfl (fun d w=>by
    rcases WZ.1 w with rfl | w
    ·exact⟨rfl,rfl⟩
    ·cases w) aa ⟨rfl,rfl,rfl⟩ h1 c b) rfl rfl rfl rfl (fun v ⟨e,h⟩=>⟨e,?_⟩) ?_
   ·rw[hD];exact y (by rw[show n-k=(n-(k+1))+1 by omega];simp only[bA,h])
   rintro v Mo ⟨x,r,e1,rfl,rfl⟩ _ _;refine⟨rfl,?_⟩;refine Fit.Wi (by omega) (by omega) ?_;rw[show n-k=(n-(k+1))+1 by omega] at o y;simp only[bA,e1] at o y;refine⟨(k+1,done++[x],r),⟨by omega,by simp[h1],fun xs r' h=>?_,fun h=>?_⟩,⟨cF,trivial⟩,⟨.inl ⟨_,rfl,.inl ⟨rfl,rfl⟩⟩,.inl ⟨_,rfl,.inl ⟨rfl,rfl⟩⟩,.inl ⟨_,rfl,.inl ⟨rfl,rfl⟩⟩,trivial⟩,cG c⟩
   ·rw[o (x::xs) r' (by simp only[h])];simp
   ·exact y (by simp only[h])
  ·have j:n-k=0:=by
    have h:¬(k:Int)<((List.replicate n [IC 0,IC 0,IC 0,IC 0,.sl [],.bool false,.sl [],.sl []]:List (List C)).length:Int):=j;rw[u] at h;omega
   rw[j] at o;have hf:=o [] b rfl;rw[Xl] at hf;refine qd [25] [1000,1001] ⟨_,_,rfl,rfl,rfl,done,b,by rw[hD];exact hf,?_,rfl⟩;have hl:n-done.length=0:=by omega
   exact o6 (fun q=>[RB b,TO.win t pre [C.sl q] post]) (show done.map cs++List.replicate (n-done.length) [IC 0,IC 0,IC 0,IC 0,.sl [],.bool false,.sl [],.sl []]=done.map cs by rw[hl];simp)
 ·have z:n=0:=by
   have h:=hb;simp at h;omega
  subst z;refine⟨.inl ⟨0,rfl,?_⟩⟩;refine bW 0 31 [] () (fun _=>[]) (fun _=>[(1000,RB p),(1001,.win t pre [.sl []] post)]) (fun _ _=>True) trivial (aq rfl) trivial ⟨.inl ⟨_,rfl,.inl ⟨rfl,rfl⟩⟩,.inl ⟨_,rfl,.inl ⟨rfl,rfl⟩⟩,trivial⟩ (fun _=>rfl) (fun _=>rfl) ?_;rintro k ⟨⟩ hk _ _ _ _;exact cR [1000,1001] rfl rfl rfl rfl ⟨[],p,by rw[hD];rfl,rfl,rfl⟩
theorem O7 {α:Type}{f:Nat}{d:Int}{a:Dec α}{cs:α->List C}(w:fV f [] [.pt [IC d] 0] a [IC 0,IC 0,IC 0,IC 0,.sl [],.bool false,.sl [],.sl []] cs) (he:lX PZ f) (aa:∀x,xw 8 (cs x)):fV 72 [] [.fn f [] [.pt [IC d] 0]] (dz a) [.sl []] (fun l=>[.sl (l.map cs)]):=by
 intro t pre post bs _ _;refine ai Tryd.func72 uW rfl fun hw av=>?_;refine⟨.inl ⟨0,rfl,?_⟩⟩;refine⟨rfl,?_⟩;refine⟨114,xT,?_⟩;refine bY [1000] (xS 0 bs) rfl rfl rfl rfl (fun v ⟨e,h⟩=>⟨e,aR h⟩) ?_;rintro v Mo ⟨n,p,e0,rfl,rfl⟩ _ _;refine⟨rfl,?_⟩;have hD:dz a bs=bA a n p:=aj e0;have hn:=j6 e0;refine⟨.inl ⟨0,rfl,?_⟩⟩;refine aH (fun hb=>?_) (fun hb=>?_)
 ·refine⟨by omega,Xr _,by omega,by simp only[maxLen];omega,?_⟩;refine⟨.inl ⟨0,rfl,?_⟩⟩;refine⟨.inl ⟨0,rfl,?_⟩⟩;have u:∀m:Nat,((List.replicate m [IC 0,IC 0,IC 0,IC 0,.sl [],.bool false,.sl [],.sl []]:List (List C)).length:Int)=m:=fun m=>by simp
  refine bW n 31 [] (([],p):List α×List UInt8) (fun _=>[]) (fun s=>[(25,.row 80 8 (s.1.map cs++List.replicate (n-s.1.length) [IC 0,IC 0,IC 0,IC 0,.sl [],.bool false,.sl [],.sl []])),(1000,RB s.2),(1001,.win t pre [.rw 25] post)])
   (fun k s=>s.1.length=k/\(∀xs r,bA a (n-k) s.2=some (xs,r)->bA a n p=some (s.1++xs,r))/\(bA a (n-k) s.2=none->bA a n p=none))
   ⟨rfl,fun xs r h=>h,fun h=>h⟩ (aq rfl) trivial ⟨.inl ⟨_,rfl,.inl ⟨rfl,rfl⟩⟩,.inl ⟨_,rfl,.inl ⟨rfl,rfl⟩⟩,.inl ⟨_,rfl,.inl ⟨rfl,rfl⟩⟩,trivial⟩ (fun _=>rfl) (fun _=>rfl) ?_
  rintro k ⟨done,b⟩ hk ⟨h1,o,y⟩ _ _ ag;simp only at h1 o y;refine aV (fun c=>?_) (fun j=>?_)
  ·have c:k<n:=by have h:(k:Int)<((List.replicate n [IC 0,IC 0,IC 0,IC 0,.sl [],.bool false,.sl [],.sl []]:List (List C)).length:Int):=c;rw[u] at h;omega
   refine⟨.inl ⟨0,rfl,?_⟩⟩;refine⟨by omega,by simp;omega,?_⟩;refine mZ [1000,25] (gG (e:=80) (sz:=8) (ca:=[.pt [IC d] 0]) w he rfl (fun d w=>by
    rcases WZ.1 w with rfl | w
    ·exact⟨rfl,rfl⟩
    ·rw[XF.1 w];exact⟨rfl,rfl⟩) aa ⟨rfl,rfl,rfl⟩ h1 c b) rfl rfl rfl rfl (fun v ⟨e,h⟩=>⟨e,?_⟩) ?_
   ·rw[hD];exact y (by rw[show n-k=(n-(k+1))+1 by omega];simp only[bA,h])
   rintro v Mo ⟨x,r,e1,rfl,rfl⟩ _ _;refine⟨rfl,?_⟩;refine Fit.Wi (by omega) (by omega) ?_;rw[show n-k=(n-(k+1))+1 by omega] at o y;simp only[bA,e1] at o y;refine⟨(k+1,done++[x],r),⟨by omega,by simp[h1],fun xs r' h=>?_,fun h=>?_⟩,⟨cF,trivial⟩,⟨.inl ⟨_,rfl,.inl ⟨rfl,rfl⟩⟩,.inl ⟨_,rfl,.inl ⟨rfl,rfl⟩⟩,.inl ⟨_,rfl,.inl ⟨rfl,rfl⟩⟩,trivial⟩,cG c⟩
   ·rw[o (x::xs) r' (by simp only[h])];simp
   ·exact y (by simp only[h])
  ·have j:n-k=0:=by
    have h:¬(k:Int)<((List.replicate n [IC 0,IC 0,IC 0,IC 0,.sl [],.bool false,.sl [],.sl []]:List (List C)).length:Int):=j;rw[u] at h;omega
   rw[j] at o;have hf:=o [] b rfl;rw[Xl] at hf;refine qd [25] [1000,1001] ⟨_,_,rfl,rfl,rfl,done,b,by rw[hD];exact hf,?_,rfl⟩;have hl:n-done.length=0:=by omega
   exact o6 (fun q=>[RB b,TO.win t pre [C.sl q] post]) (show done.map cs++List.replicate (n-done.length) [IC 0,IC 0,IC 0,IC 0,.sl [],.bool false,.sl [],.sl []]=done.map cs by rw[hl];simp)
 ·have z:n=0:=by
   have h:=hb;simp at h;omega
  subst z;refine⟨.inl ⟨0,rfl,?_⟩⟩;refine bW 0 31 [] () (fun _=>[]) (fun _=>[(1000,RB p),(1001,.win t pre [.sl []] post)]) (fun _ _=>True) trivial (aq rfl) trivial ⟨.inl ⟨_,rfl,.inl ⟨rfl,rfl⟩⟩,.inl ⟨_,rfl,.inl ⟨rfl,rfl⟩⟩,trivial⟩ (fun _=>rfl) (fun _=>rfl) ?_;rintro k ⟨⟩ hk _ _ _ _;exact cR [1000,1001] rfl rfl rfl rfl ⟨[],p,by rw[hD];rfl,rfl,rfl⟩
theorem fe {c:Type}{f:Dec c}:∀{n:Nat}{bs r:List UInt8}{xs:List c},bA f n bs=some (xs,r)->xs.length=n
 | 0,bs,r,xs,h=>by
  simp only[bA,x5,Prod.mk.injEq] at h;rw[<-h.1];rfl
 | n+1,bs,r,xs,h=>by
  simp only[bA] at h;split at h
  ·split at h
   ·rename_i ys e d;injection h with h
    injection h with h _
    rw[<-h,Xh,fe d]
   ·cases h
  ·cases h
theorem Ae {c:Type}(g:c->C):∀(ns:List c) (a b:List C) (zs:List C),zs.length=ns.length->Ad g (a++(zs++b)) ((List.range ns.length).map fun j=>a.length+j) ns=a++(ns.map g++b)
 | [],a,b,zs,h=>by
  have:zs=[]:=Xp (by simpa using h);subst this;rfl
 | n::ns,a,b,z::zs,h=>by
  have e:((List.range (n::ns).length).map fun j=>a.length+j)=a.length::(List.range ns.length).map (fun j=>(a++[g n]).length+j):=by
   rw[Xh,List.range_succ_eq_map,W6,XR];congr 1;apply XU;intro j _;simp;omega
  rw[e];simp only[Ad];rw[show(a++(z::zs++b)).set a.length (g n)=(a++[g n])++(zs++b) by rw[List.set_append_right _ _ (Xj _)];simp];rw[Ae g ns (a++[g n]) b zs (by simpa using h)];simp
theorem ints_at (a b:List C) (xs:List Int):∀o∈(List.range xs.length).map (fun j=>a.length+j),∃x,(a++(xs.map IC++b))[o]?=some (IC x):=by
 intro o d;obtain⟨j,c,rfl⟩:=Xv.1 d;have c:=List.mem_range.1 c;refine⟨xs[j],?_⟩;rw[Xe (by omega),show a.length+j-a.length=j by omega,W8 (by simpa using c)];simp[c]
theorem K8 (a b:List C) (xs:List Bool):∀o∈(List.range xs.length).map (fun j=>a.length+j),∃x,(a++(xs.map C.bool++b))[o]?=some (.bool x):=by
 intro o d;obtain⟨j,c,rfl⟩:=Xv.1 d;have c:=List.mem_range.1 c;refine⟨xs[j],?_⟩;rw[Xe (by omega),show a.length+j-a.length=j by omega,W8 (by simpa using c)];simp[c]
theorem yV (xs:List Int):bX (xs.map IC):=fun c d=>by
 obtain⟨x,_,rfl⟩:=Xv.1 d;exact .inl rfl
theorem wV (xs:List Bool):bX (xs.map C.bool):=fun c d=>by
 obtain⟨x,_,rfl⟩:=Xv.1 d;exact .inl rfl
theorem j7 {pre a:List C}{m:Nat}:((List.range m).map fun j=>(pre++a).length+j)=(List.range m).map fun j=>pre.length+(a.length+j):=by
 apply XU;intro j _;simp[Nat.add_assoc]
section
variable {t:Nat}{pre post a b:List C}{bs:List UInt8}
theorem ur (xs:List Int) (f:bX pre) (d:bX post) (k:bX a) (hb:bX b) :
  CallsTX PZ 55 [.ifo none 52 1000 0,.slo 1001 ((List.range xs.length).map fun j=>pre.length+(a.length+j))] [RB bs,.win t pre (a++(xs.map IC++b)) post]
   (fun Mo c=>∃ns r,bA ga xs.length bs=some (ns,r)/\Mo=[RB r,.win t pre (a++(ns.map IC++b)) post]/\c=.tup []) (fun v=>v=eS/\bA ga xs.length bs=none):=by
 have n:bX ([]:List C):=fun c s=>by cases s
 have h:=QM t (pre++(a++(xs.map IC++b))++post) ((List.range xs.length).map fun j=>(pre++a).length+j) bs ((f.append (k.append ((yV xs).append hb))).append d) (fun o p=>by
  have:=ints_at (pre++a) (b++post) xs o p;simpa using this)
 rw[j7] at h;refine h.view (vw.same (vw.cons (mP (by simp) (f.append (k.append ((yV xs).append hb)) |>.append d) n) (vw.refl []))) ?_ (fun v h=>by simpa using h);rintro Mo c ⟨ns,r,e,rfl,rfl⟩;rw[Xf,List.length_range] at e;have l:=fe e;have m:=Ae IC ns (pre++a) (b++post) (xs.map IC) (by simp[l]);rw[l,j7] at m;refine⟨_,vw.same (vw.cons (mP (pre':=pre) (cs':=a++(ns.map IC++b)) (post':=post) ?_ f d) (vw.refl [])),ns,r,e,rfl,rfl⟩;have q:pre++(a++(xs.map IC++b))++post=pre++a++(xs.map IC++(b++post)):=by simp
 rw[q,m];simp
theorem Ee (xs:List Bool) (f:bX pre) (d:bX post) (k:bX a) (hb:bX b) :
  CallsTX PZ 64 [.ifo none 52 1000 0,.slo 1001 ((List.range xs.length).map fun j=>pre.length+(a.length+j))] [RB bs,.win t pre (a++(xs.map C.bool++b)) post]
   (fun Mo c=>∃ns r,bA oU xs.length bs=some (ns,r)/\Mo=[RB r,.win t pre (a++(ns.map C.bool++b)) post]/\c=.tup []) (fun v=>v=eS/\bA oU xs.length bs=none):=by
 have n:bX ([]:List C):=fun c s=>by cases s
 have h:=QN t (pre++(a++(xs.map C.bool++b))++post) ((List.range xs.length).map fun j=>(pre++a).length+j) bs ((f.append (k.append ((wV xs).append hb))).append d) (fun o p=>by
  have:=K8 (pre++a) (b++post) xs o p;simpa using this)
 rw[j7] at h;refine h.view (vw.same (vw.cons (mP (by simp) (f.append (k.append ((wV xs).append hb)) |>.append d) n) (vw.refl []))) ?_ (fun v h=>by simpa using h);rintro Mo c ⟨ns,r,e,rfl,rfl⟩;rw[Xf,List.length_range] at e;have l:=fe e;have m:=Ae C.bool ns (pre++a) (b++post) (xs.map C.bool) (by simp[l]);rw[l,j7] at m;refine⟨_,vw.same (vw.cons (mP (pre':=pre) (cs':=a++(ns.map C.bool++b)) (post':=post) ?_ f d) (vw.refl [])),ns,r,e,rfl,rfl⟩;have q:pre++(a++(xs.map C.bool++b))++post=pre++a++(xs.map C.bool++(b++post)):=by simp
 rw[q,m];simp
theorem fV.at {m:Type}{f:Nat}{fi ca:List C}{d:Dec m}{z:List C}{cs:m->List C}(n:fV f fi ca d z cs) (k:bX pre) (j:bX post) (l:bX a) (hb:bX b) :
  CallsTX PZ f (fi++.ifo none 52 1000 0::.own 1001 (pre.length+a.length)::ca) [RB bs,.win t pre (a++(z++b)) post]
   (fun Mo c=>∃x r,d bs=some (x,r)/\Mo=[RB r,.win t pre (a++(cs x++b)) post]/\c=.tup []) (fun v=>v=eS/\d bs=none):=by
 have h:=n t (pre++a) (b++post) bs (k.append l) (hb.append j);rw[W4] at h;refine h.view (vw.same (vw.cons (mP (by simp) (k.append l) (hb.append j)) (vw.refl []))) ?_ fun _ h=>h;rintro Mo c ⟨x,r,e,rfl,rfl⟩;exact⟨_,vw.same (vw.cons (mP (by simp) k j) (vw.refl [])),x,r,e,rfl,rfl⟩
end
theorem wW {c:Type}{l:List c}(h:l.length=1):∃a,l=[a]:=by
 match l,h with | [a],_=>exact⟨a,rfl⟩
theorem CZ {c:Type}{l:List c}(h:l.length=2):∃a b,l=[a,b]:=by
 match l,h with | [a,b],_=>exact⟨a,b,rfl⟩
theorem wX {d:Type}{l:List d}(h:l.length=3):∃a b c,l=[a,b,c]:=by
 match l,h with | [a,b,c],_=>exact⟨a,b,c,rfl⟩
theorem K9 {e:Type}{l:List e}(h:l.length=4):∃a b c d,l=[a,b,c,d]:=by
 match l,h with | [a,b,c,d],_=>exact⟨a,b,c,d,rfl⟩
theorem Lb {f:Type}{l:List f}(h:l.length=5):∃a b c d e,l=[a,b,c,d,e]:=by
 match l,h with | [a,b,c,d,e],_=>exact⟨a,b,c,d,e,rfl⟩
theorem dN:bX ([]:List C):=fun c a=>by cases a
theorem QZ:fV 71 [] [] ga [IC 0] (fun n=>[IC n]):=by
 intro t pre post bs a b;refine ai Tryd.func71 D3 rfl fun d c=>?_;refine⟨113,Nx,?_⟩;refine bO [1000,1001] (Nw t pre post 0 bs a b) rfl rfl rfl rfl (fun v h=>h) ?_;rintro v Mo ⟨n,r,e,rfl,rfl⟩ _ _;refine⟨rfl,?_⟩;exact cR [1000,1001] rfl rfl rfl rfl ⟨n,r,e,rfl,rfl⟩
theorem Q0:fV 48 [] [] Qo [.bool false] HI:=by
 intro t pre post bs d f;have hb:=Ee (t:=t) (bs:=bs) (a:=[]) (b:=[]) [false] d f dN dN;refine ai Tryd.func48 DJ rfl fun k j=>?_;refine bO [1000,1001] hb rfl rfl rfl rfl (fun v ⟨e,h⟩=>⟨e,aR h⟩) ?_;rintro v Mo ⟨ns,r,e,rfl,rfl⟩ _ _;refine qa (wW (fe e)) fun n c=>?_;cases c;refine⟨rfl,?_⟩;exact cR [1000,1001] rfl rfl rfl rfl ⟨n,r,aj e,rfl,rfl⟩
theorem O8 (d:Int):CallsT PZ 85 [IC d] [] (iF [] (.fn 95 [] [.pt [IC d] 0])):=by
 refine au Tryd.func85 KI rfl fun a _=>?_;exact bD rfl rfl
theorem ent (f:Nat) {fn:Func}(h:PZ.funcs[f]?=some fn) (h2:fn.body.isSome=true) (h3:(fn.name == "runtime.NumGoroutine")=false):lX PZ f:=⟨fn,h,h2,h3⟩
theorem Ef (x:Vl):xw 8 (rE x):=by
 cases x;exact⟨rfl,rfl,rfl⟩
def zV:List C:=[IC 0,IC 0,IC 0,IC 0,.sl [],.bool false,.sl [],.sl []]
theorem Lc (n:Int):xw 1 [IC n]:=⟨rfl,rfl,rfl⟩
theorem u5:fV 70 [] [.fn 71 [] []] (dz ga) [.sl []] (fun l=>[.sl (wL l)]):=QO QZ (ent 71 Tryd.func71 rfl rfl) Lc
theorem O9:∀d:Nat,(d:Int)<=60->fV 95 [] [.pt [IC d] 0] (K3 d) zV rE
 | 0,hd=>by
  intro t pre post bs r s;refine ai Tryd.func95 uX rfl fun hw x=>?_;refine tO (sN false) rfl (fun h=>⟨rfl,rfl⟩) fun h=>by cases h
 | d+1,hd=>by
  intro t pre post bs r s;have ih:=O9 d (by omega);have hl:=O7 ih (ent 95 Tryd.func95 rfl rfl) Ef;have hn:=ur (t:=t) (bs:=bs) (a:=[]) (b:=[.sl [],.bool false,.sl [],.sl []]) [0,0,0,0] r s dN (aO rfl);refine ai Tryd.func95 uX rfl fun hw x=>?_;refine aV (fun h0=>?_) (fun h0=>vz (show(0:Int)<((d+1:Nat):Int) by omega) h0);refine tO (sN true) rfl (fun h=>by cases h) fun _=>?_;refine bY [1000,1001] hn rfl rfl rfl rfl (fun v ⟨e,h⟩=>⟨e,by simp only[K3];exact aR h⟩) ?_;rintro v Mo ⟨ns,y,f,rfl,rfl⟩ _ _;refine qa (K9 (fe f)) fun k c=>qa c fun i c=>qa c fun j c=>qa c fun n c=>?_;cases c;have f:bA ga 4 bs=some ([k,i,j,n],y):=f;refine⟨rfl,?_⟩;refine Fit.to (m:=(d:Int)) (by rw[show((d+1:Nat):Int)-1=(d:Int) by omega];exact bM (by omega) (by omega)) ?_;refine jq (O8 d) rfl fun _=>?_;refine bY [1000,1001] (hl.at (t:=t) (bs:=y) (a:=[IC k,IC i,IC j,IC n]) (b:=[.bool false,.sl [],.sl []]) r s (aO rfl) (aO rfl)) rfl rfl rfl rfl (fun v ⟨e,h⟩=>⟨e,by simp only[K3];rw[aj f,aR h]⟩) ?_;rintro v Mo ⟨u,z,w,rfl,rfl⟩ _ _;refine⟨rfl,?_⟩;refine bO [1000,1001] (Ee (t:=t) (bs:=z) (a:=[IC k,IC i,IC j,IC n,.sl (u.map rE)]) (b:=[.sl [],.sl []]) [false] r s (aO rfl) (aO rfl)) rfl rfl rfl rfl (fun v ⟨e,h⟩=>⟨e,by simp only[K3];rw[aj f,aj w];exact aR h⟩) ?_;rintro v Mo ⟨ns,r3,o,rfl,rfl⟩ _ _;refine qa (wW (fe o)) fun ex c=>?_;cases c;have o:bA oU 1 z=some ([ex],r3):=o;refine⟨rfl,?_⟩;refine bO [1000,1001] (u5.at (t:=t) (bs:=r3) (a:=[IC k,IC i,IC j,IC n,.sl (u.map rE),.bool ex]) (b:=[.sl []]) r s (aO rfl) (aO rfl)) rfl rfl rfl rfl (fun v ⟨e,h⟩=>⟨e,by simp only[K3];rw[aj f,aj w,aj o,aR h]⟩) ?_;rintro v Mo ⟨p,r4,e4,rfl,rfl⟩ _ _;refine⟨rfl,?_⟩;refine bO [1000,1001] (u5.at (t:=t) (bs:=r4) (a:=[IC k,IC i,IC j,IC n,.sl (u.map rE),.bool ex,.sl (wL p)]) (b:=[]) r s (aO rfl) (aO rfl)) rfl rfl rfl rfl (fun v ⟨e,h⟩=>⟨e,by simp only[K3];rw[aj f,aj w,aj o,aj e4,aR h]⟩) ?_;rintro v Mo ⟨l,r5,e5,rfl,rfl⟩ _ _;refine⟨rfl,?_⟩;refine cR [1000,1001] rfl rfl rfl rfl ⟨.mk k i j n u ex p l,r5,by simp only[K3];rw[aj f,aj w,aj o,aj e4,aj e5];rfl,?_,rfl⟩;exact o6 (fun q=>[RB r5,TO.win t pre [IC k,IC i,IC j,IC n,.sl q,.bool ex,.sl (wL p),.sl (wL l)] post]) (sH u).symm
theorem Pb:fV 65 [] [] HJ zV rE:=by
 intro t pre post bs a b;have h:=O9 60 (by omega) t pre post bs a b;refine ai Tryd.func65 DU rfl fun d c=>?_;refine bL (O8 60) rfl fun _=>?_;refine bO [1000,1001] h rfl rfl rfl rfl (fun v h=>h) ?_;rintro v Mo ⟨x,r,e,rfl,rfl⟩ _ _;cases x;refine⟨rfl,?_⟩;exact cR [1000,1001] rfl rfl rfl rfl ⟨_,r,e,rfl,rfl⟩
theorem Pc:fV 52 [] [] PN [.sl []] LU:=by
 intro t pre post bs a b;have h:=QY Pb (ent 65 Tryd.func65 rfl rfl) Ef t pre post bs a b;refine ai Tryd.func52 DN rfl fun d c=>?_;refine bO [1000,1001] h rfl rfl rfl rfl (fun v h=>h) ?_;rintro v Mo ⟨x,r,e,rfl,rfl⟩ _ _;refine⟨rfl,?_⟩;exact cR [1000,1001] rfl rfl rfl rfl ⟨x,r,e,rfl,rfl⟩
theorem Q5:fV 46 [] [] N7 (.bool false::IC 0::zV) D5:=by
 intro t pre post bs k l;refine ai Tryd.func46 DH rfl fun q p=>?_;refine bO [1000,1001] (Ee (t:=t) (bs:=bs) (a:=[]) (b:=IC 0::zV) [false] k l dN (aO rfl)) rfl rfl rfl rfl (fun v ⟨e,h⟩=>⟨e,aR h⟩) ?_;rintro v Mo ⟨ns,j,c,rfl,rfl⟩ _ _;refine qa (wW (fe c)) fun b f=>?_;cases f;have c:bA oU 1 bs=some ([b],j):=c;refine⟨rfl,?_⟩;refine bO [1000,1001] (ur (t:=t) (bs:=j) (a:=[.bool b]) (b:=zV) [0] k l (aO rfl) (aO rfl)) rfl rfl rfl rfl (fun v ⟨e,h⟩=>⟨e,by unfold N7;rw[aj c];exact aR h⟩) ?_;rintro v Mo ⟨ns,m,d,rfl,rfl⟩ _ _;refine qa (wW (fe d)) fun a f=>?_;cases f;have d:bA ga 1 j=some ([a],m):=d;refine⟨rfl,?_⟩;refine bO [1000,1001] (Pb.at (t:=t) (bs:=m) (a:=[.bool b,IC a]) (b:=[]) k l (aO rfl) dN) rfl rfl rfl rfl (fun v ⟨e,h⟩=>⟨e,by unfold N7;rw[aj c,aj d,aR h]⟩) ?_;rintro v Mo ⟨x,o,n,rfl,rfl⟩ _ _;cases x;refine⟨rfl,?_⟩;exact cR [1000,1001] rfl rfl rfl rfl ⟨⟨b,a,.mk _ _ _ _ _ _ _ _⟩,o,by unfold N7;rw[aj c,aj d,aj n];rfl,rfl,rfl⟩
theorem Q6:fV 67 [] [] N8 [IC 0,IC 0,IC 0,IC 0,IC 0,.sl [],.sl []] FI:=by
 intro t pre post bs o p;refine ai Tryd.func67 DW rfl fun z y=>?_;refine bY [1000,1001] (ur (t:=t) (bs:=bs) (a:=[]) (b:=[.sl [],.sl []]) [0,0,0,0,0] o p dN (aO rfl)) rfl rfl rfl rfl (fun v ⟨e,h⟩=>⟨e,aR h⟩) ?_;rintro v Mo ⟨ns,r,d,rfl,rfl⟩ _ _;refine qa (Lb (fe d)) fun j c=>qa c fun n c=>qa c fun k c=>qa c fun m c=>qa c fun f c=>?_;cases c;have d:bA ga 5 bs=some ([j,n,k,m,f],r):=d;refine⟨rfl,?_⟩;refine bO [1000,1001] (Pc.at (t:=t) (bs:=r) (a:=[IC j,IC n,IC k,IC m,IC f]) (b:=[.sl []]) o p (aO rfl) (aO rfl)) rfl rfl rfl rfl (fun v ⟨e,h⟩=>⟨e,by unfold N8;rw[aj d,aR h]⟩) ?_;rintro v Mo ⟨s,w,q,rfl,rfl⟩ _ _;refine⟨rfl,?_⟩;refine bO [1000,1001] (u5.at (t:=t) (bs:=w) (a:=[IC j,IC n,IC k,IC m,IC f,.sl (s.map rE)]) (b:=[]) o p (aO rfl) dN) rfl rfl rfl rfl (fun v ⟨e,h⟩=>⟨e,by unfold N8;rw[aj d,aj q,aR h]⟩) ?_;rintro v Mo ⟨l,x,u,rfl,rfl⟩ _ _;refine⟨rfl,?_⟩;exact cR [1000,1001] rfl rfl rfl rfl ⟨⟨j,n,k,m,f,s,l⟩,x,by unfold N8;rw[aj d,aj q,aj u];rfl,rfl,rfl⟩
theorem Q7:fV 69 [] [] OT [IC 0,IC 0,.bool false,.bool false,.bool false] Ip:=by
 intro t pre post bs o r;refine ai Tryd.func69 DY rfl fun u s=>?_;refine bY [1000,1001] (ur (t:=t) (bs:=bs) (a:=[]) (b:=[.bool false,.bool false,.bool false]) [0,0] o r dN (aO rfl)) rfl rfl rfl rfl (fun v ⟨e,h⟩=>⟨e,aR h⟩) ?_;rintro v Mo ⟨ns,j,d,rfl,rfl⟩ _ _;refine qa (CZ (fe d)) fun k c=>qa c fun l c=>?_;cases c;have d:bA ga 2 bs=some ([k,l],j):=d;refine⟨rfl,?_⟩;refine bY [1000,1001] (Ee (t:=t) (bs:=j) (a:=[IC k,IC l]) (b:=[]) [false,false,false] o r (aO rfl) dN) rfl rfl rfl rfl (fun v ⟨e,h⟩=>⟨e,by unfold OT;rw[aj d];exact aR h⟩) ?_;rintro v Mo ⟨ns,p,f,rfl,rfl⟩ _ _;refine qa (wX (fe f)) fun n c=>qa c fun m c=>qa c fun q c=>?_;cases c;have f:bA oU 3 j=some ([n,m,q],p):=f;refine⟨rfl,?_⟩;exact cR [1000,1001] rfl rfl rfl rfl ⟨⟨k,l,n,m,q⟩,p,by unfold OT;rw[aj d,aj f];rfl,rfl,rfl⟩
theorem Ld (x:Ac):xw 7 (FI x):=⟨rfl,rfl,rfl⟩
theorem Le (x:Ln):xw 5 (Ip x):=⟨rfl,rfl,rfl⟩
theorem Lg (x:Tk):xw 7 (D6 x):=⟨rfl,rfl,rfl⟩
theorem Lh (x:Ou):xw 2 (LV x):=⟨rfl,rfl,rfl⟩
theorem Lj (x:Bool):xw 1 (HI x):=⟨rfl,rfl,rfl⟩
theorem Ll (x:List Vl):xw 1 (LU x):=⟨rfl,rfl,rfl⟩
theorem Lm (x:Ce):xw 10 (D5 x):=by
 obtain⟨a,b,v⟩:=x;cases v;exact⟨rfl,rfl,rfl⟩
theorem Ny:fV 66 [] [.fn 67 [] []] (dz N8) [.sl []] (fun l=>[.sl (l.map FI)]):=QW Q6 (ent 67 Tryd.func67 rfl rfl) Ld
theorem Nz:fV 68 [] [.fn 69 [] []] (dz OT) [.sl []] (fun l=>[.sl (l.map Ip)]):=QX Q7 (ent 69 Tryd.func69 rfl rfl) Le
theorem Q8:fV 50 [] [] LX [IC 0,.sl [],.sl [],IC 0,IC 0,IC 0,.sl []] D6:=by
 intro t pre post bs m p;refine ai Tryd.func50 DL rfl fun hw aa=>?_;refine bO [1000,1001] (ur (t:=t) (bs:=bs) (a:=[]) (b:=[.sl [],.sl [],IC 0,IC 0,IC 0,.sl []]) [0] m p dN (aO rfl)) rfl rfl rfl rfl (fun v ⟨e,h⟩=>⟨e,aR h⟩) ?_;rintro v Mo ⟨ns,u,j,rfl,rfl⟩ _ _;refine qa (wW (fe j)) fun s k=>?_;cases k;have j:bA ga 1 bs=some ([s],u):=j;refine⟨rfl,?_⟩;refine bO [1000,1001] (Ny.at (t:=t) (bs:=u) (a:=[IC s]) (b:=[.sl [],IC 0,IC 0,IC 0,.sl []]) m p (aO rfl) (aO rfl)) rfl rfl rfl rfl (fun v ⟨e,h⟩=>⟨e,by unfold LX;rw[aj j,aR h]⟩) ?_;rintro v Mo ⟨f,y,q,rfl,rfl⟩ _ _;refine⟨rfl,?_⟩;refine bO [1000,1001] (Nz.at (t:=t) (bs:=y) (a:=[IC s,.sl (f.map FI)]) (b:=[IC 0,IC 0,IC 0,.sl []]) m p (aO rfl) (aO rfl)) rfl rfl rfl rfl (fun v ⟨e,h⟩=>⟨e,by unfold LX;rw[aj j,aj q,aR h]⟩) ?_;rintro v Mo ⟨l,x,r,rfl,rfl⟩ _ _;refine⟨rfl,?_⟩;refine bY [1000,1001] (ur (t:=t) (bs:=x) (a:=[IC s,.sl (f.map FI),.sl (l.map Ip)]) (b:=[.sl []]) [0,0,0] m p (aO rfl) (aO rfl)) rfl rfl rfl rfl (fun v ⟨e,h⟩=>⟨e,by unfold LX;rw[aj j,aj q,aj r];exact aR h⟩) ?_;rintro v Mo ⟨ns,w,o,rfl,rfl⟩ _ _;refine qa (wX (fe o)) fun a k=>qa k fun c k=>qa k fun n k=>?_;cases k;have o:bA ga 3 x=some ([a,c,n],w):=o;refine⟨rfl,?_⟩;refine bO [1000,1001] (u5.at (t:=t) (bs:=w) (a:=[IC s,.sl (f.map FI),.sl (l.map Ip),IC a,IC c,IC n]) (b:=[]) m p (aO rfl) dN) rfl rfl rfl rfl (fun v ⟨e,h⟩=>⟨e,by unfold LX;rw[aj j,aj q,aj r,aj o,aR h]⟩) ?_;rintro v Mo ⟨d,z,e5,rfl,rfl⟩ _ _;refine⟨rfl,?_⟩;exact cR [1000,1001] rfl rfl rfl rfl ⟨⟨s,f,l,a,c,n,d⟩,z,by unfold LX;rw[aj j,aj q,aj r,aj o,aj e5];rfl,rfl,rfl⟩
theorem Q9:fV 54 [] [] Qn [IC 0,IC 0] LV:=by
 intro t pre post bs l m;refine ai Tryd.func54 DQ rfl fun o n=>?_;refine bY [1000,1001] (ur (t:=t) (bs:=bs) (a:=[]) (b:=[]) [0,0] l m dN dN) rfl rfl rfl rfl (fun v ⟨e,h⟩=>⟨e,aR h⟩) ?_;rintro v Mo ⟨ns,f,c,rfl,rfl⟩ _ _;refine qa (CZ (fe c)) fun j d=>qa d fun k d=>?_;cases d;have c:bA ga 2 bs=some ([j,k],f):=c;refine⟨rfl,?_⟩;exact cR [1000,1001] rfl rfl rfl rfl ⟨⟨j,k⟩,f,aj c,rfl,rfl⟩
theorem NA:fV 45 [] [.fn 46 [] []] (dz N7) [.sl []] (fun l=>[.sl (l.map D5)]):=QS Q5 (ent 46 Tryd.func46 rfl rfl) Lm
theorem NC:fV 47 [] [.fn 48 [] []] (dz Qo) [.sl []] (fun l=>[.sl (l.map HI)]):=QR Q0 (ent 48 Tryd.func48 rfl rfl) Lj
theorem ND:fV 49 [] [.fn 50 [] []] (dz LX) [.sl []] (fun l=>[.sl (l.map D6)]):=QT Q8 (ent 50 Tryd.func50 rfl rfl) Lg
theorem NE:fV 51 [] [.fn 52 [] []] (dz PN) [.sl []] (fun l=>[.sl (l.map LU)]):=QU Pc (ent 52 Tryd.func52 rfl rfl) Ll
theorem NF:fV 53 [] [.fn 54 [] []] (dz Qn) [.sl []] (fun l=>[.sl (l.map LV)]):=QV Q9 (ent 54 Tryd.func54 rfl rfl) Lh
theorem Ra (t:Nat) (f d:List (List C)) (j:Int) (bs:List UInt8):CallsTX PZ 33 [.ifo none 52 1000 0,.own 1001 0] [RB bs,.box t [.sl f,.sl d,IC j,.sl [],.sl [],.sl [],.sl [],.sl [],IC 0,IC 0,IC 0]]
  (fun Mo c=>∃x r,D7 bs=some (x,r)/\Mo=[RB r,.box t (.sl f::.sl d::IC j::N0 x)]/\c=.tup []) (fun v=>v=eS/\D7 bs=none):=by
 refine CallsTX.view (Lin:=[RB bs,.win t [] ([.sl f,.sl d,IC j]++[.sl [],.sl [],.sl [],.sl [],.sl [],IC 0,IC 0,IC 0]) []])
  (R:=fun Mo c=>∃x r,D7 bs=some (x,r)/\Mo=[RB r,.win t [] ([.sl f,.sl d,IC j]++N0 x) []]/\c=.tup []) (Pp:=fun v=>v=eS/\D7 bs=none) ?_
  (vw.same (vw.cons (u4 rfl dN dN) (vw.refl []))) (fun Mo c ⟨x,r,e,q1,q2⟩=>⟨_,by rw[q1];exact vw.same (vw.cons (z6 (by simp)) (vw.refl [])),x,r,e,rfl,q2⟩) fun _ h=>h
 refine ai Tryd.func33 DE rfl fun hw ao=>?_;refine bO [1000,1001] (NA.at (t:=t) (bs:=bs) (pre:=[]) (post:=[]) (a:=[.sl f,.sl d,IC j]) (b:=[.sl [],.sl [],.sl [],.sl [],IC 0,IC 0,IC 0]) dN dN (aO rfl) (aO rfl)) rfl rfl rfl rfl (fun v ⟨e,h⟩=>⟨e,aR h⟩) ?_;rintro v Mo ⟨l,r1,k,rfl,rfl⟩ _ _;refine⟨rfl,?_⟩;refine bO [1000,1001] (NC.at (t:=t) (bs:=r1) (pre:=[]) (post:=[]) (a:=[.sl f,.sl d,IC j,.sl (l.map D5)]) (b:=[.sl [],.sl [],.sl [],IC 0,IC 0,IC 0]) dN dN (aO rfl) (aO rfl)) rfl rfl rfl rfl (fun v ⟨e,h⟩=>⟨e,by unfold D7;rw[aj k,aR h]⟩) ?_;rintro v Mo ⟨p,r2,o,rfl,rfl⟩ _ _;refine⟨rfl,?_⟩;refine bO [1000,1001] (ND.at (t:=t) (bs:=r2) (pre:=[]) (post:=[]) (a:=[.sl f,.sl d,IC j,.sl (l.map D5),.sl (p.map HI)]) (b:=[.sl [],.sl [],IC 0,IC 0,IC 0]) dN dN (aO rfl) (aO rfl)) rfl rfl rfl rfl (fun v ⟨e,h⟩=>⟨e,by unfold D7;rw[aj k,aj o,aR h]⟩) ?_;rintro v Mo ⟨q,r3,s,rfl,rfl⟩ _ _;refine⟨rfl,?_⟩;refine bO [1000,1001] (NE.at (t:=t) (bs:=r3) (pre:=[]) (post:=[]) (a:=[.sl f,.sl d,IC j,.sl (l.map D5),.sl (p.map HI),.sl (q.map D6)]) (b:=[.sl [],IC 0,IC 0,IC 0]) dN dN (aO rfl) (aO rfl)) rfl rfl rfl rfl (fun v ⟨e,h⟩=>⟨e,by unfold D7;rw[aj k,aj o,aj s,aR h]⟩) ?_;rintro v Mo ⟨w,r4,y,rfl,rfl⟩ _ _;refine⟨rfl,?_⟩;refine bO [1000,1001] (NF.at (t:=t) (bs:=r4) (pre:=[]) (post:=[]) (a:=[.sl f,.sl d,IC j,.sl (l.map D5),.sl (p.map HI),.sl (q.map D6),.sl (w.map LU)]) (b:=[IC 0,IC 0,IC 0]) dN dN (aO rfl) (aO rfl)) rfl rfl rfl rfl (fun v ⟨e,h⟩=>⟨e,by unfold D7;rw[aj k,aj o,aj s,aj y,aR h]⟩) ?_;rintro v Mo ⟨z,r5,e5,rfl,rfl⟩ _ _;refine⟨rfl,?_⟩;refine bY [1000,1001] (ur (t:=t) (bs:=r5) (pre:=[]) (post:=[]) (a:=[.sl f,.sl d,IC j,.sl (l.map D5),.sl (p.map HI),.sl (q.map D6),.sl (w.map LU),.sl (z.map LV)]) (b:=[]) [0,0,0] dN dN (aO rfl) dN) rfl rfl rfl rfl (fun v ⟨e,h⟩=>⟨e,by unfold D7;rw[aj k,aj o,aj s,aj y,aj e5];exact aR h⟩) ?_;rintro v Mo ⟨ns,r6,u,rfl,rfl⟩ _ _;refine qa (wX (fe u)) fun a m=>qa m fun c m=>qa m fun n m=>?_;cases m;have u:bA ga 3 r5=some ([a,c,n],r6):=u;refine⟨rfl,?_⟩;exact cR [1000,1001] rfl rfl rfl rfl ⟨⟨l,p,q,w,z,a,c,n⟩,r6,by unfold D7;rw[aj k,aj o,aj s,aj y,aj e5,aj u];rfl,rfl,rfl⟩
end Go.Fr.Tryd
