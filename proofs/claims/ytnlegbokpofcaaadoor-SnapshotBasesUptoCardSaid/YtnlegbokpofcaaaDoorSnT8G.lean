/- Part of the proofs of the statements of this seat. -/
import Derived.Test.YtnlegbokpofcaaaDoorSnT5G
set_option maxRecDepth 10000
set_option linter.unusedVariables false
set_option linter.unusedSimpArgs false
namespace Go.Fr.Tryd
open Go Go.RowKit Go.Proofs Go.Fr Go.Fr.T Go.Fr.Api
theorem QS {α:Type}{f:Nat}{a:Dec α}{cs:α->List C}(u:fV f [] [] a [IC 0] cs) (he:lY PZ f) (ac:∀x,xw 1 (cs x)):fV 70 [] [.fn f [] []] (dz a) [.sl []] (fun l=>[.sl (l.map cs)]):=by
 intro t pre post bs _ _;refine ai Tryd.func70 D4 rfl fun hw ap=>?_;refine⟨.inl ⟨0,rfl,?_⟩⟩;refine⟨rfl,?_⟩;refine⟨114,xT,?_⟩;refine bY [1000] (xS 0 bs) rfl rfl rfl rfl (fun v ⟨e,h⟩=>⟨e,aR h⟩) ?_;rintro v Mo ⟨n,o,e0,rfl,rfl⟩ _ _;refine⟨rfl,?_⟩;have hD:dz a bs=bA a n o:=aj e0;have hn:=j7 e0;refine⟨.inl ⟨0,rfl,?_⟩⟩;refine aF (fun hb=>?_) (fun hb=>?_)
 ·refine⟨by omega,Xw _,by omega,by simp only[maxLen];omega,?_⟩;refine⟨.inl ⟨0,rfl,?_⟩⟩;refine⟨.inl ⟨0,rfl,?_⟩⟩;have w:∀m:Nat,((List.replicate m [IC 0]:List (List C)).length:Int)=m:=fun m=>by simp
  refine bW n 31 [] (([],o):List α×List UInt8) (fun _=>[]) (fun s=>[(25,.row 3 1 (s.1.map cs++List.replicate (n-s.1.length) [IC 0])),(1000,RB s.2),(1001,.win t pre [.rw 25] post)])
   (fun k s=>s.1.length=k/\(∀xs r,bA a (n-k) s.2=some (xs,r)->bA a n o=some (s.1++xs,r))/\(bA a (n-k) s.2=none->bA a n o=none))
   ⟨rfl,fun xs r h=>h,fun h=>h⟩ (aq rfl) trivial ⟨.inl ⟨_,rfl,.inl ⟨rfl,rfl⟩⟩,.inl ⟨_,rfl,.inl ⟨rfl,rfl⟩⟩,.inl ⟨_,rfl,.inl ⟨rfl,rfl⟩⟩,trivial⟩ (fun _=>rfl) (fun _=>rfl) ?_
  rintro k ⟨done,b⟩ hk ⟨h1,p,y⟩ _ _ ag;simp only at h1 p y;refine aV (fun c=>?_) (fun j=>?_)
  ·have c:k<n:=by have h:(k:Int)<((List.replicate n [IC 0]:List (List C)).length:Int):=c;rw[w] at h;omega
   refine⟨.inl ⟨0,rfl,?_⟩⟩;refine⟨by omega,by simp;omega,?_⟩;refine m5 [1000,25] (gG (e:=3) (sz:=1) (ca:=[]) u he rfl (fun d u=>by
    rcases W7.1 u with rfl | u
    ·exact⟨rfl,rfl⟩
    ·cases u) ac ⟨rfl,rfl,rfl⟩ h1 c b) rfl rfl rfl rfl (fun v ⟨e,h⟩=>⟨e,?_⟩) ?_
   ·rw[hD];exact y (by rw[show n-k=(n-(k+1))+1 by omega];simp only[bA,h])
   rintro v Mo ⟨x,r,e1,rfl,rfl⟩ _ _;refine⟨rfl,?_⟩;refine Fit.Wk (by omega) (by omega) ?_;rw[show n-k=(n-(k+1))+1 by omega] at p y;simp only[bA,e1] at p y;refine⟨(k+1,done++[x],r),⟨by omega,by simp[h1],fun xs r' h=>?_,fun h=>?_⟩,⟨cF,trivial⟩,⟨.inl ⟨_,rfl,.inl ⟨rfl,rfl⟩⟩,.inl ⟨_,rfl,.inl ⟨rfl,rfl⟩⟩,.inl ⟨_,rfl,.inl ⟨rfl,rfl⟩⟩,trivial⟩,cG c⟩
   ·rw[p (x::xs) r' (by simp only[h])];simp
   ·exact y (by simp only[h])
  ·have j:n-k=0:=by
    have h:¬(k:Int)<((List.replicate n [IC 0]:List (List C)).length:Int):=j;rw[w] at h;omega
   rw[j] at p;have hf:=p [] b rfl;rw[Xp] at hf;refine qd [25] [1000,1001] ⟨_,_,rfl,rfl,rfl,done,b,by rw[hD];exact hf,?_,rfl⟩;have hl:n-done.length=0:=by omega
   exact p7 (fun q=>[RB b,TO.win t pre [C.sl q] post]) (show done.map cs++List.replicate (n-done.length) [IC 0]=done.map cs by rw[hl];simp)
 ·have z:n=0:=by
   have h:=hb;simp at h;omega
  subst z;refine⟨.inl ⟨0,rfl,?_⟩⟩;refine bW 0 31 [] () (fun _=>[]) (fun _=>[(1000,RB o),(1001,.win t pre [.sl []] post)]) (fun _ _=>True) trivial (aq rfl) trivial ⟨.inl ⟨_,rfl,.inl ⟨rfl,rfl⟩⟩,.inl ⟨_,rfl,.inl ⟨rfl,rfl⟩⟩,trivial⟩ (fun _=>rfl) (fun _=>rfl) ?_;rintro k ⟨⟩ hk _ _ _ _;exact cR [1000,1001] rfl rfl rfl rfl ⟨[],o,by rw[hD];rfl,rfl,rfl⟩
theorem QT {α:Type}{f:Nat}{a:Dec α}{cs:α->List C}(u:fV f [] [] a [.bool false] cs) (he:lY PZ f) (ac:∀x,xw 1 (cs x)):fV 47 [] [.fn f [] []] (dz a) [.sl []] (fun l=>[.sl (l.map cs)]):=by
 intro t pre post bs _ _;refine ai Tryd.func47 DK rfl fun hw ap=>?_;refine⟨.inl ⟨0,rfl,?_⟩⟩;refine⟨rfl,?_⟩;refine⟨114,xT,?_⟩;refine bY [1000] (xS 0 bs) rfl rfl rfl rfl (fun v ⟨e,h⟩=>⟨e,aR h⟩) ?_;rintro v Mo ⟨n,o,e0,rfl,rfl⟩ _ _;refine⟨rfl,?_⟩;have hD:dz a bs=bA a n o:=aj e0;have hn:=j7 e0;refine⟨.inl ⟨0,rfl,?_⟩⟩;refine aF (fun hb=>?_) (fun hb=>?_)
 ·refine⟨by omega,Xw _,by omega,by simp only[maxLen];omega,?_⟩;refine⟨.inl ⟨0,rfl,?_⟩⟩;refine⟨.inl ⟨0,rfl,?_⟩⟩;have w:∀m:Nat,((List.replicate m [.bool false]:List (List C)).length:Int)=m:=fun m=>by simp
  refine bW n 31 [] (([],o):List α×List UInt8) (fun _=>[]) (fun s=>[(25,.row 4 1 (s.1.map cs++List.replicate (n-s.1.length) [.bool false])),(1000,RB s.2),(1001,.win t pre [.rw 25] post)])
   (fun k s=>s.1.length=k/\(∀xs r,bA a (n-k) s.2=some (xs,r)->bA a n o=some (s.1++xs,r))/\(bA a (n-k) s.2=none->bA a n o=none))
   ⟨rfl,fun xs r h=>h,fun h=>h⟩ (aq rfl) trivial ⟨.inl ⟨_,rfl,.inl ⟨rfl,rfl⟩⟩,.inl ⟨_,rfl,.inl ⟨rfl,rfl⟩⟩,.inl ⟨_,rfl,.inl ⟨rfl,rfl⟩⟩,trivial⟩ (fun _=>rfl) (fun _=>rfl) ?_
  rintro k ⟨done,b⟩ hk ⟨h1,p,y⟩ _ _ ag;simp only at h1 p y;refine aV (fun c=>?_) (fun j=>?_)
  ·have c:k<n:=by have h:(k:Int)<((List.replicate n [.bool false]:List (List C)).length:Int):=c;rw[w] at h;omega
   refine⟨.inl ⟨0,rfl,?_⟩⟩;refine⟨by omega,by simp;omega,?_⟩;refine m5 [1000,25] (gG (e:=4) (sz:=1) (ca:=[]) u he rfl (fun d u=>by
    rcases W7.1 u with rfl | u
    ·exact⟨rfl,rfl⟩
    ·cases u) ac ⟨rfl,rfl,rfl⟩ h1 c b) rfl rfl rfl rfl (fun v ⟨e,h⟩=>⟨e,?_⟩) ?_
   ·rw[hD];exact y (by rw[show n-k=(n-(k+1))+1 by omega];simp only[bA,h])
   rintro v Mo ⟨x,r,e1,rfl,rfl⟩ _ _;refine⟨rfl,?_⟩;refine Fit.Wk (by omega) (by omega) ?_;rw[show n-k=(n-(k+1))+1 by omega] at p y;simp only[bA,e1] at p y;refine⟨(k+1,done++[x],r),⟨by omega,by simp[h1],fun xs r' h=>?_,fun h=>?_⟩,⟨cF,trivial⟩,⟨.inl ⟨_,rfl,.inl ⟨rfl,rfl⟩⟩,.inl ⟨_,rfl,.inl ⟨rfl,rfl⟩⟩,.inl ⟨_,rfl,.inl ⟨rfl,rfl⟩⟩,trivial⟩,cG c⟩
   ·rw[p (x::xs) r' (by simp only[h])];simp
   ·exact y (by simp only[h])
  ·have j:n-k=0:=by
    have h:¬(k:Int)<((List.replicate n [.bool false]:List (List C)).length:Int):=j;rw[w] at h;omega
   rw[j] at p;have hf:=p [] b rfl;rw[Xp] at hf;refine qd [25] [1000,1001] ⟨_,_,rfl,rfl,rfl,done,b,by rw[hD];exact hf,?_,rfl⟩;have hl:n-done.length=0:=by omega
   exact p7 (fun q=>[RB b,TO.win t pre [C.sl q] post]) (show done.map cs++List.replicate (n-done.length) [.bool false]=done.map cs by rw[hl];simp)
 ·have z:n=0:=by
   have h:=hb;simp at h;omega
  subst z;refine⟨.inl ⟨0,rfl,?_⟩⟩;refine bW 0 31 [] () (fun _=>[]) (fun _=>[(1000,RB o),(1001,.win t pre [.sl []] post)]) (fun _ _=>True) trivial (aq rfl) trivial ⟨.inl ⟨_,rfl,.inl ⟨rfl,rfl⟩⟩,.inl ⟨_,rfl,.inl ⟨rfl,rfl⟩⟩,trivial⟩ (fun _=>rfl) (fun _=>rfl) ?_;rintro k ⟨⟩ hk _ _ _ _;exact cR [1000,1001] rfl rfl rfl rfl ⟨[],o,by rw[hD];rfl,rfl,rfl⟩
theorem QU {α:Type}{f:Nat}{a:Dec α}{cs:α->List C}(u:fV f [] [] a [.bool false,IC 0,IC 0,IC 0,IC 0,IC 0,.sl [],.bool false,.sl [],.sl []] cs) (he:lY PZ f) (ac:∀x,xw 10 (cs x)):fV 45 [] [.fn f [] []] (dz a) [.sl []] (fun l=>[.sl (l.map cs)]):=by
 intro t pre post bs _ _;refine ai Tryd.func45 DI rfl fun hw ap=>?_;refine⟨.inl ⟨0,rfl,?_⟩⟩;refine⟨rfl,?_⟩;refine⟨114,xT,?_⟩;refine bY [1000] (xS 0 bs) rfl rfl rfl rfl (fun v ⟨e,h⟩=>⟨e,aR h⟩) ?_;rintro v Mo ⟨n,o,e0,rfl,rfl⟩ _ _;refine⟨rfl,?_⟩;have hD:dz a bs=bA a n o:=aj e0;have hn:=j7 e0;refine⟨.inl ⟨0,rfl,?_⟩⟩;refine aF (fun hb=>?_) (fun hb=>?_)
 ·refine⟨by omega,Xw _,by omega,by simp only[maxLen];omega,?_⟩;refine⟨.inl ⟨0,rfl,?_⟩⟩;refine⟨.inl ⟨0,rfl,?_⟩⟩;have w:∀m:Nat,((List.replicate m [.bool false,IC 0,IC 0,IC 0,IC 0,IC 0,.sl [],.bool false,.sl [],.sl []]:List (List C)).length:Int)=m:=fun m=>by simp
  refine bW n 31 [] (([],o):List α×List UInt8) (fun _=>[]) (fun s=>[(25,.row 92 10 (s.1.map cs++List.replicate (n-s.1.length) [.bool false,IC 0,IC 0,IC 0,IC 0,IC 0,.sl [],.bool false,.sl [],.sl []])),(1000,RB s.2),(1001,.win t pre [.rw 25] post)])
   (fun k s=>s.1.length=k/\(∀xs r,bA a (n-k) s.2=some (xs,r)->bA a n o=some (s.1++xs,r))/\(bA a (n-k) s.2=none->bA a n o=none))
   ⟨rfl,fun xs r h=>h,fun h=>h⟩ (aq rfl) trivial ⟨.inl ⟨_,rfl,.inl ⟨rfl,rfl⟩⟩,.inl ⟨_,rfl,.inl ⟨rfl,rfl⟩⟩,.inl ⟨_,rfl,.inl ⟨rfl,rfl⟩⟩,trivial⟩ (fun _=>rfl) (fun _=>rfl) ?_
  rintro k ⟨done,b⟩ hk ⟨h1,p,y⟩ _ _ ag;simp only at h1 p y;refine aV (fun c=>?_) (fun j=>?_)
  ·have c:k<n:=by have h:(k:Int)<((List.replicate n [.bool false,IC 0,IC 0,IC 0,IC 0,IC 0,.sl [],.bool false,.sl [],.sl []]:List (List C)).length:Int):=c;rw[w] at h;omega
   refine⟨.inl ⟨0,rfl,?_⟩⟩;refine⟨by omega,by simp;omega,?_⟩;refine m5 [1000,25] (gG (e:=92) (sz:=10) (ca:=[]) u he rfl (fun d u=>by
    rcases W7.1 u with rfl | u
    ·exact⟨rfl,rfl⟩
    ·cases u) ac ⟨rfl,rfl,rfl⟩ h1 c b) rfl rfl rfl rfl (fun v ⟨e,h⟩=>⟨e,?_⟩) ?_
   ·rw[hD];exact y (by rw[show n-k=(n-(k+1))+1 by omega];simp only[bA,h])
   rintro v Mo ⟨x,r,e1,rfl,rfl⟩ _ _;refine⟨rfl,?_⟩;refine Fit.Wk (by omega) (by omega) ?_;rw[show n-k=(n-(k+1))+1 by omega] at p y;simp only[bA,e1] at p y;refine⟨(k+1,done++[x],r),⟨by omega,by simp[h1],fun xs r' h=>?_,fun h=>?_⟩,⟨cF,trivial⟩,⟨.inl ⟨_,rfl,.inl ⟨rfl,rfl⟩⟩,.inl ⟨_,rfl,.inl ⟨rfl,rfl⟩⟩,.inl ⟨_,rfl,.inl ⟨rfl,rfl⟩⟩,trivial⟩,cG c⟩
   ·rw[p (x::xs) r' (by simp only[h])];simp
   ·exact y (by simp only[h])
  ·have j:n-k=0:=by
    have h:¬(k:Int)<((List.replicate n [.bool false,IC 0,IC 0,IC 0,IC 0,IC 0,.sl [],.bool false,.sl [],.sl []]:List (List C)).length:Int):=j;rw[w] at h;omega
   rw[j] at p;have hf:=p [] b rfl;rw[Xp] at hf;refine qd [25] [1000,1001] ⟨_,_,rfl,rfl,rfl,done,b,by rw[hD];exact hf,?_,rfl⟩;have hl:n-done.length=0:=by omega
   exact p7 (fun q=>[RB b,TO.win t pre [C.sl q] post]) (show done.map cs++List.replicate (n-done.length) [.bool false,IC 0,IC 0,IC 0,IC 0,IC 0,.sl [],.bool false,.sl [],.sl []]=done.map cs by rw[hl];simp)
 ·have z:n=0:=by
   have h:=hb;simp at h;omega
  subst z;refine⟨.inl ⟨0,rfl,?_⟩⟩;refine bW 0 31 [] () (fun _=>[]) (fun _=>[(1000,RB o),(1001,.win t pre [.sl []] post)]) (fun _ _=>True) trivial (aq rfl) trivial ⟨.inl ⟨_,rfl,.inl ⟨rfl,rfl⟩⟩,.inl ⟨_,rfl,.inl ⟨rfl,rfl⟩⟩,trivial⟩ (fun _=>rfl) (fun _=>rfl) ?_;rintro k ⟨⟩ hk _ _ _ _;exact cR [1000,1001] rfl rfl rfl rfl ⟨[],o,by rw[hD];rfl,rfl,rfl⟩
theorem QV {α:Type}{f:Nat}{a:Dec α}{cs:α->List C}(u:fV f [] [] a [IC 0,.sl [],.sl [],IC 0,IC 0,IC 0,.sl []] cs) (he:lY PZ f) (ac:∀x,xw 7 (cs x)):fV 49 [] [.fn f [] []] (dz a) [.sl []] (fun l=>[.sl (l.map cs)]):=by
 intro t pre post bs _ _;refine ai Tryd.func49 DM rfl fun hw ap=>?_;refine⟨.inl ⟨0,rfl,?_⟩⟩;refine⟨rfl,?_⟩;refine⟨114,xT,?_⟩;refine bY [1000] (xS 0 bs) rfl rfl rfl rfl (fun v ⟨e,h⟩=>⟨e,aR h⟩) ?_;rintro v Mo ⟨n,o,e0,rfl,rfl⟩ _ _;refine⟨rfl,?_⟩;have hD:dz a bs=bA a n o:=aj e0;have hn:=j7 e0;refine⟨.inl ⟨0,rfl,?_⟩⟩;refine aF (fun hb=>?_) (fun hb=>?_)
 ·refine⟨by omega,Xw _,by omega,by simp only[maxLen];omega,?_⟩;refine⟨.inl ⟨0,rfl,?_⟩⟩;refine⟨.inl ⟨0,rfl,?_⟩⟩;have w:∀m:Nat,((List.replicate m [IC 0,.sl [],.sl [],IC 0,IC 0,IC 0,.sl []]:List (List C)).length:Int)=m:=fun m=>by simp
  refine bW n 31 [] (([],o):List α×List UInt8) (fun _=>[]) (fun s=>[(25,.row 88 7 (s.1.map cs++List.replicate (n-s.1.length) [IC 0,.sl [],.sl [],IC 0,IC 0,IC 0,.sl []])),(1000,RB s.2),(1001,.win t pre [.rw 25] post)])
   (fun k s=>s.1.length=k/\(∀xs r,bA a (n-k) s.2=some (xs,r)->bA a n o=some (s.1++xs,r))/\(bA a (n-k) s.2=none->bA a n o=none))
   ⟨rfl,fun xs r h=>h,fun h=>h⟩ (aq rfl) trivial ⟨.inl ⟨_,rfl,.inl ⟨rfl,rfl⟩⟩,.inl ⟨_,rfl,.inl ⟨rfl,rfl⟩⟩,.inl ⟨_,rfl,.inl ⟨rfl,rfl⟩⟩,trivial⟩ (fun _=>rfl) (fun _=>rfl) ?_
  rintro k ⟨done,b⟩ hk ⟨h1,p,y⟩ _ _ ag;simp only at h1 p y;refine aV (fun c=>?_) (fun j=>?_)
  ·have c:k<n:=by have h:(k:Int)<((List.replicate n [IC 0,.sl [],.sl [],IC 0,IC 0,IC 0,.sl []]:List (List C)).length:Int):=c;rw[w] at h;omega
   refine⟨.inl ⟨0,rfl,?_⟩⟩;refine⟨by omega,by simp;omega,?_⟩;refine m5 [1000,25] (gG (e:=88) (sz:=7) (ca:=[]) u he rfl (fun d u=>by
    rcases W7.1 u with rfl | u
    ·exact⟨rfl,rfl⟩
    ·cases u) ac ⟨rfl,rfl,rfl⟩ h1 c b) rfl rfl rfl rfl (fun v ⟨e,h⟩=>⟨e,?_⟩) ?_
   ·rw[hD];exact y (by rw[show n-k=(n-(k+1))+1 by omega];simp only[bA,h])
   rintro v Mo ⟨x,r,e1,rfl,rfl⟩ _ _;refine⟨rfl,?_⟩;refine Fit.Wk (by omega) (by omega) ?_;rw[show n-k=(n-(k+1))+1 by omega] at p y;simp only[bA,e1] at p y;refine⟨(k+1,done++[x],r),⟨by omega,by simp[h1],fun xs r' h=>?_,fun h=>?_⟩,⟨cF,trivial⟩,⟨.inl ⟨_,rfl,.inl ⟨rfl,rfl⟩⟩,.inl ⟨_,rfl,.inl ⟨rfl,rfl⟩⟩,.inl ⟨_,rfl,.inl ⟨rfl,rfl⟩⟩,trivial⟩,cG c⟩
   ·rw[p (x::xs) r' (by simp only[h])];simp
   ·exact y (by simp only[h])
  ·have j:n-k=0:=by
    have h:¬(k:Int)<((List.replicate n [IC 0,.sl [],.sl [],IC 0,IC 0,IC 0,.sl []]:List (List C)).length:Int):=j;rw[w] at h;omega
   rw[j] at p;have hf:=p [] b rfl;rw[Xp] at hf;refine qd [25] [1000,1001] ⟨_,_,rfl,rfl,rfl,done,b,by rw[hD];exact hf,?_,rfl⟩;have hl:n-done.length=0:=by omega
   exact p7 (fun q=>[RB b,TO.win t pre [C.sl q] post]) (show done.map cs++List.replicate (n-done.length) [IC 0,.sl [],.sl [],IC 0,IC 0,IC 0,.sl []]=done.map cs by rw[hl];simp)
 ·have z:n=0:=by
   have h:=hb;simp at h;omega
  subst z;refine⟨.inl ⟨0,rfl,?_⟩⟩;refine bW 0 31 [] () (fun _=>[]) (fun _=>[(1000,RB o),(1001,.win t pre [.sl []] post)]) (fun _ _=>True) trivial (aq rfl) trivial ⟨.inl ⟨_,rfl,.inl ⟨rfl,rfl⟩⟩,.inl ⟨_,rfl,.inl ⟨rfl,rfl⟩⟩,trivial⟩ (fun _=>rfl) (fun _=>rfl) ?_;rintro k ⟨⟩ hk _ _ _ _;exact cR [1000,1001] rfl rfl rfl rfl ⟨[],o,by rw[hD];rfl,rfl,rfl⟩
theorem QW {α:Type}{f:Nat}{a:Dec α}{cs:α->List C}(u:fV f [] [] a [.sl []] cs) (he:lY PZ f) (ac:∀x,xw 1 (cs x)):fV 51 [] [.fn f [] []] (dz a) [.sl []] (fun l=>[.sl (l.map cs)]):=by
 intro t pre post bs _ _;refine ai Tryd.func51 DP rfl fun hw ap=>?_;refine⟨.inl ⟨0,rfl,?_⟩⟩;refine⟨rfl,?_⟩;refine⟨114,xT,?_⟩;refine bY [1000] (xS 0 bs) rfl rfl rfl rfl (fun v ⟨e,h⟩=>⟨e,aR h⟩) ?_;rintro v Mo ⟨n,o,e0,rfl,rfl⟩ _ _;refine⟨rfl,?_⟩;have hD:dz a bs=bA a n o:=aj e0;have hn:=j7 e0;refine⟨.inl ⟨0,rfl,?_⟩⟩;refine aF (fun hb=>?_) (fun hb=>?_)
 ·refine⟨by omega,Xw _,by omega,by simp only[maxLen];omega,?_⟩;refine⟨.inl ⟨0,rfl,?_⟩⟩;refine⟨.inl ⟨0,rfl,?_⟩⟩;have w:∀m:Nat,((List.replicate m [.sl []]:List (List C)).length:Int)=m:=fun m=>by simp
  refine bW n 31 [] (([],o):List α×List UInt8) (fun _=>[]) (fun s=>[(25,.row 78 1 (s.1.map cs++List.replicate (n-s.1.length) [.sl []])),(1000,RB s.2),(1001,.win t pre [.rw 25] post)])
   (fun k s=>s.1.length=k/\(∀xs r,bA a (n-k) s.2=some (xs,r)->bA a n o=some (s.1++xs,r))/\(bA a (n-k) s.2=none->bA a n o=none))
   ⟨rfl,fun xs r h=>h,fun h=>h⟩ (aq rfl) trivial ⟨.inl ⟨_,rfl,.inl ⟨rfl,rfl⟩⟩,.inl ⟨_,rfl,.inl ⟨rfl,rfl⟩⟩,.inl ⟨_,rfl,.inl ⟨rfl,rfl⟩⟩,trivial⟩ (fun _=>rfl) (fun _=>rfl) ?_
  rintro k ⟨done,b⟩ hk ⟨h1,p,y⟩ _ _ ag;simp only at h1 p y;refine aV (fun c=>?_) (fun j=>?_)
  ·have c:k<n:=by have h:(k:Int)<((List.replicate n [.sl []]:List (List C)).length:Int):=c;rw[w] at h;omega
   refine⟨.inl ⟨0,rfl,?_⟩⟩;refine⟨by omega,by simp;omega,?_⟩;refine m5 [1000,25] (gG (e:=78) (sz:=1) (ca:=[]) u he rfl (fun d u=>by
    rcases W7.1 u with rfl | u
    ·exact⟨rfl,rfl⟩
    ·cases u) ac ⟨rfl,rfl,rfl⟩ h1 c b) rfl rfl rfl rfl (fun v ⟨e,h⟩=>⟨e,?_⟩) ?_
   ·rw[hD];exact y (by rw[show n-k=(n-(k+1))+1 by omega];simp only[bA,h])
   rintro v Mo ⟨x,r,e1,rfl,rfl⟩ _ _;refine⟨rfl,?_⟩;refine Fit.Wk (by omega) (by omega) ?_;rw[show n-k=(n-(k+1))+1 by omega] at p y;simp only[bA,e1] at p y;refine⟨(k+1,done++[x],r),⟨by omega,by simp[h1],fun xs r' h=>?_,fun h=>?_⟩,⟨cF,trivial⟩,⟨.inl ⟨_,rfl,.inl ⟨rfl,rfl⟩⟩,.inl ⟨_,rfl,.inl ⟨rfl,rfl⟩⟩,.inl ⟨_,rfl,.inl ⟨rfl,rfl⟩⟩,trivial⟩,cG c⟩
   ·rw[p (x::xs) r' (by simp only[h])];simp
   ·exact y (by simp only[h])
  ·have j:n-k=0:=by
    have h:¬(k:Int)<((List.replicate n [.sl []]:List (List C)).length:Int):=j;rw[w] at h;omega
   rw[j] at p;have hf:=p [] b rfl;rw[Xp] at hf;refine qd [25] [1000,1001] ⟨_,_,rfl,rfl,rfl,done,b,by rw[hD];exact hf,?_,rfl⟩;have hl:n-done.length=0:=by omega
   exact p7 (fun q=>[RB b,TO.win t pre [C.sl q] post]) (show done.map cs++List.replicate (n-done.length) [.sl []]=done.map cs by rw[hl];simp)
 ·have z:n=0:=by
   have h:=hb;simp at h;omega
  subst z;refine⟨.inl ⟨0,rfl,?_⟩⟩;refine bW 0 31 [] () (fun _=>[]) (fun _=>[(1000,RB o),(1001,.win t pre [.sl []] post)]) (fun _ _=>True) trivial (aq rfl) trivial ⟨.inl ⟨_,rfl,.inl ⟨rfl,rfl⟩⟩,.inl ⟨_,rfl,.inl ⟨rfl,rfl⟩⟩,trivial⟩ (fun _=>rfl) (fun _=>rfl) ?_;rintro k ⟨⟩ hk _ _ _ _;exact cR [1000,1001] rfl rfl rfl rfl ⟨[],o,by rw[hD];rfl,rfl,rfl⟩
theorem QX {α:Type}{f:Nat}{a:Dec α}{cs:α->List C}(u:fV f [] [] a [IC 0,IC 0] cs) (he:lY PZ f) (ac:∀x,xw 2 (cs x)):fV 53 [] [.fn f [] []] (dz a) [.sl []] (fun l=>[.sl (l.map cs)]):=by
 intro t pre post bs _ _;refine ai Tryd.func53 DR rfl fun hw ap=>?_;refine⟨.inl ⟨0,rfl,?_⟩⟩;refine⟨rfl,?_⟩;refine⟨114,xT,?_⟩;refine bY [1000] (xS 0 bs) rfl rfl rfl rfl (fun v ⟨e,h⟩=>⟨e,aR h⟩) ?_;rintro v Mo ⟨n,o,e0,rfl,rfl⟩ _ _;refine⟨rfl,?_⟩;have hD:dz a bs=bA a n o:=aj e0;have hn:=j7 e0;refine⟨.inl ⟨0,rfl,?_⟩⟩;refine aF (fun hb=>?_) (fun hb=>?_)
 ·refine⟨by omega,Xw _,by omega,by simp only[maxLen];omega,?_⟩;refine⟨.inl ⟨0,rfl,?_⟩⟩;refine⟨.inl ⟨0,rfl,?_⟩⟩;have w:∀m:Nat,((List.replicate m [IC 0,IC 0]:List (List C)).length:Int)=m:=fun m=>by simp
  refine bW n 31 [] (([],o):List α×List UInt8) (fun _=>[]) (fun s=>[(25,.row 90 2 (s.1.map cs++List.replicate (n-s.1.length) [IC 0,IC 0])),(1000,RB s.2),(1001,.win t pre [.rw 25] post)])
   (fun k s=>s.1.length=k/\(∀xs r,bA a (n-k) s.2=some (xs,r)->bA a n o=some (s.1++xs,r))/\(bA a (n-k) s.2=none->bA a n o=none))
   ⟨rfl,fun xs r h=>h,fun h=>h⟩ (aq rfl) trivial ⟨.inl ⟨_,rfl,.inl ⟨rfl,rfl⟩⟩,.inl ⟨_,rfl,.inl ⟨rfl,rfl⟩⟩,.inl ⟨_,rfl,.inl ⟨rfl,rfl⟩⟩,trivial⟩ (fun _=>rfl) (fun _=>rfl) ?_
  rintro k ⟨done,b⟩ hk ⟨h1,p,y⟩ _ _ ag;simp only at h1 p y;refine aV (fun c=>?_) (fun j=>?_)
  ·have c:k<n:=by have h:(k:Int)<((List.replicate n [IC 0,IC 0]:List (List C)).length:Int):=c;rw[w] at h;omega
   refine⟨.inl ⟨0,rfl,?_⟩⟩;refine⟨by omega,by simp;omega,?_⟩;refine m5 [1000,25] (gG (e:=90) (sz:=2) (ca:=[]) u he rfl (fun d u=>by
    rcases W7.1 u with rfl | u
    ·exact⟨rfl,rfl⟩
    ·cases u) ac ⟨rfl,rfl,rfl⟩ h1 c b) rfl rfl rfl rfl (fun v ⟨e,h⟩=>⟨e,?_⟩) ?_
   ·rw[hD];exact y (by rw[show n-k=(n-(k+1))+1 by omega];simp only[bA,h])
   rintro v Mo ⟨x,r,e1,rfl,rfl⟩ _ _;refine⟨rfl,?_⟩;refine Fit.Wk (by omega) (by omega) ?_;rw[show n-k=(n-(k+1))+1 by omega] at p y;simp only[bA,e1] at p y;refine⟨(k+1,done++[x],r),⟨by omega,by simp[h1],fun xs r' h=>?_,fun h=>?_⟩,⟨cF,trivial⟩,⟨.inl ⟨_,rfl,.inl ⟨rfl,rfl⟩⟩,.inl ⟨_,rfl,.inl ⟨rfl,rfl⟩⟩,.inl ⟨_,rfl,.inl ⟨rfl,rfl⟩⟩,trivial⟩,cG c⟩
   ·rw[p (x::xs) r' (by simp only[h])];simp
   ·exact y (by simp only[h])
  ·have j:n-k=0:=by
    have h:¬(k:Int)<((List.replicate n [IC 0,IC 0]:List (List C)).length:Int):=j;rw[w] at h;omega
   rw[j] at p;have hf:=p [] b rfl;rw[Xp] at hf;refine qd [25] [1000,1001] ⟨_,_,rfl,rfl,rfl,done,b,by rw[hD];exact hf,?_,rfl⟩;have hl:n-done.length=0:=by omega
   exact p7 (fun q=>[RB b,TO.win t pre [C.sl q] post]) (show done.map cs++List.replicate (n-done.length) [IC 0,IC 0]=done.map cs by rw[hl];simp)
 ·have z:n=0:=by
   have h:=hb;simp at h;omega
  subst z;refine⟨.inl ⟨0,rfl,?_⟩⟩;refine bW 0 31 [] () (fun _=>[]) (fun _=>[(1000,RB o),(1001,.win t pre [.sl []] post)]) (fun _ _=>True) trivial (aq rfl) trivial ⟨.inl ⟨_,rfl,.inl ⟨rfl,rfl⟩⟩,.inl ⟨_,rfl,.inl ⟨rfl,rfl⟩⟩,trivial⟩ (fun _=>rfl) (fun _=>rfl) ?_;rintro k ⟨⟩ hk _ _ _ _;exact cR [1000,1001] rfl rfl rfl rfl ⟨[],o,by rw[hD];rfl,rfl,rfl⟩
theorem QY {α:Type}{f:Nat}{a:Dec α}{cs:α->List C}(u:fV f [] [] a [IC 0,IC 0,IC 0,IC 0,IC 0,.sl [],.sl []] cs) (he:lY PZ f) (ac:∀x,xw 7 (cs x)):fV 66 [] [.fn f [] []] (dz a) [.sl []] (fun l=>[.sl (l.map cs)]):=by
 intro t pre post bs _ _;refine ai Tryd.func66 DX rfl fun hw ap=>?_;refine⟨.inl ⟨0,rfl,?_⟩⟩;refine⟨rfl,?_⟩;refine⟨114,xT,?_⟩;refine bY [1000] (xS 0 bs) rfl rfl rfl rfl (fun v ⟨e,h⟩=>⟨e,aR h⟩) ?_;rintro v Mo ⟨n,o,e0,rfl,rfl⟩ _ _;refine⟨rfl,?_⟩;have hD:dz a bs=bA a n o:=aj e0;have hn:=j7 e0;refine⟨.inl ⟨0,rfl,?_⟩⟩;refine aF (fun hb=>?_) (fun hb=>?_)
 ·refine⟨by omega,Xw _,by omega,by simp only[maxLen];omega,?_⟩;refine⟨.inl ⟨0,rfl,?_⟩⟩;refine⟨.inl ⟨0,rfl,?_⟩⟩;have w:∀m:Nat,((List.replicate m [IC 0,IC 0,IC 0,IC 0,IC 0,.sl [],.sl []]:List (List C)).length:Int)=m:=fun m=>by simp
  refine bW n 31 [] (([],o):List α×List UInt8) (fun _=>[]) (fun s=>[(25,.row 82 7 (s.1.map cs++List.replicate (n-s.1.length) [IC 0,IC 0,IC 0,IC 0,IC 0,.sl [],.sl []])),(1000,RB s.2),(1001,.win t pre [.rw 25] post)])
   (fun k s=>s.1.length=k/\(∀xs r,bA a (n-k) s.2=some (xs,r)->bA a n o=some (s.1++xs,r))/\(bA a (n-k) s.2=none->bA a n o=none))
   ⟨rfl,fun xs r h=>h,fun h=>h⟩ (aq rfl) trivial ⟨.inl ⟨_,rfl,.inl ⟨rfl,rfl⟩⟩,.inl ⟨_,rfl,.inl ⟨rfl,rfl⟩⟩,.inl ⟨_,rfl,.inl ⟨rfl,rfl⟩⟩,trivial⟩ (fun _=>rfl) (fun _=>rfl) ?_
  rintro k ⟨done,b⟩ hk ⟨h1,p,y⟩ _ _ ag;simp only at h1 p y;refine aV (fun c=>?_) (fun j=>?_)
  ·have c:k<n:=by have h:(k:Int)<((List.replicate n [IC 0,IC 0,IC 0,IC 0,IC 0,.sl [],.sl []]:List (List C)).length:Int):=c;rw[w] at h;omega
   refine⟨.inl ⟨0,rfl,?_⟩⟩;refine⟨by omega,by simp;omega,?_⟩;refine m5 [1000,25] (gG (e:=82) (sz:=7) (ca:=[]) u he rfl (fun d u=>by
    rcases W7.1 u with rfl | u
    ·exact⟨rfl,rfl⟩
    ·cases u) ac ⟨rfl,rfl,rfl⟩ h1 c b) rfl rfl rfl rfl (fun v ⟨e,h⟩=>⟨e,?_⟩) ?_
   ·rw[hD];exact y (by rw[show n-k=(n-(k+1))+1 by omega];simp only[bA,h])
   rintro v Mo ⟨x,r,e1,rfl,rfl⟩ _ _;refine⟨rfl,?_⟩;refine Fit.Wk (by omega) (by omega) ?_;rw[show n-k=(n-(k+1))+1 by omega] at p y;simp only[bA,e1] at p y;refine⟨(k+1,done++[x],r),⟨by omega,by simp[h1],fun xs r' h=>?_,fun h=>?_⟩,⟨cF,trivial⟩,⟨.inl ⟨_,rfl,.inl ⟨rfl,rfl⟩⟩,.inl ⟨_,rfl,.inl ⟨rfl,rfl⟩⟩,.inl ⟨_,rfl,.inl ⟨rfl,rfl⟩⟩,trivial⟩,cG c⟩
   ·rw[p (x::xs) r' (by simp only[h])];simp
   ·exact y (by simp only[h])
  ·have j:n-k=0:=by
    have h:¬(k:Int)<((List.replicate n [IC 0,IC 0,IC 0,IC 0,IC 0,.sl [],.sl []]:List (List C)).length:Int):=j;rw[w] at h;omega
   rw[j] at p;have hf:=p [] b rfl;rw[Xp] at hf;refine qd [25] [1000,1001] ⟨_,_,rfl,rfl,rfl,done,b,by rw[hD];exact hf,?_,rfl⟩;have hl:n-done.length=0:=by omega
   exact p7 (fun q=>[RB b,TO.win t pre [C.sl q] post]) (show done.map cs++List.replicate (n-done.length) [IC 0,IC 0,IC 0,IC 0,IC 0,.sl [],.sl []]=done.map cs by rw[hl];simp)
 ·have z:n=0:=by
   have h:=hb;simp at h;omega
  subst z;refine⟨.inl ⟨0,rfl,?_⟩⟩;refine bW 0 31 [] () (fun _=>[]) (fun _=>[(1000,RB o),(1001,.win t pre [.sl []] post)]) (fun _ _=>True) trivial (aq rfl) trivial ⟨.inl ⟨_,rfl,.inl ⟨rfl,rfl⟩⟩,.inl ⟨_,rfl,.inl ⟨rfl,rfl⟩⟩,trivial⟩ (fun _=>rfl) (fun _=>rfl) ?_;rintro k ⟨⟩ hk _ _ _ _;exact cR [1000,1001] rfl rfl rfl rfl ⟨[],o,by rw[hD];rfl,rfl,rfl⟩
theorem QZ {α:Type}{f:Nat}{a:Dec α}{cs:α->List C}(u:fV f [] [] a [IC 0,IC 0,.bool false,.bool false,.bool false] cs) (he:lY PZ f) (ac:∀x,xw 5 (cs x)):fV 68 [] [.fn f [] []] (dz a) [.sl []] (fun l=>[.sl (l.map cs)]):=by
 intro t pre post bs _ _;refine ai Tryd.func68 DZ rfl fun hw ap=>?_;refine⟨.inl ⟨0,rfl,?_⟩⟩;refine⟨rfl,?_⟩;refine⟨114,xT,?_⟩;refine bY [1000] (xS 0 bs) rfl rfl rfl rfl (fun v ⟨e,h⟩=>⟨e,aR h⟩) ?_;rintro v Mo ⟨n,o,e0,rfl,rfl⟩ _ _;refine⟨rfl,?_⟩;have hD:dz a bs=bA a n o:=aj e0;have hn:=j7 e0;refine⟨.inl ⟨0,rfl,?_⟩⟩;refine aF (fun hb=>?_) (fun hb=>?_)
 ·refine⟨by omega,Xw _,by omega,by simp only[maxLen];omega,?_⟩;refine⟨.inl ⟨0,rfl,?_⟩⟩;refine⟨.inl ⟨0,rfl,?_⟩⟩;have w:∀m:Nat,((List.replicate m [IC 0,IC 0,.bool false,.bool false,.bool false]:List (List C)).length:Int)=m:=fun m=>by simp
  refine bW n 31 [] (([],o):List α×List UInt8) (fun _=>[]) (fun s=>[(25,.row 85 5 (s.1.map cs++List.replicate (n-s.1.length) [IC 0,IC 0,.bool false,.bool false,.bool false])),(1000,RB s.2),(1001,.win t pre [.rw 25] post)])
   (fun k s=>s.1.length=k/\(∀xs r,bA a (n-k) s.2=some (xs,r)->bA a n o=some (s.1++xs,r))/\(bA a (n-k) s.2=none->bA a n o=none))
   ⟨rfl,fun xs r h=>h,fun h=>h⟩ (aq rfl) trivial ⟨.inl ⟨_,rfl,.inl ⟨rfl,rfl⟩⟩,.inl ⟨_,rfl,.inl ⟨rfl,rfl⟩⟩,.inl ⟨_,rfl,.inl ⟨rfl,rfl⟩⟩,trivial⟩ (fun _=>rfl) (fun _=>rfl) ?_
  rintro k ⟨done,b⟩ hk ⟨h1,p,y⟩ _ _ ag;simp only at h1 p y;refine aV (fun c=>?_) (fun j=>?_)
  ·have c:k<n:=by have h:(k:Int)<((List.replicate n [IC 0,IC 0,.bool false,.bool false,.bool false]:List (List C)).length:Int):=c;rw[w] at h;omega
   refine⟨.inl ⟨0,rfl,?_⟩⟩;refine⟨by omega,by simp;omega,?_⟩;refine m5 [1000,25] (gG (e:=85) (sz:=5) (ca:=[]) u he rfl (fun d u=>by
    rcases W7.1 u with rfl | u
    ·exact⟨rfl,rfl⟩
    ·cases u) ac ⟨rfl,rfl,rfl⟩ h1 c b) rfl rfl rfl rfl (fun v ⟨e,h⟩=>⟨e,?_⟩) ?_
   ·rw[hD];exact y (by rw[show n-k=(n-(k+1))+1 by omega];simp only[bA,h])
   rintro v Mo ⟨x,r,e1,rfl,rfl⟩ _ _;refine⟨rfl,?_⟩;refine Fit.Wk (by omega) (by omega) ?_;rw[show n-k=(n-(k+1))+1 by omega] at p y;simp only[bA,e1] at p y;refine⟨(k+1,done++[x],r),⟨by omega,by simp[h1],fun xs r' h=>?_,fun h=>?_⟩,⟨cF,trivial⟩,⟨.inl ⟨_,rfl,.inl ⟨rfl,rfl⟩⟩,.inl ⟨_,rfl,.inl ⟨rfl,rfl⟩⟩,.inl ⟨_,rfl,.inl ⟨rfl,rfl⟩⟩,trivial⟩,cG c⟩
   ·rw[p (x::xs) r' (by simp only[h])];simp
   ·exact y (by simp only[h])
  ·have j:n-k=0:=by
    have h:¬(k:Int)<((List.replicate n [IC 0,IC 0,.bool false,.bool false,.bool false]:List (List C)).length:Int):=j;rw[w] at h;omega
   rw[j] at p;have hf:=p [] b rfl;rw[Xp] at hf;refine qd [25] [1000,1001] ⟨_,_,rfl,rfl,rfl,done,b,by rw[hD];exact hf,?_,rfl⟩;have hl:n-done.length=0:=by omega
   exact p7 (fun q=>[RB b,TO.win t pre [C.sl q] post]) (show done.map cs++List.replicate (n-done.length) [IC 0,IC 0,.bool false,.bool false,.bool false]=done.map cs by rw[hl];simp)
 ·have z:n=0:=by
   have h:=hb;simp at h;omega
  subst z;refine⟨.inl ⟨0,rfl,?_⟩⟩;refine bW 0 31 [] () (fun _=>[]) (fun _=>[(1000,RB o),(1001,.win t pre [.sl []] post)]) (fun _ _=>True) trivial (aq rfl) trivial ⟨.inl ⟨_,rfl,.inl ⟨rfl,rfl⟩⟩,.inl ⟨_,rfl,.inl ⟨rfl,rfl⟩⟩,trivial⟩ (fun _=>rfl) (fun _=>rfl) ?_;rintro k ⟨⟩ hk _ _ _ _;exact cR [1000,1001] rfl rfl rfl rfl ⟨[],o,by rw[hD];rfl,rfl,rfl⟩
theorem Q0 {α:Type}{f:Nat}{a:Dec α}{cs:α->List C}(u:fV f [] [] a [IC 0,IC 0,IC 0,IC 0,.sl [],.bool false,.sl [],.sl []] cs) (he:lY PZ f) (ac:∀x,xw 8 (cs x)):fV 72 [] [.fn f [] []] (dz a) [.sl []] (fun l=>[.sl (l.map cs)]):=by
 intro t pre post bs _ _;refine ai Tryd.func72 uW rfl fun hw ap=>?_;refine⟨.inl ⟨0,rfl,?_⟩⟩;refine⟨rfl,?_⟩;refine⟨114,xT,?_⟩;refine bY [1000] (xS 0 bs) rfl rfl rfl rfl (fun v ⟨e,h⟩=>⟨e,aR h⟩) ?_;rintro v Mo ⟨n,o,e0,rfl,rfl⟩ _ _;refine⟨rfl,?_⟩;have hD:dz a bs=bA a n o:=aj e0;have hn:=j7 e0;refine⟨.inl ⟨0,rfl,?_⟩⟩;refine aF (fun hb=>?_) (fun hb=>?_)
 ·refine⟨by omega,Xw _,by omega,by simp only[maxLen];omega,?_⟩;refine⟨.inl ⟨0,rfl,?_⟩⟩;refine⟨.inl ⟨0,rfl,?_⟩⟩;have w:∀m:Nat,((List.replicate m [IC 0,IC 0,IC 0,IC 0,.sl [],.bool false,.sl [],.sl []]:List (List C)).length:Int)=m:=fun m=>by simp
  refine bW n 31 [] (([],o):List α×List UInt8) (fun _=>[]) (fun s=>[(25,.row 80 8 (s.1.map cs++List.replicate (n-s.1.length) [IC 0,IC 0,IC 0,IC 0,.sl [],.bool false,.sl [],.sl []])),(1000,RB s.2),(1001,.win t pre [.rw 25] post)])
   (fun k s=>s.1.length=k/\(∀xs r,bA a (n-k) s.2=some (xs,r)->bA a n o=some (s.1++xs,r))/\(bA a (n-k) s.2=none->bA a n o=none))
   ⟨rfl,fun xs r h=>h,fun h=>h⟩ (aq rfl) trivial ⟨.inl ⟨_,rfl,.inl ⟨rfl,rfl⟩⟩,.inl ⟨_,rfl,.inl ⟨rfl,rfl⟩⟩,.inl ⟨_,rfl,.inl ⟨rfl,rfl⟩⟩,trivial⟩ (fun _=>rfl) (fun _=>rfl) ?_
  rintro k ⟨done,b⟩ hk ⟨h1,p,y⟩ _ _ ag;simp only at h1 p y;refine aV (fun c=>?_) (fun j=>?_)
  ·have c:k<n:=by have h:(k:Int)<((List.replicate n [IC 0,IC 0,IC 0,IC 0,.sl [],.bool false,.sl [],.sl []]:List (List C)).length:Int):=c;rw[w] at h;omega
   refine⟨.inl ⟨0,rfl,?_⟩⟩;refine⟨by omega,by simp;omega,?_⟩;refine m5 [1000,25] (gG (e:=80) (sz:=8) (ca:=[]) u he rfl (fun d u=>by
    rcases W7.1 u with rfl | u
    ·exact⟨rfl,rfl⟩
    ·cases u) ac ⟨rfl,rfl,rfl⟩ h1 c b) rfl rfl rfl rfl (fun v ⟨e,h⟩=>⟨e,?_⟩) ?_
   ·rw[hD];exact y (by rw[show n-k=(n-(k+1))+1 by omega];simp only[bA,h])
   rintro v Mo ⟨x,r,e1,rfl,rfl⟩ _ _;refine⟨rfl,?_⟩;refine Fit.Wk (by omega) (by omega) ?_;rw[show n-k=(n-(k+1))+1 by omega] at p y;simp only[bA,e1] at p y;refine⟨(k+1,done++[x],r),⟨by omega,by simp[h1],fun xs r' h=>?_,fun h=>?_⟩,⟨cF,trivial⟩,⟨.inl ⟨_,rfl,.inl ⟨rfl,rfl⟩⟩,.inl ⟨_,rfl,.inl ⟨rfl,rfl⟩⟩,.inl ⟨_,rfl,.inl ⟨rfl,rfl⟩⟩,trivial⟩,cG c⟩
   ·rw[p (x::xs) r' (by simp only[h])];simp
   ·exact y (by simp only[h])
  ·have j:n-k=0:=by
    have h:¬(k:Int)<((List.replicate n [IC 0,IC 0,IC 0,IC 0,.sl [],.bool false,.sl [],.sl []]:List (List C)).length:Int):=j;rw[w] at h;omega
   rw[j] at p;have hf:=p [] b rfl;rw[Xp] at hf;refine qd [25] [1000,1001] ⟨_,_,rfl,rfl,rfl,done,b,by rw[hD];exact hf,?_,rfl⟩;have hl:n-done.length=0:=by omega
   exact p7 (fun q=>[RB b,TO.win t pre [C.sl q] post]) (show done.map cs++List.replicate (n-done.length) [IC 0,IC 0,IC 0,IC 0,.sl [],.bool false,.sl [],.sl []]=done.map cs by rw[hl];simp)
 ·have z:n=0:=by
   have h:=hb;simp at h;omega
  subst z;refine⟨.inl ⟨0,rfl,?_⟩⟩;refine bW 0 31 [] () (fun _=>[]) (fun _=>[(1000,RB o),(1001,.win t pre [.sl []] post)]) (fun _ _=>True) trivial (aq rfl) trivial ⟨.inl ⟨_,rfl,.inl ⟨rfl,rfl⟩⟩,.inl ⟨_,rfl,.inl ⟨rfl,rfl⟩⟩,trivial⟩ (fun _=>rfl) (fun _=>rfl) ?_;rintro k ⟨⟩ hk _ _ _ _;exact cR [1000,1001] rfl rfl rfl rfl ⟨[],o,by rw[hD];rfl,rfl,rfl⟩
theorem Pb {α:Type}{f:Nat}{d:Int}{a:Dec α}{cs:α->List C}(u:fV f [] [.pt [IC d] 0] a [IC 0,IC 0,IC 0,IC 0,.sl [],.bool false,.sl [],.sl []] cs) (he:lY PZ f) (ac:∀x,xw 8 (cs x)):fV 72 [] [.fn f [] [.pt [IC d] 0]] (dz a) [.sl []] (fun l=>[.sl (l.map cs)]):=by
 intro t pre post bs _ _;refine ai Tryd.func72 uW rfl fun hw ap=>?_;refine⟨.inl ⟨0,rfl,?_⟩⟩;refine⟨rfl,?_⟩;refine⟨114,xT,?_⟩;refine bY [1000] (xS 0 bs) rfl rfl rfl rfl (fun v ⟨e,h⟩=>⟨e,aR h⟩) ?_;rintro v Mo ⟨n,o,e0,rfl,rfl⟩ _ _;refine⟨rfl,?_⟩;have hD:dz a bs=bA a n o:=aj e0;have hn:=j7 e0;refine⟨.inl ⟨0,rfl,?_⟩⟩;refine aF (fun hb=>?_) (fun hb=>?_)
 ·refine⟨by omega,Xw _,by omega,by simp only[maxLen];omega,?_⟩;refine⟨.inl ⟨0,rfl,?_⟩⟩;refine⟨.inl ⟨0,rfl,?_⟩⟩;have w:∀m:Nat,((List.replicate m [IC 0,IC 0,IC 0,IC 0,.sl [],.bool false,.sl [],.sl []]:List (List C)).length:Int)=m:=fun m=>by simp
  refine bW n 31 [] (([],o):List α×List UInt8) (fun _=>[]) (fun s=>[(25,.row 80 8 (s.1.map cs++List.replicate (n-s.1.length) [IC 0,IC 0,IC 0,IC 0,.sl [],.bool false,.sl [],.sl []])),(1000,RB s.2),(1001,.win t pre [.rw 25] post)])
   (fun k s=>s.1.length=k/\(∀xs r,bA a (n-k) s.2=some (xs,r)->bA a n o=some (s.1++xs,r))/\(bA a (n-k) s.2=none->bA a n o=none))
   ⟨rfl,fun xs r h=>h,fun h=>h⟩ (aq rfl) trivial ⟨.inl ⟨_,rfl,.inl ⟨rfl,rfl⟩⟩,.inl ⟨_,rfl,.inl ⟨rfl,rfl⟩⟩,.inl ⟨_,rfl,.inl ⟨rfl,rfl⟩⟩,trivial⟩ (fun _=>rfl) (fun _=>rfl) ?_
  rintro k ⟨done,b⟩ hk ⟨h1,p,y⟩ _ _ ag;simp only at h1 p y;refine aV (fun c=>?_) (fun j=>?_)
  ·have c:k<n:=by have h:(k:Int)<((List.replicate n [IC 0,IC 0,IC 0,IC 0,.sl [],.bool false,.sl [],.sl []]:List (List C)).length:Int):=c;rw[w] at h;omega
   refine⟨.inl ⟨0,rfl,?_⟩⟩;refine⟨by omega,by simp;omega,?_⟩;refine m5 [1000,25] (gG (e:=80) (sz:=8) (ca:=[.pt [IC d] 0]) u he rfl (fun d u=>by
    rcases W7.1 u with rfl | u
    ·exact⟨rfl,rfl⟩
    ·rw[XJ.1 u];exact⟨rfl,rfl⟩) ac ⟨rfl,rfl,rfl⟩ h1 c b) rfl rfl rfl rfl (fun v ⟨e,h⟩=>⟨e,?_⟩) ?_
   ·rw[hD];exact y (by rw[show n-k=(n-(k+1))+1 by omega];simp only[bA,h])
   rintro v Mo ⟨x,r,e1,rfl,rfl⟩ _ _;refine⟨rfl,?_⟩;refine Fit.Wk (by omega) (by omega) ?_;rw[show n-k=(n-(k+1))+1 by omega] at p y;simp only[bA,e1] at p y;refine⟨(k+1,done++[x],r),⟨by omega,by simp[h1],fun xs r' h=>?_,fun h=>?_⟩,⟨cF,trivial⟩,⟨.inl ⟨_,rfl,.inl ⟨rfl,rfl⟩⟩,.inl ⟨_,rfl,.inl ⟨rfl,rfl⟩⟩,.inl ⟨_,rfl,.inl ⟨rfl,rfl⟩⟩,trivial⟩,cG c⟩
   ·rw[p (x::xs) r' (by simp only[h])];simp
   ·exact y (by simp only[h])
  ·have j:n-k=0:=by
    have h:¬(k:Int)<((List.replicate n [IC 0,IC 0,IC 0,IC 0,.sl [],.bool false,.sl [],.sl []]:List (List C)).length:Int):=j;rw[w] at h;omega
   rw[j] at p;have hf:=p [] b rfl;rw[Xp] at hf;refine qd [25] [1000,1001] ⟨_,_,rfl,rfl,rfl,done,b,by rw[hD];exact hf,?_,rfl⟩;have hl:n-done.length=0:=by omega
   exact p7 (fun q=>[RB b,TO.win t pre [C.sl q] post]) (show done.map cs++List.replicate (n-done.length) [IC 0,IC 0,IC 0,IC 0,.sl [],.bool false,.sl [],.sl []]=done.map cs by rw[hl];simp)
 ·have z:n=0:=by
   have h:=hb;simp at h;omega
  subst z;refine⟨.inl ⟨0,rfl,?_⟩⟩;refine bW 0 31 [] () (fun _=>[]) (fun _=>[(1000,RB o),(1001,.win t pre [.sl []] post)]) (fun _ _=>True) trivial (aq rfl) trivial ⟨.inl ⟨_,rfl,.inl ⟨rfl,rfl⟩⟩,.inl ⟨_,rfl,.inl ⟨rfl,rfl⟩⟩,trivial⟩ (fun _=>rfl) (fun _=>rfl) ?_;rintro k ⟨⟩ hk _ _ _ _;exact cR [1000,1001] rfl rfl rfl rfl ⟨[],o,by rw[hD];rfl,rfl,rfl⟩
theorem fe {c:Type}{f:Dec c}:∀{n:Nat}{bs r:List UInt8}{xs:List c},bA f n bs=some (xs,r)->xs.length=n
 | 0,bs,r,xs,h=>by
  simp only[bA,WY,Prod.mk.injEq] at h;rw[<-h.1];rfl
 | n+1,bs,r,xs,h=>by
  simp only[bA] at h;split at h
  ·split at h
   ·rename_i ys e d;injection h with h
    injection h with h _
    rw[<-h,Xl,fe d]
   ·cases h
  ·cases h
theorem Ae {c:Type}(g:c->C):∀(ns:List c) (a b:List C) (zs:List C),zs.length=ns.length->Ad g (a++(zs++b)) ((List.range ns.length).map fun j=>a.length+j) ns=a++(ns.map g++b)
 | [],a,b,zs,h=>by
  have:zs=[]:=Xu (by simpa using h);subst this;rfl
 | n::ns,a,b,z::zs,h=>by
  have e:((List.range (n::ns).length).map fun j=>a.length+j)=a.length::(List.range ns.length).map (fun j=>(a++[g n]).length+j):=by
   rw[Xl,List.range_succ_eq_map,Xa,XV];congr 1;apply XZ;intro j _;simp;omega
  rw[e];simp only[Ad];rw[show(a++(z::zs++b)).set a.length (g n)=(a++[g n])++(zs++b) by rw[List.set_append_right _ _ (Xn _)];simp];rw[Ae g ns (a++[g n]) b zs (by simpa using h)];simp
theorem ints_at (a b:List C) (xs:List Int):∀o∈(List.range xs.length).map (fun j=>a.length+j),∃x,(a++(xs.map IC++b))[o]?=some (IC x):=by
 intro o d;obtain⟨j,c,rfl⟩:=Xz.1 d;have c:=List.mem_range.1 c;refine⟨xs[j],?_⟩;rw[Xi (by omega),show a.length+j-a.length=j by omega,Xc (by simpa using c)];simp[c]
theorem Lc (a b:List C) (xs:List Bool):∀o∈(List.range xs.length).map (fun j=>a.length+j),∃x,(a++(xs.map C.bool++b))[o]?=some (.bool x):=by
 intro o d;obtain⟨j,c,rfl⟩:=Xz.1 d;have c:=List.mem_range.1 c;refine⟨xs[j],?_⟩;rw[Xi (by omega),show a.length+j-a.length=j by omega,Xc (by simpa using c)];simp[c]
theorem yV (xs:List Int):bX (xs.map IC):=fun c d=>by
 obtain⟨x,_,rfl⟩:=Xz.1 d;exact .inl rfl
theorem wV (xs:List Bool):bX (xs.map C.bool):=fun c d=>by
 obtain⟨x,_,rfl⟩:=Xz.1 d;exact .inl rfl
theorem j8 {pre a:List C}{m:Nat}:((List.range m).map fun j=>(pre++a).length+j)=(List.range m).map fun j=>pre.length+(a.length+j):=by
 apply XZ;intro j _;simp[Nat.add_assoc]
section
variable {t:Nat}{pre post a b:List C}{bs:List UInt8}
theorem ur (xs:List Int) (f:bX pre) (d:bX post) (k:bX a) (hb:bX b) :
  CallsTX PZ 55 [.ifo none 52 1000 0,.slo 1001 ((List.range xs.length).map fun j=>pre.length+(a.length+j))] [RB bs,.win t pre (a++(xs.map IC++b)) post]
   (fun Mo c=>∃ns r,bA ga xs.length bs=some (ns,r)/\Mo=[RB r,.win t pre (a++(ns.map IC++b)) post]/\c=.tup []) (fun v=>v=eS/\bA ga xs.length bs=none):=by
 have n:bX ([]:List C):=fun c q=>by cases q
 have h:=QO t (pre++(a++(xs.map IC++b))++post) ((List.range xs.length).map fun j=>(pre++a).length+j) bs ((f.append (k.append ((yV xs).append hb))).append d) (fun o p=>by
  have:=ints_at (pre++a) (b++post) xs o p;simpa using this)
 rw[j8] at h;refine h.view (vw.same (vw.cons (mQ (by simp) (f.append (k.append ((yV xs).append hb)) |>.append d) n) (vw.refl []))) ?_ (fun v h=>by simpa using h);rintro Mo c ⟨ns,r,e,rfl,rfl⟩;rw[Xj,List.length_range] at e;have l:=fe e;have m:=Ae IC ns (pre++a) (b++post) (xs.map IC) (by simp[l]);rw[l,j8] at m;refine⟨_,vw.same (vw.cons (mQ (pre':=pre) (cs':=a++(ns.map IC++b)) (post':=post) ?_ f d) (vw.refl [])),ns,r,e,rfl,rfl⟩;have s:pre++(a++(xs.map IC++b))++post=pre++a++(xs.map IC++(b++post)):=by simp
 rw[s,m];simp
theorem Eg (xs:List Bool) (f:bX pre) (d:bX post) (k:bX a) (hb:bX b) :
  CallsTX PZ 64 [.ifo none 52 1000 0,.slo 1001 ((List.range xs.length).map fun j=>pre.length+(a.length+j))] [RB bs,.win t pre (a++(xs.map C.bool++b)) post]
   (fun Mo c=>∃ns r,bA oU xs.length bs=some (ns,r)/\Mo=[RB r,.win t pre (a++(ns.map C.bool++b)) post]/\c=.tup []) (fun v=>v=eS/\bA oU xs.length bs=none):=by
 have n:bX ([]:List C):=fun c q=>by cases q
 have h:=QR t (pre++(a++(xs.map C.bool++b))++post) ((List.range xs.length).map fun j=>(pre++a).length+j) bs ((f.append (k.append ((wV xs).append hb))).append d) (fun o p=>by
  have:=Lc (pre++a) (b++post) xs o p;simpa using this)
 rw[j8] at h;refine h.view (vw.same (vw.cons (mQ (by simp) (f.append (k.append ((wV xs).append hb)) |>.append d) n) (vw.refl []))) ?_ (fun v h=>by simpa using h);rintro Mo c ⟨ns,r,e,rfl,rfl⟩;rw[Xj,List.length_range] at e;have l:=fe e;have m:=Ae C.bool ns (pre++a) (b++post) (xs.map C.bool) (by simp[l]);rw[l,j8] at m;refine⟨_,vw.same (vw.cons (mQ (pre':=pre) (cs':=a++(ns.map C.bool++b)) (post':=post) ?_ f d) (vw.refl [])),ns,r,e,rfl,rfl⟩;have s:pre++(a++(xs.map C.bool++b))++post=pre++a++(xs.map C.bool++(b++post)):=by simp
 rw[s,m];simp
theorem fV.at {m:Type}{f:Nat}{fi ca:List C}{d:Dec m}{z:List C}{cs:m->List C}(n:fV f fi ca d z cs) (k:bX pre) (j:bX post) (l:bX a) (hb:bX b) :
  CallsTX PZ f (fi++.ifo none 52 1000 0::.own 1001 (pre.length+a.length)::ca) [RB bs,.win t pre (a++(z++b)) post]
   (fun Mo c=>∃x r,d bs=some (x,r)/\Mo=[RB r,.win t pre (a++(cs x++b)) post]/\c=.tup []) (fun v=>v=eS/\d bs=none):=by
 have h:=n t (pre++a) (b++post) bs (k.append l) (hb.append j);rw[W8] at h;refine h.view (vw.same (vw.cons (mQ (by simp) (k.append l) (hb.append j)) (vw.refl []))) ?_ fun _ h=>h;rintro Mo c ⟨x,r,e,rfl,rfl⟩;exact⟨_,vw.same (vw.cons (mQ (by simp) k j) (vw.refl [])),x,r,e,rfl,rfl⟩
end
theorem wW {c:Type}{l:List c}(h:l.length=1):∃a,l=[a]:=by
 match l,h with | [a],_=>exact⟨a,rfl⟩
theorem C2 {c:Type}{l:List c}(h:l.length=2):∃a b,l=[a,b]:=by
 match l,h with | [a,b],_=>exact⟨a,b,rfl⟩
theorem wX {d:Type}{l:List d}(h:l.length=3):∃a b c,l=[a,b,c]:=by
 match l,h with | [a,b,c],_=>exact⟨a,b,c,rfl⟩
theorem Ld {e:Type}{l:List e}(h:l.length=4):∃a b c d,l=[a,b,c,d]:=by
 match l,h with | [a,b,c,d],_=>exact⟨a,b,c,d,rfl⟩
theorem Le {f:Type}{l:List f}(h:l.length=5):∃a b c d e,l=[a,b,c,d,e]:=by
 match l,h with | [a,b,c,d,e],_=>exact⟨a,b,c,d,e,rfl⟩
theorem dN:bX ([]:List C):=fun c a=>by cases a
theorem Q5:fV 71 [] [] ga [IC 0] (fun n=>[IC n]):=by
 intro t pre post bs b a;refine ai Tryd.func71 D5 rfl fun d c=>?_;refine⟨113,NA,?_⟩;refine bO [1000,1001] (Nz t pre post 0 bs b a) rfl rfl rfl rfl (fun v h=>h) ?_;rintro v Mo ⟨n,r,e,rfl,rfl⟩ _ _;refine⟨rfl,?_⟩;exact cR [1000,1001] rfl rfl rfl rfl ⟨n,r,e,rfl,rfl⟩
theorem Q6:fV 48 [] [] Qq [.bool false] HL:=by
 intro t pre post bs c j;have hb:=Eg (t:=t) (bs:=bs) (a:=[]) (b:=[]) [false] c j dN dN;refine ai Tryd.func48 DL rfl fun k f=>?_;refine bO [1000,1001] hb rfl rfl rfl rfl (fun v ⟨e,h⟩=>⟨e,aR h⟩) ?_;rintro v Mo ⟨ns,r,e,rfl,rfl⟩ _ _;refine qa (wW (fe e)) fun n d=>?_;cases d;refine⟨rfl,?_⟩;exact cR [1000,1001] rfl rfl rfl rfl ⟨n,r,aj e,rfl,rfl⟩
theorem Pc (d:Int):CallsT PZ 85 [IC d] [] (iK [] (.fn 95 [] [.pt [IC d] 0])):=by
 refine au Tryd.func85 KM rfl fun a _=>?_;exact bC rfl rfl
theorem ent (f:Nat) {fn:Func}(h:PZ.funcs[f]?=some fn) (h2:fn.body.isSome=true) (h3:(fn.name == "runtime.NumGoroutine")=false):lY PZ f:=⟨fn,h,h2,h3⟩
theorem Eh (x:Vl):xw 8 (rE x):=by
 cases x;exact⟨rfl,rfl,rfl⟩
def zV:List C:=[IC 0,IC 0,IC 0,IC 0,.sl [],.bool false,.sl [],.sl []]
theorem Lg (n:Int):xw 1 [IC n]:=⟨rfl,rfl,rfl⟩
theorem u5:fV 70 [] [.fn 71 [] []] (dz ga) [.sl []] (fun l=>[.sl (wL l)]):=QS Q5 (ent 71 Tryd.func71 rfl rfl) Lg
theorem Pd:∀d:Nat,(d:Int)<=60->fV 95 [] [.pt [IC d] 0] (K6 d) zV rE
 | 0,hd=>by
  intro t pre post bs o r;refine ai Tryd.func95 uX rfl fun hw x=>?_;refine tO (sN false) rfl (fun h=>⟨rfl,rfl⟩) fun h=>by cases h
 | d+1,hd=>by
  intro t pre post bs o r;have ih:=Pd d (by omega);have hl:=Pb ih (ent 95 Tryd.func95 rfl rfl) Eh;have hn:=ur (t:=t) (bs:=bs) (a:=[]) (b:=[.sl [],.bool false,.sl [],.sl []]) [0,0,0,0] o r dN (aO rfl);refine ai Tryd.func95 uX rfl fun hw x=>?_;refine aV (fun y=>?_) (fun y=>xo (show(0:Int)<((d+1:Nat):Int) by omega) y);refine tO (sN true) rfl (fun h=>by cases h) fun _=>?_;refine bY [1000,1001] hn rfl rfl rfl rfl (fun v ⟨e,h⟩=>⟨e,by simp only[K6];exact aR h⟩) ?_;rintro v Mo ⟨ns,r1,f,rfl,rfl⟩ _ _;refine qa (Ld (fe f)) fun k c=>qa c fun i c=>qa c fun j c=>qa c fun n c=>?_;cases c;have f:bA ga 4 bs=some ([k,i,j,n],r1):=f;refine⟨rfl,?_⟩;refine Fit.to (m:=(d:Int)) (by rw[show((d+1:Nat):Int)-1=(d:Int) by omega];exact bM (by omega) (by omega)) ?_;refine gW (Pc d) rfl fun _=>?_;refine bY [1000,1001] (hl.at (t:=t) (bs:=r1) (a:=[IC k,IC i,IC j,IC n]) (b:=[.bool false,.sl [],.sl []]) o r (aO rfl) (aO rfl)) rfl rfl rfl rfl (fun v ⟨e,h⟩=>⟨e,by simp only[K6];rw[aj f,aR h]⟩) ?_;rintro v Mo ⟨u,r2,w,rfl,rfl⟩ _ _;refine⟨rfl,?_⟩;refine bO [1000,1001] (Eg (t:=t) (bs:=r2) (a:=[IC k,IC i,IC j,IC n,.sl (u.map rE)]) (b:=[.sl [],.sl []]) [false] o r (aO rfl) (aO rfl)) rfl rfl rfl rfl (fun v ⟨e,h⟩=>⟨e,by simp only[K6];rw[aj f,aj w];exact aR h⟩) ?_;rintro v Mo ⟨ns,z,s,rfl,rfl⟩ _ _;refine qa (wW (fe s)) fun ex c=>?_;cases c;have s:bA oU 1 r2=some ([ex],z):=s;refine⟨rfl,?_⟩;refine bO [1000,1001] (u5.at (t:=t) (bs:=z) (a:=[IC k,IC i,IC j,IC n,.sl (u.map rE),.bool ex]) (b:=[.sl []]) o r (aO rfl) (aO rfl)) rfl rfl rfl rfl (fun v ⟨e,h⟩=>⟨e,by simp only[K6];rw[aj f,aj w,aj s,aR h]⟩) ?_;rintro v Mo ⟨p,r4,e4,rfl,rfl⟩ _ _;refine⟨rfl,?_⟩;refine bO [1000,1001] (u5.at (t:=t) (bs:=r4) (a:=[IC k,IC i,IC j,IC n,.sl (u.map rE),.bool ex,.sl (wL p)]) (b:=[]) o r (aO rfl) (aO rfl)) rfl rfl rfl rfl (fun v ⟨e,h⟩=>⟨e,by simp only[K6];rw[aj f,aj w,aj s,aj e4,aR h]⟩) ?_;rintro v Mo ⟨l,r5,e5,rfl,rfl⟩ _ _;refine⟨rfl,?_⟩;refine cR [1000,1001] rfl rfl rfl rfl ⟨.mk k i j n u ex p l,r5,by simp only[K6];rw[aj f,aj w,aj s,aj e4,aj e5];rfl,?_,rfl⟩;exact p7 (fun q=>[RB r5,TO.win t pre [IC k,IC i,IC j,IC n,.sl q,.bool ex,.sl (wL p),.sl (wL l)] post]) (sH u).symm
theorem Pe:fV 65 [] [] HM zV rE:=by
 intro t pre post bs b a;have h:=Pd 60 (by omega) t pre post bs b a;refine ai Tryd.func65 DW rfl fun d c=>?_;refine bK (Pc 60) rfl fun _=>?_;refine bO [1000,1001] h rfl rfl rfl rfl (fun v h=>h) ?_;rintro v Mo ⟨x,r,e,rfl,rfl⟩ _ _;cases x;refine⟨rfl,?_⟩;exact cR [1000,1001] rfl rfl rfl rfl ⟨_,r,e,rfl,rfl⟩
theorem Pf:fV 52 [] [] PU [.sl []] LX:=by
 intro t pre post bs b a;have h:=Q0 Pe (ent 65 Tryd.func65 rfl rfl) Eh t pre post bs b a;refine ai Tryd.func52 DQ rfl fun d c=>?_;refine bO [1000,1001] h rfl rfl rfl rfl (fun v h=>h) ?_;rintro v Mo ⟨x,r,e,rfl,rfl⟩ _ _;refine⟨rfl,?_⟩;exact cR [1000,1001] rfl rfl rfl rfl ⟨x,r,e,rfl,rfl⟩
theorem Q7:fV 46 [] [] Oa (.bool false::IC 0::zV) D7:=by
 intro t pre post bs j l;refine ai Tryd.func46 DJ rfl fun q o=>?_;refine bO [1000,1001] (Eg (t:=t) (bs:=bs) (a:=[]) (b:=IC 0::zV) [false] j l dN (aO rfl)) rfl rfl rfl rfl (fun v ⟨e,h⟩=>⟨e,aR h⟩) ?_;rintro v Mo ⟨ns,k,c,rfl,rfl⟩ _ _;refine qa (wW (fe c)) fun b f=>?_;cases f;have c:bA oU 1 bs=some ([b],k):=c;refine⟨rfl,?_⟩;refine bO [1000,1001] (ur (t:=t) (bs:=k) (a:=[.bool b]) (b:=zV) [0] j l (aO rfl) (aO rfl)) rfl rfl rfl rfl (fun v ⟨e,h⟩=>⟨e,by unfold Oa;rw[aj c];exact aR h⟩) ?_;rintro v Mo ⟨ns,m,d,rfl,rfl⟩ _ _;refine qa (wW (fe d)) fun a f=>?_;cases f;have d:bA ga 1 k=some ([a],m):=d;refine⟨rfl,?_⟩;refine bO [1000,1001] (Pe.at (t:=t) (bs:=m) (a:=[.bool b,IC a]) (b:=[]) j l (aO rfl) dN) rfl rfl rfl rfl (fun v ⟨e,h⟩=>⟨e,by unfold Oa;rw[aj c,aj d,aR h]⟩) ?_;rintro v Mo ⟨x,n,p,rfl,rfl⟩ _ _;cases x;refine⟨rfl,?_⟩;exact cR [1000,1001] rfl rfl rfl rfl ⟨⟨b,a,.mk _ _ _ _ _ _ _ _⟩,n,by unfold Oa;rw[aj c,aj d,aj p];rfl,rfl,rfl⟩
theorem Q8:fV 67 [] [] Ob [IC 0,IC 0,IC 0,IC 0,IC 0,.sl [],.sl []] FL:=by
 intro t pre post bs o p;refine ai Tryd.func67 DY rfl fun z x=>?_;refine bY [1000,1001] (ur (t:=t) (bs:=bs) (a:=[]) (b:=[.sl [],.sl []]) [0,0,0,0,0] o p dN (aO rfl)) rfl rfl rfl rfl (fun v ⟨e,h⟩=>⟨e,aR h⟩) ?_;rintro v Mo ⟨ns,q,d,rfl,rfl⟩ _ _;refine qa (Le (fe d)) fun n c=>qa c fun m c=>qa c fun f c=>qa c fun j c=>qa c fun k c=>?_;cases c;have d:bA ga 5 bs=some ([n,m,f,j,k],q):=d;refine⟨rfl,?_⟩;refine bO [1000,1001] (Pf.at (t:=t) (bs:=q) (a:=[IC n,IC m,IC f,IC j,IC k]) (b:=[.sl []]) o p (aO rfl) (aO rfl)) rfl rfl rfl rfl (fun v ⟨e,h⟩=>⟨e,by unfold Ob;rw[aj d,aR h]⟩) ?_;rintro v Mo ⟨s,w,r,rfl,rfl⟩ _ _;refine⟨rfl,?_⟩;refine bO [1000,1001] (u5.at (t:=t) (bs:=w) (a:=[IC n,IC m,IC f,IC j,IC k,.sl (s.map rE)]) (b:=[]) o p (aO rfl) dN) rfl rfl rfl rfl (fun v ⟨e,h⟩=>⟨e,by unfold Ob;rw[aj d,aj r,aR h]⟩) ?_;rintro v Mo ⟨l,u,y,rfl,rfl⟩ _ _;refine⟨rfl,?_⟩;exact cR [1000,1001] rfl rfl rfl rfl ⟨⟨n,m,f,j,k,s,l⟩,u,by unfold Ob;rw[aj d,aj r,aj y];rfl,rfl,rfl⟩
theorem Q9:fV 69 [] [] OW [IC 0,IC 0,.bool false,.bool false,.bool false] Iu:=by
 intro t pre post bs o q;refine ai Tryd.func69 D3 rfl fun u s=>?_;refine bY [1000,1001] (ur (t:=t) (bs:=bs) (a:=[]) (b:=[.bool false,.bool false,.bool false]) [0,0] o q dN (aO rfl)) rfl rfl rfl rfl (fun v ⟨e,h⟩=>⟨e,aR h⟩) ?_;rintro v Mo ⟨ns,j,d,rfl,rfl⟩ _ _;refine qa (C2 (fe d)) fun l c=>qa c fun k c=>?_;cases c;have d:bA ga 2 bs=some ([l,k],j):=d;refine⟨rfl,?_⟩;refine bY [1000,1001] (Eg (t:=t) (bs:=j) (a:=[IC l,IC k]) (b:=[]) [false,false,false] o q (aO rfl) dN) rfl rfl rfl rfl (fun v ⟨e,h⟩=>⟨e,by unfold OW;rw[aj d];exact aR h⟩) ?_;rintro v Mo ⟨ns,p,f,rfl,rfl⟩ _ _;refine qa (wX (fe f)) fun m c=>qa c fun r c=>qa c fun n c=>?_;cases c;have f:bA oU 3 j=some ([m,r,n],p):=f;refine⟨rfl,?_⟩;exact cR [1000,1001] rfl rfl rfl rfl ⟨⟨l,k,m,r,n⟩,p,by unfold OW;rw[aj d,aj f];rfl,rfl,rfl⟩
theorem Lh (x:Ac):xw 7 (FL x):=⟨rfl,rfl,rfl⟩
theorem Lj (x:Ln):xw 5 (Iu x):=⟨rfl,rfl,rfl⟩
theorem Ll (x:Tk):xw 7 (D8 x):=⟨rfl,rfl,rfl⟩
theorem Lm (x:Ou):xw 2 (LY x):=⟨rfl,rfl,rfl⟩
theorem Lp (x:Bool):xw 1 (HL x):=⟨rfl,rfl,rfl⟩
theorem Lr (x:List Vl):xw 1 (LX x):=⟨rfl,rfl,rfl⟩
theorem Ls (x:Ce):xw 10 (D7 x):=by
 obtain⟨a,b,v⟩:=x;cases v;exact⟨rfl,rfl,rfl⟩
theorem NC:fV 66 [] [.fn 67 [] []] (dz Ob) [.sl []] (fun l=>[.sl (l.map FL)]):=QY Q8 (ent 67 Tryd.func67 rfl rfl) Lh
theorem ND:fV 68 [] [.fn 69 [] []] (dz OW) [.sl []] (fun l=>[.sl (l.map Iu)]):=QZ Q9 (ent 69 Tryd.func69 rfl rfl) Lj
theorem Ra:fV 50 [] [] L5 [IC 0,.sl [],.sl [],IC 0,IC 0,IC 0,.sl []] D8:=by
 intro t pre post bs m p;refine ai Tryd.func50 DN rfl fun hw aa=>?_;refine bO [1000,1001] (ur (t:=t) (bs:=bs) (a:=[]) (b:=[.sl [],.sl [],IC 0,IC 0,IC 0,.sl []]) [0] m p dN (aO rfl)) rfl rfl rfl rfl (fun v ⟨e,h⟩=>⟨e,aR h⟩) ?_;rintro v Mo ⟨ns,x,j,rfl,rfl⟩ _ _;refine qa (wW (fe j)) fun s k=>?_;cases k;have j:bA ga 1 bs=some ([s],x):=j;refine⟨rfl,?_⟩;refine bO [1000,1001] (NC.at (t:=t) (bs:=x) (a:=[IC s]) (b:=[.sl [],IC 0,IC 0,IC 0,.sl []]) m p (aO rfl) (aO rfl)) rfl rfl rfl rfl (fun v ⟨e,h⟩=>⟨e,by unfold L5;rw[aj j,aR h]⟩) ?_;rintro v Mo ⟨f,z,q,rfl,rfl⟩ _ _;refine⟨rfl,?_⟩;refine bO [1000,1001] (ND.at (t:=t) (bs:=z) (a:=[IC s,.sl (f.map FL)]) (b:=[IC 0,IC 0,IC 0,.sl []]) m p (aO rfl) (aO rfl)) rfl rfl rfl rfl (fun v ⟨e,h⟩=>⟨e,by unfold L5;rw[aj j,aj q,aR h]⟩) ?_;rintro v Mo ⟨l,u,r,rfl,rfl⟩ _ _;refine⟨rfl,?_⟩;refine bY [1000,1001] (ur (t:=t) (bs:=u) (a:=[IC s,.sl (f.map FL),.sl (l.map Iu)]) (b:=[.sl []]) [0,0,0] m p (aO rfl) (aO rfl)) rfl rfl rfl rfl (fun v ⟨e,h⟩=>⟨e,by unfold L5;rw[aj j,aj q,aj r];exact aR h⟩) ?_;rintro v Mo ⟨ns,w,o,rfl,rfl⟩ _ _;refine qa (wX (fe o)) fun a k=>qa k fun c k=>qa k fun n k=>?_;cases k;have o:bA ga 3 u=some ([a,c,n],w):=o;refine⟨rfl,?_⟩;refine bO [1000,1001] (u5.at (t:=t) (bs:=w) (a:=[IC s,.sl (f.map FL),.sl (l.map Iu),IC a,IC c,IC n]) (b:=[]) m p (aO rfl) dN) rfl rfl rfl rfl (fun v ⟨e,h⟩=>⟨e,by unfold L5;rw[aj j,aj q,aj r,aj o,aR h]⟩) ?_;rintro v Mo ⟨d,r5,y,rfl,rfl⟩ _ _;refine⟨rfl,?_⟩;exact cR [1000,1001] rfl rfl rfl rfl ⟨⟨s,f,l,a,c,n,d⟩,r5,by unfold L5;rw[aj j,aj q,aj r,aj o,aj y];rfl,rfl,rfl⟩
theorem Rb:fV 54 [] [] Qp [IC 0,IC 0] LY:=by
 intro t pre post bs l n;refine ai Tryd.func54 DS rfl fun o m=>?_;refine bY [1000,1001] (ur (t:=t) (bs:=bs) (a:=[]) (b:=[]) [0,0] l n dN dN) rfl rfl rfl rfl (fun v ⟨e,h⟩=>⟨e,aR h⟩) ?_;rintro v Mo ⟨ns,f,c,rfl,rfl⟩ _ _;refine qa (C2 (fe c)) fun k d=>qa d fun j d=>?_;cases d;have c:bA ga 2 bs=some ([k,j],f):=c;refine⟨rfl,?_⟩;exact cR [1000,1001] rfl rfl rfl rfl ⟨⟨k,j⟩,f,aj c,rfl,rfl⟩
theorem NE:fV 45 [] [.fn 46 [] []] (dz Oa) [.sl []] (fun l=>[.sl (l.map D7)]):=QU Q7 (ent 46 Tryd.func46 rfl rfl) Ls
theorem NF:fV 47 [] [.fn 48 [] []] (dz Qq) [.sl []] (fun l=>[.sl (l.map HL)]):=QT Q6 (ent 48 Tryd.func48 rfl rfl) Lp
theorem NG:fV 49 [] [.fn 50 [] []] (dz L5) [.sl []] (fun l=>[.sl (l.map D8)]):=QV Ra (ent 50 Tryd.func50 rfl rfl) Ll
theorem NH:fV 51 [] [.fn 52 [] []] (dz PU) [.sl []] (fun l=>[.sl (l.map LX)]):=QW Pf (ent 52 Tryd.func52 rfl rfl) Lr
theorem NI:fV 53 [] [.fn 54 [] []] (dz Qp) [.sl []] (fun l=>[.sl (l.map LY)]):=QX Rb (ent 54 Tryd.func54 rfl rfl) Lm
theorem Rc (t:Nat) (d f:List (List C)) (j:Int) (bs:List UInt8):CallsTX PZ 33 [.ifo none 52 1000 0,.own 1001 0] [RB bs,.box t [.sl d,.sl f,IC j,.sl [],.sl [],.sl [],.sl [],.sl [],IC 0,IC 0,IC 0]]
  (fun Mo c=>∃x r,D9 bs=some (x,r)/\Mo=[RB r,.box t (.sl d::.sl f::IC j::N9 x)]/\c=.tup []) (fun v=>v=eS/\D9 bs=none):=by
 refine CallsTX.view (Lin:=[RB bs,.win t [] ([.sl d,.sl f,IC j]++[.sl [],.sl [],.sl [],.sl [],.sl [],IC 0,IC 0,IC 0]) []])
  (R:=fun Mo c=>∃x r,D9 bs=some (x,r)/\Mo=[RB r,.win t [] ([.sl d,.sl f,IC j]++N9 x) []]/\c=.tup []) (Pp:=fun v=>v=eS/\D9 bs=none) ?_
  (vw.same (vw.cons (u4 rfl dN dN) (vw.refl []))) (fun Mo c ⟨x,r,e,q1,q2⟩=>⟨_,by rw[q1];exact vw.same (vw.cons (z6 (by simp)) (vw.refl [])),x,r,e,rfl,q2⟩) fun _ h=>h
 refine ai Tryd.func33 DG rfl fun hw an=>?_;refine bO [1000,1001] (NE.at (t:=t) (bs:=bs) (pre:=[]) (post:=[]) (a:=[.sl d,.sl f,IC j]) (b:=[.sl [],.sl [],.sl [],.sl [],IC 0,IC 0,IC 0]) dN dN (aO rfl) (aO rfl)) rfl rfl rfl rfl (fun v ⟨e,h⟩=>⟨e,aR h⟩) ?_;rintro v Mo ⟨k,r1,l,rfl,rfl⟩ _ _;refine⟨rfl,?_⟩;refine bO [1000,1001] (NF.at (t:=t) (bs:=r1) (pre:=[]) (post:=[]) (a:=[.sl d,.sl f,IC j,.sl (k.map D7)]) (b:=[.sl [],.sl [],.sl [],IC 0,IC 0,IC 0]) dN dN (aO rfl) (aO rfl)) rfl rfl rfl rfl (fun v ⟨e,h⟩=>⟨e,by unfold D9;rw[aj l,aR h]⟩) ?_;rintro v Mo ⟨o,r2,p,rfl,rfl⟩ _ _;refine⟨rfl,?_⟩;refine bO [1000,1001] (NG.at (t:=t) (bs:=r2) (pre:=[]) (post:=[]) (a:=[.sl d,.sl f,IC j,.sl (k.map D7),.sl (o.map HL)]) (b:=[.sl [],.sl [],IC 0,IC 0,IC 0]) dN dN (aO rfl) (aO rfl)) rfl rfl rfl rfl (fun v ⟨e,h⟩=>⟨e,by unfold D9;rw[aj l,aj p,aR h]⟩) ?_;rintro v Mo ⟨s,r3,u,rfl,rfl⟩ _ _;refine⟨rfl,?_⟩;refine bO [1000,1001] (NH.at (t:=t) (bs:=r3) (pre:=[]) (post:=[]) (a:=[.sl d,.sl f,IC j,.sl (k.map D7),.sl (o.map HL),.sl (s.map D8)]) (b:=[.sl [],IC 0,IC 0,IC 0]) dN dN (aO rfl) (aO rfl)) rfl rfl rfl rfl (fun v ⟨e,h⟩=>⟨e,by unfold D9;rw[aj l,aj p,aj u,aR h]⟩) ?_;rintro v Mo ⟨w,r4,y,rfl,rfl⟩ _ _;refine⟨rfl,?_⟩;refine bO [1000,1001] (NI.at (t:=t) (bs:=r4) (pre:=[]) (post:=[]) (a:=[.sl d,.sl f,IC j,.sl (k.map D7),.sl (o.map HL),.sl (s.map D8),.sl (w.map LX)]) (b:=[IC 0,IC 0,IC 0]) dN dN (aO rfl) (aO rfl)) rfl rfl rfl rfl (fun v ⟨e,h⟩=>⟨e,by unfold D9;rw[aj l,aj p,aj u,aj y,aR h]⟩) ?_;rintro v Mo ⟨x5,r5,z,rfl,rfl⟩ _ _;refine⟨rfl,?_⟩;refine bY [1000,1001] (ur (t:=t) (bs:=r5) (pre:=[]) (post:=[]) (a:=[.sl d,.sl f,IC j,.sl (k.map D7),.sl (o.map HL),.sl (s.map D8),.sl (w.map LX),.sl (x5.map LY)]) (b:=[]) [0,0,0] dN dN (aO rfl) dN) rfl rfl rfl rfl (fun v ⟨e,h⟩=>⟨e,by unfold D9;rw[aj l,aj p,aj u,aj y,aj z];exact aR h⟩) ?_;rintro v Mo ⟨ns,r6,q,rfl,rfl⟩ _ _;refine qa (wX (fe q)) fun a m=>qa m fun c m=>qa m fun n m=>?_;cases m;have q:bA ga 3 r5=some ([a,c,n],r6):=q;refine⟨rfl,?_⟩;exact cR [1000,1001] rfl rfl rfl rfl ⟨⟨k,o,s,w,x5,a,c,n⟩,r6,by unfold D9;rw[aj l,aj p,aj u,aj y,aj z,aj q];rfl,rfl,rfl⟩
end Go.Fr.Tryd
