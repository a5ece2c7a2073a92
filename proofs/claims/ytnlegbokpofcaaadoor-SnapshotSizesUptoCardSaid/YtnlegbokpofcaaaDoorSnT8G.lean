/- Part of the proofs of the statements of this seat. -/
import Derived.Test.YtnlegbokpofcaaaDoorSnT5G
set_option maxRecDepth 10000
set_option linter.unusedVariables false
set_option linter.unusedSimpArgs false
namespace Go.Fr.Tryd
open Go Go.RowKit Go.Proofs Go.Fr Go.Fr.T Go.Fr.Api
theorem Q8 {α:Type}{f:Nat}{a:Dec α}{cs:α->List C}(u:ga f [] [] a [IC 0] cs) (he:mg PZ f) (ac:∀x,xD 1 (cs x)):ga 70 [] [.fn f [] []] (dD a) [.sl []] (fun l=>[.sl (l.map cs)]):=by
 intro t pre post bs _ _;refine ai Tryd.func70 D8 rfl fun hw ar=>?_;refine⟨.inl ⟨0,rfl,?_⟩⟩;refine⟨rfl,?_⟩;refine⟨114,xW,?_⟩;refine bZ [1000] (xV 0 bs) rfl rfl rfl rfl (fun v ⟨e,h⟩=>⟨e,aS h⟩) ?_;rintro v Mo ⟨n,p,e0,rfl,rfl⟩ _ _;refine⟨rfl,?_⟩;have hD:dD a bs=bA a n p:=aj e0;have hn:=j9 e0;refine⟨.inl ⟨0,rfl,?_⟩⟩;refine aH (fun hb=>?_) (fun hb=>?_)
 ·refine⟨by omega,XF _,by omega,by simp only[maxLen];omega,?_⟩;refine⟨.inl ⟨0,rfl,?_⟩⟩;refine⟨.inl ⟨0,rfl,?_⟩⟩;have w:∀m:Nat,((List.replicate m [IC 0]:List (List C)).length:Int)=m:=fun m=>by simp
  refine bX n 31 [] (([],p):List α×List UInt8) (fun _=>[]) (fun s=>[(25,.row 3 1 (s.1.map cs++List.replicate (n-s.1.length) [IC 0])),(1000,RB s.2),(1001,.win t pre [.rw 25] post)])
   (fun k s=>s.1.length=k/\(∀xs r,bA a (n-k) s.2=some (xs,r)->bA a n p=some (s.1++xs,r))/\(bA a (n-k) s.2=none->bA a n p=none))
   ⟨rfl,fun xs r h=>h,fun h=>h⟩ (aq rfl) trivial ⟨.inl ⟨_,rfl,.inl ⟨rfl,rfl⟩⟩,.inl ⟨_,rfl,.inl ⟨rfl,rfl⟩⟩,.inl ⟨_,rfl,.inl ⟨rfl,rfl⟩⟩,trivial⟩ (fun _=>rfl) (fun _=>rfl) ?_
  rintro k ⟨done,b⟩ hk ⟨z,o,y⟩ _ _ al;simp only at z o y;refine aR (fun c=>?_) (fun j=>?_)
  ·have c:k<n:=by have h:(k:Int)<((List.replicate n [IC 0]:List (List C)).length:Int):=c;rw[w] at h;omega
   refine⟨.inl ⟨0,rfl,?_⟩⟩;refine⟨by omega,by simp;omega,?_⟩;refine m8 [1000,25] (gJ (e:=3) (sz:=1) (ca:=[]) u he rfl (fun d u=>by
    rcases Xh.1 u with rfl | u
    ·exact⟨rfl,rfl⟩
    ·cases u) ac ⟨rfl,rfl,rfl⟩ z c b) rfl rfl rfl rfl (fun v ⟨e,h⟩=>⟨e,?_⟩) ?_
   ·rw[hD];exact y (by rw[show n-k=(n-(k+1))+1 by omega];simp only[bA,h])
   rintro v Mo ⟨x,r,e1,rfl,rfl⟩ _ _;refine⟨rfl,?_⟩;refine Fit.Ww (by omega) (by omega) ?_;rw[show n-k=(n-(k+1))+1 by omega] at o y;simp only[bA,e1] at o y;refine⟨(k+1,done++[x],r),⟨by omega,by simp[z],fun xs r' h=>?_,fun h=>?_⟩,⟨cG,trivial⟩,⟨.inl ⟨_,rfl,.inl ⟨rfl,rfl⟩⟩,.inl ⟨_,rfl,.inl ⟨rfl,rfl⟩⟩,.inl ⟨_,rfl,.inl ⟨rfl,rfl⟩⟩,trivial⟩,cH c⟩
   ·rw[o (x::xs) r' (by simp only[h])];simp
   ·exact y (by simp only[h])
  ·have j:n-k=0:=by
    have h:¬(k:Int)<((List.replicate n [IC 0]:List (List C)).length:Int):=j;rw[w] at h;omega
   rw[j] at o;have hf:=o [] b rfl;rw[Xz] at hf;refine qh [25] [1000,1001] ⟨_,_,rfl,rfl,rfl,done,b,by rw[hD];exact hf,?_,rfl⟩;have hl:n-done.length=0:=by omega
   exact p7 (fun q=>[RB b,TO.win t pre [C.sl q] post]) (show done.map cs++List.replicate (n-done.length) [IC 0]=done.map cs by rw[hl];simp)
 ·have ad:n=0:=by
   have h:=hb;simp at h;omega
  subst ad;refine⟨.inl ⟨0,rfl,?_⟩⟩;refine bX 0 31 [] () (fun _=>[]) (fun _=>[(1000,RB p),(1001,.win t pre [.sl []] post)]) (fun _ _=>True) trivial (aq rfl) trivial ⟨.inl ⟨_,rfl,.inl ⟨rfl,rfl⟩⟩,.inl ⟨_,rfl,.inl ⟨rfl,rfl⟩⟩,trivial⟩ (fun _=>rfl) (fun _=>rfl) ?_;rintro k ⟨⟩ hk _ _ _ _;exact cS [1000,1001] rfl rfl rfl rfl ⟨[],p,by rw[hD];rfl,rfl,rfl⟩
theorem Q9 {α:Type}{f:Nat}{a:Dec α}{cs:α->List C}(u:ga f [] [] a [.bool false] cs) (he:mg PZ f) (ac:∀x,xD 1 (cs x)):ga 47 [] [.fn f [] []] (dD a) [.sl []] (fun l=>[.sl (l.map cs)]):=by
 intro t pre post bs _ _;refine ai Tryd.func47 DP rfl fun hw ar=>?_;refine⟨.inl ⟨0,rfl,?_⟩⟩;refine⟨rfl,?_⟩;refine⟨114,xW,?_⟩;refine bZ [1000] (xV 0 bs) rfl rfl rfl rfl (fun v ⟨e,h⟩=>⟨e,aS h⟩) ?_;rintro v Mo ⟨n,p,e0,rfl,rfl⟩ _ _;refine⟨rfl,?_⟩;have hD:dD a bs=bA a n p:=aj e0;have hn:=j9 e0;refine⟨.inl ⟨0,rfl,?_⟩⟩;refine aH (fun hb=>?_) (fun hb=>?_)
 ·refine⟨by omega,XF _,by omega,by simp only[maxLen];omega,?_⟩;refine⟨.inl ⟨0,rfl,?_⟩⟩;refine⟨.inl ⟨0,rfl,?_⟩⟩;have w:∀m:Nat,((List.replicate m [.bool false]:List (List C)).length:Int)=m:=fun m=>by simp
  refine bX n 31 [] (([],p):List α×List UInt8) (fun _=>[]) (fun s=>[(25,.row 4 1 (s.1.map cs++List.replicate (n-s.1.length) [.bool false])),(1000,RB s.2),(1001,.win t pre [.rw 25] post)])
   (fun k s=>s.1.length=k/\(∀xs r,bA a (n-k) s.2=some (xs,r)->bA a n p=some (s.1++xs,r))/\(bA a (n-k) s.2=none->bA a n p=none))
   ⟨rfl,fun xs r h=>h,fun h=>h⟩ (aq rfl) trivial ⟨.inl ⟨_,rfl,.inl ⟨rfl,rfl⟩⟩,.inl ⟨_,rfl,.inl ⟨rfl,rfl⟩⟩,.inl ⟨_,rfl,.inl ⟨rfl,rfl⟩⟩,trivial⟩ (fun _=>rfl) (fun _=>rfl) ?_
  rintro k ⟨done,b⟩ hk ⟨z,o,y⟩ _ _ al;simp only at z o y;refine aR (fun c=>?_) (fun j=>?_)
  ·have c:k<n:=by have h:(k:Int)<((List.replicate n [.bool false]:List (List C)).length:Int):=c;rw[w] at h;omega
   refine⟨.inl ⟨0,rfl,?_⟩⟩;refine⟨by omega,by simp;omega,?_⟩;refine m8 [1000,25] (gJ (e:=4) (sz:=1) (ca:=[]) u he rfl (fun d u=>by
    rcases Xh.1 u with rfl | u
    ·exact⟨rfl,rfl⟩
    ·cases u) ac ⟨rfl,rfl,rfl⟩ z c b) rfl rfl rfl rfl (fun v ⟨e,h⟩=>⟨e,?_⟩) ?_
   ·rw[hD];exact y (by rw[show n-k=(n-(k+1))+1 by omega];simp only[bA,h])
   rintro v Mo ⟨x,r,e1,rfl,rfl⟩ _ _;refine⟨rfl,?_⟩;refine Fit.Ww (by omega) (by omega) ?_;rw[show n-k=(n-(k+1))+1 by omega] at o y;simp only[bA,e1] at o y;refine⟨(k+1,done++[x],r),⟨by omega,by simp[z],fun xs r' h=>?_,fun h=>?_⟩,⟨cG,trivial⟩,⟨.inl ⟨_,rfl,.inl ⟨rfl,rfl⟩⟩,.inl ⟨_,rfl,.inl ⟨rfl,rfl⟩⟩,.inl ⟨_,rfl,.inl ⟨rfl,rfl⟩⟩,trivial⟩,cH c⟩
   ·rw[o (x::xs) r' (by simp only[h])];simp
   ·exact y (by simp only[h])
  ·have j:n-k=0:=by
    have h:¬(k:Int)<((List.replicate n [.bool false]:List (List C)).length:Int):=j;rw[w] at h;omega
   rw[j] at o;have hf:=o [] b rfl;rw[Xz] at hf;refine qh [25] [1000,1001] ⟨_,_,rfl,rfl,rfl,done,b,by rw[hD];exact hf,?_,rfl⟩;have hl:n-done.length=0:=by omega
   exact p7 (fun q=>[RB b,TO.win t pre [C.sl q] post]) (show done.map cs++List.replicate (n-done.length) [.bool false]=done.map cs by rw[hl];simp)
 ·have ad:n=0:=by
   have h:=hb;simp at h;omega
  subst ad;refine⟨.inl ⟨0,rfl,?_⟩⟩;refine bX 0 31 [] () (fun _=>[]) (fun _=>[(1000,RB p),(1001,.win t pre [.sl []] post)]) (fun _ _=>True) trivial (aq rfl) trivial ⟨.inl ⟨_,rfl,.inl ⟨rfl,rfl⟩⟩,.inl ⟨_,rfl,.inl ⟨rfl,rfl⟩⟩,trivial⟩ (fun _=>rfl) (fun _=>rfl) ?_;rintro k ⟨⟩ hk _ _ _ _;exact cS [1000,1001] rfl rfl rfl rfl ⟨[],p,by rw[hD];rfl,rfl,rfl⟩
theorem Ra {α:Type}{f:Nat}{a:Dec α}{cs:α->List C}(u:ga f [] [] a [.bool false,IC 0,IC 0,IC 0,IC 0,IC 0,.sl [],.bool false,.sl [],.sl []] cs) (he:mg PZ f) (ac:∀x,xD 10 (cs x)):ga 45 [] [.fn f [] []] (dD a) [.sl []] (fun l=>[.sl (l.map cs)]):=by
 intro t pre post bs _ _;refine ai Tryd.func45 DM rfl fun hw ar=>?_;refine⟨.inl ⟨0,rfl,?_⟩⟩;refine⟨rfl,?_⟩;refine⟨114,xW,?_⟩;refine bZ [1000] (xV 0 bs) rfl rfl rfl rfl (fun v ⟨e,h⟩=>⟨e,aS h⟩) ?_;rintro v Mo ⟨n,p,e0,rfl,rfl⟩ _ _;refine⟨rfl,?_⟩;have hD:dD a bs=bA a n p:=aj e0;have hn:=j9 e0;refine⟨.inl ⟨0,rfl,?_⟩⟩;refine aH (fun hb=>?_) (fun hb=>?_)
 ·refine⟨by omega,XF _,by omega,by simp only[maxLen];omega,?_⟩;refine⟨.inl ⟨0,rfl,?_⟩⟩;refine⟨.inl ⟨0,rfl,?_⟩⟩;have w:∀m:Nat,((List.replicate m [.bool false,IC 0,IC 0,IC 0,IC 0,IC 0,.sl [],.bool false,.sl [],.sl []]:List (List C)).length:Int)=m:=fun m=>by simp
  refine bX n 31 [] (([],p):List α×List UInt8) (fun _=>[]) (fun s=>[(25,.row 92 10 (s.1.map cs++List.replicate (n-s.1.length) [.bool false,IC 0,IC 0,IC 0,IC 0,IC 0,.sl [],.bool false,.sl [],.sl []])),(1000,RB s.2),(1001,.win t pre [.rw 25] post)])
   (fun k s=>s.1.length=k/\(∀xs r,bA a (n-k) s.2=some (xs,r)->bA a n p=some (s.1++xs,r))/\(bA a (n-k) s.2=none->bA a n p=none))
   ⟨rfl,fun xs r h=>h,fun h=>h⟩ (aq rfl) trivial ⟨.inl ⟨_,rfl,.inl ⟨rfl,rfl⟩⟩,.inl ⟨_,rfl,.inl ⟨rfl,rfl⟩⟩,.inl ⟨_,rfl,.inl ⟨rfl,rfl⟩⟩,trivial⟩ (fun _=>rfl) (fun _=>rfl) ?_
  rintro k ⟨done,b⟩ hk ⟨z,o,y⟩ _ _ al;simp only at z o y;refine aR (fun c=>?_) (fun j=>?_)
  ·have c:k<n:=by have h:(k:Int)<((List.replicate n [.bool false,IC 0,IC 0,IC 0,IC 0,IC 0,.sl [],.bool false,.sl [],.sl []]:List (List C)).length:Int):=c;rw[w] at h;omega
   refine⟨.inl ⟨0,rfl,?_⟩⟩;refine⟨by omega,by simp;omega,?_⟩;refine m8 [1000,25] (gJ (e:=92) (sz:=10) (ca:=[]) u he rfl (fun d u=>by
    rcases Xh.1 u with rfl | u
    ·exact⟨rfl,rfl⟩
    ·cases u) ac ⟨rfl,rfl,rfl⟩ z c b) rfl rfl rfl rfl (fun v ⟨e,h⟩=>⟨e,?_⟩) ?_
   ·rw[hD];exact y (by rw[show n-k=(n-(k+1))+1 by omega];simp only[bA,h])
   rintro v Mo ⟨x,r,e1,rfl,rfl⟩ _ _;refine⟨rfl,?_⟩;refine Fit.Ww (by omega) (by omega) ?_;rw[show n-k=(n-(k+1))+1 by omega] at o y;simp only[bA,e1] at o y;refine⟨(k+1,done++[x],r),⟨by omega,by simp[z],fun xs r' h=>?_,fun h=>?_⟩,⟨cG,trivial⟩,⟨.inl ⟨_,rfl,.inl ⟨rfl,rfl⟩⟩,.inl ⟨_,rfl,.inl ⟨rfl,rfl⟩⟩,.inl ⟨_,rfl,.inl ⟨rfl,rfl⟩⟩,trivial⟩,cH c⟩
   ·rw[o (x::xs) r' (by simp only[h])];simp
   ·exact y (by simp only[h])
  ·have j:n-k=0:=by
    have h:¬(k:Int)<((List.replicate n [.bool false,IC 0,IC 0,IC 0,IC 0,IC 0,.sl [],.bool false,.sl [],.sl []]:List (List C)).length:Int):=j;rw[w] at h;omega
   rw[j] at o;have hf:=o [] b rfl;rw[Xz] at hf;refine qh [25] [1000,1001] ⟨_,_,rfl,rfl,rfl,done,b,by rw[hD];exact hf,?_,rfl⟩;have hl:n-done.length=0:=by omega
   exact p7 (fun q=>[RB b,TO.win t pre [C.sl q] post]) (show done.map cs++List.replicate (n-done.length) [.bool false,IC 0,IC 0,IC 0,IC 0,IC 0,.sl [],.bool false,.sl [],.sl []]=done.map cs by rw[hl];simp)
 ·have ad:n=0:=by
   have h:=hb;simp at h;omega
  subst ad;refine⟨.inl ⟨0,rfl,?_⟩⟩;refine bX 0 31 [] () (fun _=>[]) (fun _=>[(1000,RB p),(1001,.win t pre [.sl []] post)]) (fun _ _=>True) trivial (aq rfl) trivial ⟨.inl ⟨_,rfl,.inl ⟨rfl,rfl⟩⟩,.inl ⟨_,rfl,.inl ⟨rfl,rfl⟩⟩,trivial⟩ (fun _=>rfl) (fun _=>rfl) ?_;rintro k ⟨⟩ hk _ _ _ _;exact cS [1000,1001] rfl rfl rfl rfl ⟨[],p,by rw[hD];rfl,rfl,rfl⟩
theorem Rb {α:Type}{f:Nat}{a:Dec α}{cs:α->List C}(u:ga f [] [] a [IC 0,.sl [],.sl [],IC 0,IC 0,IC 0,.sl []] cs) (he:mg PZ f) (ac:∀x,xD 7 (cs x)):ga 49 [] [.fn f [] []] (dD a) [.sl []] (fun l=>[.sl (l.map cs)]):=by
 intro t pre post bs _ _;refine ai Tryd.func49 DR rfl fun hw ar=>?_;refine⟨.inl ⟨0,rfl,?_⟩⟩;refine⟨rfl,?_⟩;refine⟨114,xW,?_⟩;refine bZ [1000] (xV 0 bs) rfl rfl rfl rfl (fun v ⟨e,h⟩=>⟨e,aS h⟩) ?_;rintro v Mo ⟨n,p,e0,rfl,rfl⟩ _ _;refine⟨rfl,?_⟩;have hD:dD a bs=bA a n p:=aj e0;have hn:=j9 e0;refine⟨.inl ⟨0,rfl,?_⟩⟩;refine aH (fun hb=>?_) (fun hb=>?_)
 ·refine⟨by omega,XF _,by omega,by simp only[maxLen];omega,?_⟩;refine⟨.inl ⟨0,rfl,?_⟩⟩;refine⟨.inl ⟨0,rfl,?_⟩⟩;have w:∀m:Nat,((List.replicate m [IC 0,.sl [],.sl [],IC 0,IC 0,IC 0,.sl []]:List (List C)).length:Int)=m:=fun m=>by simp
  refine bX n 31 [] (([],p):List α×List UInt8) (fun _=>[]) (fun s=>[(25,.row 88 7 (s.1.map cs++List.replicate (n-s.1.length) [IC 0,.sl [],.sl [],IC 0,IC 0,IC 0,.sl []])),(1000,RB s.2),(1001,.win t pre [.rw 25] post)])
   (fun k s=>s.1.length=k/\(∀xs r,bA a (n-k) s.2=some (xs,r)->bA a n p=some (s.1++xs,r))/\(bA a (n-k) s.2=none->bA a n p=none))
   ⟨rfl,fun xs r h=>h,fun h=>h⟩ (aq rfl) trivial ⟨.inl ⟨_,rfl,.inl ⟨rfl,rfl⟩⟩,.inl ⟨_,rfl,.inl ⟨rfl,rfl⟩⟩,.inl ⟨_,rfl,.inl ⟨rfl,rfl⟩⟩,trivial⟩ (fun _=>rfl) (fun _=>rfl) ?_
  rintro k ⟨done,b⟩ hk ⟨z,o,y⟩ _ _ al;simp only at z o y;refine aR (fun c=>?_) (fun j=>?_)
  ·have c:k<n:=by have h:(k:Int)<((List.replicate n [IC 0,.sl [],.sl [],IC 0,IC 0,IC 0,.sl []]:List (List C)).length:Int):=c;rw[w] at h;omega
   refine⟨.inl ⟨0,rfl,?_⟩⟩;refine⟨by omega,by simp;omega,?_⟩;refine m8 [1000,25] (gJ (e:=88) (sz:=7) (ca:=[]) u he rfl (fun d u=>by
    rcases Xh.1 u with rfl | u
    ·exact⟨rfl,rfl⟩
    ·cases u) ac ⟨rfl,rfl,rfl⟩ z c b) rfl rfl rfl rfl (fun v ⟨e,h⟩=>⟨e,?_⟩) ?_
   ·rw[hD];exact y (by rw[show n-k=(n-(k+1))+1 by omega];simp only[bA,h])
   rintro v Mo ⟨x,r,e1,rfl,rfl⟩ _ _;refine⟨rfl,?_⟩;refine Fit.Ww (by omega) (by omega) ?_;rw[show n-k=(n-(k+1))+1 by omega] at o y;simp only[bA,e1] at o y;refine⟨(k+1,done++[x],r),⟨by omega,by simp[z],fun xs r' h=>?_,fun h=>?_⟩,⟨cG,trivial⟩,⟨.inl ⟨_,rfl,.inl ⟨rfl,rfl⟩⟩,.inl ⟨_,rfl,.inl ⟨rfl,rfl⟩⟩,.inl ⟨_,rfl,.inl ⟨rfl,rfl⟩⟩,trivial⟩,cH c⟩
   ·rw[o (x::xs) r' (by simp only[h])];simp
   ·exact y (by simp only[h])
  ·have j:n-k=0:=by
    have h:¬(k:Int)<((List.replicate n [IC 0,.sl [],.sl [],IC 0,IC 0,IC 0,.sl []]:List (List C)).length:Int):=j;rw[w] at h;omega
   rw[j] at o;have hf:=o [] b rfl;rw[Xz] at hf;refine qh [25] [1000,1001] ⟨_,_,rfl,rfl,rfl,done,b,by rw[hD];exact hf,?_,rfl⟩;have hl:n-done.length=0:=by omega
   exact p7 (fun q=>[RB b,TO.win t pre [C.sl q] post]) (show done.map cs++List.replicate (n-done.length) [IC 0,.sl [],.sl [],IC 0,IC 0,IC 0,.sl []]=done.map cs by rw[hl];simp)
 ·have ad:n=0:=by
   have h:=hb;simp at h;omega
  subst ad;refine⟨.inl ⟨0,rfl,?_⟩⟩;refine bX 0 31 [] () (fun _=>[]) (fun _=>[(1000,RB p),(1001,.win t pre [.sl []] post)]) (fun _ _=>True) trivial (aq rfl) trivial ⟨.inl ⟨_,rfl,.inl ⟨rfl,rfl⟩⟩,.inl ⟨_,rfl,.inl ⟨rfl,rfl⟩⟩,trivial⟩ (fun _=>rfl) (fun _=>rfl) ?_;rintro k ⟨⟩ hk _ _ _ _;exact cS [1000,1001] rfl rfl rfl rfl ⟨[],p,by rw[hD];rfl,rfl,rfl⟩
theorem Rc {α:Type}{f:Nat}{a:Dec α}{cs:α->List C}(u:ga f [] [] a [.sl []] cs) (he:mg PZ f) (ac:∀x,xD 1 (cs x)):ga 51 [] [.fn f [] []] (dD a) [.sl []] (fun l=>[.sl (l.map cs)]):=by
 intro t pre post bs _ _;refine ai Tryd.func51 DT rfl fun hw ar=>?_;refine⟨.inl ⟨0,rfl,?_⟩⟩;refine⟨rfl,?_⟩;refine⟨114,xW,?_⟩;refine bZ [1000] (xV 0 bs) rfl rfl rfl rfl (fun v ⟨e,h⟩=>⟨e,aS h⟩) ?_;rintro v Mo ⟨n,p,e0,rfl,rfl⟩ _ _;refine⟨rfl,?_⟩;have hD:dD a bs=bA a n p:=aj e0;have hn:=j9 e0;refine⟨.inl ⟨0,rfl,?_⟩⟩;refine aH (fun hb=>?_) (fun hb=>?_)
 ·refine⟨by omega,XF _,by omega,by simp only[maxLen];omega,?_⟩;refine⟨.inl ⟨0,rfl,?_⟩⟩;refine⟨.inl ⟨0,rfl,?_⟩⟩;have w:∀m:Nat,((List.replicate m [.sl []]:List (List C)).length:Int)=m:=fun m=>by simp
  refine bX n 31 [] (([],p):List α×List UInt8) (fun _=>[]) (fun s=>[(25,.row 78 1 (s.1.map cs++List.replicate (n-s.1.length) [.sl []])),(1000,RB s.2),(1001,.win t pre [.rw 25] post)])
   (fun k s=>s.1.length=k/\(∀xs r,bA a (n-k) s.2=some (xs,r)->bA a n p=some (s.1++xs,r))/\(bA a (n-k) s.2=none->bA a n p=none))
   ⟨rfl,fun xs r h=>h,fun h=>h⟩ (aq rfl) trivial ⟨.inl ⟨_,rfl,.inl ⟨rfl,rfl⟩⟩,.inl ⟨_,rfl,.inl ⟨rfl,rfl⟩⟩,.inl ⟨_,rfl,.inl ⟨rfl,rfl⟩⟩,trivial⟩ (fun _=>rfl) (fun _=>rfl) ?_
  rintro k ⟨done,b⟩ hk ⟨z,o,y⟩ _ _ al;simp only at z o y;refine aR (fun c=>?_) (fun j=>?_)
  ·have c:k<n:=by have h:(k:Int)<((List.replicate n [.sl []]:List (List C)).length:Int):=c;rw[w] at h;omega
   refine⟨.inl ⟨0,rfl,?_⟩⟩;refine⟨by omega,by simp;omega,?_⟩;refine m8 [1000,25] (gJ (e:=78) (sz:=1) (ca:=[]) u he rfl (fun d u=>by
    rcases Xh.1 u with rfl | u
    ·exact⟨rfl,rfl⟩
    ·cases u) ac ⟨rfl,rfl,rfl⟩ z c b) rfl rfl rfl rfl (fun v ⟨e,h⟩=>⟨e,?_⟩) ?_
   ·rw[hD];exact y (by rw[show n-k=(n-(k+1))+1 by omega];simp only[bA,h])
   rintro v Mo ⟨x,r,e1,rfl,rfl⟩ _ _;refine⟨rfl,?_⟩;refine Fit.Ww (by omega) (by omega) ?_;rw[show n-k=(n-(k+1))+1 by omega] at o y;simp only[bA,e1] at o y;refine⟨(k+1,done++[x],r),⟨by omega,by simp[z],fun xs r' h=>?_,fun h=>?_⟩,⟨cG,trivial⟩,⟨.inl ⟨_,rfl,.inl ⟨rfl,rfl⟩⟩,.inl ⟨_,rfl,.inl ⟨rfl,rfl⟩⟩,.inl ⟨_,rfl,.inl ⟨rfl,rfl⟩⟩,trivial⟩,cH c⟩
   ·rw[o (x::xs) r' (by simp only[h])];simp
   ·exact y (by simp only[h])
  ·have j:n-k=0:=by
    have h:¬(k:Int)<((List.replicate n [.sl []]:List (List C)).length:Int):=j;rw[w] at h;omega
   rw[j] at o;have hf:=o [] b rfl;rw[Xz] at hf;refine qh [25] [1000,1001] ⟨_,_,rfl,rfl,rfl,done,b,by rw[hD];exact hf,?_,rfl⟩;have hl:n-done.length=0:=by omega
   exact p7 (fun q=>[RB b,TO.win t pre [C.sl q] post]) (show done.map cs++List.replicate (n-done.length) [.sl []]=done.map cs by rw[hl];simp)
 ·have ad:n=0:=by
   have h:=hb;simp at h;omega
  subst ad;refine⟨.inl ⟨0,rfl,?_⟩⟩;refine bX 0 31 [] () (fun _=>[]) (fun _=>[(1000,RB p),(1001,.win t pre [.sl []] post)]) (fun _ _=>True) trivial (aq rfl) trivial ⟨.inl ⟨_,rfl,.inl ⟨rfl,rfl⟩⟩,.inl ⟨_,rfl,.inl ⟨rfl,rfl⟩⟩,trivial⟩ (fun _=>rfl) (fun _=>rfl) ?_;rintro k ⟨⟩ hk _ _ _ _;exact cS [1000,1001] rfl rfl rfl rfl ⟨[],p,by rw[hD];rfl,rfl,rfl⟩
theorem Rf {α:Type}{f:Nat}{a:Dec α}{cs:α->List C}(u:ga f [] [] a [IC 0,IC 0] cs) (he:mg PZ f) (ac:∀x,xD 2 (cs x)):ga 53 [] [.fn f [] []] (dD a) [.sl []] (fun l=>[.sl (l.map cs)]):=by
 intro t pre post bs _ _;refine ai Tryd.func53 DV rfl fun hw ar=>?_;refine⟨.inl ⟨0,rfl,?_⟩⟩;refine⟨rfl,?_⟩;refine⟨114,xW,?_⟩;refine bZ [1000] (xV 0 bs) rfl rfl rfl rfl (fun v ⟨e,h⟩=>⟨e,aS h⟩) ?_;rintro v Mo ⟨n,p,e0,rfl,rfl⟩ _ _;refine⟨rfl,?_⟩;have hD:dD a bs=bA a n p:=aj e0;have hn:=j9 e0;refine⟨.inl ⟨0,rfl,?_⟩⟩;refine aH (fun hb=>?_) (fun hb=>?_)
 ·refine⟨by omega,XF _,by omega,by simp only[maxLen];omega,?_⟩;refine⟨.inl ⟨0,rfl,?_⟩⟩;refine⟨.inl ⟨0,rfl,?_⟩⟩;have w:∀m:Nat,((List.replicate m [IC 0,IC 0]:List (List C)).length:Int)=m:=fun m=>by simp
  refine bX n 31 [] (([],p):List α×List UInt8) (fun _=>[]) (fun s=>[(25,.row 90 2 (s.1.map cs++List.replicate (n-s.1.length) [IC 0,IC 0])),(1000,RB s.2),(1001,.win t pre [.rw 25] post)])
   (fun k s=>s.1.length=k/\(∀xs r,bA a (n-k) s.2=some (xs,r)->bA a n p=some (s.1++xs,r))/\(bA a (n-k) s.2=none->bA a n p=none))
   ⟨rfl,fun xs r h=>h,fun h=>h⟩ (aq rfl) trivial ⟨.inl ⟨_,rfl,.inl ⟨rfl,rfl⟩⟩,.inl ⟨_,rfl,.inl ⟨rfl,rfl⟩⟩,.inl ⟨_,rfl,.inl ⟨rfl,rfl⟩⟩,trivial⟩ (fun _=>rfl) (fun _=>rfl) ?_
  rintro k ⟨done,b⟩ hk ⟨z,o,y⟩ _ _ al;simp only at z o y;refine aR (fun c=>?_) (fun j=>?_)
  ·have c:k<n:=by have h:(k:Int)<((List.replicate n [IC 0,IC 0]:List (List C)).length:Int):=c;rw[w] at h;omega
   refine⟨.inl ⟨0,rfl,?_⟩⟩;refine⟨by omega,by simp;omega,?_⟩;refine m8 [1000,25] (gJ (e:=90) (sz:=2) (ca:=[]) u he rfl (fun d u=>by
    rcases Xh.1 u with rfl | u
    ·exact⟨rfl,rfl⟩
    ·cases u) ac ⟨rfl,rfl,rfl⟩ z c b) rfl rfl rfl rfl (fun v ⟨e,h⟩=>⟨e,?_⟩) ?_
   ·rw[hD];exact y (by rw[show n-k=(n-(k+1))+1 by omega];simp only[bA,h])
   rintro v Mo ⟨x,r,e1,rfl,rfl⟩ _ _;refine⟨rfl,?_⟩;refine Fit.Ww (by omega) (by omega) ?_;rw[show n-k=(n-(k+1))+1 by omega] at o y;simp only[bA,e1] at o y;refine⟨(k+1,done++[x],r),⟨by omega,by simp[z],fun xs r' h=>?_,fun h=>?_⟩,⟨cG,trivial⟩,⟨.inl ⟨_,rfl,.inl ⟨rfl,rfl⟩⟩,.inl ⟨_,rfl,.inl ⟨rfl,rfl⟩⟩,.inl ⟨_,rfl,.inl ⟨rfl,rfl⟩⟩,trivial⟩,cH c⟩
   ·rw[o (x::xs) r' (by simp only[h])];simp
   ·exact y (by simp only[h])
  ·have j:n-k=0:=by
    have h:¬(k:Int)<((List.replicate n [IC 0,IC 0]:List (List C)).length:Int):=j;rw[w] at h;omega
   rw[j] at o;have hf:=o [] b rfl;rw[Xz] at hf;refine qh [25] [1000,1001] ⟨_,_,rfl,rfl,rfl,done,b,by rw[hD];exact hf,?_,rfl⟩;have hl:n-done.length=0:=by omega
   exact p7 (fun q=>[RB b,TO.win t pre [C.sl q] post]) (show done.map cs++List.replicate (n-done.length) [IC 0,IC 0]=done.map cs by rw[hl];simp)
 ·have ad:n=0:=by
   have h:=hb;simp at h;omega
  subst ad;refine⟨.inl ⟨0,rfl,?_⟩⟩;refine bX 0 31 [] () (fun _=>[]) (fun _=>[(1000,RB p),(1001,.win t pre [.sl []] post)]) (fun _ _=>True) trivial (aq rfl) trivial ⟨.inl ⟨_,rfl,.inl ⟨rfl,rfl⟩⟩,.inl ⟨_,rfl,.inl ⟨rfl,rfl⟩⟩,trivial⟩ (fun _=>rfl) (fun _=>rfl) ?_;rintro k ⟨⟩ hk _ _ _ _;exact cS [1000,1001] rfl rfl rfl rfl ⟨[],p,by rw[hD];rfl,rfl,rfl⟩
theorem Rh {α:Type}{f:Nat}{a:Dec α}{cs:α->List C}(u:ga f [] [] a [IC 0,IC 0,IC 0,IC 0,IC 0,.sl [],.sl []] cs) (he:mg PZ f) (ac:∀x,xD 7 (cs x)):ga 66 [] [.fn f [] []] (dD a) [.sl []] (fun l=>[.sl (l.map cs)]):=by
 intro t pre post bs _ _;refine ai Tryd.func66 D4 rfl fun hw ar=>?_;refine⟨.inl ⟨0,rfl,?_⟩⟩;refine⟨rfl,?_⟩;refine⟨114,xW,?_⟩;refine bZ [1000] (xV 0 bs) rfl rfl rfl rfl (fun v ⟨e,h⟩=>⟨e,aS h⟩) ?_;rintro v Mo ⟨n,p,e0,rfl,rfl⟩ _ _;refine⟨rfl,?_⟩;have hD:dD a bs=bA a n p:=aj e0;have hn:=j9 e0;refine⟨.inl ⟨0,rfl,?_⟩⟩;refine aH (fun hb=>?_) (fun hb=>?_)
 ·refine⟨by omega,XF _,by omega,by simp only[maxLen];omega,?_⟩;refine⟨.inl ⟨0,rfl,?_⟩⟩;refine⟨.inl ⟨0,rfl,?_⟩⟩;have w:∀m:Nat,((List.replicate m [IC 0,IC 0,IC 0,IC 0,IC 0,.sl [],.sl []]:List (List C)).length:Int)=m:=fun m=>by simp
  refine bX n 31 [] (([],p):List α×List UInt8) (fun _=>[]) (fun s=>[(25,.row 82 7 (s.1.map cs++List.replicate (n-s.1.length) [IC 0,IC 0,IC 0,IC 0,IC 0,.sl [],.sl []])),(1000,RB s.2),(1001,.win t pre [.rw 25] post)])
   (fun k s=>s.1.length=k/\(∀xs r,bA a (n-k) s.2=some (xs,r)->bA a n p=some (s.1++xs,r))/\(bA a (n-k) s.2=none->bA a n p=none))
   ⟨rfl,fun xs r h=>h,fun h=>h⟩ (aq rfl) trivial ⟨.inl ⟨_,rfl,.inl ⟨rfl,rfl⟩⟩,.inl ⟨_,rfl,.inl ⟨rfl,rfl⟩⟩,.inl ⟨_,rfl,.inl ⟨rfl,rfl⟩⟩,trivial⟩ (fun _=>rfl) (fun _=>rfl) ?_
  rintro k ⟨done,b⟩ hk ⟨z,o,y⟩ _ _ al;simp only at z o y;refine aR (fun c=>?_) (fun j=>?_)
  ·have c:k<n:=by have h:(k:Int)<((List.replicate n [IC 0,IC 0,IC 0,IC 0,IC 0,.sl [],.sl []]:List (List C)).length:Int):=c;rw[w] at h;omega
   refine⟨.inl ⟨0,rfl,?_⟩⟩;refine⟨by omega,by simp;omega,?_⟩;refine m8 [1000,25] (gJ (e:=82) (sz:=7) (ca:=[]) u he rfl (fun d u=>by
    rcases Xh.1 u with rfl | u
    ·exact⟨rfl,rfl⟩
    ·cases u) ac ⟨rfl,rfl,rfl⟩ z c b) rfl rfl rfl rfl (fun v ⟨e,h⟩=>⟨e,?_⟩) ?_
   ·rw[hD];exact y (by rw[show n-k=(n-(k+1))+1 by omega];simp only[bA,h])
   rintro v Mo ⟨x,r,e1,rfl,rfl⟩ _ _;refine⟨rfl,?_⟩;refine Fit.Ww (by omega) (by omega) ?_;rw[show n-k=(n-(k+1))+1 by omega] at o y;simp only[bA,e1] at o y;refine⟨(k+1,done++[x],r),⟨by omega,by simp[z],fun xs r' h=>?_,fun h=>?_⟩,⟨cG,trivial⟩,⟨.inl ⟨_,rfl,.inl ⟨rfl,rfl⟩⟩,.inl ⟨_,rfl,.inl ⟨rfl,rfl⟩⟩,.inl ⟨_,rfl,.inl ⟨rfl,rfl⟩⟩,trivial⟩,cH c⟩
   ·rw[o (x::xs) r' (by simp only[h])];simp
   ·exact y (by simp only[h])
  ·have j:n-k=0:=by
    have h:¬(k:Int)<((List.replicate n [IC 0,IC 0,IC 0,IC 0,IC 0,.sl [],.sl []]:List (List C)).length:Int):=j;rw[w] at h;omega
   rw[j] at o;have hf:=o [] b rfl;rw[Xz] at hf;refine qh [25] [1000,1001] ⟨_,_,rfl,rfl,rfl,done,b,by rw[hD];exact hf,?_,rfl⟩;have hl:n-done.length=0:=by omega
   exact p7 (fun q=>[RB b,TO.win t pre [C.sl q] post]) (show done.map cs++List.replicate (n-done.length) [IC 0,IC 0,IC 0,IC 0,IC 0,.sl [],.sl []]=done.map cs by rw[hl];simp)
 ·have ad:n=0:=by
   have h:=hb;simp at h;omega
  subst ad;refine⟨.inl ⟨0,rfl,?_⟩⟩;refine bX 0 31 [] () (fun _=>[]) (fun _=>[(1000,RB p),(1001,.win t pre [.sl []] post)]) (fun _ _=>True) trivial (aq rfl) trivial ⟨.inl ⟨_,rfl,.inl ⟨rfl,rfl⟩⟩,.inl ⟨_,rfl,.inl ⟨rfl,rfl⟩⟩,trivial⟩ (fun _=>rfl) (fun _=>rfl) ?_;rintro k ⟨⟩ hk _ _ _ _;exact cS [1000,1001] rfl rfl rfl rfl ⟨[],p,by rw[hD];rfl,rfl,rfl⟩
theorem Ri {α:Type}{f:Nat}{a:Dec α}{cs:α->List C}(u:ga f [] [] a [IC 0,IC 0,.bool false,.bool false,.bool false] cs) (he:mg PZ f) (ac:∀x,xD 5 (cs x)):ga 68 [] [.fn f [] []] (dD a) [.sl []] (fun l=>[.sl (l.map cs)]):=by
 intro t pre post bs _ _;refine ai Tryd.func68 D6 rfl fun hw ar=>?_;refine⟨.inl ⟨0,rfl,?_⟩⟩;refine⟨rfl,?_⟩;refine⟨114,xW,?_⟩;refine bZ [1000] (xV 0 bs) rfl rfl rfl rfl (fun v ⟨e,h⟩=>⟨e,aS h⟩) ?_;rintro v Mo ⟨n,p,e0,rfl,rfl⟩ _ _;refine⟨rfl,?_⟩;have hD:dD a bs=bA a n p:=aj e0;have hn:=j9 e0;refine⟨.inl ⟨0,rfl,?_⟩⟩;refine aH (fun hb=>?_) (fun hb=>?_)
 ·refine⟨by omega,XF _,by omega,by simp only[maxLen];omega,?_⟩;refine⟨.inl ⟨0,rfl,?_⟩⟩;refine⟨.inl ⟨0,rfl,?_⟩⟩;have w:∀m:Nat,((List.replicate m [IC 0,IC 0,.bool false,.bool false,.bool false]:List (List C)).length:Int)=m:=fun m=>by simp
  refine bX n 31 [] (([],p):List α×List UInt8) (fun _=>[]) (fun s=>[(25,.row 85 5 (s.1.map cs++List.replicate (n-s.1.length) [IC 0,IC 0,.bool false,.bool false,.bool false])),(1000,RB s.2),(1001,.win t pre [.rw 25] post)])
   (fun k s=>s.1.length=k/\(∀xs r,bA a (n-k) s.2=some (xs,r)->bA a n p=some (s.1++xs,r))/\(bA a (n-k) s.2=none->bA a n p=none))
   ⟨rfl,fun xs r h=>h,fun h=>h⟩ (aq rfl) trivial ⟨.inl ⟨_,rfl,.inl ⟨rfl,rfl⟩⟩,.inl ⟨_,rfl,.inl ⟨rfl,rfl⟩⟩,.inl ⟨_,rfl,.inl ⟨rfl,rfl⟩⟩,trivial⟩ (fun _=>rfl) (fun _=>rfl) ?_
  rintro k ⟨done,b⟩ hk ⟨z,o,y⟩ _ _ al;simp only at z o y;refine aR (fun c=>?_) (fun j=>?_)
  ·have c:k<n:=by have h:(k:Int)<((List.replicate n [IC 0,IC 0,.bool false,.bool false,.bool false]:List (List C)).length:Int):=c;rw[w] at h;omega
   refine⟨.inl ⟨0,rfl,?_⟩⟩;refine⟨by omega,by simp;omega,?_⟩;refine m8 [1000,25] (gJ (e:=85) (sz:=5) (ca:=[]) u he rfl (fun d u=>by
    rcases Xh.1 u with rfl | u
    ·exact⟨rfl,rfl⟩
    ·cases u) ac ⟨rfl,rfl,rfl⟩ z c b) rfl rfl rfl rfl (fun v ⟨e,h⟩=>⟨e,?_⟩) ?_
   ·rw[hD];exact y (by rw[show n-k=(n-(k+1))+1 by omega];simp only[bA,h])
   rintro v Mo ⟨x,r,e1,rfl,rfl⟩ _ _;refine⟨rfl,?_⟩;refine Fit.Ww (by omega) (by omega) ?_;rw[show n-k=(n-(k+1))+1 by omega] at o y;simp only[bA,e1] at o y;refine⟨(k+1,done++[x],r),⟨by omega,by simp[z],fun xs r' h=>?_,fun h=>?_⟩,⟨cG,trivial⟩,⟨.inl ⟨_,rfl,.inl ⟨rfl,rfl⟩⟩,.inl ⟨_,rfl,.inl ⟨rfl,rfl⟩⟩,.inl ⟨_,rfl,.inl ⟨rfl,rfl⟩⟩,trivial⟩,cH c⟩
   ·rw[o (x::xs) r' (by simp only[h])];simp
   ·exact y (by simp only[h])
  ·have j:n-k=0:=by
    have h:¬(k:Int)<((List.replicate n [IC 0,IC 0,.bool false,.bool false,.bool false]:List (List C)).length:Int):=j;rw[w] at h;omega
   rw[j] at o;have hf:=o [] b rfl;rw[Xz] at hf;refine qh [25] [1000,1001] ⟨_,_,rfl,rfl,rfl,done,b,by rw[hD];exact hf,?_,rfl⟩;have hl:n-done.length=0:=by omega
   exact p7 (fun q=>[RB b,TO.win t pre [C.sl q] post]) (show done.map cs++List.replicate (n-done.length) [IC 0,IC 0,.bool false,.bool false,.bool false]=done.map cs by rw[hl];simp)
 ·have ad:n=0:=by
   have h:=hb;simp at h;omega
  subst ad;refine⟨.inl ⟨0,rfl,?_⟩⟩;refine bX 0 31 [] () (fun _=>[]) (fun _=>[(1000,RB p),(1001,.win t pre [.sl []] post)]) (fun _ _=>True) trivial (aq rfl) trivial ⟨.inl ⟨_,rfl,.inl ⟨rfl,rfl⟩⟩,.inl ⟨_,rfl,.inl ⟨rfl,rfl⟩⟩,trivial⟩ (fun _=>rfl) (fun _=>rfl) ?_;rintro k ⟨⟩ hk _ _ _ _;exact cS [1000,1001] rfl rfl rfl rfl ⟨[],p,by rw[hD];rfl,rfl,rfl⟩
theorem Rj {α:Type}{f:Nat}{a:Dec α}{cs:α->List C}(u:ga f [] [] a [IC 0,IC 0,IC 0,IC 0,.sl [],.bool false,.sl [],.sl []] cs) (he:mg PZ f) (ac:∀x,xD 8 (cs x)):ga 72 [] [.fn f [] []] (dD a) [.sl []] (fun l=>[.sl (l.map cs)]):=by
 intro t pre post bs _ _;refine ai Tryd.func72 uZ rfl fun hw ar=>?_;refine⟨.inl ⟨0,rfl,?_⟩⟩;refine⟨rfl,?_⟩;refine⟨114,xW,?_⟩;refine bZ [1000] (xV 0 bs) rfl rfl rfl rfl (fun v ⟨e,h⟩=>⟨e,aS h⟩) ?_;rintro v Mo ⟨n,p,e0,rfl,rfl⟩ _ _;refine⟨rfl,?_⟩;have hD:dD a bs=bA a n p:=aj e0;have hn:=j9 e0;refine⟨.inl ⟨0,rfl,?_⟩⟩;refine aH (fun hb=>?_) (fun hb=>?_)
 ·refine⟨by omega,XF _,by omega,by simp only[maxLen];omega,?_⟩;refine⟨.inl ⟨0,rfl,?_⟩⟩;refine⟨.inl ⟨0,rfl,?_⟩⟩;have w:∀m:Nat,((List.replicate m [IC 0,IC 0,IC 0,IC 0,.sl [],.bool false,.sl [],.sl []]:List (List C)).length:Int)=m:=fun m=>by simp
  refine bX n 31 [] (([],p):List α×List UInt8) (fun _=>[]) (fun s=>[(25,.row 80 8 (s.1.map cs++List.replicate (n-s.1.length) [IC 0,IC 0,IC 0,IC 0,.sl [],.bool false,.sl [],.sl []])),(1000,RB s.2),(1001,.win t pre [.rw 25] post)])
   (fun k s=>s.1.length=k/\(∀xs r,bA a (n-k) s.2=some (xs,r)->bA a n p=some (s.1++xs,r))/\(bA a (n-k) s.2=none->bA a n p=none))
   ⟨rfl,fun xs r h=>h,fun h=>h⟩ (aq rfl) trivial ⟨.inl ⟨_,rfl,.inl ⟨rfl,rfl⟩⟩,.inl ⟨_,rfl,.inl ⟨rfl,rfl⟩⟩,.inl ⟨_,rfl,.inl ⟨rfl,rfl⟩⟩,trivial⟩ (fun _=>rfl) (fun _=>rfl) ?_
  rintro k ⟨done,b⟩ hk ⟨z,o,y⟩ _ _ al;simp only at z o y;refine aR (fun c=>?_) (fun j=>?_)
  ·have c:k<n:=by have h:(k:Int)<((List.replicate n [IC 0,IC 0,IC 0,IC 0,.sl [],.bool false,.sl [],.sl []]:List (List C)).length:Int):=c;rw[w] at h;omega
   refine⟨.inl ⟨0,rfl,?_⟩⟩;refine⟨by omega,by simp;omega,?_⟩;refine m8 [1000,25] (gJ (e:=80) (sz:=8) (ca:=[]) u he rfl (fun d u=>by
    rcases Xh.1 u with rfl | u
    ·exact⟨rfl,rfl⟩
    ·cases u) ac ⟨rfl,rfl,rfl⟩ z c b) rfl rfl rfl rfl (fun v ⟨e,h⟩=>⟨e,?_⟩) ?_
   ·rw[hD];exact y (by rw[show n-k=(n-(k+1))+1 by omega];simp only[bA,h])
   rintro v Mo ⟨x,r,e1,rfl,rfl⟩ _ _;refine⟨rfl,?_⟩;refine Fit.Ww (by omega) (by omega) ?_;rw[show n-k=(n-(k+1))+1 by omega] at o y;simp only[bA,e1] at o y;refine⟨(k+1,done++[x],r),⟨by omega,by simp[z],fun xs r' h=>?_,fun h=>?_⟩,⟨cG,trivial⟩,⟨.inl ⟨_,rfl,.inl ⟨rfl,rfl⟩⟩,.inl ⟨_,rfl,.inl ⟨rfl,rfl⟩⟩,.inl ⟨_,rfl,.inl ⟨rfl,rfl⟩⟩,trivial⟩,cH c⟩
   ·rw[o (x::xs) r' (by simp only[h])];simp
   ·exact y (by simp only[h])
  ·have j:n-k=0:=by
    have h:¬(k:Int)<((List.replicate n [IC 0,IC 0,IC 0,IC 0,.sl [],.bool false,.sl [],.sl []]:List (List C)).length:Int):=j;rw[w] at h;omega
   rw[j] at o;have hf:=o [] b rfl;rw[Xz] at hf;refine qh [25] [1000,1001] ⟨_,_,rfl,rfl,rfl,done,b,by rw[hD];exact hf,?_,rfl⟩;have hl:n-done.length=0:=by omega
   exact p7 (fun q=>[RB b,TO.win t pre [C.sl q] post]) (show done.map cs++List.replicate (n-done.length) [IC 0,IC 0,IC 0,IC 0,.sl [],.bool false,.sl [],.sl []]=done.map cs by rw[hl];simp)
 ·have ad:n=0:=by
   have h:=hb;simp at h;omega
  subst ad;refine⟨.inl ⟨0,rfl,?_⟩⟩;refine bX 0 31 [] () (fun _=>[]) (fun _=>[(1000,RB p),(1001,.win t pre [.sl []] post)]) (fun _ _=>True) trivial (aq rfl) trivial ⟨.inl ⟨_,rfl,.inl ⟨rfl,rfl⟩⟩,.inl ⟨_,rfl,.inl ⟨rfl,rfl⟩⟩,trivial⟩ (fun _=>rfl) (fun _=>rfl) ?_;rintro k ⟨⟩ hk _ _ _ _;exact cS [1000,1001] rfl rfl rfl rfl ⟨[],p,by rw[hD];rfl,rfl,rfl⟩
theorem Pq {α:Type}{f:Nat}{d:Int}{a:Dec α}{cs:α->List C}(u:ga f [] [.pt [IC d] 0] a [IC 0,IC 0,IC 0,IC 0,.sl [],.bool false,.sl [],.sl []] cs) (he:mg PZ f) (ac:∀x,xD 8 (cs x)):ga 72 [] [.fn f [] [.pt [IC d] 0]] (dD a) [.sl []] (fun l=>[.sl (l.map cs)]):=by
 intro t pre post bs _ _;refine ai Tryd.func72 uZ rfl fun hw ar=>?_;refine⟨.inl ⟨0,rfl,?_⟩⟩;refine⟨rfl,?_⟩;refine⟨114,xW,?_⟩;refine bZ [1000] (xV 0 bs) rfl rfl rfl rfl (fun v ⟨e,h⟩=>⟨e,aS h⟩) ?_;rintro v Mo ⟨n,p,e0,rfl,rfl⟩ _ _;refine⟨rfl,?_⟩;have hD:dD a bs=bA a n p:=aj e0;have hn:=j9 e0;refine⟨.inl ⟨0,rfl,?_⟩⟩;refine aH (fun hb=>?_) (fun hb=>?_)
 ·refine⟨by omega,XF _,by omega,by simp only[maxLen];omega,?_⟩;refine⟨.inl ⟨0,rfl,?_⟩⟩;refine⟨.inl ⟨0,rfl,?_⟩⟩;have w:∀m:Nat,((List.replicate m [IC 0,IC 0,IC 0,IC 0,.sl [],.bool false,.sl [],.sl []]:List (List C)).length:Int)=m:=fun m=>by simp
  refine bX n 31 [] (([],p):List α×List UInt8) (fun _=>[]) (fun s=>[(25,.row 80 8 (s.1.map cs++List.replicate (n-s.1.length) [IC 0,IC 0,IC 0,IC 0,.sl [],.bool false,.sl [],.sl []])),(1000,RB s.2),(1001,.win t pre [.rw 25] post)])
   (fun k s=>s.1.length=k/\(∀xs r,bA a (n-k) s.2=some (xs,r)->bA a n p=some (s.1++xs,r))/\(bA a (n-k) s.2=none->bA a n p=none))
   ⟨rfl,fun xs r h=>h,fun h=>h⟩ (aq rfl) trivial ⟨.inl ⟨_,rfl,.inl ⟨rfl,rfl⟩⟩,.inl ⟨_,rfl,.inl ⟨rfl,rfl⟩⟩,.inl ⟨_,rfl,.inl ⟨rfl,rfl⟩⟩,trivial⟩ (fun _=>rfl) (fun _=>rfl) ?_
  rintro k ⟨done,b⟩ hk ⟨z,o,y⟩ _ _ al;simp only at z o y;refine aR (fun c=>?_) (fun j=>?_)
  ·have c:k<n:=by have h:(k:Int)<((List.replicate n [IC 0,IC 0,IC 0,IC 0,.sl [],.bool false,.sl [],.sl []]:List (List C)).length:Int):=c;rw[w] at h;omega
   refine⟨.inl ⟨0,rfl,?_⟩⟩;refine⟨by omega,by simp;omega,?_⟩;refine m8 [1000,25] (gJ (e:=80) (sz:=8) (ca:=[.pt [IC d] 0]) u he rfl (fun d u=>by
    rcases Xh.1 u with rfl | u
    ·exact⟨rfl,rfl⟩
    ·rw[XU.1 u];exact⟨rfl,rfl⟩) ac ⟨rfl,rfl,rfl⟩ z c b) rfl rfl rfl rfl (fun v ⟨e,h⟩=>⟨e,?_⟩) ?_
   ·rw[hD];exact y (by rw[show n-k=(n-(k+1))+1 by omega];simp only[bA,h])
   rintro v Mo ⟨x,r,e1,rfl,rfl⟩ _ _;refine⟨rfl,?_⟩;refine Fit.Ww (by omega) (by omega) ?_;rw[show n-k=(n-(k+1))+1 by omega] at o y;simp only[bA,e1] at o y;refine⟨(k+1,done++[x],r),⟨by omega,by simp[z],fun xs r' h=>?_,fun h=>?_⟩,⟨cG,trivial⟩,⟨.inl ⟨_,rfl,.inl ⟨rfl,rfl⟩⟩,.inl ⟨_,rfl,.inl ⟨rfl,rfl⟩⟩,.inl ⟨_,rfl,.inl ⟨rfl,rfl⟩⟩,trivial⟩,cH c⟩
   ·rw[o (x::xs) r' (by simp only[h])];simp
   ·exact y (by simp only[h])
  ·have j:n-k=0:=by
    have h:¬(k:Int)<((List.replicate n [IC 0,IC 0,IC 0,IC 0,.sl [],.bool false,.sl [],.sl []]:List (List C)).length:Int):=j;rw[w] at h;omega
   rw[j] at o;have hf:=o [] b rfl;rw[Xz] at hf;refine qh [25] [1000,1001] ⟨_,_,rfl,rfl,rfl,done,b,by rw[hD];exact hf,?_,rfl⟩;have hl:n-done.length=0:=by omega
   exact p7 (fun q=>[RB b,TO.win t pre [C.sl q] post]) (show done.map cs++List.replicate (n-done.length) [IC 0,IC 0,IC 0,IC 0,.sl [],.bool false,.sl [],.sl []]=done.map cs by rw[hl];simp)
 ·have ad:n=0:=by
   have h:=hb;simp at h;omega
  subst ad;refine⟨.inl ⟨0,rfl,?_⟩⟩;refine bX 0 31 [] () (fun _=>[]) (fun _=>[(1000,RB p),(1001,.win t pre [.sl []] post)]) (fun _ _=>True) trivial (aq rfl) trivial ⟨.inl ⟨_,rfl,.inl ⟨rfl,rfl⟩⟩,.inl ⟨_,rfl,.inl ⟨rfl,rfl⟩⟩,trivial⟩ (fun _=>rfl) (fun _=>rfl) ?_;rintro k ⟨⟩ hk _ _ _ _;exact cS [1000,1001] rfl rfl rfl rfl ⟨[],p,by rw[hD];rfl,rfl,rfl⟩
theorem fp {c:Type}{f:Dec c}:∀{n:Nat}{bs r:List UInt8}{xs:List c},bA f n bs=some (xs,r)->xs.length=n
 | 0,bs,r,xs,h=>by
  simp only[bA,xo,Prod.mk.injEq] at h;rw[<-h.1];rfl
 | n+1,bs,r,xs,h=>by
  simp only[bA] at h;split at h
  ·split at h
   ·rename_i ys e d;injection h with h
    injection h with h _
    rw[<-h,Xv,fp d]
   ·cases h
  ·cases h
theorem Aj {c:Type}(g:c->C):∀(ns:List c) (a b:List C) (zs:List C),zs.length=ns.length->Ai g (a++(zs++b)) ((List.range ns.length).map fun j=>a.length+j) ns=a++(ns.map g++b)
 | [],a,b,zs,h=>by
  have:zs=[]:=XD (by simpa using h);subst this;rfl
 | n::ns,a,b,z::zs,h=>by
  have e:((List.range (n::ns).length).map fun j=>a.length+j)=a.length::(List.range ns.length).map (fun j=>(a++[g n]).length+j):=by
   rw[Xv,List.range_succ_eq_map,Xj,X5];congr 1;apply X8;intro j _;simp;omega
  rw[e];simp only[Ai];rw[show(a++(z::zs++b)).set a.length (g n)=(a++[g n])++(zs++b) by rw[List.set_append_right _ _ (Xy _)];simp];rw[Aj g ns (a++[g n]) b zs (by simpa using h)];simp
theorem ints_at (a b:List C) (xs:List Int):∀o∈(List.range xs.length).map (fun j=>a.length+j),∃x,(a++(xs.map IC++b))[o]?=some (IC x):=by
 intro o d;obtain⟨j,c,rfl⟩:=XI.1 d;have c:=List.mem_range.1 c;refine⟨xs[j],?_⟩;rw[Xr (by omega),show a.length+j-a.length=j by omega,Xl (by simpa using c)];simp[c]
theorem Lp (a b:List C) (xs:List Bool):∀o∈(List.range xs.length).map (fun j=>a.length+j),∃x,(a++(xs.map C.bool++b))[o]?=some (.bool x):=by
 intro o d;obtain⟨j,c,rfl⟩:=XI.1 d;have c:=List.mem_range.1 c;refine⟨xs[j],?_⟩;rw[Xr (by omega),show a.length+j-a.length=j by omega,Xl (by simpa using c)];simp[c]
theorem yZ (xs:List Int):bY (xs.map IC):=fun c d=>by
 obtain⟨x,_,rfl⟩:=XI.1 d;exact .inl rfl
theorem wW (xs:List Bool):bY (xs.map C.bool):=fun c d=>by
 obtain⟨x,_,rfl⟩:=XI.1 d;exact .inl rfl
theorem kg {pre a:List C}{m:Nat}:((List.range m).map fun j=>(pre++a).length+j)=(List.range m).map fun j=>pre.length+(a.length+j):=by
 apply X8;intro j _;simp[Nat.add_assoc]
section
variable {t:Nat}{pre post a b:List C}{bs:List UInt8}
theorem uD (xs:List Int) (d:bY pre) (f:bY post) (l:bY a) (hb:bY b) :
  CallsTX PZ 55 [.ifo none 52 1000 0,.slo 1001 ((List.range xs.length).map fun j=>pre.length+(a.length+j))] [RB bs,.win t pre (a++(xs.map IC++b)) post]
   (fun Mo c=>∃ns r,bA gk xs.length bs=some (ns,r)/\Mo=[RB r,.win t pre (a++(ns.map IC++b)) post]/\c=.tup []) (fun v=>v=eV/\bA gk xs.length bs=none):=by
 have p:bY ([]:List C):=fun c n=>by cases n
 have h:=Q6 t (pre++(a++(xs.map IC++b))++post) ((List.range xs.length).map fun j=>(pre++a).length+j) bs ((d.append (l.append ((yZ xs).append hb))).append f) (fun o s=>by
  have:=ints_at (pre++a) (b++post) xs o s;simpa using this)
 rw[kg] at h;refine h.view (vw.same (vw.cons (mV (by simp) (d.append (l.append ((yZ xs).append hb)) |>.append f) p) (vw.refl []))) ?_ (fun v h=>by simpa using h);rintro Mo c ⟨ns,r,e,rfl,rfl⟩;rw[Xt,List.length_range] at e;have k:=fp e;have m:=Aj IC ns (pre++a) (b++post) (xs.map IC) (by simp[k]);rw[k,kg] at m;refine⟨_,vw.same (vw.cons (mV (pre':=pre) (cs':=a++(ns.map IC++b)) (post':=post) ?_ d f) (vw.refl [])),ns,r,e,rfl,rfl⟩;have q:pre++(a++(xs.map IC++b))++post=pre++a++(xs.map IC++(b++post)):=by simp
 rw[q,m];simp
theorem Ek (xs:List Bool) (d:bY pre) (f:bY post) (l:bY a) (hb:bY b) :
  CallsTX PZ 64 [.ifo none 52 1000 0,.slo 1001 ((List.range xs.length).map fun j=>pre.length+(a.length+j))] [RB bs,.win t pre (a++(xs.map C.bool++b)) post]
   (fun Mo c=>∃ns r,bA oZ xs.length bs=some (ns,r)/\Mo=[RB r,.win t pre (a++(ns.map C.bool++b)) post]/\c=.tup []) (fun v=>v=eV/\bA oZ xs.length bs=none):=by
 have p:bY ([]:List C):=fun c n=>by cases n
 have h:=Q7 t (pre++(a++(xs.map C.bool++b))++post) ((List.range xs.length).map fun j=>(pre++a).length+j) bs ((d.append (l.append ((wW xs).append hb))).append f) (fun o s=>by
  have:=Lp (pre++a) (b++post) xs o s;simpa using this)
 rw[kg] at h;refine h.view (vw.same (vw.cons (mV (by simp) (d.append (l.append ((wW xs).append hb)) |>.append f) p) (vw.refl []))) ?_ (fun v h=>by simpa using h);rintro Mo c ⟨ns,r,e,rfl,rfl⟩;rw[Xt,List.length_range] at e;have k:=fp e;have m:=Aj C.bool ns (pre++a) (b++post) (xs.map C.bool) (by simp[k]);rw[k,kg] at m;refine⟨_,vw.same (vw.cons (mV (pre':=pre) (cs':=a++(ns.map C.bool++b)) (post':=post) ?_ d f) (vw.refl [])),ns,r,e,rfl,rfl⟩;have q:pre++(a++(xs.map C.bool++b))++post=pre++a++(xs.map C.bool++(b++post)):=by simp
 rw[q,m];simp
theorem ga.at {l:Type}{f:Nat}{fi ca:List C}{d:Dec l}{z:List C}{cs:l->List C}(n:ga f fi ca d z cs) (j:bY pre) (k:bY post) (m:bY a) (hb:bY b) :
  CallsTX PZ f (fi++.ifo none 52 1000 0::.own 1001 (pre.length+a.length)::ca) [RB bs,.win t pre (a++(z++b)) post]
   (fun Mo c=>∃x r,d bs=some (x,r)/\Mo=[RB r,.win t pre (a++(cs x++b)) post]/\c=.tup []) (fun v=>v=eV/\d bs=none):=by
 have h:=n t (pre++a) (b++post) bs (j.append m) (hb.append k);rw[Xg] at h;refine h.view (vw.same (vw.cons (mV (by simp) (j.append m) (hb.append k)) (vw.refl []))) ?_ fun _ h=>h;rintro Mo c ⟨x,r,e,rfl,rfl⟩;exact⟨_,vw.same (vw.cons (mV (by simp) j k) (vw.refl [])),x,r,e,rfl,rfl⟩
end
theorem wX {c:Type}{l:List c}(h:l.length=1):∃a,l=[a]:=by
 match l,h with | [a],_=>exact⟨a,rfl⟩
theorem C6 {c:Type}{l:List c}(h:l.length=2):∃a b,l=[a,b]:=by
 match l,h with | [a,b],_=>exact⟨a,b,rfl⟩
theorem wY {d:Type}{l:List d}(h:l.length=3):∃a b c,l=[a,b,c]:=by
 match l,h with | [a,b,c],_=>exact⟨a,b,c,rfl⟩
theorem Lr {e:Type}{l:List e}(h:l.length=4):∃a b c d,l=[a,b,c,d]:=by
 match l,h with | [a,b,c,d],_=>exact⟨a,b,c,d,rfl⟩
theorem Ls {f:Type}{l:List f}(h:l.length=5):∃a b c d e,l=[a,b,c,d,e]:=by
 match l,h with | [a,b,c,d,e],_=>exact⟨a,b,c,d,e,rfl⟩
theorem dP:bY ([]:List C):=fun c a=>by cases a
theorem Rk:ga 71 [] [] gk [IC 0] (fun n=>[IC n]):=by
 intro t pre post bs a c;refine ai Tryd.func71 D9 rfl fun d b=>?_;refine⟨113,NN,?_⟩;refine bP [1000,1001] (NM t pre post 0 bs a c) rfl rfl rfl rfl (fun v h=>h) ?_;rintro v Mo ⟨n,r,e,rfl,rfl⟩ _ _;refine⟨rfl,?_⟩;exact cS [1000,1001] rfl rfl rfl rfl ⟨n,r,e,rfl,rfl⟩
theorem Rl:ga 48 [] [] QD [.bool false] HV:=by
 intro t pre post bs c d;have hb:=Ek (t:=t) (bs:=bs) (a:=[]) (b:=[]) [false] c d dP dP;refine ai Tryd.func48 DQ rfl fun k j=>?_;refine bP [1000,1001] hb rfl rfl rfl rfl (fun v ⟨e,h⟩=>⟨e,aS h⟩) ?_;rintro v Mo ⟨ns,r,e,rfl,rfl⟩ _ _;refine qf (wX (fp e)) fun n f=>?_;cases f;refine⟨rfl,?_⟩;exact cS [1000,1001] rfl rfl rfl rfl ⟨n,r,aj e,rfl,rfl⟩
theorem Pr (d:Int):CallsT PZ 85 [IC d] [] (iZ [] (.fn 95 [] [.pt [IC d] 0])):=by
 refine au Tryd.func85 KU rfl fun a _=>?_;exact bD rfl rfl
theorem ent (f:Nat) {fn:Func}(h:PZ.funcs[f]?=some fn) (h2:fn.body.isSome=true) (h3:(fn.name == "runtime.NumGoroutine")=false):mg PZ f:=⟨fn,h,h2,h3⟩
theorem El (x:Vl):xD 8 (rJ x):=by
 cases x;exact⟨rfl,rfl,rfl⟩
def zV:List C:=[IC 0,IC 0,IC 0,IC 0,.sl [],.bool false,.sl [],.sl []]
theorem Lu (n:Int):xD 1 [IC n]:=⟨rfl,rfl,rfl⟩
theorem u9:ga 70 [] [.fn 71 [] []] (dD gk) [.sl []] (fun l=>[.sl (wN l)]):=Q8 Rk (ent 71 Tryd.func71 rfl rfl) Lu
theorem Ps:∀d:Nat,(d:Int)<=60->ga 95 [] [.pt [IC d] 0] (Lg d) zV rJ
 | 0,hd=>by
  intro t pre post bs o r;refine ai Tryd.func95 u4 rfl fun hw x=>?_;refine tU (sQ false) rfl (fun h=>⟨rfl,rfl⟩) fun h=>by cases h
 | d+1,hd=>by
  intro t pre post bs o r;have ih:=Ps d (by omega);have hl:=Pq ih (ent 95 Tryd.func95 rfl rfl) El;have hn:=uD (t:=t) (bs:=bs) (a:=[]) (b:=[.sl [],.bool false,.sl [],.sl []]) [0,0,0,0] o r dP (aO rfl);refine ai Tryd.func95 u4 rfl fun hw x=>?_;refine aR (fun z=>?_) (fun z=>v7 (show(0:Int)<((d+1:Nat):Int) by omega) z);refine tU (sQ true) rfl (fun h=>by cases h) fun _=>?_;refine bZ [1000,1001] hn rfl rfl rfl rfl (fun v ⟨e,h⟩=>⟨e,by simp only[Lg];exact aS h⟩) ?_;rintro v Mo ⟨ns,y,f,rfl,rfl⟩ _ _;refine qf (Lr (fp f)) fun k c=>qf c fun i c=>qf c fun j c=>qf c fun n c=>?_;cases c;have f:bA gk 4 bs=some ([k,i,j,n],y):=f;refine⟨rfl,?_⟩;refine Fit.to (m:=(d:Int)) (by rw[show((d+1:Nat):Int)-1=(d:Int) by omega];exact bL (by omega) (by omega)) ?_;refine jx (Pr d) rfl fun _=>?_;refine bZ [1000,1001] (hl.at (t:=t) (bs:=y) (a:=[IC k,IC i,IC j,IC n]) (b:=[.bool false,.sl [],.sl []]) o r (aO rfl) (aO rfl)) rfl rfl rfl rfl (fun v ⟨e,h⟩=>⟨e,by simp only[Lg];rw[aj f,aS h]⟩) ?_;rintro v Mo ⟨u,r2,w,rfl,rfl⟩ _ _;refine⟨rfl,?_⟩;refine bP [1000,1001] (Ek (t:=t) (bs:=r2) (a:=[IC k,IC i,IC j,IC n,.sl (u.map rJ)]) (b:=[.sl [],.sl []]) [false] o r (aO rfl) (aO rfl)) rfl rfl rfl rfl (fun v ⟨e,h⟩=>⟨e,by simp only[Lg];rw[aj f,aj w];exact aS h⟩) ?_;rintro v Mo ⟨ns,r3,s,rfl,rfl⟩ _ _;refine qf (wX (fp s)) fun ex c=>?_;cases c;have s:bA oZ 1 r2=some ([ex],r3):=s;refine⟨rfl,?_⟩;refine bP [1000,1001] (u9.at (t:=t) (bs:=r3) (a:=[IC k,IC i,IC j,IC n,.sl (u.map rJ),.bool ex]) (b:=[.sl []]) o r (aO rfl) (aO rfl)) rfl rfl rfl rfl (fun v ⟨e,h⟩=>⟨e,by simp only[Lg];rw[aj f,aj w,aj s,aS h]⟩) ?_;rintro v Mo ⟨p,r4,e4,rfl,rfl⟩ _ _;refine⟨rfl,?_⟩;refine bP [1000,1001] (u9.at (t:=t) (bs:=r4) (a:=[IC k,IC i,IC j,IC n,.sl (u.map rJ),.bool ex,.sl (wN p)]) (b:=[]) o r (aO rfl) (aO rfl)) rfl rfl rfl rfl (fun v ⟨e,h⟩=>⟨e,by simp only[Lg];rw[aj f,aj w,aj s,aj e4,aS h]⟩) ?_;rintro v Mo ⟨l,r5,e5,rfl,rfl⟩ _ _;refine⟨rfl,?_⟩;refine cS [1000,1001] rfl rfl rfl rfl ⟨.mk k i j n u ex p l,r5,by simp only[Lg];rw[aj f,aj w,aj s,aj e4,aj e5];rfl,?_,rfl⟩;exact p7 (fun q=>[RB r5,TO.win t pre [IC k,IC i,IC j,IC n,.sl q,.bool ex,.sl (wN p),.sl (wN l)] post]) (sL u).symm
theorem Pt:ga 65 [] [] HW zV rJ:=by
 intro t pre post bs a c;have h:=Ps 60 (by omega) t pre post bs a c;refine ai Tryd.func65 D3 rfl fun d b=>?_;refine bO (Pr 60) rfl fun _=>?_;refine bP [1000,1001] h rfl rfl rfl rfl (fun v h=>h) ?_;rintro v Mo ⟨x,r,e,rfl,rfl⟩ _ _;cases x;refine⟨rfl,?_⟩;exact cS [1000,1001] rfl rfl rfl rfl ⟨_,r,e,rfl,rfl⟩
theorem Pu:ga 52 [] [] P8 [.sl []] Me:=by
 intro t pre post bs a c;have h:=Rj Pt (ent 65 Tryd.func65 rfl rfl) El t pre post bs a c;refine ai Tryd.func52 DU rfl fun d b=>?_;refine bP [1000,1001] h rfl rfl rfl rfl (fun v h=>h) ?_;rintro v Mo ⟨x,r,e,rfl,rfl⟩ _ _;refine⟨rfl,?_⟩;exact cS [1000,1001] rfl rfl rfl rfl ⟨x,r,e,rfl,rfl⟩
theorem Rm:ga 46 [] [] Oo (.bool false::IC 0::zV) Eb:=by
 intro t pre post bs f k;refine ai Tryd.func46 DN rfl fun q o=>?_;refine bP [1000,1001] (Ek (t:=t) (bs:=bs) (a:=[]) (b:=IC 0::zV) [false] f k dP (aO rfl)) rfl rfl rfl rfl (fun v ⟨e,h⟩=>⟨e,aS h⟩) ?_;rintro v Mo ⟨ns,j,c,rfl,rfl⟩ _ _;refine qf (wX (fp c)) fun b l=>?_;cases l;have c:bA oZ 1 bs=some ([b],j):=c;refine⟨rfl,?_⟩;refine bP [1000,1001] (uD (t:=t) (bs:=j) (a:=[.bool b]) (b:=zV) [0] f k (aO rfl) (aO rfl)) rfl rfl rfl rfl (fun v ⟨e,h⟩=>⟨e,by unfold Oo;rw[aj c];exact aS h⟩) ?_;rintro v Mo ⟨ns,m,d,rfl,rfl⟩ _ _;refine qf (wX (fp d)) fun a l=>?_;cases l;have d:bA gk 1 j=some ([a],m):=d;refine⟨rfl,?_⟩;refine bP [1000,1001] (Pt.at (t:=t) (bs:=m) (a:=[.bool b,IC a]) (b:=[]) f k (aO rfl) dP) rfl rfl rfl rfl (fun v ⟨e,h⟩=>⟨e,by unfold Oo;rw[aj c,aj d,aS h]⟩) ?_;rintro v Mo ⟨x,n,p,rfl,rfl⟩ _ _;cases x;refine⟨rfl,?_⟩;exact cS [1000,1001] rfl rfl rfl rfl ⟨⟨b,a,.mk _ _ _ _ _ _ _ _⟩,n,by unfold Oo;rw[aj c,aj d,aj p];rfl,rfl,rfl⟩
theorem Rn:ga 67 [] [] Oq [IC 0,IC 0,IC 0,IC 0,IC 0,.sl [],.sl []] FN:=by
 intro t pre post bs o p;refine ai Tryd.func67 D5 rfl fun z w=>?_;refine bZ [1000,1001] (uD (t:=t) (bs:=bs) (a:=[]) (b:=[.sl [],.sl []]) [0,0,0,0,0] o p dP (aO rfl)) rfl rfl rfl rfl (fun v ⟨e,h⟩=>⟨e,aS h⟩) ?_;rintro v Mo ⟨ns,q,d,rfl,rfl⟩ _ _;refine qf (Ls (fp d)) fun k c=>qf c fun n c=>qf c fun f c=>qf c fun m c=>qf c fun j c=>?_;cases c;have d:bA gk 5 bs=some ([k,n,f,m,j],q):=d;refine⟨rfl,?_⟩;refine bP [1000,1001] (Pu.at (t:=t) (bs:=q) (a:=[IC k,IC n,IC f,IC m,IC j]) (b:=[.sl []]) o p (aO rfl) (aO rfl)) rfl rfl rfl rfl (fun v ⟨e,h⟩=>⟨e,by unfold Oq;rw[aj d,aS h]⟩) ?_;rintro v Mo ⟨s,y,r,rfl,rfl⟩ _ _;refine⟨rfl,?_⟩;refine bP [1000,1001] (u9.at (t:=t) (bs:=y) (a:=[IC k,IC n,IC f,IC m,IC j,.sl (s.map rJ)]) (b:=[]) o p (aO rfl) dP) rfl rfl rfl rfl (fun v ⟨e,h⟩=>⟨e,by unfold Oq;rw[aj d,aj r,aS h]⟩) ?_;rintro v Mo ⟨l,u,x,rfl,rfl⟩ _ _;refine⟨rfl,?_⟩;exact cS [1000,1001] rfl rfl rfl rfl ⟨⟨k,n,f,m,j,s,l⟩,u,by unfold Oq;rw[aj d,aj r,aj x];rfl,rfl,rfl⟩
theorem Ro:ga 69 [] [] O8 [IC 0,IC 0,.bool false,.bool false,.bool false] IL:=by
 intro t pre post bs m o;refine ai Tryd.func69 D7 rfl fun u s=>?_;refine bZ [1000,1001] (uD (t:=t) (bs:=bs) (a:=[]) (b:=[.bool false,.bool false,.bool false]) [0,0] m o dP (aO rfl)) rfl rfl rfl rfl (fun v ⟨e,h⟩=>⟨e,aS h⟩) ?_;rintro v Mo ⟨ns,j,d,rfl,rfl⟩ _ _;refine qf (C6 (fp d)) fun k c=>qf c fun l c=>?_;cases c;have d:bA gk 2 bs=some ([k,l],j):=d;refine⟨rfl,?_⟩;refine bZ [1000,1001] (Ek (t:=t) (bs:=j) (a:=[IC k,IC l]) (b:=[]) [false,false,false] m o (aO rfl) dP) rfl rfl rfl rfl (fun v ⟨e,h⟩=>⟨e,by unfold O8;rw[aj d];exact aS h⟩) ?_;rintro v Mo ⟨ns,r,f,rfl,rfl⟩ _ _;refine qf (wY (fp f)) fun n c=>qf c fun p c=>qf c fun q c=>?_;cases c;have f:bA oZ 3 j=some ([n,p,q],r):=f;refine⟨rfl,?_⟩;exact cS [1000,1001] rfl rfl rfl rfl ⟨⟨k,l,n,p,q⟩,r,by unfold O8;rw[aj d,aj f];rfl,rfl,rfl⟩
theorem Lv (x:Ac):xD 7 (FN x):=⟨rfl,rfl,rfl⟩
theorem Lw (x:Ln):xD 5 (IL x):=⟨rfl,rfl,rfl⟩
theorem Lx (x:Tk):xD 7 (Ec x):=⟨rfl,rfl,rfl⟩
theorem Ly (x:Ou):xD 2 (Mf x):=⟨rfl,rfl,rfl⟩
theorem LC (x:Bool):xD 1 (HV x):=⟨rfl,rfl,rfl⟩
theorem LD (x:List Vl):xD 1 (Me x):=⟨rfl,rfl,rfl⟩
theorem LF (x:Ce):xD 10 (Eb x):=by
 obtain⟨a,b,v⟩:=x;cases v;exact⟨rfl,rfl,rfl⟩
theorem NP:ga 66 [] [.fn 67 [] []] (dD Oq) [.sl []] (fun l=>[.sl (l.map FN)]):=Rh Rn (ent 67 Tryd.func67 rfl rfl) Lv
theorem NQ:ga 68 [] [.fn 69 [] []] (dD O8) [.sl []] (fun l=>[.sl (l.map IL)]):=Ri Ro (ent 69 Tryd.func69 rfl rfl) Lw
theorem Rp:ga 50 [] [] Mh [IC 0,.sl [],.sl [],IC 0,IC 0,IC 0,.sl []] Ec:=by
 intro t pre post bs m o;refine ai Tryd.func50 DS rfl fun hw z=>?_;refine bP [1000,1001] (uD (t:=t) (bs:=bs) (a:=[]) (b:=[.sl [],.sl [],IC 0,IC 0,IC 0,.sl []]) [0] m o dP (aO rfl)) rfl rfl rfl rfl (fun v ⟨e,h⟩=>⟨e,aS h⟩) ?_;rintro v Mo ⟨ns,u,j,rfl,rfl⟩ _ _;refine qf (wX (fp j)) fun s k=>?_;cases k;have j:bA gk 1 bs=some ([s],u):=j;refine⟨rfl,?_⟩;refine bP [1000,1001] (NP.at (t:=t) (bs:=u) (a:=[IC s]) (b:=[.sl [],IC 0,IC 0,IC 0,.sl []]) m o (aO rfl) (aO rfl)) rfl rfl rfl rfl (fun v ⟨e,h⟩=>⟨e,by unfold Mh;rw[aj j,aS h]⟩) ?_;rintro v Mo ⟨f,r2,q,rfl,rfl⟩ _ _;refine⟨rfl,?_⟩;refine bP [1000,1001] (NQ.at (t:=t) (bs:=r2) (a:=[IC s,.sl (f.map FN)]) (b:=[IC 0,IC 0,IC 0,.sl []]) m o (aO rfl) (aO rfl)) rfl rfl rfl rfl (fun v ⟨e,h⟩=>⟨e,by unfold Mh;rw[aj j,aj q,aS h]⟩) ?_;rintro v Mo ⟨l,w,r,rfl,rfl⟩ _ _;refine⟨rfl,?_⟩;refine bZ [1000,1001] (uD (t:=t) (bs:=w) (a:=[IC s,.sl (f.map FN),.sl (l.map IL)]) (b:=[.sl []]) [0,0,0] m o (aO rfl) (aO rfl)) rfl rfl rfl rfl (fun v ⟨e,h⟩=>⟨e,by unfold Mh;rw[aj j,aj q,aj r];exact aS h⟩) ?_;rintro v Mo ⟨ns,x,p,rfl,rfl⟩ _ _;refine qf (wY (fp p)) fun a k=>qf k fun c k=>qf k fun n k=>?_;cases k;have p:bA gk 3 w=some ([a,c,n],x):=p;refine⟨rfl,?_⟩;refine bP [1000,1001] (u9.at (t:=t) (bs:=x) (a:=[IC s,.sl (f.map FN),.sl (l.map IL),IC a,IC c,IC n]) (b:=[]) m o (aO rfl) dP) rfl rfl rfl rfl (fun v ⟨e,h⟩=>⟨e,by unfold Mh;rw[aj j,aj q,aj r,aj p,aS h]⟩) ?_;rintro v Mo ⟨d,r5,y,rfl,rfl⟩ _ _;refine⟨rfl,?_⟩;exact cS [1000,1001] rfl rfl rfl rfl ⟨⟨s,f,l,a,c,n,d⟩,r5,by unfold Mh;rw[aj j,aj q,aj r,aj p,aj y];rfl,rfl,rfl⟩
theorem Rq:ga 54 [] [] QC [IC 0,IC 0] Mf:=by
 intro t pre post bs l m;refine ai Tryd.func54 DW rfl fun o n=>?_;refine bZ [1000,1001] (uD (t:=t) (bs:=bs) (a:=[]) (b:=[]) [0,0] l m dP dP) rfl rfl rfl rfl (fun v ⟨e,h⟩=>⟨e,aS h⟩) ?_;rintro v Mo ⟨ns,f,c,rfl,rfl⟩ _ _;refine qf (C6 (fp c)) fun j d=>qf d fun k d=>?_;cases d;have c:bA gk 2 bs=some ([j,k],f):=c;refine⟨rfl,?_⟩;exact cS [1000,1001] rfl rfl rfl rfl ⟨⟨j,k⟩,f,aj c,rfl,rfl⟩
theorem NR:ga 45 [] [.fn 46 [] []] (dD Oo) [.sl []] (fun l=>[.sl (l.map Eb)]):=Ra Rm (ent 46 Tryd.func46 rfl rfl) LF
theorem NS:ga 47 [] [.fn 48 [] []] (dD QD) [.sl []] (fun l=>[.sl (l.map HV)]):=Q9 Rl (ent 48 Tryd.func48 rfl rfl) LC
theorem NT:ga 49 [] [.fn 50 [] []] (dD Mh) [.sl []] (fun l=>[.sl (l.map Ec)]):=Rb Rp (ent 50 Tryd.func50 rfl rfl) Lx
theorem NU:ga 51 [] [.fn 52 [] []] (dD P8) [.sl []] (fun l=>[.sl (l.map Me)]):=Rc Pu (ent 52 Tryd.func52 rfl rfl) LD
theorem NV:ga 53 [] [.fn 54 [] []] (dD QC) [.sl []] (fun l=>[.sl (l.map Mf)]):=Rf Rq (ent 54 Tryd.func54 rfl rfl) Ly
theorem Rs (t:Nat) (f j:List (List C)) (d:Int) (bs:List UInt8):CallsTX PZ 33 [.ifo none 52 1000 0,.own 1001 0] [RB bs,.box t [.sl f,.sl j,IC d,.sl [],.sl [],.sl [],.sl [],.sl [],IC 0,IC 0,IC 0]]
  (fun Mo c=>∃x r,Ed bs=some (x,r)/\Mo=[RB r,.box t (.sl f::.sl j::IC d::Om x)]/\c=.tup []) (fun v=>v=eV/\Ed bs=none):=by
 refine CallsTX.view (Lin:=[RB bs,.win t [] ([.sl f,.sl j,IC d]++[.sl [],.sl [],.sl [],.sl [],.sl [],IC 0,IC 0,IC 0]) []])
  (R:=fun Mo c=>∃x r,Ed bs=some (x,r)/\Mo=[RB r,.win t [] ([.sl f,.sl j,IC d]++Om x) []]/\c=.tup []) (Pp:=fun v=>v=eV/\Ed bs=none) ?_
  (vw.same (vw.cons (u7 rfl dP dP) (vw.refl []))) (fun Mo c ⟨x,r,e,q1,q2⟩=>⟨_,by rw[q1];exact vw.same (vw.cons (Ab (by simp)) (vw.refl [])),x,r,e,rfl,q2⟩) fun _ h=>h
 refine ai Tryd.func33 DK rfl fun hw am=>?_;refine bP [1000,1001] (NR.at (t:=t) (bs:=bs) (pre:=[]) (post:=[]) (a:=[.sl f,.sl j,IC d]) (b:=[.sl [],.sl [],.sl [],.sl [],IC 0,IC 0,IC 0]) dP dP (aO rfl) (aO rfl)) rfl rfl rfl rfl (fun v ⟨e,h⟩=>⟨e,aS h⟩) ?_;rintro v Mo ⟨k,r1,l,rfl,rfl⟩ _ _;refine⟨rfl,?_⟩;refine bP [1000,1001] (NS.at (t:=t) (bs:=r1) (pre:=[]) (post:=[]) (a:=[.sl f,.sl j,IC d,.sl (k.map Eb)]) (b:=[.sl [],.sl [],.sl [],IC 0,IC 0,IC 0]) dP dP (aO rfl) (aO rfl)) rfl rfl rfl rfl (fun v ⟨e,h⟩=>⟨e,by unfold Ed;rw[aj l,aS h]⟩) ?_;rintro v Mo ⟨m,r2,p,rfl,rfl⟩ _ _;refine⟨rfl,?_⟩;refine bP [1000,1001] (NT.at (t:=t) (bs:=r2) (pre:=[]) (post:=[]) (a:=[.sl f,.sl j,IC d,.sl (k.map Eb),.sl (m.map HV)]) (b:=[.sl [],.sl [],IC 0,IC 0,IC 0]) dP dP (aO rfl) (aO rfl)) rfl rfl rfl rfl (fun v ⟨e,h⟩=>⟨e,by unfold Ed;rw[aj l,aj p,aS h]⟩) ?_;rintro v Mo ⟨q,r3,s,rfl,rfl⟩ _ _;refine⟨rfl,?_⟩;refine bP [1000,1001] (NU.at (t:=t) (bs:=r3) (pre:=[]) (post:=[]) (a:=[.sl f,.sl j,IC d,.sl (k.map Eb),.sl (m.map HV),.sl (q.map Ec)]) (b:=[.sl [],IC 0,IC 0,IC 0]) dP dP (aO rfl) (aO rfl)) rfl rfl rfl rfl (fun v ⟨e,h⟩=>⟨e,by unfold Ed;rw[aj l,aj p,aj s,aS h]⟩) ?_;rintro v Mo ⟨w,r4,y,rfl,rfl⟩ _ _;refine⟨rfl,?_⟩;refine bP [1000,1001] (NV.at (t:=t) (bs:=r4) (pre:=[]) (post:=[]) (a:=[.sl f,.sl j,IC d,.sl (k.map Eb),.sl (m.map HV),.sl (q.map Ec),.sl (w.map Me)]) (b:=[IC 0,IC 0,IC 0]) dP dP (aO rfl) (aO rfl)) rfl rfl rfl rfl (fun v ⟨e,h⟩=>⟨e,by unfold Ed;rw[aj l,aj p,aj s,aj y,aS h]⟩) ?_;rintro v Mo ⟨z,r5,e5,rfl,rfl⟩ _ _;refine⟨rfl,?_⟩;refine bZ [1000,1001] (uD (t:=t) (bs:=r5) (pre:=[]) (post:=[]) (a:=[.sl f,.sl j,IC d,.sl (k.map Eb),.sl (m.map HV),.sl (q.map Ec),.sl (w.map Me),.sl (z.map Mf)]) (b:=[]) [0,0,0] dP dP (aO rfl) dP) rfl rfl rfl rfl (fun v ⟨e,h⟩=>⟨e,by unfold Ed;rw[aj l,aj p,aj s,aj y,aj e5];exact aS h⟩) ?_;rintro v Mo ⟨ns,r6,u,rfl,rfl⟩ _ _;refine qf (wY (fp u)) fun a o=>qf o fun c o=>qf o fun n o=>?_;cases o;have u:bA gk 3 r5=some ([a,c,n],r6):=u;refine⟨rfl,?_⟩;exact cS [1000,1001] rfl rfl rfl rfl ⟨⟨k,m,q,w,z,a,c,n⟩,r6,by unfold Ed;rw[aj l,aj p,aj s,aj y,aj e5,aj u];rfl,rfl,rfl⟩
end Go.Fr.Tryd
