/- Part of the proofs of the statements of this seat. -/
import Derived.Test.YtnlegbokpofcaaaGreatDoorSpT5G
set_option maxRecDepth 10000
set_option linter.unusedVariables false
set_option linter.unusedSimpArgs false
namespace Go.Fr.Tryz
open Go Go.RowKit Go.Proofs Go.Fr Go.Fr.T Go.Fr.Api
theorem RS {α:Type}{f:Nat}{a:Dec α}{cs:α->List C}(u:gV f [] [] a [IC 0] cs) (he:mY PZ f) (ab:∀x,yF 1 (cs x)):gV 109 [] [.fn f [] []] (dF a) [.sl []] (fun l=>[.sl (l.map cs)]):=by
 intro t pre post bs _ _;refine aq Tryz.func109 CM rfl fun hw am=>?_;refine⟨.inl ⟨0,rfl,?_⟩⟩;refine⟨rfl,?_⟩;refine⟨165,y5,?_⟩;refine cu [1000] (yZ 0 bs) rfl rfl rfl rfl (fun v ⟨e,h⟩=>⟨e,aV h⟩) ?_;rintro v Mo ⟨n,p,e0,rfl,rfl⟩ _ _;refine⟨rfl,?_⟩;have hD:dF a bs=bB a n p:=au e0;have hn:=lf e0;refine⟨.inl ⟨0,rfl,?_⟩⟩;refine ah (fun hb=>?_) (fun hb=>?_)
 ·refine⟨by omega,aaI _,by omega,by simp only[maxLen];omega,?_⟩;refine⟨.inl ⟨0,rfl,?_⟩⟩;refine⟨.inl ⟨0,rfl,?_⟩⟩;have w:∀m:Nat,((List.replicate m [IC 0]:List (List C)).length:Int)=m:=fun m=>by simp
  refine bF n 31 [] (([],p):List α×List UInt8) (fun _=>[]) (fun s=>[(25,.row 3 1 (s.1.map cs++List.replicate (n-s.1.length) [IC 0])),(1000,RB s.2),(1001,.win t pre [.rw 25] post)])
   (fun k s=>s.1.length=k/\(∀xs r,bB a (n-k) s.2=some (xs,r)->bB a n p=some (s.1++xs,r))/\(bB a (n-k) s.2=none->bB a n p=none))
   ⟨rfl,fun xs r h=>h,fun h=>h⟩ (ak rfl) trivial ⟨.inl ⟨_,rfl,.inl ⟨rfl,rfl⟩⟩,.inl ⟨_,rfl,.inl ⟨rfl,rfl⟩⟩,.inl ⟨_,rfl,.inl ⟨rfl,rfl⟩⟩,trivial⟩ (fun _=>rfl) (fun _=>rfl) ?_
  rintro k ⟨done,b⟩ hk ⟨h1,o,y⟩ _ _ ae;simp only at h1 o y;refine aN (fun c=>?_) (fun j=>?_)
  ·have c:k<n:=by have h:(k:Int)<((List.replicate n [IC 0]:List (List C)).length:Int):=c;rw[w] at h;omega
   refine⟨.inl ⟨0,rfl,?_⟩⟩;refine⟨by omega,by simp;omega,?_⟩;refine nV [1000,25] (iB (e:=3) (sz:=1) (ca:=[]) u he rfl (fun d u=>by
    rcases aal.1 u with rfl | u
    ·exact⟨rfl,rfl⟩
    ·cases u) ab ⟨rfl,rfl,rfl⟩ h1 c b) rfl rfl rfl rfl (fun v ⟨e,h⟩=>⟨e,?_⟩) ?_
   ·rw[hD];exact y (by rw[show n-k=(n-(k+1))+1 by omega];simp only[bB,h])
   rintro v Mo ⟨x,r,e1,rfl,rfl⟩ _ _;refine⟨rfl,?_⟩;refine Fit.ZA (by omega) (by omega) ?_;rw[show n-k=(n-(k+1))+1 by omega] at o y;simp only[bB,e1] at o y;refine⟨(k+1,done++[x],r),⟨by omega,by simp[h1],fun xs r' h=>?_,fun h=>?_⟩,⟨bL,trivial⟩,⟨.inl ⟨_,rfl,.inl ⟨rfl,rfl⟩⟩,.inl ⟨_,rfl,.inl ⟨rfl,rfl⟩⟩,.inl ⟨_,rfl,.inl ⟨rfl,rfl⟩⟩,trivial⟩,bM c⟩
   ·rw[o (x::xs) r' (by simp only[h])];simp
   ·exact y (by simp only[h])
  ·have j:n-k=0:=by
    have h:¬(k:Int)<((List.replicate n [IC 0]:List (List C)).length:Int):=j;rw[w] at h;omega
   rw[j] at o;have hf:=o [] b rfl;rw[aaA] at hf;refine qP [25] [1000,1001] ⟨_,_,rfl,rfl,rfl,done,b,by rw[hD];exact hf,?_,rfl⟩;have hl:n-done.length=0:=by omega
   exact j3 (fun q=>[RB b,TO.win t pre [C.sl q] post]) (show done.map cs++List.replicate (n-done.length) [IC 0]=done.map cs by rw[hl];simp)
 ·have z:n=0:=by
   have h:=hb;simp at h;omega
  subst z;refine⟨.inl ⟨0,rfl,?_⟩⟩;refine bF 0 31 [] () (fun _=>[]) (fun _=>[(1000,RB p),(1001,.win t pre [.sl []] post)]) (fun _ _=>True) trivial (ak rfl) trivial ⟨.inl ⟨_,rfl,.inl ⟨rfl,rfl⟩⟩,.inl ⟨_,rfl,.inl ⟨rfl,rfl⟩⟩,trivial⟩ (fun _=>rfl) (fun _=>rfl) ?_;rintro k ⟨⟩ hk _ _ _ _;exact dz [1000,1001] rfl rfl rfl rfl ⟨[],p,by rw[hD];rfl,rfl,rfl⟩
theorem VA {α:Type}{f:Nat}{a:Dec α}{cs:α->List C}(u:gV f [] [] a [.bool false] cs) (he:mY PZ f) (ab:∀x,yF 1 (cs x)):gV 77 [] [.fn f [] []] (dF a) [.sl []] (fun l=>[.sl (l.map cs)]):=by
 intro t pre post bs _ _;refine aq Tryz.func77 EY rfl fun hw am=>?_;refine⟨.inl ⟨0,rfl,?_⟩⟩;refine⟨rfl,?_⟩;refine⟨165,y5,?_⟩;refine cu [1000] (yZ 0 bs) rfl rfl rfl rfl (fun v ⟨e,h⟩=>⟨e,aV h⟩) ?_;rintro v Mo ⟨n,p,e0,rfl,rfl⟩ _ _;refine⟨rfl,?_⟩;have hD:dF a bs=bB a n p:=au e0;have hn:=lf e0;refine⟨.inl ⟨0,rfl,?_⟩⟩;refine ah (fun hb=>?_) (fun hb=>?_)
 ·refine⟨by omega,aaI _,by omega,by simp only[maxLen];omega,?_⟩;refine⟨.inl ⟨0,rfl,?_⟩⟩;refine⟨.inl ⟨0,rfl,?_⟩⟩;have w:∀m:Nat,((List.replicate m [.bool false]:List (List C)).length:Int)=m:=fun m=>by simp
  refine bF n 31 [] (([],p):List α×List UInt8) (fun _=>[]) (fun s=>[(25,.row 4 1 (s.1.map cs++List.replicate (n-s.1.length) [.bool false])),(1000,RB s.2),(1001,.win t pre [.rw 25] post)])
   (fun k s=>s.1.length=k/\(∀xs r,bB a (n-k) s.2=some (xs,r)->bB a n p=some (s.1++xs,r))/\(bB a (n-k) s.2=none->bB a n p=none))
   ⟨rfl,fun xs r h=>h,fun h=>h⟩ (ak rfl) trivial ⟨.inl ⟨_,rfl,.inl ⟨rfl,rfl⟩⟩,.inl ⟨_,rfl,.inl ⟨rfl,rfl⟩⟩,.inl ⟨_,rfl,.inl ⟨rfl,rfl⟩⟩,trivial⟩ (fun _=>rfl) (fun _=>rfl) ?_
  rintro k ⟨done,b⟩ hk ⟨h1,o,y⟩ _ _ ae;simp only at h1 o y;refine aN (fun c=>?_) (fun j=>?_)
  ·have c:k<n:=by have h:(k:Int)<((List.replicate n [.bool false]:List (List C)).length:Int):=c;rw[w] at h;omega
   refine⟨.inl ⟨0,rfl,?_⟩⟩;refine⟨by omega,by simp;omega,?_⟩;refine nV [1000,25] (iB (e:=4) (sz:=1) (ca:=[]) u he rfl (fun d u=>by
    rcases aal.1 u with rfl | u
    ·exact⟨rfl,rfl⟩
    ·cases u) ab ⟨rfl,rfl,rfl⟩ h1 c b) rfl rfl rfl rfl (fun v ⟨e,h⟩=>⟨e,?_⟩) ?_
   ·rw[hD];exact y (by rw[show n-k=(n-(k+1))+1 by omega];simp only[bB,h])
   rintro v Mo ⟨x,r,e1,rfl,rfl⟩ _ _;refine⟨rfl,?_⟩;refine Fit.ZA (by omega) (by omega) ?_;rw[show n-k=(n-(k+1))+1 by omega] at o y;simp only[bB,e1] at o y;refine⟨(k+1,done++[x],r),⟨by omega,by simp[h1],fun xs r' h=>?_,fun h=>?_⟩,⟨bL,trivial⟩,⟨.inl ⟨_,rfl,.inl ⟨rfl,rfl⟩⟩,.inl ⟨_,rfl,.inl ⟨rfl,rfl⟩⟩,.inl ⟨_,rfl,.inl ⟨rfl,rfl⟩⟩,trivial⟩,bM c⟩
   ·rw[o (x::xs) r' (by simp only[h])];simp
   ·exact y (by simp only[h])
  ·have j:n-k=0:=by
    have h:¬(k:Int)<((List.replicate n [.bool false]:List (List C)).length:Int):=j;rw[w] at h;omega
   rw[j] at o;have hf:=o [] b rfl;rw[aaA] at hf;refine qP [25] [1000,1001] ⟨_,_,rfl,rfl,rfl,done,b,by rw[hD];exact hf,?_,rfl⟩;have hl:n-done.length=0:=by omega
   exact j3 (fun q=>[RB b,TO.win t pre [C.sl q] post]) (show done.map cs++List.replicate (n-done.length) [.bool false]=done.map cs by rw[hl];simp)
 ·have z:n=0:=by
   have h:=hb;simp at h;omega
  subst z;refine⟨.inl ⟨0,rfl,?_⟩⟩;refine bF 0 31 [] () (fun _=>[]) (fun _=>[(1000,RB p),(1001,.win t pre [.sl []] post)]) (fun _ _=>True) trivial (ak rfl) trivial ⟨.inl ⟨_,rfl,.inl ⟨rfl,rfl⟩⟩,.inl ⟨_,rfl,.inl ⟨rfl,rfl⟩⟩,trivial⟩ (fun _=>rfl) (fun _=>rfl) ?_;rintro k ⟨⟩ hk _ _ _ _;exact dz [1000,1001] rfl rfl rfl rfl ⟨[],p,by rw[hD];rfl,rfl,rfl⟩
theorem VB {α:Type}{f:Nat}{a:Dec α}{cs:α->List C}(u:gV f [] [] a [.bool false,IC 0,IC 0,IC 0,IC 0,IC 0,.sl [],.bool false,.sl [],.sl []] cs) (he:mY PZ f) (ab:∀x,yF 10 (cs x)):gV 75 [] [.fn f [] []] (dF a) [.sl []] (fun l=>[.sl (l.map cs)]):=by
 intro t pre post bs _ _;refine aq Tryz.func75 EW rfl fun hw am=>?_;refine⟨.inl ⟨0,rfl,?_⟩⟩;refine⟨rfl,?_⟩;refine⟨165,y5,?_⟩;refine cu [1000] (yZ 0 bs) rfl rfl rfl rfl (fun v ⟨e,h⟩=>⟨e,aV h⟩) ?_;rintro v Mo ⟨n,p,e0,rfl,rfl⟩ _ _;refine⟨rfl,?_⟩;have hD:dF a bs=bB a n p:=au e0;have hn:=lf e0;refine⟨.inl ⟨0,rfl,?_⟩⟩;refine ah (fun hb=>?_) (fun hb=>?_)
 ·refine⟨by omega,aaI _,by omega,by simp only[maxLen];omega,?_⟩;refine⟨.inl ⟨0,rfl,?_⟩⟩;refine⟨.inl ⟨0,rfl,?_⟩⟩;have w:∀m:Nat,((List.replicate m [.bool false,IC 0,IC 0,IC 0,IC 0,IC 0,.sl [],.bool false,.sl [],.sl []]:List (List C)).length:Int)=m:=fun m=>by simp
  refine bF n 31 [] (([],p):List α×List UInt8) (fun _=>[]) (fun s=>[(25,.row 63 10 (s.1.map cs++List.replicate (n-s.1.length) [.bool false,IC 0,IC 0,IC 0,IC 0,IC 0,.sl [],.bool false,.sl [],.sl []])),(1000,RB s.2),(1001,.win t pre [.rw 25] post)])
   (fun k s=>s.1.length=k/\(∀xs r,bB a (n-k) s.2=some (xs,r)->bB a n p=some (s.1++xs,r))/\(bB a (n-k) s.2=none->bB a n p=none))
   ⟨rfl,fun xs r h=>h,fun h=>h⟩ (ak rfl) trivial ⟨.inl ⟨_,rfl,.inl ⟨rfl,rfl⟩⟩,.inl ⟨_,rfl,.inl ⟨rfl,rfl⟩⟩,.inl ⟨_,rfl,.inl ⟨rfl,rfl⟩⟩,trivial⟩ (fun _=>rfl) (fun _=>rfl) ?_
  rintro k ⟨done,b⟩ hk ⟨h1,o,y⟩ _ _ ae;simp only at h1 o y;refine aN (fun c=>?_) (fun j=>?_)
  ·have c:k<n:=by have h:(k:Int)<((List.replicate n [.bool false,IC 0,IC 0,IC 0,IC 0,IC 0,.sl [],.bool false,.sl [],.sl []]:List (List C)).length:Int):=c;rw[w] at h;omega
   refine⟨.inl ⟨0,rfl,?_⟩⟩;refine⟨by omega,by simp;omega,?_⟩;refine nV [1000,25] (iB (e:=63) (sz:=10) (ca:=[]) u he rfl (fun d u=>by
    rcases aal.1 u with rfl | u
    ·exact⟨rfl,rfl⟩
    ·cases u) ab ⟨rfl,rfl,rfl⟩ h1 c b) rfl rfl rfl rfl (fun v ⟨e,h⟩=>⟨e,?_⟩) ?_
   ·rw[hD];exact y (by rw[show n-k=(n-(k+1))+1 by omega];simp only[bB,h])
   rintro v Mo ⟨x,r,e1,rfl,rfl⟩ _ _;refine⟨rfl,?_⟩;refine Fit.ZA (by omega) (by omega) ?_;rw[show n-k=(n-(k+1))+1 by omega] at o y;simp only[bB,e1] at o y;refine⟨(k+1,done++[x],r),⟨by omega,by simp[h1],fun xs r' h=>?_,fun h=>?_⟩,⟨bL,trivial⟩,⟨.inl ⟨_,rfl,.inl ⟨rfl,rfl⟩⟩,.inl ⟨_,rfl,.inl ⟨rfl,rfl⟩⟩,.inl ⟨_,rfl,.inl ⟨rfl,rfl⟩⟩,trivial⟩,bM c⟩
   ·rw[o (x::xs) r' (by simp only[h])];simp
   ·exact y (by simp only[h])
  ·have j:n-k=0:=by
    have h:¬(k:Int)<((List.replicate n [.bool false,IC 0,IC 0,IC 0,IC 0,IC 0,.sl [],.bool false,.sl [],.sl []]:List (List C)).length:Int):=j;rw[w] at h;omega
   rw[j] at o;have hf:=o [] b rfl;rw[aaA] at hf;refine qP [25] [1000,1001] ⟨_,_,rfl,rfl,rfl,done,b,by rw[hD];exact hf,?_,rfl⟩;have hl:n-done.length=0:=by omega
   exact j3 (fun q=>[RB b,TO.win t pre [C.sl q] post]) (show done.map cs++List.replicate (n-done.length) [.bool false,IC 0,IC 0,IC 0,IC 0,IC 0,.sl [],.bool false,.sl [],.sl []]=done.map cs by rw[hl];simp)
 ·have z:n=0:=by
   have h:=hb;simp at h;omega
  subst z;refine⟨.inl ⟨0,rfl,?_⟩⟩;refine bF 0 31 [] () (fun _=>[]) (fun _=>[(1000,RB p),(1001,.win t pre [.sl []] post)]) (fun _ _=>True) trivial (ak rfl) trivial ⟨.inl ⟨_,rfl,.inl ⟨rfl,rfl⟩⟩,.inl ⟨_,rfl,.inl ⟨rfl,rfl⟩⟩,trivial⟩ (fun _=>rfl) (fun _=>rfl) ?_;rintro k ⟨⟩ hk _ _ _ _;exact dz [1000,1001] rfl rfl rfl rfl ⟨[],p,by rw[hD];rfl,rfl,rfl⟩
theorem VD {α:Type}{f:Nat}{a:Dec α}{cs:α->List C}(u:gV f [] [] a [IC 0,.sl [],.sl [],IC 0,IC 0,IC 0,.sl []] cs) (he:mY PZ f) (ab:∀x,yF 7 (cs x)):gV 79 [] [.fn f [] []] (dF a) [.sl []] (fun l=>[.sl (l.map cs)]):=by
 intro t pre post bs _ _;refine aq Tryz.func79 E0 rfl fun hw am=>?_;refine⟨.inl ⟨0,rfl,?_⟩⟩;refine⟨rfl,?_⟩;refine⟨165,y5,?_⟩;refine cu [1000] (yZ 0 bs) rfl rfl rfl rfl (fun v ⟨e,h⟩=>⟨e,aV h⟩) ?_;rintro v Mo ⟨n,p,e0,rfl,rfl⟩ _ _;refine⟨rfl,?_⟩;have hD:dF a bs=bB a n p:=au e0;have hn:=lf e0;refine⟨.inl ⟨0,rfl,?_⟩⟩;refine ah (fun hb=>?_) (fun hb=>?_)
 ·refine⟨by omega,aaI _,by omega,by simp only[maxLen];omega,?_⟩;refine⟨.inl ⟨0,rfl,?_⟩⟩;refine⟨.inl ⟨0,rfl,?_⟩⟩;have w:∀m:Nat,((List.replicate m [IC 0,.sl [],.sl [],IC 0,IC 0,IC 0,.sl []]:List (List C)).length:Int)=m:=fun m=>by simp
  refine bF n 31 [] (([],p):List α×List UInt8) (fun _=>[]) (fun s=>[(25,.row 67 7 (s.1.map cs++List.replicate (n-s.1.length) [IC 0,.sl [],.sl [],IC 0,IC 0,IC 0,.sl []])),(1000,RB s.2),(1001,.win t pre [.rw 25] post)])
   (fun k s=>s.1.length=k/\(∀xs r,bB a (n-k) s.2=some (xs,r)->bB a n p=some (s.1++xs,r))/\(bB a (n-k) s.2=none->bB a n p=none))
   ⟨rfl,fun xs r h=>h,fun h=>h⟩ (ak rfl) trivial ⟨.inl ⟨_,rfl,.inl ⟨rfl,rfl⟩⟩,.inl ⟨_,rfl,.inl ⟨rfl,rfl⟩⟩,.inl ⟨_,rfl,.inl ⟨rfl,rfl⟩⟩,trivial⟩ (fun _=>rfl) (fun _=>rfl) ?_
  rintro k ⟨done,b⟩ hk ⟨h1,o,y⟩ _ _ ae;simp only at h1 o y;refine aN (fun c=>?_) (fun j=>?_)
  ·have c:k<n:=by have h:(k:Int)<((List.replicate n [IC 0,.sl [],.sl [],IC 0,IC 0,IC 0,.sl []]:List (List C)).length:Int):=c;rw[w] at h;omega
   refine⟨.inl ⟨0,rfl,?_⟩⟩;refine⟨by omega,by simp;omega,?_⟩;refine nV [1000,25] (iB (e:=67) (sz:=7) (ca:=[]) u he rfl (fun d u=>by
    rcases aal.1 u with rfl | u
    ·exact⟨rfl,rfl⟩
    ·cases u) ab ⟨rfl,rfl,rfl⟩ h1 c b) rfl rfl rfl rfl (fun v ⟨e,h⟩=>⟨e,?_⟩) ?_
   ·rw[hD];exact y (by rw[show n-k=(n-(k+1))+1 by omega];simp only[bB,h])
   rintro v Mo ⟨x,r,e1,rfl,rfl⟩ _ _;refine⟨rfl,?_⟩;refine Fit.ZA (by omega) (by omega) ?_;rw[show n-k=(n-(k+1))+1 by omega] at o y;simp only[bB,e1] at o y;refine⟨(k+1,done++[x],r),⟨by omega,by simp[h1],fun xs r' h=>?_,fun h=>?_⟩,⟨bL,trivial⟩,⟨.inl ⟨_,rfl,.inl ⟨rfl,rfl⟩⟩,.inl ⟨_,rfl,.inl ⟨rfl,rfl⟩⟩,.inl ⟨_,rfl,.inl ⟨rfl,rfl⟩⟩,trivial⟩,bM c⟩
   ·rw[o (x::xs) r' (by simp only[h])];simp
   ·exact y (by simp only[h])
  ·have j:n-k=0:=by
    have h:¬(k:Int)<((List.replicate n [IC 0,.sl [],.sl [],IC 0,IC 0,IC 0,.sl []]:List (List C)).length:Int):=j;rw[w] at h;omega
   rw[j] at o;have hf:=o [] b rfl;rw[aaA] at hf;refine qP [25] [1000,1001] ⟨_,_,rfl,rfl,rfl,done,b,by rw[hD];exact hf,?_,rfl⟩;have hl:n-done.length=0:=by omega
   exact j3 (fun q=>[RB b,TO.win t pre [C.sl q] post]) (show done.map cs++List.replicate (n-done.length) [IC 0,.sl [],.sl [],IC 0,IC 0,IC 0,.sl []]=done.map cs by rw[hl];simp)
 ·have z:n=0:=by
   have h:=hb;simp at h;omega
  subst z;refine⟨.inl ⟨0,rfl,?_⟩⟩;refine bF 0 31 [] () (fun _=>[]) (fun _=>[(1000,RB p),(1001,.win t pre [.sl []] post)]) (fun _ _=>True) trivial (ak rfl) trivial ⟨.inl ⟨_,rfl,.inl ⟨rfl,rfl⟩⟩,.inl ⟨_,rfl,.inl ⟨rfl,rfl⟩⟩,trivial⟩ (fun _=>rfl) (fun _=>rfl) ?_;rintro k ⟨⟩ hk _ _ _ _;exact dz [1000,1001] rfl rfl rfl rfl ⟨[],p,by rw[hD];rfl,rfl,rfl⟩
theorem VE {α:Type}{f:Nat}{a:Dec α}{cs:α->List C}(u:gV f [] [] a [.sl []] cs) (he:mY PZ f) (ab:∀x,yF 1 (cs x)):gV 81 [] [.fn f [] []] (dF a) [.sl []] (fun l=>[.sl (l.map cs)]):=by
 intro t pre post bs _ _;refine aq Tryz.func81 E5 rfl fun hw am=>?_;refine⟨.inl ⟨0,rfl,?_⟩⟩;refine⟨rfl,?_⟩;refine⟨165,y5,?_⟩;refine cu [1000] (yZ 0 bs) rfl rfl rfl rfl (fun v ⟨e,h⟩=>⟨e,aV h⟩) ?_;rintro v Mo ⟨n,p,e0,rfl,rfl⟩ _ _;refine⟨rfl,?_⟩;have hD:dF a bs=bB a n p:=au e0;have hn:=lf e0;refine⟨.inl ⟨0,rfl,?_⟩⟩;refine ah (fun hb=>?_) (fun hb=>?_)
 ·refine⟨by omega,aaI _,by omega,by simp only[maxLen];omega,?_⟩;refine⟨.inl ⟨0,rfl,?_⟩⟩;refine⟨.inl ⟨0,rfl,?_⟩⟩;have w:∀m:Nat,((List.replicate m [.sl []]:List (List C)).length:Int)=m:=fun m=>by simp
  refine bF n 31 [] (([],p):List α×List UInt8) (fun _=>[]) (fun s=>[(25,.row 58 1 (s.1.map cs++List.replicate (n-s.1.length) [.sl []])),(1000,RB s.2),(1001,.win t pre [.rw 25] post)])
   (fun k s=>s.1.length=k/\(∀xs r,bB a (n-k) s.2=some (xs,r)->bB a n p=some (s.1++xs,r))/\(bB a (n-k) s.2=none->bB a n p=none))
   ⟨rfl,fun xs r h=>h,fun h=>h⟩ (ak rfl) trivial ⟨.inl ⟨_,rfl,.inl ⟨rfl,rfl⟩⟩,.inl ⟨_,rfl,.inl ⟨rfl,rfl⟩⟩,.inl ⟨_,rfl,.inl ⟨rfl,rfl⟩⟩,trivial⟩ (fun _=>rfl) (fun _=>rfl) ?_
  rintro k ⟨done,b⟩ hk ⟨h1,o,y⟩ _ _ ae;simp only at h1 o y;refine aN (fun c=>?_) (fun j=>?_)
  ·have c:k<n:=by have h:(k:Int)<((List.replicate n [.sl []]:List (List C)).length:Int):=c;rw[w] at h;omega
   refine⟨.inl ⟨0,rfl,?_⟩⟩;refine⟨by omega,by simp;omega,?_⟩;refine nV [1000,25] (iB (e:=58) (sz:=1) (ca:=[]) u he rfl (fun d u=>by
    rcases aal.1 u with rfl | u
    ·exact⟨rfl,rfl⟩
    ·cases u) ab ⟨rfl,rfl,rfl⟩ h1 c b) rfl rfl rfl rfl (fun v ⟨e,h⟩=>⟨e,?_⟩) ?_
   ·rw[hD];exact y (by rw[show n-k=(n-(k+1))+1 by omega];simp only[bB,h])
   rintro v Mo ⟨x,r,e1,rfl,rfl⟩ _ _;refine⟨rfl,?_⟩;refine Fit.ZA (by omega) (by omega) ?_;rw[show n-k=(n-(k+1))+1 by omega] at o y;simp only[bB,e1] at o y;refine⟨(k+1,done++[x],r),⟨by omega,by simp[h1],fun xs r' h=>?_,fun h=>?_⟩,⟨bL,trivial⟩,⟨.inl ⟨_,rfl,.inl ⟨rfl,rfl⟩⟩,.inl ⟨_,rfl,.inl ⟨rfl,rfl⟩⟩,.inl ⟨_,rfl,.inl ⟨rfl,rfl⟩⟩,trivial⟩,bM c⟩
   ·rw[o (x::xs) r' (by simp only[h])];simp
   ·exact y (by simp only[h])
  ·have j:n-k=0:=by
    have h:¬(k:Int)<((List.replicate n [.sl []]:List (List C)).length:Int):=j;rw[w] at h;omega
   rw[j] at o;have hf:=o [] b rfl;rw[aaA] at hf;refine qP [25] [1000,1001] ⟨_,_,rfl,rfl,rfl,done,b,by rw[hD];exact hf,?_,rfl⟩;have hl:n-done.length=0:=by omega
   exact j3 (fun q=>[RB b,TO.win t pre [C.sl q] post]) (show done.map cs++List.replicate (n-done.length) [.sl []]=done.map cs by rw[hl];simp)
 ·have z:n=0:=by
   have h:=hb;simp at h;omega
  subst z;refine⟨.inl ⟨0,rfl,?_⟩⟩;refine bF 0 31 [] () (fun _=>[]) (fun _=>[(1000,RB p),(1001,.win t pre [.sl []] post)]) (fun _ _=>True) trivial (ak rfl) trivial ⟨.inl ⟨_,rfl,.inl ⟨rfl,rfl⟩⟩,.inl ⟨_,rfl,.inl ⟨rfl,rfl⟩⟩,trivial⟩ (fun _=>rfl) (fun _=>rfl) ?_;rintro k ⟨⟩ hk _ _ _ _;exact dz [1000,1001] rfl rfl rfl rfl ⟨[],p,by rw[hD];rfl,rfl,rfl⟩
theorem VF {α:Type}{f:Nat}{a:Dec α}{cs:α->List C}(u:gV f [] [] a [IC 0,IC 0] cs) (he:mY PZ f) (ab:∀x,yF 2 (cs x)):gV 83 [] [.fn f [] []] (dF a) [.sl []] (fun l=>[.sl (l.map cs)]):=by
 intro t pre post bs _ _;refine aq Tryz.func83 E7 rfl fun hw am=>?_;refine⟨.inl ⟨0,rfl,?_⟩⟩;refine⟨rfl,?_⟩;refine⟨165,y5,?_⟩;refine cu [1000] (yZ 0 bs) rfl rfl rfl rfl (fun v ⟨e,h⟩=>⟨e,aV h⟩) ?_;rintro v Mo ⟨n,p,e0,rfl,rfl⟩ _ _;refine⟨rfl,?_⟩;have hD:dF a bs=bB a n p:=au e0;have hn:=lf e0;refine⟨.inl ⟨0,rfl,?_⟩⟩;refine ah (fun hb=>?_) (fun hb=>?_)
 ·refine⟨by omega,aaI _,by omega,by simp only[maxLen];omega,?_⟩;refine⟨.inl ⟨0,rfl,?_⟩⟩;refine⟨.inl ⟨0,rfl,?_⟩⟩;have w:∀m:Nat,((List.replicate m [IC 0,IC 0]:List (List C)).length:Int)=m:=fun m=>by simp
  refine bF n 31 [] (([],p):List α×List UInt8) (fun _=>[]) (fun s=>[(25,.row 101 2 (s.1.map cs++List.replicate (n-s.1.length) [IC 0,IC 0])),(1000,RB s.2),(1001,.win t pre [.rw 25] post)])
   (fun k s=>s.1.length=k/\(∀xs r,bB a (n-k) s.2=some (xs,r)->bB a n p=some (s.1++xs,r))/\(bB a (n-k) s.2=none->bB a n p=none))
   ⟨rfl,fun xs r h=>h,fun h=>h⟩ (ak rfl) trivial ⟨.inl ⟨_,rfl,.inl ⟨rfl,rfl⟩⟩,.inl ⟨_,rfl,.inl ⟨rfl,rfl⟩⟩,.inl ⟨_,rfl,.inl ⟨rfl,rfl⟩⟩,trivial⟩ (fun _=>rfl) (fun _=>rfl) ?_
  rintro k ⟨done,b⟩ hk ⟨h1,o,y⟩ _ _ ae;simp only at h1 o y;refine aN (fun c=>?_) (fun j=>?_)
  ·have c:k<n:=by have h:(k:Int)<((List.replicate n [IC 0,IC 0]:List (List C)).length:Int):=c;rw[w] at h;omega
   refine⟨.inl ⟨0,rfl,?_⟩⟩;refine⟨by omega,by simp;omega,?_⟩;refine nV [1000,25] (iB (e:=101) (sz:=2) (ca:=[]) u he rfl (fun d u=>by
    rcases aal.1 u with rfl | u
    ·exact⟨rfl,rfl⟩
    ·cases u) ab ⟨rfl,rfl,rfl⟩ h1 c b) rfl rfl rfl rfl (fun v ⟨e,h⟩=>⟨e,?_⟩) ?_
   ·rw[hD];exact y (by rw[show n-k=(n-(k+1))+1 by omega];simp only[bB,h])
   rintro v Mo ⟨x,r,e1,rfl,rfl⟩ _ _;refine⟨rfl,?_⟩;refine Fit.ZA (by omega) (by omega) ?_;rw[show n-k=(n-(k+1))+1 by omega] at o y;simp only[bB,e1] at o y;refine⟨(k+1,done++[x],r),⟨by omega,by simp[h1],fun xs r' h=>?_,fun h=>?_⟩,⟨bL,trivial⟩,⟨.inl ⟨_,rfl,.inl ⟨rfl,rfl⟩⟩,.inl ⟨_,rfl,.inl ⟨rfl,rfl⟩⟩,.inl ⟨_,rfl,.inl ⟨rfl,rfl⟩⟩,trivial⟩,bM c⟩
   ·rw[o (x::xs) r' (by simp only[h])];simp
   ·exact y (by simp only[h])
  ·have j:n-k=0:=by
    have h:¬(k:Int)<((List.replicate n [IC 0,IC 0]:List (List C)).length:Int):=j;rw[w] at h;omega
   rw[j] at o;have hf:=o [] b rfl;rw[aaA] at hf;refine qP [25] [1000,1001] ⟨_,_,rfl,rfl,rfl,done,b,by rw[hD];exact hf,?_,rfl⟩;have hl:n-done.length=0:=by omega
   exact j3 (fun q=>[RB b,TO.win t pre [C.sl q] post]) (show done.map cs++List.replicate (n-done.length) [IC 0,IC 0]=done.map cs by rw[hl];simp)
 ·have z:n=0:=by
   have h:=hb;simp at h;omega
  subst z;refine⟨.inl ⟨0,rfl,?_⟩⟩;refine bF 0 31 [] () (fun _=>[]) (fun _=>[(1000,RB p),(1001,.win t pre [.sl []] post)]) (fun _ _=>True) trivial (ak rfl) trivial ⟨.inl ⟨_,rfl,.inl ⟨rfl,rfl⟩⟩,.inl ⟨_,rfl,.inl ⟨rfl,rfl⟩⟩,trivial⟩ (fun _=>rfl) (fun _=>rfl) ?_;rintro k ⟨⟩ hk _ _ _ _;exact dz [1000,1001] rfl rfl rfl rfl ⟨[],p,by rw[hD];rfl,rfl,rfl⟩
theorem RU {α:Type}{f:Nat}{a:Dec α}{cs:α->List C}(u:gV f [] [] a [IC 0,IC 0,IC 0,IC 0,IC 0,.sl [],.sl []] cs) (he:mY PZ f) (ab:∀x,yF 7 (cs x)):gV 105 [] [.fn f [] []] (dF a) [.sl []] (fun l=>[.sl (l.map cs)]):=by
 intro t pre post bs _ _;refine aq Tryz.func105 CH rfl fun hw am=>?_;refine⟨.inl ⟨0,rfl,?_⟩⟩;refine⟨rfl,?_⟩;refine⟨165,y5,?_⟩;refine cu [1000] (yZ 0 bs) rfl rfl rfl rfl (fun v ⟨e,h⟩=>⟨e,aV h⟩) ?_;rintro v Mo ⟨n,p,e0,rfl,rfl⟩ _ _;refine⟨rfl,?_⟩;have hD:dF a bs=bB a n p:=au e0;have hn:=lf e0;refine⟨.inl ⟨0,rfl,?_⟩⟩;refine ah (fun hb=>?_) (fun hb=>?_)
 ·refine⟨by omega,aaI _,by omega,by simp only[maxLen];omega,?_⟩;refine⟨.inl ⟨0,rfl,?_⟩⟩;refine⟨.inl ⟨0,rfl,?_⟩⟩;have w:∀m:Nat,((List.replicate m [IC 0,IC 0,IC 0,IC 0,IC 0,.sl [],.sl []]:List (List C)).length:Int)=m:=fun m=>by simp
  refine bF n 31 [] (([],p):List α×List UInt8) (fun _=>[]) (fun s=>[(25,.row 69 7 (s.1.map cs++List.replicate (n-s.1.length) [IC 0,IC 0,IC 0,IC 0,IC 0,.sl [],.sl []])),(1000,RB s.2),(1001,.win t pre [.rw 25] post)])
   (fun k s=>s.1.length=k/\(∀xs r,bB a (n-k) s.2=some (xs,r)->bB a n p=some (s.1++xs,r))/\(bB a (n-k) s.2=none->bB a n p=none))
   ⟨rfl,fun xs r h=>h,fun h=>h⟩ (ak rfl) trivial ⟨.inl ⟨_,rfl,.inl ⟨rfl,rfl⟩⟩,.inl ⟨_,rfl,.inl ⟨rfl,rfl⟩⟩,.inl ⟨_,rfl,.inl ⟨rfl,rfl⟩⟩,trivial⟩ (fun _=>rfl) (fun _=>rfl) ?_
  rintro k ⟨done,b⟩ hk ⟨h1,o,y⟩ _ _ ae;simp only at h1 o y;refine aN (fun c=>?_) (fun j=>?_)
  ·have c:k<n:=by have h:(k:Int)<((List.replicate n [IC 0,IC 0,IC 0,IC 0,IC 0,.sl [],.sl []]:List (List C)).length:Int):=c;rw[w] at h;omega
   refine⟨.inl ⟨0,rfl,?_⟩⟩;refine⟨by omega,by simp;omega,?_⟩;refine nV [1000,25] (iB (e:=69) (sz:=7) (ca:=[]) u he rfl (fun d u=>by
    rcases aal.1 u with rfl | u
    ·exact⟨rfl,rfl⟩
    ·cases u) ab ⟨rfl,rfl,rfl⟩ h1 c b) rfl rfl rfl rfl (fun v ⟨e,h⟩=>⟨e,?_⟩) ?_
   ·rw[hD];exact y (by rw[show n-k=(n-(k+1))+1 by omega];simp only[bB,h])
   rintro v Mo ⟨x,r,e1,rfl,rfl⟩ _ _;refine⟨rfl,?_⟩;refine Fit.ZA (by omega) (by omega) ?_;rw[show n-k=(n-(k+1))+1 by omega] at o y;simp only[bB,e1] at o y;refine⟨(k+1,done++[x],r),⟨by omega,by simp[h1],fun xs r' h=>?_,fun h=>?_⟩,⟨bL,trivial⟩,⟨.inl ⟨_,rfl,.inl ⟨rfl,rfl⟩⟩,.inl ⟨_,rfl,.inl ⟨rfl,rfl⟩⟩,.inl ⟨_,rfl,.inl ⟨rfl,rfl⟩⟩,trivial⟩,bM c⟩
   ·rw[o (x::xs) r' (by simp only[h])];simp
   ·exact y (by simp only[h])
  ·have j:n-k=0:=by
    have h:¬(k:Int)<((List.replicate n [IC 0,IC 0,IC 0,IC 0,IC 0,.sl [],.sl []]:List (List C)).length:Int):=j;rw[w] at h;omega
   rw[j] at o;have hf:=o [] b rfl;rw[aaA] at hf;refine qP [25] [1000,1001] ⟨_,_,rfl,rfl,rfl,done,b,by rw[hD];exact hf,?_,rfl⟩;have hl:n-done.length=0:=by omega
   exact j3 (fun q=>[RB b,TO.win t pre [C.sl q] post]) (show done.map cs++List.replicate (n-done.length) [IC 0,IC 0,IC 0,IC 0,IC 0,.sl [],.sl []]=done.map cs by rw[hl];simp)
 ·have z:n=0:=by
   have h:=hb;simp at h;omega
  subst z;refine⟨.inl ⟨0,rfl,?_⟩⟩;refine bF 0 31 [] () (fun _=>[]) (fun _=>[(1000,RB p),(1001,.win t pre [.sl []] post)]) (fun _ _=>True) trivial (ak rfl) trivial ⟨.inl ⟨_,rfl,.inl ⟨rfl,rfl⟩⟩,.inl ⟨_,rfl,.inl ⟨rfl,rfl⟩⟩,trivial⟩ (fun _=>rfl) (fun _=>rfl) ?_;rintro k ⟨⟩ hk _ _ _ _;exact dz [1000,1001] rfl rfl rfl rfl ⟨[],p,by rw[hD];rfl,rfl,rfl⟩
theorem RX {α:Type}{f:Nat}{a:Dec α}{cs:α->List C}(u:gV f [] [] a [IC 0,IC 0,.bool false,.bool false,.bool false] cs) (he:mY PZ f) (ab:∀x,yF 5 (cs x)):gV 107 [] [.fn f [] []] (dF a) [.sl []] (fun l=>[.sl (l.map cs)]):=by
 intro t pre post bs _ _;refine aq Tryz.func107 CJ rfl fun hw am=>?_;refine⟨.inl ⟨0,rfl,?_⟩⟩;refine⟨rfl,?_⟩;refine⟨165,y5,?_⟩;refine cu [1000] (yZ 0 bs) rfl rfl rfl rfl (fun v ⟨e,h⟩=>⟨e,aV h⟩) ?_;rintro v Mo ⟨n,p,e0,rfl,rfl⟩ _ _;refine⟨rfl,?_⟩;have hD:dF a bs=bB a n p:=au e0;have hn:=lf e0;refine⟨.inl ⟨0,rfl,?_⟩⟩;refine ah (fun hb=>?_) (fun hb=>?_)
 ·refine⟨by omega,aaI _,by omega,by simp only[maxLen];omega,?_⟩;refine⟨.inl ⟨0,rfl,?_⟩⟩;refine⟨.inl ⟨0,rfl,?_⟩⟩;have w:∀m:Nat,((List.replicate m [IC 0,IC 0,.bool false,.bool false,.bool false]:List (List C)).length:Int)=m:=fun m=>by simp
  refine bF n 31 [] (([],p):List α×List UInt8) (fun _=>[]) (fun s=>[(25,.row 129 5 (s.1.map cs++List.replicate (n-s.1.length) [IC 0,IC 0,.bool false,.bool false,.bool false])),(1000,RB s.2),(1001,.win t pre [.rw 25] post)])
   (fun k s=>s.1.length=k/\(∀xs r,bB a (n-k) s.2=some (xs,r)->bB a n p=some (s.1++xs,r))/\(bB a (n-k) s.2=none->bB a n p=none))
   ⟨rfl,fun xs r h=>h,fun h=>h⟩ (ak rfl) trivial ⟨.inl ⟨_,rfl,.inl ⟨rfl,rfl⟩⟩,.inl ⟨_,rfl,.inl ⟨rfl,rfl⟩⟩,.inl ⟨_,rfl,.inl ⟨rfl,rfl⟩⟩,trivial⟩ (fun _=>rfl) (fun _=>rfl) ?_
  rintro k ⟨done,b⟩ hk ⟨h1,o,y⟩ _ _ ae;simp only at h1 o y;refine aN (fun c=>?_) (fun j=>?_)
  ·have c:k<n:=by have h:(k:Int)<((List.replicate n [IC 0,IC 0,.bool false,.bool false,.bool false]:List (List C)).length:Int):=c;rw[w] at h;omega
   refine⟨.inl ⟨0,rfl,?_⟩⟩;refine⟨by omega,by simp;omega,?_⟩;refine nV [1000,25] (iB (e:=129) (sz:=5) (ca:=[]) u he rfl (fun d u=>by
    rcases aal.1 u with rfl | u
    ·exact⟨rfl,rfl⟩
    ·cases u) ab ⟨rfl,rfl,rfl⟩ h1 c b) rfl rfl rfl rfl (fun v ⟨e,h⟩=>⟨e,?_⟩) ?_
   ·rw[hD];exact y (by rw[show n-k=(n-(k+1))+1 by omega];simp only[bB,h])
   rintro v Mo ⟨x,r,e1,rfl,rfl⟩ _ _;refine⟨rfl,?_⟩;refine Fit.ZA (by omega) (by omega) ?_;rw[show n-k=(n-(k+1))+1 by omega] at o y;simp only[bB,e1] at o y;refine⟨(k+1,done++[x],r),⟨by omega,by simp[h1],fun xs r' h=>?_,fun h=>?_⟩,⟨bL,trivial⟩,⟨.inl ⟨_,rfl,.inl ⟨rfl,rfl⟩⟩,.inl ⟨_,rfl,.inl ⟨rfl,rfl⟩⟩,.inl ⟨_,rfl,.inl ⟨rfl,rfl⟩⟩,trivial⟩,bM c⟩
   ·rw[o (x::xs) r' (by simp only[h])];simp
   ·exact y (by simp only[h])
  ·have j:n-k=0:=by
    have h:¬(k:Int)<((List.replicate n [IC 0,IC 0,.bool false,.bool false,.bool false]:List (List C)).length:Int):=j;rw[w] at h;omega
   rw[j] at o;have hf:=o [] b rfl;rw[aaA] at hf;refine qP [25] [1000,1001] ⟨_,_,rfl,rfl,rfl,done,b,by rw[hD];exact hf,?_,rfl⟩;have hl:n-done.length=0:=by omega
   exact j3 (fun q=>[RB b,TO.win t pre [C.sl q] post]) (show done.map cs++List.replicate (n-done.length) [IC 0,IC 0,.bool false,.bool false,.bool false]=done.map cs by rw[hl];simp)
 ·have z:n=0:=by
   have h:=hb;simp at h;omega
  subst z;refine⟨.inl ⟨0,rfl,?_⟩⟩;refine bF 0 31 [] () (fun _=>[]) (fun _=>[(1000,RB p),(1001,.win t pre [.sl []] post)]) (fun _ _=>True) trivial (ak rfl) trivial ⟨.inl ⟨_,rfl,.inl ⟨rfl,rfl⟩⟩,.inl ⟨_,rfl,.inl ⟨rfl,rfl⟩⟩,trivial⟩ (fun _=>rfl) (fun _=>rfl) ?_;rintro k ⟨⟩ hk _ _ _ _;exact dz [1000,1001] rfl rfl rfl rfl ⟨[],p,by rw[hD];rfl,rfl,rfl⟩
theorem RY {α:Type}{f:Nat}{a:Dec α}{cs:α->List C}(u:gV f [] [] a [IC 0,IC 0,IC 0,IC 0,.sl [],.bool false,.sl [],.sl []] cs) (he:mY PZ f) (ab:∀x,yF 8 (cs x)):gV 111 [] [.fn f [] []] (dF a) [.sl []] (fun l=>[.sl (l.map cs)]):=by
 intro t pre post bs _ _;refine aq Tryz.func111 uc rfl fun hw am=>?_;refine⟨.inl ⟨0,rfl,?_⟩⟩;refine⟨rfl,?_⟩;refine⟨165,y5,?_⟩;refine cu [1000] (yZ 0 bs) rfl rfl rfl rfl (fun v ⟨e,h⟩=>⟨e,aV h⟩) ?_;rintro v Mo ⟨n,p,e0,rfl,rfl⟩ _ _;refine⟨rfl,?_⟩;have hD:dF a bs=bB a n p:=au e0;have hn:=lf e0;refine⟨.inl ⟨0,rfl,?_⟩⟩;refine ah (fun hb=>?_) (fun hb=>?_)
 ·refine⟨by omega,aaI _,by omega,by simp only[maxLen];omega,?_⟩;refine⟨.inl ⟨0,rfl,?_⟩⟩;refine⟨.inl ⟨0,rfl,?_⟩⟩;have w:∀m:Nat,((List.replicate m [IC 0,IC 0,IC 0,IC 0,.sl [],.bool false,.sl [],.sl []]:List (List C)).length:Int)=m:=fun m=>by simp
  refine bF n 31 [] (([],p):List α×List UInt8) (fun _=>[]) (fun s=>[(25,.row 61 8 (s.1.map cs++List.replicate (n-s.1.length) [IC 0,IC 0,IC 0,IC 0,.sl [],.bool false,.sl [],.sl []])),(1000,RB s.2),(1001,.win t pre [.rw 25] post)])
   (fun k s=>s.1.length=k/\(∀xs r,bB a (n-k) s.2=some (xs,r)->bB a n p=some (s.1++xs,r))/\(bB a (n-k) s.2=none->bB a n p=none))
   ⟨rfl,fun xs r h=>h,fun h=>h⟩ (ak rfl) trivial ⟨.inl ⟨_,rfl,.inl ⟨rfl,rfl⟩⟩,.inl ⟨_,rfl,.inl ⟨rfl,rfl⟩⟩,.inl ⟨_,rfl,.inl ⟨rfl,rfl⟩⟩,trivial⟩ (fun _=>rfl) (fun _=>rfl) ?_
  rintro k ⟨done,b⟩ hk ⟨h1,o,y⟩ _ _ ae;simp only at h1 o y;refine aN (fun c=>?_) (fun j=>?_)
  ·have c:k<n:=by have h:(k:Int)<((List.replicate n [IC 0,IC 0,IC 0,IC 0,.sl [],.bool false,.sl [],.sl []]:List (List C)).length:Int):=c;rw[w] at h;omega
   refine⟨.inl ⟨0,rfl,?_⟩⟩;refine⟨by omega,by simp;omega,?_⟩;refine nV [1000,25] (iB (e:=61) (sz:=8) (ca:=[]) u he rfl (fun d u=>by
    rcases aal.1 u with rfl | u
    ·exact⟨rfl,rfl⟩
    ·cases u) ab ⟨rfl,rfl,rfl⟩ h1 c b) rfl rfl rfl rfl (fun v ⟨e,h⟩=>⟨e,?_⟩) ?_
   ·rw[hD];exact y (by rw[show n-k=(n-(k+1))+1 by omega];simp only[bB,h])
   rintro v Mo ⟨x,r,e1,rfl,rfl⟩ _ _;refine⟨rfl,?_⟩;refine Fit.ZA (by omega) (by omega) ?_;rw[show n-k=(n-(k+1))+1 by omega] at o y;simp only[bB,e1] at o y;refine⟨(k+1,done++[x],r),⟨by omega,by simp[h1],fun xs r' h=>?_,fun h=>?_⟩,⟨bL,trivial⟩,⟨.inl ⟨_,rfl,.inl ⟨rfl,rfl⟩⟩,.inl ⟨_,rfl,.inl ⟨rfl,rfl⟩⟩,.inl ⟨_,rfl,.inl ⟨rfl,rfl⟩⟩,trivial⟩,bM c⟩
   ·rw[o (x::xs) r' (by simp only[h])];simp
   ·exact y (by simp only[h])
  ·have j:n-k=0:=by
    have h:¬(k:Int)<((List.replicate n [IC 0,IC 0,IC 0,IC 0,.sl [],.bool false,.sl [],.sl []]:List (List C)).length:Int):=j;rw[w] at h;omega
   rw[j] at o;have hf:=o [] b rfl;rw[aaA] at hf;refine qP [25] [1000,1001] ⟨_,_,rfl,rfl,rfl,done,b,by rw[hD];exact hf,?_,rfl⟩;have hl:n-done.length=0:=by omega
   exact j3 (fun q=>[RB b,TO.win t pre [C.sl q] post]) (show done.map cs++List.replicate (n-done.length) [IC 0,IC 0,IC 0,IC 0,.sl [],.bool false,.sl [],.sl []]=done.map cs by rw[hl];simp)
 ·have z:n=0:=by
   have h:=hb;simp at h;omega
  subst z;refine⟨.inl ⟨0,rfl,?_⟩⟩;refine bF 0 31 [] () (fun _=>[]) (fun _=>[(1000,RB p),(1001,.win t pre [.sl []] post)]) (fun _ _=>True) trivial (ak rfl) trivial ⟨.inl ⟨_,rfl,.inl ⟨rfl,rfl⟩⟩,.inl ⟨_,rfl,.inl ⟨rfl,rfl⟩⟩,trivial⟩ (fun _=>rfl) (fun _=>rfl) ?_;rintro k ⟨⟩ hk _ _ _ _;exact dz [1000,1001] rfl rfl rfl rfl ⟨[],p,by rw[hD];rfl,rfl,rfl⟩
theorem P7 {α:Type}{f:Nat}{d:Int}{a:Dec α}{cs:α->List C}(u:gV f [] [.pt [IC d] 0] a [IC 0,IC 0,IC 0,IC 0,.sl [],.bool false,.sl [],.sl []] cs) (he:mY PZ f) (ab:∀x,yF 8 (cs x)):gV 111 [] [.fn f [] [.pt [IC d] 0]] (dF a) [.sl []] (fun l=>[.sl (l.map cs)]):=by
 intro t pre post bs _ _;refine aq Tryz.func111 uc rfl fun hw am=>?_;refine⟨.inl ⟨0,rfl,?_⟩⟩;refine⟨rfl,?_⟩;refine⟨165,y5,?_⟩;refine cu [1000] (yZ 0 bs) rfl rfl rfl rfl (fun v ⟨e,h⟩=>⟨e,aV h⟩) ?_;rintro v Mo ⟨n,p,e0,rfl,rfl⟩ _ _;refine⟨rfl,?_⟩;have hD:dF a bs=bB a n p:=au e0;have hn:=lf e0;refine⟨.inl ⟨0,rfl,?_⟩⟩;refine ah (fun hb=>?_) (fun hb=>?_)
 ·refine⟨by omega,aaI _,by omega,by simp only[maxLen];omega,?_⟩;refine⟨.inl ⟨0,rfl,?_⟩⟩;refine⟨.inl ⟨0,rfl,?_⟩⟩;have w:∀m:Nat,((List.replicate m [IC 0,IC 0,IC 0,IC 0,.sl [],.bool false,.sl [],.sl []]:List (List C)).length:Int)=m:=fun m=>by simp
  refine bF n 31 [] (([],p):List α×List UInt8) (fun _=>[]) (fun s=>[(25,.row 61 8 (s.1.map cs++List.replicate (n-s.1.length) [IC 0,IC 0,IC 0,IC 0,.sl [],.bool false,.sl [],.sl []])),(1000,RB s.2),(1001,.win t pre [.rw 25] post)])
   (fun k s=>s.1.length=k/\(∀xs r,bB a (n-k) s.2=some (xs,r)->bB a n p=some (s.1++xs,r))/\(bB a (n-k) s.2=none->bB a n p=none))
   ⟨rfl,fun xs r h=>h,fun h=>h⟩ (ak rfl) trivial ⟨.inl ⟨_,rfl,.inl ⟨rfl,rfl⟩⟩,.inl ⟨_,rfl,.inl ⟨rfl,rfl⟩⟩,.inl ⟨_,rfl,.inl ⟨rfl,rfl⟩⟩,trivial⟩ (fun _=>rfl) (fun _=>rfl) ?_
  rintro k ⟨done,b⟩ hk ⟨h1,o,y⟩ _ _ ae;simp only at h1 o y;refine aN (fun c=>?_) (fun j=>?_)
  ·have c:k<n:=by have h:(k:Int)<((List.replicate n [IC 0,IC 0,IC 0,IC 0,.sl [],.bool false,.sl [],.sl []]:List (List C)).length:Int):=c;rw[w] at h;omega
   refine⟨.inl ⟨0,rfl,?_⟩⟩;refine⟨by omega,by simp;omega,?_⟩;refine nV [1000,25] (iB (e:=61) (sz:=8) (ca:=[.pt [IC d] 0]) u he rfl (fun d u=>by
    rcases aal.1 u with rfl | u
    ·exact⟨rfl,rfl⟩
    ·rw[aaW.1 u];exact⟨rfl,rfl⟩) ab ⟨rfl,rfl,rfl⟩ h1 c b) rfl rfl rfl rfl (fun v ⟨e,h⟩=>⟨e,?_⟩) ?_
   ·rw[hD];exact y (by rw[show n-k=(n-(k+1))+1 by omega];simp only[bB,h])
   rintro v Mo ⟨x,r,e1,rfl,rfl⟩ _ _;refine⟨rfl,?_⟩;refine Fit.ZA (by omega) (by omega) ?_;rw[show n-k=(n-(k+1))+1 by omega] at o y;simp only[bB,e1] at o y;refine⟨(k+1,done++[x],r),⟨by omega,by simp[h1],fun xs r' h=>?_,fun h=>?_⟩,⟨bL,trivial⟩,⟨.inl ⟨_,rfl,.inl ⟨rfl,rfl⟩⟩,.inl ⟨_,rfl,.inl ⟨rfl,rfl⟩⟩,.inl ⟨_,rfl,.inl ⟨rfl,rfl⟩⟩,trivial⟩,bM c⟩
   ·rw[o (x::xs) r' (by simp only[h])];simp
   ·exact y (by simp only[h])
  ·have j:n-k=0:=by
    have h:¬(k:Int)<((List.replicate n [IC 0,IC 0,IC 0,IC 0,.sl [],.bool false,.sl [],.sl []]:List (List C)).length:Int):=j;rw[w] at h;omega
   rw[j] at o;have hf:=o [] b rfl;rw[aaA] at hf;refine qP [25] [1000,1001] ⟨_,_,rfl,rfl,rfl,done,b,by rw[hD];exact hf,?_,rfl⟩;have hl:n-done.length=0:=by omega
   exact j3 (fun q=>[RB b,TO.win t pre [C.sl q] post]) (show done.map cs++List.replicate (n-done.length) [IC 0,IC 0,IC 0,IC 0,.sl [],.bool false,.sl [],.sl []]=done.map cs by rw[hl];simp)
 ·have z:n=0:=by
   have h:=hb;simp at h;omega
  subst z;refine⟨.inl ⟨0,rfl,?_⟩⟩;refine bF 0 31 [] () (fun _=>[]) (fun _=>[(1000,RB p),(1001,.win t pre [.sl []] post)]) (fun _ _=>True) trivial (ak rfl) trivial ⟨.inl ⟨_,rfl,.inl ⟨rfl,rfl⟩⟩,.inl ⟨_,rfl,.inl ⟨rfl,rfl⟩⟩,trivial⟩ (fun _=>rfl) (fun _=>rfl) ?_;rintro k ⟨⟩ hk _ _ _ _;exact dz [1000,1001] rfl rfl rfl rfl ⟨[],p,by rw[hD];rfl,rfl,rfl⟩
theorem fW {c:Type}{f:Dec c}:∀{n:Nat}{bs r:List UInt8}{xs:List c},bB f n bs=some (xs,r)->xs.length=n
 | 0,bs,r,xs,h=>by
  simp only[bB,yo,Prod.mk.injEq] at h;rw[<-h.1];rfl
 | n+1,bs,r,xs,h=>by
  simp only[bB] at h;split at h
  ·split at h
   ·rename_i ys e d;injection h with h
    injection h with h _
    rw[<-h,aau,fW d]
   ·cases h
  ·cases h
theorem Bp {c:Type}(g:c->C):∀(ns:List c) (a b:List C) (zs:List C),zs.length=ns.length->Bo g (a++(zs++b)) ((List.range ns.length).map fun j=>a.length+j) ns=a++(ns.map g++b)
 | [],a,b,zs,h=>by
  have:zs=[]:=aaG (by simpa using h);subst this;rfl
 | n::ns,a,b,z::zs,h=>by
  have e:((List.range (n::ns).length).map fun j=>a.length+j)=a.length::(List.range ns.length).map (fun j=>(a++[g n]).length+j):=by
   rw[aau,List.range_succ_eq_map,aao,aa6];congr 1;apply aa9;intro j _;simp;omega
  rw[e];simp only[Bo];rw[show(a++(z::zs++b)).set a.length (g n)=(a++[g n])++(zs++b) by rw[List.set_append_right _ _ (aaB _)];simp];rw[Bp g ns (a++[g n]) b zs (by simpa using h)];simp
theorem ints_at (a b:List C) (xs:List Int):∀o∈(List.range xs.length).map (fun j=>a.length+j),∃x,(a++(xs.map IC++b))[o]?=some (IC x):=by
 intro o d;obtain⟨j,c,rfl⟩:=aaJ.1 d;have c:=List.mem_range.1 c;refine⟨xs[j],?_⟩;rw[aaw (by omega),show a.length+j-a.length=j by omega,aap (by simpa using c)];simp[c]
theorem M9 (a b:List C) (xs:List Bool):∀o∈(List.range xs.length).map (fun j=>a.length+j),∃x,(a++(xs.map C.bool++b))[o]?=some (.bool x):=by
 intro o d;obtain⟨j,c,rfl⟩:=aaJ.1 d;have c:=List.mem_range.1 c;refine⟨xs[j],?_⟩;rw[aaw (by omega),show a.length+j-a.length=j by omega,aap (by simpa using c)];simp[c]
theorem zZ (xs:List Int):ct (xs.map IC):=fun c d=>by
 obtain⟨x,_,rfl⟩:=aaJ.1 d;exact .inl rfl
theorem yd (xs:List Bool):ct (xs.map C.bool):=fun c d=>by
 obtain⟨x,_,rfl⟩:=aaJ.1 d;exact .inl rfl
theorem lg {pre a:List C}{m:Nat}:((List.range m).map fun j=>(pre++a).length+j)=(List.range m).map fun j=>pre.length+(a.length+j):=by
 apply aa9;intro j _;simp[Nat.add_assoc]
section
variable {t:Nat}{pre post a b:List C}{bs:List UInt8}
theorem vF (xs:List Int) (f:ct pre) (d:ct post) (l:ct a) (hb:ct b) :
  CallsTX PZ 85 [.ifo none 86 1000 0,.slo 1001 ((List.range xs.length).map fun j=>pre.length+(a.length+j))] [RB bs,.win t pre (a++(xs.map IC++b)) post]
   (fun Mo c=>∃ns r,bB gm xs.length bs=some (ns,r)/\Mo=[RB r,.win t pre (a++(ns.map IC++b)) post]/\c=.tup []) (fun v=>v=fL/\bB gm xs.length bs=none):=by
 have p:ct ([]:List C):=fun c s=>by cases s
 have h:=Vz t (pre++(a++(xs.map IC++b))++post) ((List.range xs.length).map fun j=>(pre++a).length+j) bs ((f.append (l.append ((zZ xs).append hb))).append d) (fun o n=>by
  have:=ints_at (pre++a) (b++post) xs o n;simpa using this)
 rw[lg] at h;refine h.view (vw.same (vw.cons (nK (by simp) (f.append (l.append ((zZ xs).append hb)) |>.append d) p) (vw.refl []))) ?_ (fun v h=>by simpa using h);rintro Mo c ⟨ns,r,e,rfl,rfl⟩;rw[aax,List.length_range] at e;have m:=fW e;have k:=Bp IC ns (pre++a) (b++post) (xs.map IC) (by simp[m]);rw[m,lg] at k;refine⟨_,vw.same (vw.cons (nK (pre':=pre) (cs':=a++(ns.map IC++b)) (post':=post) ?_ f d) (vw.refl [])),ns,r,e,rfl,rfl⟩;have q:pre++(a++(xs.map IC++b))++post=pre++a++(xs.map IC++(b++post)):=by simp
 rw[q,k];simp
theorem Fq (xs:List Bool) (f:ct pre) (d:ct post) (l:ct a) (hb:ct b) :
  CallsTX PZ 103 [.ifo none 86 1000 0,.slo 1001 ((List.range xs.length).map fun j=>pre.length+(a.length+j))] [RB bs,.win t pre (a++(xs.map C.bool++b)) post]
   (fun Mo c=>∃ns r,bB nW xs.length bs=some (ns,r)/\Mo=[RB r,.win t pre (a++(ns.map C.bool++b)) post]/\c=.tup []) (fun v=>v=fL/\bB nW xs.length bs=none):=by
 have p:ct ([]:List C):=fun c s=>by cases s
 have h:=RQ t (pre++(a++(xs.map C.bool++b))++post) ((List.range xs.length).map fun j=>(pre++a).length+j) bs ((f.append (l.append ((yd xs).append hb))).append d) (fun o n=>by
  have:=M9 (pre++a) (b++post) xs o n;simpa using this)
 rw[lg] at h;refine h.view (vw.same (vw.cons (nK (by simp) (f.append (l.append ((yd xs).append hb)) |>.append d) p) (vw.refl []))) ?_ (fun v h=>by simpa using h);rintro Mo c ⟨ns,r,e,rfl,rfl⟩;rw[aax,List.length_range] at e;have m:=fW e;have k:=Bp C.bool ns (pre++a) (b++post) (xs.map C.bool) (by simp[m]);rw[m,lg] at k;refine⟨_,vw.same (vw.cons (nK (pre':=pre) (cs':=a++(ns.map C.bool++b)) (post':=post) ?_ f d) (vw.refl [])),ns,r,e,rfl,rfl⟩;have q:pre++(a++(xs.map C.bool++b))++post=pre++a++(xs.map C.bool++(b++post)):=by simp
 rw[q,k];simp
theorem gV.at {m:Type}{f:Nat}{fi ca:List C}{d:Dec m}{z:List C}{cs:m->List C}(n:gV f fi ca d z cs) (k:ct pre) (j:ct post) (l:ct a) (hb:ct b) :
  CallsTX PZ f (fi++.ifo none 86 1000 0::.own 1001 (pre.length+a.length)::ca) [RB bs,.win t pre (a++(z++b)) post]
   (fun Mo c=>∃x r,d bs=some (x,r)/\Mo=[RB r,.win t pre (a++(cs x++b)) post]/\c=.tup []) (fun v=>v=fL/\d bs=none):=by
 have h:=n t (pre++a) (b++post) bs (k.append l) (hb.append j);rw[aak] at h;refine h.view (vw.same (vw.cons (nK (by simp) (k.append l) (hb.append j)) (vw.refl []))) ?_ fun _ h=>h;rintro Mo c ⟨x,r,e,rfl,rfl⟩;exact⟨_,vw.same (vw.cons (nK (by simp) k j) (vw.refl [])),x,r,e,rfl,rfl⟩
end
theorem ye {c:Type}{l:List c}(h:l.length=1):∃a,l=[a]:=by
 match l,h with | [a],_=>exact⟨a,rfl⟩
theorem Eg {c:Type}{l:List c}(h:l.length=2):∃a b,l=[a,b]:=by
 match l,h with | [a,b],_=>exact⟨a,b,rfl⟩
theorem yg {d:Type}{l:List d}(h:l.length=3):∃a b c,l=[a,b,c]:=by
 match l,h with | [a,b,c],_=>exact⟨a,b,c,rfl⟩
theorem Na {e:Type}{l:List e}(h:l.length=4):∃a b c d,l=[a,b,c,d]:=by
 match l,h with | [a,b,c,d],_=>exact⟨a,b,c,d,rfl⟩
theorem Nb {f:Type}{l:List f}(h:l.length=5):∃a b c d e,l=[a,b,c,d,e]:=by
 match l,h with | [a,b,c,d,e],_=>exact⟨a,b,c,d,e,rfl⟩
theorem eG:ct ([]:List C):=fun c a=>by cases a
theorem RZ:gV 110 [] [] gm [IC 0] (fun n=>[IC n]):=by
 intro t pre post bs c b;refine aq Tryz.func110 CN rfl fun d a=>?_;refine⟨164,P6,?_⟩;refine bW [1000,1001] (P5 t pre post 0 bs c b) rfl rfl rfl rfl (fun v h=>h) ?_;rintro v Mo ⟨n,r,e,rfl,rfl⟩ _ _;refine⟨rfl,?_⟩;exact dz [1000,1001] rfl rfl rfl rfl ⟨n,r,e,rfl,rfl⟩
theorem VG:gV 78 [] [] Ru [.bool false] Fe:=by
 intro t pre post bs f j;have hb:=Fq (t:=t) (bs:=bs) (a:=[]) (b:=[]) [false] f j eG eG;refine aq Tryz.func78 EZ rfl fun k c=>?_;refine bW [1000,1001] hb rfl rfl rfl rfl (fun v ⟨e,h⟩=>⟨e,aV h⟩) ?_;rintro v Mo ⟨ns,r,e,rfl,rfl⟩ _ _;refine qN (ye (fW e)) fun n d=>?_;cases d;refine⟨rfl,?_⟩;exact dz [1000,1001] rfl rfl rfl rfl ⟨n,r,au e,rfl,rfl⟩
theorem J4 (d:Int):CallsT PZ 134 [IC d] [] (iD [] (.fn 146 [] [.pt [IC d] 0])):=by
 refine aj Tryz.func134 Jv rfl fun a _=>?_;exact aK rfl rfl
theorem ent (f:Nat) {fn:Func}(h:PZ.funcs[f]?=some fn) (h2:fn.body.isSome=true) (h3:(fn.name == "runtime.NumGoroutine")=false):mY PZ f:=⟨fn,h,h2,h3⟩
theorem Fs (x:Vl):yF 8 (pT x):=by
 cases x;exact⟨rfl,rfl,rfl⟩
def zV:List C:=[IC 0,IC 0,IC 0,IC 0,.sl [],.bool false,.sl [],.sl []]
theorem Nc (n:Int):yF 1 [IC n]:=⟨rfl,rfl,rfl⟩
theorem wq:gV 109 [] [.fn 110 [] []] (dF gm) [.sl []] (fun l=>[.sl (rK l)]):=RS RZ (ent 110 Tryz.func110 rfl rfl) Nc
theorem NZ:∀d:Nat,(d:Int)<=60->gV 146 [] [.pt [IC d] 0] (D9 d) zV pT
 | 0,hd=>by
  intro t pre post bs o r;refine aq Tryz.func146 ud rfl fun hw w=>?_;refine u4 (uo false) rfl (fun h=>⟨rfl,rfl⟩) fun h=>by cases h
 | d+1,hd=>by
  intro t pre post bs o r;have ih:=NZ d (by omega);have hl:=P7 ih (ent 146 Tryz.func146 rfl rfl) Fs;have hn:=vF (t:=t) (bs:=bs) (a:=[]) (b:=[.sl [],.bool false,.sl [],.sl []]) [0,0,0,0] o r eG (aR rfl);refine aq Tryz.func146 ud rfl fun hw w=>?_;refine aN (fun x=>?_) (fun x=>vv (show(0:Int)<((d+1:Nat):Int) by omega) x);refine u4 (uo true) rfl (fun h=>by cases h) fun _=>?_;refine cu [1000,1001] hn rfl rfl rfl rfl (fun v ⟨e,h⟩=>⟨e,by simp only[D9];exact aV h⟩) ?_;rintro v Mo ⟨ns,r1,f,rfl,rfl⟩ _ _;refine qN (Na (fW f)) fun k c=>qN c fun i c=>qN c fun j c=>qN c fun n c=>?_;cases c;have f:bB gm 4 bs=some ([k,i,j,n],r1):=f;refine⟨rfl,?_⟩;refine Fit.to (m:=(d:Int)) (by rw[show((d+1:Nat):Int)-1=(d:Int) by omega];exact bU (by omega) (by omega)) ?_;refine dW (J4 d) rfl fun _=>?_;refine cu [1000,1001] (hl.at (t:=t) (bs:=r1) (a:=[IC k,IC i,IC j,IC n]) (b:=[.bool false,.sl [],.sl []]) o r (aR rfl) (aR rfl)) rfl rfl rfl rfl (fun v ⟨e,h⟩=>⟨e,by simp only[D9];rw[au f,aV h]⟩) ?_;rintro v Mo ⟨fs,z,u,rfl,rfl⟩ _ _;refine⟨rfl,?_⟩;refine bW [1000,1001] (Fq (t:=t) (bs:=z) (a:=[IC k,IC i,IC j,IC n,.sl (fs.map pT)]) (b:=[.sl [],.sl []]) [false] o r (aR rfl) (aR rfl)) rfl rfl rfl rfl (fun v ⟨e,h⟩=>⟨e,by simp only[D9];rw[au f,au u];exact aV h⟩) ?_;rintro v Mo ⟨ns,y,s,rfl,rfl⟩ _ _;refine qN (ye (fW s)) fun ex c=>?_;cases c;have s:bB nW 1 z=some ([ex],y):=s;refine⟨rfl,?_⟩;refine bW [1000,1001] (wq.at (t:=t) (bs:=y) (a:=[IC k,IC i,IC j,IC n,.sl (fs.map pT),.bool ex]) (b:=[.sl []]) o r (aR rfl) (aR rfl)) rfl rfl rfl rfl (fun v ⟨e,h⟩=>⟨e,by simp only[D9];rw[au f,au u,au s,aV h]⟩) ?_;rintro v Mo ⟨p,r4,e4,rfl,rfl⟩ _ _;refine⟨rfl,?_⟩;refine bW [1000,1001] (wq.at (t:=t) (bs:=r4) (a:=[IC k,IC i,IC j,IC n,.sl (fs.map pT),.bool ex,.sl (rK p)]) (b:=[]) o r (aR rfl) (aR rfl)) rfl rfl rfl rfl (fun v ⟨e,h⟩=>⟨e,by simp only[D9];rw[au f,au u,au s,au e4,aV h]⟩) ?_;rintro v Mo ⟨l,r5,e5,rfl,rfl⟩ _ _;refine⟨rfl,?_⟩;refine dz [1000,1001] rfl rfl rfl rfl ⟨.mk k i j n fs ex p l,r5,by simp only[D9];rw[au f,au u,au s,au e4,au e5];rfl,?_,rfl⟩;exact j3 (fun q=>[RB r5,TO.win t pre [IC k,IC i,IC j,IC n,.sl q,.bool ex,.sl (rK p),.sl (rK l)] post]) (qO fs).symm
theorem N0:gV 104 [] [] Ff zV pT:=by
 intro t pre post bs c b;have h:=NZ 60 (by omega) t pre post bs c b;refine aq Tryz.func104 CG rfl fun d a=>?_;refine bA (J4 60) rfl fun _=>?_;refine bW [1000,1001] h rfl rfl rfl rfl (fun v h=>h) ?_;rintro v Mo ⟨x,r,e,rfl,rfl⟩ _ _;cases x;refine⟨rfl,?_⟩;exact dz [1000,1001] rfl rfl rfl rfl ⟨_,r,e,rfl,rfl⟩
theorem R0:gV 82 [] [] Rs [.sl []] M0:=by
 intro t pre post bs c b;have h:=RY N0 (ent 104 Tryz.func104 rfl rfl) Fs t pre post bs c b;refine aq Tryz.func82 E6 rfl fun d a=>?_;refine bW [1000,1001] h rfl rfl rfl rfl (fun v h=>h) ?_;rintro v Mo ⟨x,r,e,rfl,rfl⟩ _ _;refine⟨rfl,?_⟩;exact dz [1000,1001] rfl rfl rfl rfl ⟨x,r,e,rfl,rfl⟩
theorem VH:gV 76 [] [] NS (.bool false::IC 0::zV) zW:=by
 intro t pre post bs f j;refine aq Tryz.func76 EX rfl fun q n=>?_;refine bW [1000,1001] (Fq (t:=t) (bs:=bs) (a:=[]) (b:=IC 0::zV) [false] f j eG (aR rfl)) rfl rfl rfl rfl (fun v ⟨e,h⟩=>⟨e,aV h⟩) ?_;rintro v Mo ⟨ns,l,c,rfl,rfl⟩ _ _;refine qN (ye (fW c)) fun b k=>?_;cases k;have c:bB nW 1 bs=some ([b],l):=c;refine⟨rfl,?_⟩;refine bW [1000,1001] (vF (t:=t) (bs:=l) (a:=[.bool b]) (b:=zV) [0] f j (aR rfl) (aR rfl)) rfl rfl rfl rfl (fun v ⟨e,h⟩=>⟨e,by unfold NS;rw[au c];exact aV h⟩) ?_;rintro v Mo ⟨ns,m,d,rfl,rfl⟩ _ _;refine qN (ye (fW d)) fun a k=>?_;cases k;have d:bB gm 1 l=some ([a],m):=d;refine⟨rfl,?_⟩;refine bW [1000,1001] (N0.at (t:=t) (bs:=m) (a:=[.bool b,IC a]) (b:=[]) f j (aR rfl) eG) rfl rfl rfl rfl (fun v ⟨e,h⟩=>⟨e,by unfold NS;rw[au c,au d,aV h]⟩) ?_;rintro v Mo ⟨x,o,p,rfl,rfl⟩ _ _;cases x;refine⟨rfl,?_⟩;exact dz [1000,1001] rfl rfl rfl rfl ⟨⟨b,a,.mk _ _ _ _ _ _ _ _⟩,o,by unfold NS;rw[au c,au d,au p];rfl,rfl,rfl⟩
theorem R2:gV 106 [] [] NT [IC 0,IC 0,IC 0,IC 0,IC 0,.sl [],.sl []] D8:=by
 intro t pre post bs o p;refine aq Tryz.func106 CI rfl fun z u=>?_;refine cu [1000,1001] (vF (t:=t) (bs:=bs) (a:=[]) (b:=[.sl [],.sl []]) [0,0,0,0,0] o p eG (aR rfl)) rfl rfl rfl rfl (fun v ⟨e,h⟩=>⟨e,aV h⟩) ?_;rintro v Mo ⟨ns,r,d,rfl,rfl⟩ _ _;refine qN (Nb (fW d)) fun j c=>qN c fun f c=>qN c fun n c=>qN c fun k c=>qN c fun m c=>?_;cases c;have d:bB gm 5 bs=some ([j,f,n,k,m],r):=d;refine⟨rfl,?_⟩;refine bW [1000,1001] (R0.at (t:=t) (bs:=r) (a:=[IC j,IC f,IC n,IC k,IC m]) (b:=[.sl []]) o p (aR rfl) (aR rfl)) rfl rfl rfl rfl (fun v ⟨e,h⟩=>⟨e,by unfold NT;rw[au d,aV h]⟩) ?_;rintro v Mo ⟨s,x,q,rfl,rfl⟩ _ _;refine⟨rfl,?_⟩;refine bW [1000,1001] (wq.at (t:=t) (bs:=x) (a:=[IC j,IC f,IC n,IC k,IC m,.sl (s.map pT)]) (b:=[]) o p (aR rfl) eG) rfl rfl rfl rfl (fun v ⟨e,h⟩=>⟨e,by unfold NT;rw[au d,au q,aV h]⟩) ?_;rintro v Mo ⟨l,w,y,rfl,rfl⟩ _ _;refine⟨rfl,?_⟩;exact dz [1000,1001] rfl rfl rfl rfl ⟨⟨j,f,n,k,m,s,l⟩,w,by unfold NT;rw[au d,au q,au y];rfl,rfl,rfl⟩
theorem R3:gV 108 [] [] P0 [IC 0,IC 0,.bool false,.bool false,.bool false] JU:=by
 intro t pre post bs o q;refine aq Tryz.func108 CK rfl fun u s=>?_;refine cu [1000,1001] (vF (t:=t) (bs:=bs) (a:=[]) (b:=[.bool false,.bool false,.bool false]) [0,0] o q eG (aR rfl)) rfl rfl rfl rfl (fun v ⟨e,h⟩=>⟨e,aV h⟩) ?_;rintro v Mo ⟨ns,l,d,rfl,rfl⟩ _ _;refine qN (Eg (fW d)) fun k c=>qN c fun j c=>?_;cases c;have d:bB gm 2 bs=some ([k,j],l):=d;refine⟨rfl,?_⟩;refine cu [1000,1001] (Fq (t:=t) (bs:=l) (a:=[IC k,IC j]) (b:=[]) [false,false,false] o q (aR rfl) eG) rfl rfl rfl rfl (fun v ⟨e,h⟩=>⟨e,by unfold P0;rw[au d];exact aV h⟩) ?_;rintro v Mo ⟨ns,r,f,rfl,rfl⟩ _ _;refine qN (yg (fW f)) fun m c=>qN c fun n c=>qN c fun p c=>?_;cases c;have f:bB nW 3 l=some ([m,n,p],r):=f;refine⟨rfl,?_⟩;exact dz [1000,1001] rfl rfl rfl rfl ⟨⟨k,j,m,n,p⟩,r,by unfold P0;rw[au d,au f];rfl,rfl,rfl⟩
theorem Nd (x:Ac):yF 7 (D8 x):=⟨rfl,rfl,rfl⟩
theorem Nf (x:Ln):yF 5 (JU x):=⟨rfl,rfl,rfl⟩
theorem Ng (x:Tk):yF 7 (CT x):=⟨rfl,rfl,rfl⟩
theorem Nh (x:Ou):yF 2 (KG x):=⟨rfl,rfl,rfl⟩
theorem Ni (x:Bool):yF 1 (Fe x):=⟨rfl,rfl,rfl⟩
theorem Nj (x:List Vl):yF 1 (M0 x):=⟨rfl,rfl,rfl⟩
theorem Nk (x:Ce):yF 10 (zW x):=by
 obtain⟨a,b,v⟩:=x;cases v;exact⟨rfl,rfl,rfl⟩
theorem P8:gV 105 [] [.fn 106 [] []] (dF NT) [.sl []] (fun l=>[.sl (l.map D8)]):=RU R2 (ent 106 Tryz.func106 rfl rfl) Nd
theorem P9:gV 107 [] [.fn 108 [] []] (dF P0) [.sl []] (fun l=>[.sl (l.map JU)]):=RX R3 (ent 108 Tryz.func108 rfl rfl) Nf
theorem VI:gV 80 [] [] KH [IC 0,.sl [],.sl [],IC 0,IC 0,IC 0,.sl []] CT:=by
 intro t pre post bs m o;refine aq Tryz.func80 E4 rfl fun hw z=>?_;refine bW [1000,1001] (vF (t:=t) (bs:=bs) (a:=[]) (b:=[.sl [],.sl [],IC 0,IC 0,IC 0,.sl []]) [0] m o eG (aR rfl)) rfl rfl rfl rfl (fun v ⟨e,h⟩=>⟨e,aV h⟩) ?_;rintro v Mo ⟨ns,x,j,rfl,rfl⟩ _ _;refine qN (ye (fW j)) fun s k=>?_;cases k;have j:bB gm 1 bs=some ([s],x):=j;refine⟨rfl,?_⟩;refine bW [1000,1001] (P8.at (t:=t) (bs:=x) (a:=[IC s]) (b:=[.sl [],IC 0,IC 0,IC 0,.sl []]) m o (aR rfl) (aR rfl)) rfl rfl rfl rfl (fun v ⟨e,h⟩=>⟨e,by unfold KH;rw[au j,aV h]⟩) ?_;rintro v Mo ⟨f,r2,q,rfl,rfl⟩ _ _;refine⟨rfl,?_⟩;refine bW [1000,1001] (P9.at (t:=t) (bs:=r2) (a:=[IC s,.sl (f.map D8)]) (b:=[IC 0,IC 0,IC 0,.sl []]) m o (aR rfl) (aR rfl)) rfl rfl rfl rfl (fun v ⟨e,h⟩=>⟨e,by unfold KH;rw[au j,au q,aV h]⟩) ?_;rintro v Mo ⟨l,u,r,rfl,rfl⟩ _ _;refine⟨rfl,?_⟩;refine cu [1000,1001] (vF (t:=t) (bs:=u) (a:=[IC s,.sl (f.map D8),.sl (l.map JU)]) (b:=[.sl []]) [0,0,0] m o (aR rfl) (aR rfl)) rfl rfl rfl rfl (fun v ⟨e,h⟩=>⟨e,by unfold KH;rw[au j,au q,au r];exact aV h⟩) ?_;rintro v Mo ⟨ns,w,p,rfl,rfl⟩ _ _;refine qN (yg (fW p)) fun a k=>qN k fun c k=>qN k fun n k=>?_;cases k;have p:bB gm 3 u=some ([a,c,n],w):=p;refine⟨rfl,?_⟩;refine bW [1000,1001] (wq.at (t:=t) (bs:=w) (a:=[IC s,.sl (f.map D8),.sl (l.map JU),IC a,IC c,IC n]) (b:=[]) m o (aR rfl) eG) rfl rfl rfl rfl (fun v ⟨e,h⟩=>⟨e,by unfold KH;rw[au j,au q,au r,au p,aV h]⟩) ?_;rintro v Mo ⟨d,r5,y,rfl,rfl⟩ _ _;refine⟨rfl,?_⟩;exact dz [1000,1001] rfl rfl rfl rfl ⟨⟨s,f,l,a,c,n,d⟩,r5,by unfold KH;rw[au j,au q,au r,au p,au y];rfl,rfl,rfl⟩
theorem VJ:gV 84 [] [] Rt [IC 0,IC 0] KG:=by
 intro t pre post bs m n;refine aq Tryz.func84 E8 rfl fun o l=>?_;refine cu [1000,1001] (vF (t:=t) (bs:=bs) (a:=[]) (b:=[]) [0,0] m n eG eG) rfl rfl rfl rfl (fun v ⟨e,h⟩=>⟨e,aV h⟩) ?_;rintro v Mo ⟨ns,k,c,rfl,rfl⟩ _ _;refine qN (Eg (fW c)) fun j d=>qN d fun f d=>?_;cases d;have c:bB gm 2 bs=some ([j,f],k):=c;refine⟨rfl,?_⟩;exact dz [1000,1001] rfl rfl rfl rfl ⟨⟨j,f⟩,k,au c,rfl,rfl⟩
theorem Qa:gV 75 [] [.fn 76 [] []] (dF NS) [.sl []] (fun l=>[.sl (l.map zW)]):=VB VH (ent 76 Tryz.func76 rfl rfl) Nk
theorem Qb:gV 77 [] [.fn 78 [] []] (dF Ru) [.sl []] (fun l=>[.sl (l.map Fe)]):=VA VG (ent 78 Tryz.func78 rfl rfl) Ni
theorem Qc:gV 79 [] [.fn 80 [] []] (dF KH) [.sl []] (fun l=>[.sl (l.map CT)]):=VD VI (ent 80 Tryz.func80 rfl rfl) Ng
theorem Qd:gV 81 [] [.fn 82 [] []] (dF Rs) [.sl []] (fun l=>[.sl (l.map M0)]):=VE R0 (ent 82 Tryz.func82 rfl rfl) Nj
theorem Qe:gV 83 [] [.fn 84 [] []] (dF Rt) [.sl []] (fun l=>[.sl (l.map KG)]):=VF VJ (ent 84 Tryz.func84 rfl rfl) Nh
theorem VK (t:Nat) (j d:List (List C)) (f:Int) (bs:List UInt8):CallsTX PZ 35 [.ifo none 86 1000 0,.own 1001 0] [RB bs,.box t [.sl j,.sl d,IC f,.sl [],.sl [],.sl [],.sl [],.sl [],IC 0,IC 0,IC 0]]
  (fun Mo c=>∃x r,CU bs=some (x,r)/\Mo=[RB r,.box t (.sl j::.sl d::IC f::QH x)]/\c=.tup []) (fun v=>v=fL/\CU bs=none):=by
 refine CallsTX.view (Lin:=[RB bs,.win t [] ([.sl j,.sl d,IC f]++[.sl [],.sl [],.sl [],.sl [],.sl [],IC 0,IC 0,IC 0]) []])
  (R:=fun Mo c=>∃x r,CU bs=some (x,r)/\Mo=[RB r,.win t [] ([.sl j,.sl d,IC f]++QH x) []]/\c=.tup []) (Pp:=fun v=>v=fL/\CU bs=none) ?_
  (vw.same (vw.cons (wo rfl eG eG) (vw.refl []))) (fun Mo c ⟨x,r,e,q1,q2⟩=>⟨_,by rw[q1];exact vw.same (vw.cons (Bh (by simp)) (vw.refl [])),x,r,e,rfl,q2⟩) fun _ h=>h
 refine aq Tryz.func35 ET rfl fun hw ad=>?_;refine bW [1000,1001] (Qa.at (t:=t) (bs:=bs) (pre:=[]) (post:=[]) (a:=[.sl j,.sl d,IC f]) (b:=[.sl [],.sl [],.sl [],.sl [],IC 0,IC 0,IC 0]) eG eG (aR rfl) (aR rfl)) rfl rfl rfl rfl (fun v ⟨e,h⟩=>⟨e,aV h⟩) ?_;rintro v Mo ⟨l,r1,k,rfl,rfl⟩ _ _;refine⟨rfl,?_⟩;refine bW [1000,1001] (Qb.at (t:=t) (bs:=r1) (pre:=[]) (post:=[]) (a:=[.sl j,.sl d,IC f,.sl (l.map zW)]) (b:=[.sl [],.sl [],.sl [],IC 0,IC 0,IC 0]) eG eG (aR rfl) (aR rfl)) rfl rfl rfl rfl (fun v ⟨e,h⟩=>⟨e,by unfold CU;rw[au k,aV h]⟩) ?_;rintro v Mo ⟨o,r2,m,rfl,rfl⟩ _ _;refine⟨rfl,?_⟩;refine bW [1000,1001] (Qc.at (t:=t) (bs:=r2) (pre:=[]) (post:=[]) (a:=[.sl j,.sl d,IC f,.sl (l.map zW),.sl (o.map Fe)]) (b:=[.sl [],.sl [],IC 0,IC 0,IC 0]) eG eG (aR rfl) (aR rfl)) rfl rfl rfl rfl (fun v ⟨e,h⟩=>⟨e,by unfold CU;rw[au k,au m,aV h]⟩) ?_;rintro v Mo ⟨s,r3,u,rfl,rfl⟩ _ _;refine⟨rfl,?_⟩;refine bW [1000,1001] (Qd.at (t:=t) (bs:=r3) (pre:=[]) (post:=[]) (a:=[.sl j,.sl d,IC f,.sl (l.map zW),.sl (o.map Fe),.sl (s.map CT)]) (b:=[.sl [],IC 0,IC 0,IC 0]) eG eG (aR rfl) (aR rfl)) rfl rfl rfl rfl (fun v ⟨e,h⟩=>⟨e,by unfold CU;rw[au k,au m,au u,aV h]⟩) ?_;rintro v Mo ⟨w,r4,y,rfl,rfl⟩ _ _;refine⟨rfl,?_⟩;refine bW [1000,1001] (Qe.at (t:=t) (bs:=r4) (pre:=[]) (post:=[]) (a:=[.sl j,.sl d,IC f,.sl (l.map zW),.sl (o.map Fe),.sl (s.map CT),.sl (w.map M0)]) (b:=[IC 0,IC 0,IC 0]) eG eG (aR rfl) (aR rfl)) rfl rfl rfl rfl (fun v ⟨e,h⟩=>⟨e,by unfold CU;rw[au k,au m,au u,au y,aV h]⟩) ?_;rintro v Mo ⟨x5,r5,z,rfl,rfl⟩ _ _;refine⟨rfl,?_⟩;refine cu [1000,1001] (vF (t:=t) (bs:=r5) (pre:=[]) (post:=[]) (a:=[.sl j,.sl d,IC f,.sl (l.map zW),.sl (o.map Fe),.sl (s.map CT),.sl (w.map M0),.sl (x5.map KG)]) (b:=[]) [0,0,0] eG eG (aR rfl) eG) rfl rfl rfl rfl (fun v ⟨e,h⟩=>⟨e,by unfold CU;rw[au k,au m,au u,au y,au z];exact aV h⟩) ?_;rintro v Mo ⟨ns,r6,q,rfl,rfl⟩ _ _;refine qN (yg (fW q)) fun a p=>qN p fun c p=>qN p fun n p=>?_;cases p;have q:bB gm 3 r5=some ([a,c,n],r6):=q;refine⟨rfl,?_⟩;exact dz [1000,1001] rfl rfl rfl rfl ⟨⟨l,o,s,w,x5,a,c,n⟩,r6,by unfold CU;rw[au k,au m,au u,au y,au z,au q];rfl,rfl,rfl⟩
end Go.Fr.Tryz
