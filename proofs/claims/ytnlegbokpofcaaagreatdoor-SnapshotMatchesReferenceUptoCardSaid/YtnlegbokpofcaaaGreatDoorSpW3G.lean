/- Part of the proofs of the statements of this seat. -/
import Derived.Test.YtnlegbokpofcaaaGreatDoorSpT5G
set_option maxRecDepth 10000
set_option linter.unusedVariables false
set_option linter.unusedSimpArgs false
namespace Go.Fr.Tryz
open Go Go.RowKit Go.Proofs Go.Fr Go.Fr.T Go.Fr.Api
theorem Xa {α:Type}{f:Nat}{a:Dec α}{cs:α->List C}(u:iD f [] [] a [IC 0] cs) (he:n9 PZ f) (aa:∀x,AR 1 (cs x)):iD 109 [] [.fn f [] []] (eu a) [.sl []] (fun l=>[.sl (l.map cs)]):=by
 intro t pre post bs _ _;refine aC Tryz.func109 Fb rfl fun hw al=>?_;refine⟨.inl ⟨0,rfl,?_⟩⟩;refine⟨rfl,?_⟩;refine⟨165,Bn,?_⟩;refine cS [1000] (Bm 0 bs) rfl rfl rfl rfl (fun v ⟨e,h⟩=>⟨e,bn h⟩) ?_;rintro v Mo ⟨n,p,e0,rfl,rfl⟩ _ _;refine⟨rfl,?_⟩;have hD:eu a bs=bT a n p:=aD e0;have hn:=mr e0;refine⟨.inl ⟨0,rfl,?_⟩⟩;refine aj (fun hb=>?_) (fun hb=>?_)
 ·refine⟨by omega,ac9 _,by omega,by simp only[maxLen];omega,?_⟩;refine⟨.inl ⟨0,rfl,?_⟩⟩;refine⟨.inl ⟨0,rfl,?_⟩⟩;have y:∀m:Nat,((List.replicate m [IC 0]:List (List C)).length:Int)=m:=fun m=>by simp
  refine aP n 31 [] (([],p):List α×List UInt8) (fun _=>[]) (fun s=>[(25,.row 3 1 (s.1.map cs++List.replicate (n-s.1.length) [IC 0])),(1000,RB s.2),(1001,.win t pre [.rw 25] post)])
   (fun k s=>s.1.length=k/\(∀xs r,bT a (n-k) s.2=some (xs,r)->bT a n p=some (s.1++xs,r))/\(bT a (n-k) s.2=none->bT a n p=none))
   ⟨rfl,fun xs r h=>h,fun h=>h⟩ (af rfl) trivial ⟨bJ,bJ,bJ,trivial⟩ ?_
  rintro k ⟨done,b⟩ hk ⟨h1,o,w⟩ _ _ ag;simp only at h1 o w;refine aF (fun c=>?_) (fun j=>?_)
  ·have c:k<n:=by have h:(k:Int)<((List.replicate n [IC 0]:List (List C)).length:Int):=c;rw[y] at h;omega
   refine⟨.inl ⟨0,rfl,?_⟩⟩;refine⟨by omega,by simp;omega,?_⟩;refine pq [1000,25] (jc (e:=3) (sz:=1) (ca:=[]) u he rfl (fun d u=>by
    rcases acQ.1 u with rfl | u
    ·exact⟨rfl,rfl⟩
    ·cases u) aa ⟨rfl,rfl,rfl⟩ h1 c b) rfl rfl rfl rfl (fun v ⟨e,h⟩=>⟨e,?_⟩) ?_
   ·rw[hD];exact w (by rw[show n-k=(n-(k+1))+1 by omega];simp only[bT,h])
   rintro v Mo ⟨x,r,e1,rfl,rfl⟩ _ _;refine⟨rfl,?_⟩;refine bf ?_;rw[show n-k=(n-(k+1))+1 by omega] at o w;simp only[bT,e1] at o w;refine⟨(k+1,done++[x],r),⟨by omega,by simp[h1],fun xs r' h=>?_,fun h=>?_⟩,⟨aR,trivial⟩,⟨bJ,bJ,bJ,trivial⟩,aS c⟩
   ·rw[o (x::xs) r' (by simp only[h])];simp
   ·exact w (by simp only[h])
  ·have j:n-k=0:=by
    have h:¬(k:Int)<((List.replicate n [IC 0]:List (List C)).length:Int):=j;rw[y] at h;omega
   rw[j] at o;have hf:=o [] b rfl;rw[acT] at hf;refine nB [25] [1000,1001] ⟨_,_,rfl,rfl,rfl,done,b,by rw[hD];exact hf,?_,rfl⟩;have hl:n-done.length=0:=by omega
   exact j3 (fun q=>[RB b,TO.win t pre [C.sl q] post]) (show done.map cs++List.replicate (n-done.length) [IC 0]=done.map cs by rw[hl];simp)
 ·have z:n=0:=by
   have h:=hb;simp at h;omega
  subst z;refine⟨.inl ⟨0,rfl,?_⟩⟩;refine aP 0 31 [] () (fun _=>[]) (fun _=>[(1000,RB p),(1001,.win t pre [.sl []] post)]) (fun _ _=>True) trivial (af rfl) trivial ⟨bJ,bJ,trivial⟩ ?_;rintro k ⟨⟩ hk _ _ _ _;exact cD [1000,1001] rfl rfl rfl rfl ⟨[],p,by rw[hD];rfl,rfl,rfl⟩
theorem aaN {α:Type}{f:Nat}{a:Dec α}{cs:α->List C}(u:iD f [] [] a [.bool false] cs) (he:n9 PZ f) (aa:∀x,AR 1 (cs x)):iD 77 [] [.fn f [] []] (eu a) [.sl []] (fun l=>[.sl (l.map cs)]):=by
 intro t pre post bs _ _;refine aC Tryz.func77 Ic rfl fun hw al=>?_;refine⟨.inl ⟨0,rfl,?_⟩⟩;refine⟨rfl,?_⟩;refine⟨165,Bn,?_⟩;refine cS [1000] (Bm 0 bs) rfl rfl rfl rfl (fun v ⟨e,h⟩=>⟨e,bn h⟩) ?_;rintro v Mo ⟨n,p,e0,rfl,rfl⟩ _ _;refine⟨rfl,?_⟩;have hD:eu a bs=bT a n p:=aD e0;have hn:=mr e0;refine⟨.inl ⟨0,rfl,?_⟩⟩;refine aj (fun hb=>?_) (fun hb=>?_)
 ·refine⟨by omega,ac9 _,by omega,by simp only[maxLen];omega,?_⟩;refine⟨.inl ⟨0,rfl,?_⟩⟩;refine⟨.inl ⟨0,rfl,?_⟩⟩;have y:∀m:Nat,((List.replicate m [.bool false]:List (List C)).length:Int)=m:=fun m=>by simp
  refine aP n 31 [] (([],p):List α×List UInt8) (fun _=>[]) (fun s=>[(25,.row 4 1 (s.1.map cs++List.replicate (n-s.1.length) [.bool false])),(1000,RB s.2),(1001,.win t pre [.rw 25] post)])
   (fun k s=>s.1.length=k/\(∀xs r,bT a (n-k) s.2=some (xs,r)->bT a n p=some (s.1++xs,r))/\(bT a (n-k) s.2=none->bT a n p=none))
   ⟨rfl,fun xs r h=>h,fun h=>h⟩ (af rfl) trivial ⟨bJ,bJ,bJ,trivial⟩ ?_
  rintro k ⟨done,b⟩ hk ⟨h1,o,w⟩ _ _ ag;simp only at h1 o w;refine aF (fun c=>?_) (fun j=>?_)
  ·have c:k<n:=by have h:(k:Int)<((List.replicate n [.bool false]:List (List C)).length:Int):=c;rw[y] at h;omega
   refine⟨.inl ⟨0,rfl,?_⟩⟩;refine⟨by omega,by simp;omega,?_⟩;refine pq [1000,25] (jc (e:=4) (sz:=1) (ca:=[]) u he rfl (fun d u=>by
    rcases acQ.1 u with rfl | u
    ·exact⟨rfl,rfl⟩
    ·cases u) aa ⟨rfl,rfl,rfl⟩ h1 c b) rfl rfl rfl rfl (fun v ⟨e,h⟩=>⟨e,?_⟩) ?_
   ·rw[hD];exact w (by rw[show n-k=(n-(k+1))+1 by omega];simp only[bT,h])
   rintro v Mo ⟨x,r,e1,rfl,rfl⟩ _ _;refine⟨rfl,?_⟩;refine bf ?_;rw[show n-k=(n-(k+1))+1 by omega] at o w;simp only[bT,e1] at o w;refine⟨(k+1,done++[x],r),⟨by omega,by simp[h1],fun xs r' h=>?_,fun h=>?_⟩,⟨aR,trivial⟩,⟨bJ,bJ,bJ,trivial⟩,aS c⟩
   ·rw[o (x::xs) r' (by simp only[h])];simp
   ·exact w (by simp only[h])
  ·have j:n-k=0:=by
    have h:¬(k:Int)<((List.replicate n [.bool false]:List (List C)).length:Int):=j;rw[y] at h;omega
   rw[j] at o;have hf:=o [] b rfl;rw[acT] at hf;refine nB [25] [1000,1001] ⟨_,_,rfl,rfl,rfl,done,b,by rw[hD];exact hf,?_,rfl⟩;have hl:n-done.length=0:=by omega
   exact j3 (fun q=>[RB b,TO.win t pre [C.sl q] post]) (show done.map cs++List.replicate (n-done.length) [.bool false]=done.map cs by rw[hl];simp)
 ·have z:n=0:=by
   have h:=hb;simp at h;omega
  subst z;refine⟨.inl ⟨0,rfl,?_⟩⟩;refine aP 0 31 [] () (fun _=>[]) (fun _=>[(1000,RB p),(1001,.win t pre [.sl []] post)]) (fun _ _=>True) trivial (af rfl) trivial ⟨bJ,bJ,trivial⟩ ?_;rintro k ⟨⟩ hk _ _ _ _;exact cD [1000,1001] rfl rfl rfl rfl ⟨[],p,by rw[hD];rfl,rfl,rfl⟩
theorem aaO {α:Type}{f:Nat}{a:Dec α}{cs:α->List C}(u:iD f [] [] a [.bool false,IC 0,IC 0,IC 0,IC 0,IC 0,.sl [],.bool false,.sl [],.sl []] cs) (he:n9 PZ f) (aa:∀x,AR 10 (cs x)):iD 75 [] [.fn f [] []] (eu a) [.sl []] (fun l=>[.sl (l.map cs)]):=by
 intro t pre post bs _ _;refine aC Tryz.func75 Ia rfl fun hw al=>?_;refine⟨.inl ⟨0,rfl,?_⟩⟩;refine⟨rfl,?_⟩;refine⟨165,Bn,?_⟩;refine cS [1000] (Bm 0 bs) rfl rfl rfl rfl (fun v ⟨e,h⟩=>⟨e,bn h⟩) ?_;rintro v Mo ⟨n,p,e0,rfl,rfl⟩ _ _;refine⟨rfl,?_⟩;have hD:eu a bs=bT a n p:=aD e0;have hn:=mr e0;refine⟨.inl ⟨0,rfl,?_⟩⟩;refine aj (fun hb=>?_) (fun hb=>?_)
 ·refine⟨by omega,ac9 _,by omega,by simp only[maxLen];omega,?_⟩;refine⟨.inl ⟨0,rfl,?_⟩⟩;refine⟨.inl ⟨0,rfl,?_⟩⟩;have y:∀m:Nat,((List.replicate m [.bool false,IC 0,IC 0,IC 0,IC 0,IC 0,.sl [],.bool false,.sl [],.sl []]:List (List C)).length:Int)=m:=fun m=>by simp
  refine aP n 31 [] (([],p):List α×List UInt8) (fun _=>[]) (fun s=>[(25,.row 63 10 (s.1.map cs++List.replicate (n-s.1.length) [.bool false,IC 0,IC 0,IC 0,IC 0,IC 0,.sl [],.bool false,.sl [],.sl []])),(1000,RB s.2),(1001,.win t pre [.rw 25] post)])
   (fun k s=>s.1.length=k/\(∀xs r,bT a (n-k) s.2=some (xs,r)->bT a n p=some (s.1++xs,r))/\(bT a (n-k) s.2=none->bT a n p=none))
   ⟨rfl,fun xs r h=>h,fun h=>h⟩ (af rfl) trivial ⟨bJ,bJ,bJ,trivial⟩ ?_
  rintro k ⟨done,b⟩ hk ⟨h1,o,w⟩ _ _ ag;simp only at h1 o w;refine aF (fun c=>?_) (fun j=>?_)
  ·have c:k<n:=by have h:(k:Int)<((List.replicate n [.bool false,IC 0,IC 0,IC 0,IC 0,IC 0,.sl [],.bool false,.sl [],.sl []]:List (List C)).length:Int):=c;rw[y] at h;omega
   refine⟨.inl ⟨0,rfl,?_⟩⟩;refine⟨by omega,by simp;omega,?_⟩;refine pq [1000,25] (jc (e:=63) (sz:=10) (ca:=[]) u he rfl (fun d u=>by
    rcases acQ.1 u with rfl | u
    ·exact⟨rfl,rfl⟩
    ·cases u) aa ⟨rfl,rfl,rfl⟩ h1 c b) rfl rfl rfl rfl (fun v ⟨e,h⟩=>⟨e,?_⟩) ?_
   ·rw[hD];exact w (by rw[show n-k=(n-(k+1))+1 by omega];simp only[bT,h])
   rintro v Mo ⟨x,r,e1,rfl,rfl⟩ _ _;refine⟨rfl,?_⟩;refine bf ?_;rw[show n-k=(n-(k+1))+1 by omega] at o w;simp only[bT,e1] at o w;refine⟨(k+1,done++[x],r),⟨by omega,by simp[h1],fun xs r' h=>?_,fun h=>?_⟩,⟨aR,trivial⟩,⟨bJ,bJ,bJ,trivial⟩,aS c⟩
   ·rw[o (x::xs) r' (by simp only[h])];simp
   ·exact w (by simp only[h])
  ·have j:n-k=0:=by
    have h:¬(k:Int)<((List.replicate n [.bool false,IC 0,IC 0,IC 0,IC 0,IC 0,.sl [],.bool false,.sl [],.sl []]:List (List C)).length:Int):=j;rw[y] at h;omega
   rw[j] at o;have hf:=o [] b rfl;rw[acT] at hf;refine nB [25] [1000,1001] ⟨_,_,rfl,rfl,rfl,done,b,by rw[hD];exact hf,?_,rfl⟩;have hl:n-done.length=0:=by omega
   exact j3 (fun q=>[RB b,TO.win t pre [C.sl q] post]) (show done.map cs++List.replicate (n-done.length) [.bool false,IC 0,IC 0,IC 0,IC 0,IC 0,.sl [],.bool false,.sl [],.sl []]=done.map cs by rw[hl];simp)
 ·have z:n=0:=by
   have h:=hb;simp at h;omega
  subst z;refine⟨.inl ⟨0,rfl,?_⟩⟩;refine aP 0 31 [] () (fun _=>[]) (fun _=>[(1000,RB p),(1001,.win t pre [.sl []] post)]) (fun _ _=>True) trivial (af rfl) trivial ⟨bJ,bJ,trivial⟩ ?_;rintro k ⟨⟩ hk _ _ _ _;exact cD [1000,1001] rfl rfl rfl rfl ⟨[],p,by rw[hD];rfl,rfl,rfl⟩
theorem aaP {α:Type}{f:Nat}{a:Dec α}{cs:α->List C}(u:iD f [] [] a [IC 0,.sl [],.sl [],IC 0,IC 0,IC 0,.sl []] cs) (he:n9 PZ f) (aa:∀x,AR 7 (cs x)):iD 79 [] [.fn f [] []] (eu a) [.sl []] (fun l=>[.sl (l.map cs)]):=by
 intro t pre post bs _ _;refine aC Tryz.func79 Ig rfl fun hw al=>?_;refine⟨.inl ⟨0,rfl,?_⟩⟩;refine⟨rfl,?_⟩;refine⟨165,Bn,?_⟩;refine cS [1000] (Bm 0 bs) rfl rfl rfl rfl (fun v ⟨e,h⟩=>⟨e,bn h⟩) ?_;rintro v Mo ⟨n,p,e0,rfl,rfl⟩ _ _;refine⟨rfl,?_⟩;have hD:eu a bs=bT a n p:=aD e0;have hn:=mr e0;refine⟨.inl ⟨0,rfl,?_⟩⟩;refine aj (fun hb=>?_) (fun hb=>?_)
 ·refine⟨by omega,ac9 _,by omega,by simp only[maxLen];omega,?_⟩;refine⟨.inl ⟨0,rfl,?_⟩⟩;refine⟨.inl ⟨0,rfl,?_⟩⟩;have y:∀m:Nat,((List.replicate m [IC 0,.sl [],.sl [],IC 0,IC 0,IC 0,.sl []]:List (List C)).length:Int)=m:=fun m=>by simp
  refine aP n 31 [] (([],p):List α×List UInt8) (fun _=>[]) (fun s=>[(25,.row 67 7 (s.1.map cs++List.replicate (n-s.1.length) [IC 0,.sl [],.sl [],IC 0,IC 0,IC 0,.sl []])),(1000,RB s.2),(1001,.win t pre [.rw 25] post)])
   (fun k s=>s.1.length=k/\(∀xs r,bT a (n-k) s.2=some (xs,r)->bT a n p=some (s.1++xs,r))/\(bT a (n-k) s.2=none->bT a n p=none))
   ⟨rfl,fun xs r h=>h,fun h=>h⟩ (af rfl) trivial ⟨bJ,bJ,bJ,trivial⟩ ?_
  rintro k ⟨done,b⟩ hk ⟨h1,o,w⟩ _ _ ag;simp only at h1 o w;refine aF (fun c=>?_) (fun j=>?_)
  ·have c:k<n:=by have h:(k:Int)<((List.replicate n [IC 0,.sl [],.sl [],IC 0,IC 0,IC 0,.sl []]:List (List C)).length:Int):=c;rw[y] at h;omega
   refine⟨.inl ⟨0,rfl,?_⟩⟩;refine⟨by omega,by simp;omega,?_⟩;refine pq [1000,25] (jc (e:=67) (sz:=7) (ca:=[]) u he rfl (fun d u=>by
    rcases acQ.1 u with rfl | u
    ·exact⟨rfl,rfl⟩
    ·cases u) aa ⟨rfl,rfl,rfl⟩ h1 c b) rfl rfl rfl rfl (fun v ⟨e,h⟩=>⟨e,?_⟩) ?_
   ·rw[hD];exact w (by rw[show n-k=(n-(k+1))+1 by omega];simp only[bT,h])
   rintro v Mo ⟨x,r,e1,rfl,rfl⟩ _ _;refine⟨rfl,?_⟩;refine bf ?_;rw[show n-k=(n-(k+1))+1 by omega] at o w;simp only[bT,e1] at o w;refine⟨(k+1,done++[x],r),⟨by omega,by simp[h1],fun xs r' h=>?_,fun h=>?_⟩,⟨aR,trivial⟩,⟨bJ,bJ,bJ,trivial⟩,aS c⟩
   ·rw[o (x::xs) r' (by simp only[h])];simp
   ·exact w (by simp only[h])
  ·have j:n-k=0:=by
    have h:¬(k:Int)<((List.replicate n [IC 0,.sl [],.sl [],IC 0,IC 0,IC 0,.sl []]:List (List C)).length:Int):=j;rw[y] at h;omega
   rw[j] at o;have hf:=o [] b rfl;rw[acT] at hf;refine nB [25] [1000,1001] ⟨_,_,rfl,rfl,rfl,done,b,by rw[hD];exact hf,?_,rfl⟩;have hl:n-done.length=0:=by omega
   exact j3 (fun q=>[RB b,TO.win t pre [C.sl q] post]) (show done.map cs++List.replicate (n-done.length) [IC 0,.sl [],.sl [],IC 0,IC 0,IC 0,.sl []]=done.map cs by rw[hl];simp)
 ·have z:n=0:=by
   have h:=hb;simp at h;omega
  subst z;refine⟨.inl ⟨0,rfl,?_⟩⟩;refine aP 0 31 [] () (fun _=>[]) (fun _=>[(1000,RB p),(1001,.win t pre [.sl []] post)]) (fun _ _=>True) trivial (af rfl) trivial ⟨bJ,bJ,trivial⟩ ?_;rintro k ⟨⟩ hk _ _ _ _;exact cD [1000,1001] rfl rfl rfl rfl ⟨[],p,by rw[hD];rfl,rfl,rfl⟩
theorem aaQ {α:Type}{f:Nat}{a:Dec α}{cs:α->List C}(u:iD f [] [] a [.sl []] cs) (he:n9 PZ f) (aa:∀x,AR 1 (cs x)):iD 81 [] [.fn f [] []] (eu a) [.sl []] (fun l=>[.sl (l.map cs)]):=by
 intro t pre post bs _ _;refine aC Tryz.func81 Ii rfl fun hw al=>?_;refine⟨.inl ⟨0,rfl,?_⟩⟩;refine⟨rfl,?_⟩;refine⟨165,Bn,?_⟩;refine cS [1000] (Bm 0 bs) rfl rfl rfl rfl (fun v ⟨e,h⟩=>⟨e,bn h⟩) ?_;rintro v Mo ⟨n,p,e0,rfl,rfl⟩ _ _;refine⟨rfl,?_⟩;have hD:eu a bs=bT a n p:=aD e0;have hn:=mr e0;refine⟨.inl ⟨0,rfl,?_⟩⟩;refine aj (fun hb=>?_) (fun hb=>?_)
 ·refine⟨by omega,ac9 _,by omega,by simp only[maxLen];omega,?_⟩;refine⟨.inl ⟨0,rfl,?_⟩⟩;refine⟨.inl ⟨0,rfl,?_⟩⟩;have y:∀m:Nat,((List.replicate m [.sl []]:List (List C)).length:Int)=m:=fun m=>by simp
  refine aP n 31 [] (([],p):List α×List UInt8) (fun _=>[]) (fun s=>[(25,.row 58 1 (s.1.map cs++List.replicate (n-s.1.length) [.sl []])),(1000,RB s.2),(1001,.win t pre [.rw 25] post)])
   (fun k s=>s.1.length=k/\(∀xs r,bT a (n-k) s.2=some (xs,r)->bT a n p=some (s.1++xs,r))/\(bT a (n-k) s.2=none->bT a n p=none))
   ⟨rfl,fun xs r h=>h,fun h=>h⟩ (af rfl) trivial ⟨bJ,bJ,bJ,trivial⟩ ?_
  rintro k ⟨done,b⟩ hk ⟨h1,o,w⟩ _ _ ag;simp only at h1 o w;refine aF (fun c=>?_) (fun j=>?_)
  ·have c:k<n:=by have h:(k:Int)<((List.replicate n [.sl []]:List (List C)).length:Int):=c;rw[y] at h;omega
   refine⟨.inl ⟨0,rfl,?_⟩⟩;refine⟨by omega,by simp;omega,?_⟩;refine pq [1000,25] (jc (e:=58) (sz:=1) (ca:=[]) u he rfl (fun d u=>by
    rcases acQ.1 u with rfl | u
    ·exact⟨rfl,rfl⟩
    ·cases u) aa ⟨rfl,rfl,rfl⟩ h1 c b) rfl rfl rfl rfl (fun v ⟨e,h⟩=>⟨e,?_⟩) ?_
   ·rw[hD];exact w (by rw[show n-k=(n-(k+1))+1 by omega];simp only[bT,h])
   rintro v Mo ⟨x,r,e1,rfl,rfl⟩ _ _;refine⟨rfl,?_⟩;refine bf ?_;rw[show n-k=(n-(k+1))+1 by omega] at o w;simp only[bT,e1] at o w;refine⟨(k+1,done++[x],r),⟨by omega,by simp[h1],fun xs r' h=>?_,fun h=>?_⟩,⟨aR,trivial⟩,⟨bJ,bJ,bJ,trivial⟩,aS c⟩
   ·rw[o (x::xs) r' (by simp only[h])];simp
   ·exact w (by simp only[h])
  ·have j:n-k=0:=by
    have h:¬(k:Int)<((List.replicate n [.sl []]:List (List C)).length:Int):=j;rw[y] at h;omega
   rw[j] at o;have hf:=o [] b rfl;rw[acT] at hf;refine nB [25] [1000,1001] ⟨_,_,rfl,rfl,rfl,done,b,by rw[hD];exact hf,?_,rfl⟩;have hl:n-done.length=0:=by omega
   exact j3 (fun q=>[RB b,TO.win t pre [C.sl q] post]) (show done.map cs++List.replicate (n-done.length) [.sl []]=done.map cs by rw[hl];simp)
 ·have z:n=0:=by
   have h:=hb;simp at h;omega
  subst z;refine⟨.inl ⟨0,rfl,?_⟩⟩;refine aP 0 31 [] () (fun _=>[]) (fun _=>[(1000,RB p),(1001,.win t pre [.sl []] post)]) (fun _ _=>True) trivial (af rfl) trivial ⟨bJ,bJ,trivial⟩ ?_;rintro k ⟨⟩ hk _ _ _ _;exact cD [1000,1001] rfl rfl rfl rfl ⟨[],p,by rw[hD];rfl,rfl,rfl⟩
theorem aaR {α:Type}{f:Nat}{a:Dec α}{cs:α->List C}(u:iD f [] [] a [IC 0,IC 0] cs) (he:n9 PZ f) (aa:∀x,AR 2 (cs x)):iD 83 [] [.fn f [] []] (eu a) [.sl []] (fun l=>[.sl (l.map cs)]):=by
 intro t pre post bs _ _;refine aC Tryz.func83 Ik rfl fun hw al=>?_;refine⟨.inl ⟨0,rfl,?_⟩⟩;refine⟨rfl,?_⟩;refine⟨165,Bn,?_⟩;refine cS [1000] (Bm 0 bs) rfl rfl rfl rfl (fun v ⟨e,h⟩=>⟨e,bn h⟩) ?_;rintro v Mo ⟨n,p,e0,rfl,rfl⟩ _ _;refine⟨rfl,?_⟩;have hD:eu a bs=bT a n p:=aD e0;have hn:=mr e0;refine⟨.inl ⟨0,rfl,?_⟩⟩;refine aj (fun hb=>?_) (fun hb=>?_)
 ·refine⟨by omega,ac9 _,by omega,by simp only[maxLen];omega,?_⟩;refine⟨.inl ⟨0,rfl,?_⟩⟩;refine⟨.inl ⟨0,rfl,?_⟩⟩;have y:∀m:Nat,((List.replicate m [IC 0,IC 0]:List (List C)).length:Int)=m:=fun m=>by simp
  refine aP n 31 [] (([],p):List α×List UInt8) (fun _=>[]) (fun s=>[(25,.row 101 2 (s.1.map cs++List.replicate (n-s.1.length) [IC 0,IC 0])),(1000,RB s.2),(1001,.win t pre [.rw 25] post)])
   (fun k s=>s.1.length=k/\(∀xs r,bT a (n-k) s.2=some (xs,r)->bT a n p=some (s.1++xs,r))/\(bT a (n-k) s.2=none->bT a n p=none))
   ⟨rfl,fun xs r h=>h,fun h=>h⟩ (af rfl) trivial ⟨bJ,bJ,bJ,trivial⟩ ?_
  rintro k ⟨done,b⟩ hk ⟨h1,o,w⟩ _ _ ag;simp only at h1 o w;refine aF (fun c=>?_) (fun j=>?_)
  ·have c:k<n:=by have h:(k:Int)<((List.replicate n [IC 0,IC 0]:List (List C)).length:Int):=c;rw[y] at h;omega
   refine⟨.inl ⟨0,rfl,?_⟩⟩;refine⟨by omega,by simp;omega,?_⟩;refine pq [1000,25] (jc (e:=101) (sz:=2) (ca:=[]) u he rfl (fun d u=>by
    rcases acQ.1 u with rfl | u
    ·exact⟨rfl,rfl⟩
    ·cases u) aa ⟨rfl,rfl,rfl⟩ h1 c b) rfl rfl rfl rfl (fun v ⟨e,h⟩=>⟨e,?_⟩) ?_
   ·rw[hD];exact w (by rw[show n-k=(n-(k+1))+1 by omega];simp only[bT,h])
   rintro v Mo ⟨x,r,e1,rfl,rfl⟩ _ _;refine⟨rfl,?_⟩;refine bf ?_;rw[show n-k=(n-(k+1))+1 by omega] at o w;simp only[bT,e1] at o w;refine⟨(k+1,done++[x],r),⟨by omega,by simp[h1],fun xs r' h=>?_,fun h=>?_⟩,⟨aR,trivial⟩,⟨bJ,bJ,bJ,trivial⟩,aS c⟩
   ·rw[o (x::xs) r' (by simp only[h])];simp
   ·exact w (by simp only[h])
  ·have j:n-k=0:=by
    have h:¬(k:Int)<((List.replicate n [IC 0,IC 0]:List (List C)).length:Int):=j;rw[y] at h;omega
   rw[j] at o;have hf:=o [] b rfl;rw[acT] at hf;refine nB [25] [1000,1001] ⟨_,_,rfl,rfl,rfl,done,b,by rw[hD];exact hf,?_,rfl⟩;have hl:n-done.length=0:=by omega
   exact j3 (fun q=>[RB b,TO.win t pre [C.sl q] post]) (show done.map cs++List.replicate (n-done.length) [IC 0,IC 0]=done.map cs by rw[hl];simp)
 ·have z:n=0:=by
   have h:=hb;simp at h;omega
  subst z;refine⟨.inl ⟨0,rfl,?_⟩⟩;refine aP 0 31 [] () (fun _=>[]) (fun _=>[(1000,RB p),(1001,.win t pre [.sl []] post)]) (fun _ _=>True) trivial (af rfl) trivial ⟨bJ,bJ,trivial⟩ ?_;rintro k ⟨⟩ hk _ _ _ _;exact cD [1000,1001] rfl rfl rfl rfl ⟨[],p,by rw[hD];rfl,rfl,rfl⟩
theorem Xb {α:Type}{f:Nat}{a:Dec α}{cs:α->List C}(u:iD f [] [] a [IC 0,IC 0,IC 0,IC 0,IC 0,.sl [],.sl []] cs) (he:n9 PZ f) (aa:∀x,AR 7 (cs x)):iD 105 [] [.fn f [] []] (eu a) [.sl []] (fun l=>[.sl (l.map cs)]):=by
 intro t pre post bs _ _;refine aC Tryz.func105 E6 rfl fun hw al=>?_;refine⟨.inl ⟨0,rfl,?_⟩⟩;refine⟨rfl,?_⟩;refine⟨165,Bn,?_⟩;refine cS [1000] (Bm 0 bs) rfl rfl rfl rfl (fun v ⟨e,h⟩=>⟨e,bn h⟩) ?_;rintro v Mo ⟨n,p,e0,rfl,rfl⟩ _ _;refine⟨rfl,?_⟩;have hD:eu a bs=bT a n p:=aD e0;have hn:=mr e0;refine⟨.inl ⟨0,rfl,?_⟩⟩;refine aj (fun hb=>?_) (fun hb=>?_)
 ·refine⟨by omega,ac9 _,by omega,by simp only[maxLen];omega,?_⟩;refine⟨.inl ⟨0,rfl,?_⟩⟩;refine⟨.inl ⟨0,rfl,?_⟩⟩;have y:∀m:Nat,((List.replicate m [IC 0,IC 0,IC 0,IC 0,IC 0,.sl [],.sl []]:List (List C)).length:Int)=m:=fun m=>by simp
  refine aP n 31 [] (([],p):List α×List UInt8) (fun _=>[]) (fun s=>[(25,.row 69 7 (s.1.map cs++List.replicate (n-s.1.length) [IC 0,IC 0,IC 0,IC 0,IC 0,.sl [],.sl []])),(1000,RB s.2),(1001,.win t pre [.rw 25] post)])
   (fun k s=>s.1.length=k/\(∀xs r,bT a (n-k) s.2=some (xs,r)->bT a n p=some (s.1++xs,r))/\(bT a (n-k) s.2=none->bT a n p=none))
   ⟨rfl,fun xs r h=>h,fun h=>h⟩ (af rfl) trivial ⟨bJ,bJ,bJ,trivial⟩ ?_
  rintro k ⟨done,b⟩ hk ⟨h1,o,w⟩ _ _ ag;simp only at h1 o w;refine aF (fun c=>?_) (fun j=>?_)
  ·have c:k<n:=by have h:(k:Int)<((List.replicate n [IC 0,IC 0,IC 0,IC 0,IC 0,.sl [],.sl []]:List (List C)).length:Int):=c;rw[y] at h;omega
   refine⟨.inl ⟨0,rfl,?_⟩⟩;refine⟨by omega,by simp;omega,?_⟩;refine pq [1000,25] (jc (e:=69) (sz:=7) (ca:=[]) u he rfl (fun d u=>by
    rcases acQ.1 u with rfl | u
    ·exact⟨rfl,rfl⟩
    ·cases u) aa ⟨rfl,rfl,rfl⟩ h1 c b) rfl rfl rfl rfl (fun v ⟨e,h⟩=>⟨e,?_⟩) ?_
   ·rw[hD];exact w (by rw[show n-k=(n-(k+1))+1 by omega];simp only[bT,h])
   rintro v Mo ⟨x,r,e1,rfl,rfl⟩ _ _;refine⟨rfl,?_⟩;refine bf ?_;rw[show n-k=(n-(k+1))+1 by omega] at o w;simp only[bT,e1] at o w;refine⟨(k+1,done++[x],r),⟨by omega,by simp[h1],fun xs r' h=>?_,fun h=>?_⟩,⟨aR,trivial⟩,⟨bJ,bJ,bJ,trivial⟩,aS c⟩
   ·rw[o (x::xs) r' (by simp only[h])];simp
   ·exact w (by simp only[h])
  ·have j:n-k=0:=by
    have h:¬(k:Int)<((List.replicate n [IC 0,IC 0,IC 0,IC 0,IC 0,.sl [],.sl []]:List (List C)).length:Int):=j;rw[y] at h;omega
   rw[j] at o;have hf:=o [] b rfl;rw[acT] at hf;refine nB [25] [1000,1001] ⟨_,_,rfl,rfl,rfl,done,b,by rw[hD];exact hf,?_,rfl⟩;have hl:n-done.length=0:=by omega
   exact j3 (fun q=>[RB b,TO.win t pre [C.sl q] post]) (show done.map cs++List.replicate (n-done.length) [IC 0,IC 0,IC 0,IC 0,IC 0,.sl [],.sl []]=done.map cs by rw[hl];simp)
 ·have z:n=0:=by
   have h:=hb;simp at h;omega
  subst z;refine⟨.inl ⟨0,rfl,?_⟩⟩;refine aP 0 31 [] () (fun _=>[]) (fun _=>[(1000,RB p),(1001,.win t pre [.sl []] post)]) (fun _ _=>True) trivial (af rfl) trivial ⟨bJ,bJ,trivial⟩ ?_;rintro k ⟨⟩ hk _ _ _ _;exact cD [1000,1001] rfl rfl rfl rfl ⟨[],p,by rw[hD];rfl,rfl,rfl⟩
theorem Xc {α:Type}{f:Nat}{a:Dec α}{cs:α->List C}(u:iD f [] [] a [IC 0,IC 0,.bool false,.bool false,.bool false] cs) (he:n9 PZ f) (aa:∀x,AR 5 (cs x)):iD 107 [] [.fn f [] []] (eu a) [.sl []] (fun l=>[.sl (l.map cs)]):=by
 intro t pre post bs _ _;refine aC Tryz.func107 E8 rfl fun hw al=>?_;refine⟨.inl ⟨0,rfl,?_⟩⟩;refine⟨rfl,?_⟩;refine⟨165,Bn,?_⟩;refine cS [1000] (Bm 0 bs) rfl rfl rfl rfl (fun v ⟨e,h⟩=>⟨e,bn h⟩) ?_;rintro v Mo ⟨n,p,e0,rfl,rfl⟩ _ _;refine⟨rfl,?_⟩;have hD:eu a bs=bT a n p:=aD e0;have hn:=mr e0;refine⟨.inl ⟨0,rfl,?_⟩⟩;refine aj (fun hb=>?_) (fun hb=>?_)
 ·refine⟨by omega,ac9 _,by omega,by simp only[maxLen];omega,?_⟩;refine⟨.inl ⟨0,rfl,?_⟩⟩;refine⟨.inl ⟨0,rfl,?_⟩⟩;have y:∀m:Nat,((List.replicate m [IC 0,IC 0,.bool false,.bool false,.bool false]:List (List C)).length:Int)=m:=fun m=>by simp
  refine aP n 31 [] (([],p):List α×List UInt8) (fun _=>[]) (fun s=>[(25,.row 129 5 (s.1.map cs++List.replicate (n-s.1.length) [IC 0,IC 0,.bool false,.bool false,.bool false])),(1000,RB s.2),(1001,.win t pre [.rw 25] post)])
   (fun k s=>s.1.length=k/\(∀xs r,bT a (n-k) s.2=some (xs,r)->bT a n p=some (s.1++xs,r))/\(bT a (n-k) s.2=none->bT a n p=none))
   ⟨rfl,fun xs r h=>h,fun h=>h⟩ (af rfl) trivial ⟨bJ,bJ,bJ,trivial⟩ ?_
  rintro k ⟨done,b⟩ hk ⟨h1,o,w⟩ _ _ ag;simp only at h1 o w;refine aF (fun c=>?_) (fun j=>?_)
  ·have c:k<n:=by have h:(k:Int)<((List.replicate n [IC 0,IC 0,.bool false,.bool false,.bool false]:List (List C)).length:Int):=c;rw[y] at h;omega
   refine⟨.inl ⟨0,rfl,?_⟩⟩;refine⟨by omega,by simp;omega,?_⟩;refine pq [1000,25] (jc (e:=129) (sz:=5) (ca:=[]) u he rfl (fun d u=>by
    rcases acQ.1 u with rfl | u
    ·exact⟨rfl,rfl⟩
    ·cases u) aa ⟨rfl,rfl,rfl⟩ h1 c b) rfl rfl rfl rfl (fun v ⟨e,h⟩=>⟨e,?_⟩) ?_
   ·rw[hD];exact w (by rw[show n-k=(n-(k+1))+1 by omega];simp only[bT,h])
   rintro v Mo ⟨x,r,e1,rfl,rfl⟩ _ _;refine⟨rfl,?_⟩;refine bf ?_;rw[show n-k=(n-(k+1))+1 by omega] at o w;simp only[bT,e1] at o w;refine⟨(k+1,done++[x],r),⟨by omega,by simp[h1],fun xs r' h=>?_,fun h=>?_⟩,⟨aR,trivial⟩,⟨bJ,bJ,bJ,trivial⟩,aS c⟩
   ·rw[o (x::xs) r' (by simp only[h])];simp
   ·exact w (by simp only[h])
  ·have j:n-k=0:=by
    have h:¬(k:Int)<((List.replicate n [IC 0,IC 0,.bool false,.bool false,.bool false]:List (List C)).length:Int):=j;rw[y] at h;omega
   rw[j] at o;have hf:=o [] b rfl;rw[acT] at hf;refine nB [25] [1000,1001] ⟨_,_,rfl,rfl,rfl,done,b,by rw[hD];exact hf,?_,rfl⟩;have hl:n-done.length=0:=by omega
   exact j3 (fun q=>[RB b,TO.win t pre [C.sl q] post]) (show done.map cs++List.replicate (n-done.length) [IC 0,IC 0,.bool false,.bool false,.bool false]=done.map cs by rw[hl];simp)
 ·have z:n=0:=by
   have h:=hb;simp at h;omega
  subst z;refine⟨.inl ⟨0,rfl,?_⟩⟩;refine aP 0 31 [] () (fun _=>[]) (fun _=>[(1000,RB p),(1001,.win t pre [.sl []] post)]) (fun _ _=>True) trivial (af rfl) trivial ⟨bJ,bJ,trivial⟩ ?_;rintro k ⟨⟩ hk _ _ _ _;exact cD [1000,1001] rfl rfl rfl rfl ⟨[],p,by rw[hD];rfl,rfl,rfl⟩
theorem Xd {α:Type}{f:Nat}{a:Dec α}{cs:α->List C}(u:iD f [] [] a [IC 0,IC 0,IC 0,IC 0,.sl [],.bool false,.sl [],.sl []] cs) (he:n9 PZ f) (aa:∀x,AR 8 (cs x)):iD 111 [] [.fn f [] []] (eu a) [.sl []] (fun l=>[.sl (l.map cs)]):=by
 intro t pre post bs _ _;refine aC Tryz.func111 vJ rfl fun hw al=>?_;refine⟨.inl ⟨0,rfl,?_⟩⟩;refine⟨rfl,?_⟩;refine⟨165,Bn,?_⟩;refine cS [1000] (Bm 0 bs) rfl rfl rfl rfl (fun v ⟨e,h⟩=>⟨e,bn h⟩) ?_;rintro v Mo ⟨n,p,e0,rfl,rfl⟩ _ _;refine⟨rfl,?_⟩;have hD:eu a bs=bT a n p:=aD e0;have hn:=mr e0;refine⟨.inl ⟨0,rfl,?_⟩⟩;refine aj (fun hb=>?_) (fun hb=>?_)
 ·refine⟨by omega,ac9 _,by omega,by simp only[maxLen];omega,?_⟩;refine⟨.inl ⟨0,rfl,?_⟩⟩;refine⟨.inl ⟨0,rfl,?_⟩⟩;have y:∀m:Nat,((List.replicate m [IC 0,IC 0,IC 0,IC 0,.sl [],.bool false,.sl [],.sl []]:List (List C)).length:Int)=m:=fun m=>by simp
  refine aP n 31 [] (([],p):List α×List UInt8) (fun _=>[]) (fun s=>[(25,.row 61 8 (s.1.map cs++List.replicate (n-s.1.length) [IC 0,IC 0,IC 0,IC 0,.sl [],.bool false,.sl [],.sl []])),(1000,RB s.2),(1001,.win t pre [.rw 25] post)])
   (fun k s=>s.1.length=k/\(∀xs r,bT a (n-k) s.2=some (xs,r)->bT a n p=some (s.1++xs,r))/\(bT a (n-k) s.2=none->bT a n p=none))
   ⟨rfl,fun xs r h=>h,fun h=>h⟩ (af rfl) trivial ⟨bJ,bJ,bJ,trivial⟩ ?_
  rintro k ⟨done,b⟩ hk ⟨h1,o,w⟩ _ _ ag;simp only at h1 o w;refine aF (fun c=>?_) (fun j=>?_)
  ·have c:k<n:=by have h:(k:Int)<((List.replicate n [IC 0,IC 0,IC 0,IC 0,.sl [],.bool false,.sl [],.sl []]:List (List C)).length:Int):=c;rw[y] at h;omega
   refine⟨.inl ⟨0,rfl,?_⟩⟩;refine⟨by omega,by simp;omega,?_⟩;refine pq [1000,25] (jc (e:=61) (sz:=8) (ca:=[]) u he rfl (fun d u=>by
    rcases acQ.1 u with rfl | u
    ·exact⟨rfl,rfl⟩
    ·cases u) aa ⟨rfl,rfl,rfl⟩ h1 c b) rfl rfl rfl rfl (fun v ⟨e,h⟩=>⟨e,?_⟩) ?_
   ·rw[hD];exact w (by rw[show n-k=(n-(k+1))+1 by omega];simp only[bT,h])
   rintro v Mo ⟨x,r,e1,rfl,rfl⟩ _ _;refine⟨rfl,?_⟩;refine bf ?_;rw[show n-k=(n-(k+1))+1 by omega] at o w;simp only[bT,e1] at o w;refine⟨(k+1,done++[x],r),⟨by omega,by simp[h1],fun xs r' h=>?_,fun h=>?_⟩,⟨aR,trivial⟩,⟨bJ,bJ,bJ,trivial⟩,aS c⟩
   ·rw[o (x::xs) r' (by simp only[h])];simp
   ·exact w (by simp only[h])
  ·have j:n-k=0:=by
    have h:¬(k:Int)<((List.replicate n [IC 0,IC 0,IC 0,IC 0,.sl [],.bool false,.sl [],.sl []]:List (List C)).length:Int):=j;rw[y] at h;omega
   rw[j] at o;have hf:=o [] b rfl;rw[acT] at hf;refine nB [25] [1000,1001] ⟨_,_,rfl,rfl,rfl,done,b,by rw[hD];exact hf,?_,rfl⟩;have hl:n-done.length=0:=by omega
   exact j3 (fun q=>[RB b,TO.win t pre [C.sl q] post]) (show done.map cs++List.replicate (n-done.length) [IC 0,IC 0,IC 0,IC 0,.sl [],.bool false,.sl [],.sl []]=done.map cs by rw[hl];simp)
 ·have z:n=0:=by
   have h:=hb;simp at h;omega
  subst z;refine⟨.inl ⟨0,rfl,?_⟩⟩;refine aP 0 31 [] () (fun _=>[]) (fun _=>[(1000,RB p),(1001,.win t pre [.sl []] post)]) (fun _ _=>True) trivial (af rfl) trivial ⟨bJ,bJ,trivial⟩ ?_;rintro k ⟨⟩ hk _ _ _ _;exact cD [1000,1001] rfl rfl rfl rfl ⟨[],p,by rw[hD];rfl,rfl,rfl⟩
theorem UZ {α:Type}{f:Nat}{d:Int}{a:Dec α}{cs:α->List C}(u:iD f [] [.pt [IC d] 0] a [IC 0,IC 0,IC 0,IC 0,.sl [],.bool false,.sl [],.sl []] cs) (he:n9 PZ f) (aa:∀x,AR 8 (cs x)):iD 111 [] [.fn f [] [.pt [IC d] 0]] (eu a) [.sl []] (fun l=>[.sl (l.map cs)]):=by
 intro t pre post bs _ _;refine aC Tryz.func111 vJ rfl fun hw al=>?_;refine⟨.inl ⟨0,rfl,?_⟩⟩;refine⟨rfl,?_⟩;refine⟨165,Bn,?_⟩;refine cS [1000] (Bm 0 bs) rfl rfl rfl rfl (fun v ⟨e,h⟩=>⟨e,bn h⟩) ?_;rintro v Mo ⟨n,p,e0,rfl,rfl⟩ _ _;refine⟨rfl,?_⟩;have hD:eu a bs=bT a n p:=aD e0;have hn:=mr e0;refine⟨.inl ⟨0,rfl,?_⟩⟩;refine aj (fun hb=>?_) (fun hb=>?_)
 ·refine⟨by omega,ac9 _,by omega,by simp only[maxLen];omega,?_⟩;refine⟨.inl ⟨0,rfl,?_⟩⟩;refine⟨.inl ⟨0,rfl,?_⟩⟩;have y:∀m:Nat,((List.replicate m [IC 0,IC 0,IC 0,IC 0,.sl [],.bool false,.sl [],.sl []]:List (List C)).length:Int)=m:=fun m=>by simp
  refine aP n 31 [] (([],p):List α×List UInt8) (fun _=>[]) (fun s=>[(25,.row 61 8 (s.1.map cs++List.replicate (n-s.1.length) [IC 0,IC 0,IC 0,IC 0,.sl [],.bool false,.sl [],.sl []])),(1000,RB s.2),(1001,.win t pre [.rw 25] post)])
   (fun k s=>s.1.length=k/\(∀xs r,bT a (n-k) s.2=some (xs,r)->bT a n p=some (s.1++xs,r))/\(bT a (n-k) s.2=none->bT a n p=none))
   ⟨rfl,fun xs r h=>h,fun h=>h⟩ (af rfl) trivial ⟨bJ,bJ,bJ,trivial⟩ ?_
  rintro k ⟨done,b⟩ hk ⟨h1,o,w⟩ _ _ ag;simp only at h1 o w;refine aF (fun c=>?_) (fun j=>?_)
  ·have c:k<n:=by have h:(k:Int)<((List.replicate n [IC 0,IC 0,IC 0,IC 0,.sl [],.bool false,.sl [],.sl []]:List (List C)).length:Int):=c;rw[y] at h;omega
   refine⟨.inl ⟨0,rfl,?_⟩⟩;refine⟨by omega,by simp;omega,?_⟩;refine pq [1000,25] (jc (e:=61) (sz:=8) (ca:=[.pt [IC d] 0]) u he rfl (fun d u=>by
    rcases acQ.1 u with rfl | u
    ·exact⟨rfl,rfl⟩
    ·rw[adr.1 u];exact⟨rfl,rfl⟩) aa ⟨rfl,rfl,rfl⟩ h1 c b) rfl rfl rfl rfl (fun v ⟨e,h⟩=>⟨e,?_⟩) ?_
   ·rw[hD];exact w (by rw[show n-k=(n-(k+1))+1 by omega];simp only[bT,h])
   rintro v Mo ⟨x,r,e1,rfl,rfl⟩ _ _;refine⟨rfl,?_⟩;refine bf ?_;rw[show n-k=(n-(k+1))+1 by omega] at o w;simp only[bT,e1] at o w;refine⟨(k+1,done++[x],r),⟨by omega,by simp[h1],fun xs r' h=>?_,fun h=>?_⟩,⟨aR,trivial⟩,⟨bJ,bJ,bJ,trivial⟩,aS c⟩
   ·rw[o (x::xs) r' (by simp only[h])];simp
   ·exact w (by simp only[h])
  ·have j:n-k=0:=by
    have h:¬(k:Int)<((List.replicate n [IC 0,IC 0,IC 0,IC 0,.sl [],.bool false,.sl [],.sl []]:List (List C)).length:Int):=j;rw[y] at h;omega
   rw[j] at o;have hf:=o [] b rfl;rw[acT] at hf;refine nB [25] [1000,1001] ⟨_,_,rfl,rfl,rfl,done,b,by rw[hD];exact hf,?_,rfl⟩;have hl:n-done.length=0:=by omega
   exact j3 (fun q=>[RB b,TO.win t pre [C.sl q] post]) (show done.map cs++List.replicate (n-done.length) [IC 0,IC 0,IC 0,IC 0,.sl [],.bool false,.sl [],.sl []]=done.map cs by rw[hl];simp)
 ·have z:n=0:=by
   have h:=hb;simp at h;omega
  subst z;refine⟨.inl ⟨0,rfl,?_⟩⟩;refine aP 0 31 [] () (fun _=>[]) (fun _=>[(1000,RB p),(1001,.win t pre [.sl []] post)]) (fun _ _=>True) trivial (af rfl) trivial ⟨bJ,bJ,trivial⟩ ?_;rintro k ⟨⟩ hk _ _ _ _;exact cD [1000,1001] rfl rfl rfl rfl ⟨[],p,by rw[hD];rfl,rfl,rfl⟩
theorem gO {c:Type}{f:Dec c}:∀{n:Nat}{bs r:List UInt8}{xs:List c},bT f n bs=some (xs,r)->xs.length=n
 | 0,bs,r,xs,h=>by
  simp only[bT,w7,Prod.mk.injEq] at h;rw[<-h.1];rfl
 | n+1,bs,r,xs,h=>by
  simp only[bT] at h;split at h
  ·split at h
   ·rename_i ys e d;injection h with h
    injection h with h _
    rw[<-h,xo,gO d]
   ·cases h
  ·cases h
theorem Dz {c:Type}(g:c->C):∀(ns:List c) (a b:List C) (zs:List C),zs.length=ns.length->Dy g (a++(zs++b)) ((List.range ns.length).map fun j=>a.length+j) ns=a++(ns.map g++b)
 | [],a,b,zs,h=>by
  have:zs=[]:=ade (by simpa using h);subst this;rfl
 | n::ns,a,b,z::zs,h=>by
  have e:((List.range (n::ns).length).map fun j=>a.length+j)=a.length::(List.range ns.length).map (fun j=>(a++[g n]).length+j):=by
   rw[xo,List.range_succ_eq_map,acU,adI];congr 1;apply adJ;intro j _;simp;omega
  rw[e];simp only[Dy];rw[show(a++(z::zs++b)).set a.length (g n)=(a++[g n])++(zs++b) by rw[List.set_append_right _ _ (ac4 _)];simp];rw[Dz g ns (a++[g n]) b zs (by simpa using h)];simp
theorem ints_at (a b:List C) (xs:List Int):∀o∈(List.range xs.length).map (fun j=>a.length+j),∃x,(a++(xs.map IC++b))[o]?=some (IC x):=by
 intro o d;obtain⟨j,c,rfl⟩:=adi.1 d;have c:=List.mem_range.1 c;refine⟨xs[j],?_⟩;rw[ac7 (by omega),show a.length+j-a.length=j by omega,acY (by simpa using c)];simp[c]
theorem Rk (a b:List C) (xs:List Bool):∀o∈(List.range xs.length).map (fun j=>a.length+j),∃x,(a++(xs.map C.bool++b))[o]?=some (.bool x):=by
 intro o d;obtain⟨j,c,rfl⟩:=adi.1 d;have c:=List.mem_range.1 c;refine⟨xs[j],?_⟩;rw[ac7 (by omega),show a.length+j-a.length=j by omega,acY (by simpa using c)];simp[c]
theorem Cl (xs:List Int):cW (xs.map IC):=fun c d=>by
 obtain⟨x,_,rfl⟩:=adi.1 d;exact .inl rfl
theorem Aj (xs:List Bool):cW (xs.map C.bool):=fun c d=>by
 obtain⟨x,_,rfl⟩:=adi.1 d;exact .inl rfl
theorem mA {pre a:List C}{m:Nat}:((List.range m).map fun j=>(pre++a).length+j)=(List.range m).map fun j=>pre.length+(a.length+j):=by
 apply adJ;intro j _;simp[Nat.add_assoc]
section
variable {t:Nat}{pre post a b:List C}{bs:List UInt8}
theorem xI (xs:List Int) (d:cW pre) (f:cW post) (k:cW a) (hb:cW b) :
  CallsTX PZ 85 [.ifo none 86 1000 0,.slo 1001 ((List.range xs.length).map fun j=>pre.length+(a.length+j))] [RB bs,.win t pre (a++(xs.map IC++b)) post]
   (fun Mo c=>∃ns r,bT gW xs.length bs=some (ns,r)/\Mo=[RB r,.win t pre (a++(ns.map IC++b)) post]/\c=.tup []) (fun v=>v=gC/\bT gW xs.length bs=none):=by
 have n:cW ([]:List C):=fun c s=>by cases s
 have h:=aaM t (pre++(a++(xs.map IC++b))++post) ((List.range xs.length).map fun j=>(pre++a).length+j) bs ((d.append (k.append ((Cl xs).append hb))).append f) (fun o p=>by
  have:=ints_at (pre++a) (b++post) xs o p;simpa using this)
 rw[mA] at h;refine h.view (vw.same (vw.cons (oP (by simp) (d.append (k.append ((Cl xs).append hb)) |>.append f) n) (vw.refl []))) ?_ (fun v h=>by simpa using h);rintro Mo c ⟨ns,r,e,rfl,rfl⟩;rw[ac1,List.length_range] at e;have m:=gO e;have l:=Dz IC ns (pre++a) (b++post) (xs.map IC) (by simp[m]);rw[m,mA] at l;refine⟨_,vw.same (vw.cons (oP (pre':=pre) (cs':=a++(ns.map IC++b)) (post':=post) ?_ d f) (vw.refl [])),ns,r,e,rfl,rfl⟩;have q:pre++(a++(xs.map IC++b))++post=pre++a++(xs.map IC++(b++post)):=by simp
 rw[q,l];simp
theorem IK (xs:List Bool) (d:cW pre) (f:cW post) (k:cW a) (hb:cW b) :
  CallsTX PZ 103 [.ifo none 86 1000 0,.slo 1001 ((List.range xs.length).map fun j=>pre.length+(a.length+j))] [RB bs,.win t pre (a++(xs.map C.bool++b)) post]
   (fun Mo c=>∃ns r,bT pu xs.length bs=some (ns,r)/\Mo=[RB r,.win t pre (a++(ns.map C.bool++b)) post]/\c=.tup []) (fun v=>v=gC/\bT pu xs.length bs=none):=by
 have n:cW ([]:List C):=fun c s=>by cases s
 have h:=W9 t (pre++(a++(xs.map C.bool++b))++post) ((List.range xs.length).map fun j=>(pre++a).length+j) bs ((d.append (k.append ((Aj xs).append hb))).append f) (fun o p=>by
  have:=Rk (pre++a) (b++post) xs o p;simpa using this)
 rw[mA] at h;refine h.view (vw.same (vw.cons (oP (by simp) (d.append (k.append ((Aj xs).append hb)) |>.append f) n) (vw.refl []))) ?_ (fun v h=>by simpa using h);rintro Mo c ⟨ns,r,e,rfl,rfl⟩;rw[ac1,List.length_range] at e;have m:=gO e;have l:=Dz C.bool ns (pre++a) (b++post) (xs.map C.bool) (by simp[m]);rw[m,mA] at l;refine⟨_,vw.same (vw.cons (oP (pre':=pre) (cs':=a++(ns.map C.bool++b)) (post':=post) ?_ d f) (vw.refl [])),ns,r,e,rfl,rfl⟩;have q:pre++(a++(xs.map C.bool++b))++post=pre++a++(xs.map C.bool++(b++post)):=by simp
 rw[q,l];simp
theorem iD.at {m:Type}{f:Nat}{fi ca:List C}{d:Dec m}{z:List C}{cs:m->List C}(n:iD f fi ca d z cs) (j:cW pre) (k:cW post) (l:cW a) (hb:cW b) :
  CallsTX PZ f (fi++.ifo none 86 1000 0::.own 1001 (pre.length+a.length)::ca) [RB bs,.win t pre (a++(z++b)) post]
   (fun Mo c=>∃x r,d bs=some (x,r)/\Mo=[RB r,.win t pre (a++(cs x++b)) post]/\c=.tup []) (fun v=>v=gC/\d bs=none):=by
 have h:=n t (pre++a) (b++post) bs (j.append l) (hb.append k);rw[yo] at h;refine h.view (vw.same (vw.cons (oP (by simp) (j.append l) (hb.append k)) (vw.refl []))) ?_ fun _ h=>h;rintro Mo c ⟨x,r,e,rfl,rfl⟩;exact⟨_,vw.same (vw.cons (oP (by simp) j k) (vw.refl [])),x,r,e,rfl,rfl⟩
end
theorem Ak {c:Type}{l:List c}(h:l.length=1):∃a,l=[a]:=by
 match l,h with | [a],_=>exact⟨a,rfl⟩
theorem G3 {c:Type}{l:List c}(h:l.length=2):∃a b,l=[a,b]:=by
 match l,h with | [a,b],_=>exact⟨a,b,rfl⟩
theorem Al {d:Type}{l:List d}(h:l.length=3):∃a b c,l=[a,b,c]:=by
 match l,h with | [a,b,c],_=>exact⟨a,b,c,rfl⟩
theorem Rl {e:Type}{l:List e}(h:l.length=4):∃a b c d,l=[a,b,c,d]:=by
 match l,h with | [a,b,c,d],_=>exact⟨a,b,c,d,rfl⟩
theorem Rm {f:Type}{l:List f}(h:l.length=5):∃a b c d e,l=[a,b,c,d,e]:=by
 match l,h with | [a,b,c,d,e],_=>exact⟨a,b,c,d,e,rfl⟩
theorem fp:cW ([]:List C):=fun c a=>by cases a
theorem Xe:iD 110 [] [] gW [IC 0] (fun n=>[IC n]):=by
 intro t pre post bs a b;refine aC Tryz.func110 Fc rfl fun d c=>?_;refine⟨164,UY,?_⟩;refine cH [1000,1001] (UX t pre post 0 bs a b) rfl rfl rfl rfl (fun v h=>h) ?_;rintro v Mo ⟨n,r,e,rfl,rfl⟩ _ _;refine⟨rfl,?_⟩;exact cD [1000,1001] rfl rfl rfl rfl ⟨n,r,e,rfl,rfl⟩
theorem aaS:iD 78 [] [] WN [.bool false] Af:=by
 intro t pre post bs j c;have hb:=IK (t:=t) (bs:=bs) (a:=[]) (b:=[]) [false] j c fp fp;refine aC Tryz.func78 Ie rfl fun k d=>?_;refine cH [1000,1001] hb rfl rfl rfl rfl (fun v ⟨e,h⟩=>⟨e,bn h⟩) ?_;rintro v Mo ⟨ns,r,e,rfl,rfl⟩ _ _;refine r9 (Ak (gO e)) fun n f=>?_;cases f;refine⟨rfl,?_⟩;exact cD [1000,1001] rfl rfl rfl rfl ⟨n,r,aD e,rfl,rfl⟩
theorem Np (d:Int):CallsT PZ 134 [IC d] [] (gL [] (.fn 146 [] [.pt [IC d] 0])):=by
 refine au Tryz.func134 MI rfl fun a _=>?_;exact aM rfl rfl
theorem ent (f:Nat) {fn:Func}(h:PZ.funcs[f]?=some fn) (h2:fn.body.isSome=true) (h3:(fn.name == "runtime.NumGoroutine")=false):n9 PZ f:=⟨fn,h,h2,h3⟩
theorem IL (x:Vl):AR 8 (mS x):=by
 cases x;exact⟨rfl,rfl,rfl⟩
def zV:List C:=[IC 0,IC 0,IC 0,IC 0,.sl [],.bool false,.sl [],.sl []]
theorem Rn (n:Int):AR 1 [IC n]:=⟨rfl,rfl,rfl⟩
theorem yF:iD 109 [] [.fn 110 [] []] (eu gW) [.sl []] (fun l=>[.sl (oO l)]):=Xa Xe (ent 110 Tryz.func110 rfl rfl) Rn
theorem S2:∀d:Nat,(d:Int)<=60->iD 146 [] [.pt [IC d] 0] (GS d) zV mS
 | 0,hd=>by
  intro t pre post bs s o;refine aC Tryz.func146 vK rfl fun hw w=>?_;refine wK (vV false) rfl (fun h=>⟨rfl,rfl⟩) fun h=>by cases h
 | d+1,hd=>by
  intro t pre post bs s o;have ih:=S2 d (by omega);have hl:=UZ ih (ent 146 Tryz.func146 rfl rfl) IL;have hn:=xI (t:=t) (bs:=bs) (a:=[]) (b:=[.sl [],.bool false,.sl [],.sl []]) [0,0,0,0] s o fp (aW rfl);refine aC Tryz.func146 vK rfl fun hw w=>?_;refine aF (fun h0=>?_) (fun h0=>s6 (show(0:Int)<((d+1:Nat):Int) by omega) h0);refine wK (vV true) rfl (fun h=>by cases h) fun _=>?_;refine cS [1000,1001] hn rfl rfl rfl rfl (fun v ⟨e,h⟩=>⟨e,by simp only[GS];exact bn h⟩) ?_;rintro v Mo ⟨ns,r1,f,rfl,rfl⟩ _ _;refine r9 (Rl (gO f)) fun k c=>r9 c fun i c=>r9 c fun j c=>r9 c fun n c=>?_;cases c;have f:bT gW 4 bs=some ([k,i,j,n],r1):=f;refine⟨rfl,?_⟩;refine Fit.to (m:=(d:Int)) (by rw[show((d+1:Nat):Int)-1=(d:Int) by omega];exact bP (by omega) (by omega)) ?_;refine cR (Np d) rfl fun _=>?_;refine cS [1000,1001] (hl.at (t:=t) (bs:=r1) (a:=[IC k,IC i,IC j,IC n]) (b:=[.bool false,.sl [],.sl []]) s o (aW rfl) (aW rfl)) rfl rfl rfl rfl (fun v ⟨e,h⟩=>⟨e,by simp only[GS];rw[aD f,bn h]⟩) ?_;rintro v Mo ⟨fs,y,u,rfl,rfl⟩ _ _;refine⟨rfl,?_⟩;refine cH [1000,1001] (IK (t:=t) (bs:=y) (a:=[IC k,IC i,IC j,IC n,.sl (fs.map mS)]) (b:=[.sl [],.sl []]) [false] s o (aW rfl) (aW rfl)) rfl rfl rfl rfl (fun v ⟨e,h⟩=>⟨e,by simp only[GS];rw[aD f,aD u];exact bn h⟩) ?_;rintro v Mo ⟨ns,z,r,rfl,rfl⟩ _ _;refine r9 (Ak (gO r)) fun ex c=>?_;cases c;have r:bT pu 1 y=some ([ex],z):=r;refine⟨rfl,?_⟩;refine cH [1000,1001] (yF.at (t:=t) (bs:=z) (a:=[IC k,IC i,IC j,IC n,.sl (fs.map mS),.bool ex]) (b:=[.sl []]) s o (aW rfl) (aW rfl)) rfl rfl rfl rfl (fun v ⟨e,h⟩=>⟨e,by simp only[GS];rw[aD f,aD u,aD r,bn h]⟩) ?_;rintro v Mo ⟨p,r4,e4,rfl,rfl⟩ _ _;refine⟨rfl,?_⟩;refine cH [1000,1001] (yF.at (t:=t) (bs:=r4) (a:=[IC k,IC i,IC j,IC n,.sl (fs.map mS),.bool ex,.sl (oO p)]) (b:=[]) s o (aW rfl) (aW rfl)) rfl rfl rfl rfl (fun v ⟨e,h⟩=>⟨e,by simp only[GS];rw[aD f,aD u,aD r,aD e4,bn h]⟩) ?_;rintro v Mo ⟨l,x,e5,rfl,rfl⟩ _ _;refine⟨rfl,?_⟩;refine cD [1000,1001] rfl rfl rfl rfl ⟨.mk k i j n fs ex p l,x,by simp only[GS];rw[aD f,aD u,aD r,aD e4,aD e5];rfl,?_,rfl⟩;exact j3 (fun q=>[RB x,TO.win t pre [IC k,IC i,IC j,IC n,.sl q,.bool ex,.sl (oO p),.sl (oO l)] post]) (si fs).symm
theorem S3:iD 104 [] [] Iw zV mS:=by
 intro t pre post bs a b;have h:=S2 60 (by omega) t pre post bs a b;refine aC Tryz.func104 E5 rfl fun d c=>?_;refine bM (Np 60) rfl fun _=>?_;refine cH [1000,1001] h rfl rfl rfl rfl (fun v h=>h) ?_;rintro v Mo ⟨x,r,e,rfl,rfl⟩ _ _;cases x;refine⟨rfl,?_⟩;exact cD [1000,1001] rfl rfl rfl rfl ⟨_,r,e,rfl,rfl⟩
theorem Xf:iD 82 [] [] WL [.sl []] DX:=by
 intro t pre post bs a b;have h:=Xd S3 (ent 104 Tryz.func104 rfl rfl) IL t pre post bs a b;refine aC Tryz.func82 Ij rfl fun d c=>?_;refine cH [1000,1001] h rfl rfl rfl rfl (fun v h=>h) ?_;rintro v Mo ⟨x,r,e,rfl,rfl⟩ _ _;refine⟨rfl,?_⟩;exact cD [1000,1001] rfl rfl rfl rfl ⟨x,r,e,rfl,rfl⟩
theorem aaT:iD 76 [] [] SS (.bool false::IC 0::zV) tY:=by
 intro t pre post bs k f;refine aC Tryz.func76 Ib rfl fun q n=>?_;refine cH [1000,1001] (IK (t:=t) (bs:=bs) (a:=[]) (b:=IC 0::zV) [false] k f fp (aW rfl)) rfl rfl rfl rfl (fun v ⟨e,h⟩=>⟨e,bn h⟩) ?_;rintro v Mo ⟨ns,l,c,rfl,rfl⟩ _ _;refine r9 (Ak (gO c)) fun b j=>?_;cases j;have c:bT pu 1 bs=some ([b],l):=c;refine⟨rfl,?_⟩;refine cH [1000,1001] (xI (t:=t) (bs:=l) (a:=[.bool b]) (b:=zV) [0] k f (aW rfl) (aW rfl)) rfl rfl rfl rfl (fun v ⟨e,h⟩=>⟨e,by unfold SS;rw[aD c];exact bn h⟩) ?_;rintro v Mo ⟨ns,m,d,rfl,rfl⟩ _ _;refine r9 (Ak (gO d)) fun a j=>?_;cases j;have d:bT gW 1 l=some ([a],m):=d;refine⟨rfl,?_⟩;refine cH [1000,1001] (S3.at (t:=t) (bs:=m) (a:=[.bool b,IC a]) (b:=[]) k f (aW rfl) fp) rfl rfl rfl rfl (fun v ⟨e,h⟩=>⟨e,by unfold SS;rw[aD c,aD d,bn h]⟩) ?_;rintro v Mo ⟨x,p,o,rfl,rfl⟩ _ _;cases x;refine⟨rfl,?_⟩;exact cD [1000,1001] rfl rfl rfl rfl ⟨⟨b,a,.mk _ _ _ _ _ _ _ _⟩,p,by unfold SS;rw[aD c,aD d,aD o];rfl,rfl,rfl⟩
theorem Xg:iD 106 [] [] SW [IC 0,IC 0,IC 0,IC 0,IC 0,.sl [],.sl []] yE:=by
 intro t pre post bs p o;refine aC Tryz.func106 E7 rfl fun z u=>?_;refine cS [1000,1001] (xI (t:=t) (bs:=bs) (a:=[]) (b:=[.sl [],.sl []]) [0,0,0,0,0] p o fp (aW rfl)) rfl rfl rfl rfl (fun v ⟨e,h⟩=>⟨e,bn h⟩) ?_;rintro v Mo ⟨ns,r,d,rfl,rfl⟩ _ _;refine r9 (Rm (gO d)) fun f c=>r9 c fun m c=>r9 c fun n c=>r9 c fun k c=>r9 c fun j c=>?_;cases c;have d:bT gW 5 bs=some ([f,m,n,k,j],r):=d;refine⟨rfl,?_⟩;refine cH [1000,1001] (Xf.at (t:=t) (bs:=r) (a:=[IC f,IC m,IC n,IC k,IC j]) (b:=[.sl []]) p o (aW rfl) (aW rfl)) rfl rfl rfl rfl (fun v ⟨e,h⟩=>⟨e,by unfold SW;rw[aD d,bn h]⟩) ?_;rintro v Mo ⟨s,x,q,rfl,rfl⟩ _ _;refine⟨rfl,?_⟩;refine cH [1000,1001] (yF.at (t:=t) (bs:=x) (a:=[IC f,IC m,IC n,IC k,IC j,.sl (s.map mS)]) (b:=[]) p o (aW rfl) fp) rfl rfl rfl rfl (fun v ⟨e,h⟩=>⟨e,by unfold SW;rw[aD d,aD q,bn h]⟩) ?_;rintro v Mo ⟨l,y,w,rfl,rfl⟩ _ _;refine⟨rfl,?_⟩;exact cD [1000,1001] rfl rfl rfl rfl ⟨⟨f,m,n,k,j,s,l⟩,y,by unfold SW;rw[aD d,aD q,aD w];rfl,rfl,rfl⟩
theorem Xh:iD 108 [] [] UQ [IC 0,IC 0,.bool false,.bool false,.bool false] F8:=by
 intro t pre post bs q m;refine aC Tryz.func108 E9 rfl fun u s=>?_;refine cS [1000,1001] (xI (t:=t) (bs:=bs) (a:=[]) (b:=[.bool false,.bool false,.bool false]) [0,0] q m fp (aW rfl)) rfl rfl rfl rfl (fun v ⟨e,h⟩=>⟨e,bn h⟩) ?_;rintro v Mo ⟨ns,l,d,rfl,rfl⟩ _ _;refine r9 (G3 (gO d)) fun j c=>r9 c fun k c=>?_;cases c;have d:bT gW 2 bs=some ([j,k],l):=d;refine⟨rfl,?_⟩;refine cS [1000,1001] (IK (t:=t) (bs:=l) (a:=[IC j,IC k]) (b:=[]) [false,false,false] q m (aW rfl) fp) rfl rfl rfl rfl (fun v ⟨e,h⟩=>⟨e,by unfold UQ;rw[aD d];exact bn h⟩) ?_;rintro v Mo ⟨ns,o,f,rfl,rfl⟩ _ _;refine r9 (Al (gO f)) fun n c=>r9 c fun r c=>r9 c fun p c=>?_;cases c;have f:bT pu 3 l=some ([n,r,p],o):=f;refine⟨rfl,?_⟩;exact cD [1000,1001] rfl rfl rfl rfl ⟨⟨j,k,n,r,p⟩,o,by unfold UQ;rw[aD d,aD f];rfl,rfl,rfl⟩
theorem Ro (x:Ac):AR 7 (yE x):=⟨rfl,rfl,rfl⟩
theorem Rp (x:Ln):AR 5 (F8 x):=⟨rfl,rfl,rfl⟩
theorem Rq (x:Tk):AR 7 (vM x):=⟨rfl,rfl,rfl⟩
theorem Rs (x:Ou):AR 2 (GR x):=⟨rfl,rfl,rfl⟩
theorem Rt (x:Bool):AR 1 (Af x):=⟨rfl,rfl,rfl⟩
theorem Ru (x:List Vl):AR 1 (DX x):=⟨rfl,rfl,rfl⟩
theorem Rv (x:Ce):AR 10 (tY x):=by
 obtain⟨a,b,v⟩:=x;cases v;exact⟨rfl,rfl,rfl⟩
theorem U0:iD 105 [] [.fn 106 [] []] (eu SW) [.sl []] (fun l=>[.sl (l.map yE)]):=Xb Xg (ent 106 Tryz.func106 rfl rfl) Ro
theorem U1:iD 107 [] [.fn 108 [] []] (eu UQ) [.sl []] (fun l=>[.sl (l.map F8)]):=Xc Xh (ent 108 Tryz.func108 rfl rfl) Rp
theorem aaU:iD 80 [] [] Oo [IC 0,.sl [],.sl [],IC 0,IC 0,IC 0,.sl []] vM:=by
 intro t pre post bs o m;refine aC Tryz.func80 Ih rfl fun hw y=>?_;refine cH [1000,1001] (xI (t:=t) (bs:=bs) (a:=[]) (b:=[.sl [],.sl [],IC 0,IC 0,IC 0,.sl []]) [0] o m fp (aW rfl)) rfl rfl rfl rfl (fun v ⟨e,h⟩=>⟨e,bn h⟩) ?_;rintro v Mo ⟨ns,x,j,rfl,rfl⟩ _ _;refine r9 (Ak (gO j)) fun s k=>?_;cases k;have j:bT gW 1 bs=some ([s],x):=j;refine⟨rfl,?_⟩;refine cH [1000,1001] (U0.at (t:=t) (bs:=x) (a:=[IC s]) (b:=[.sl [],IC 0,IC 0,IC 0,.sl []]) o m (aW rfl) (aW rfl)) rfl rfl rfl rfl (fun v ⟨e,h⟩=>⟨e,by unfold Oo;rw[aD j,bn h]⟩) ?_;rintro v Mo ⟨f,r2,q,rfl,rfl⟩ _ _;refine⟨rfl,?_⟩;refine cH [1000,1001] (U1.at (t:=t) (bs:=r2) (a:=[IC s,.sl (f.map yE)]) (b:=[IC 0,IC 0,IC 0,.sl []]) o m (aW rfl) (aW rfl)) rfl rfl rfl rfl (fun v ⟨e,h⟩=>⟨e,by unfold Oo;rw[aD j,aD q,bn h]⟩) ?_;rintro v Mo ⟨l,w,r,rfl,rfl⟩ _ _;refine⟨rfl,?_⟩;refine cS [1000,1001] (xI (t:=t) (bs:=w) (a:=[IC s,.sl (f.map yE),.sl (l.map F8)]) (b:=[.sl []]) [0,0,0] o m (aW rfl) (aW rfl)) rfl rfl rfl rfl (fun v ⟨e,h⟩=>⟨e,by unfold Oo;rw[aD j,aD q,aD r];exact bn h⟩) ?_;rintro v Mo ⟨ns,u,p,rfl,rfl⟩ _ _;refine r9 (Al (gO p)) fun a k=>r9 k fun c k=>r9 k fun n k=>?_;cases k;have p:bT gW 3 w=some ([a,c,n],u):=p;refine⟨rfl,?_⟩;refine cH [1000,1001] (yF.at (t:=t) (bs:=u) (a:=[IC s,.sl (f.map yE),.sl (l.map F8),IC a,IC c,IC n]) (b:=[]) o m (aW rfl) fp) rfl rfl rfl rfl (fun v ⟨e,h⟩=>⟨e,by unfold Oo;rw[aD j,aD q,aD r,aD p,bn h]⟩) ?_;rintro v Mo ⟨d,r5,z,rfl,rfl⟩ _ _;refine⟨rfl,?_⟩;exact cD [1000,1001] rfl rfl rfl rfl ⟨⟨s,f,l,a,c,n,d⟩,r5,by unfold Oo;rw[aD j,aD q,aD r,aD p,aD z];rfl,rfl,rfl⟩
theorem aaV:iD 84 [] [] WM [IC 0,IC 0] GR:=by
 intro t pre post bs n l;refine aC Tryz.func84 Il rfl fun o m=>?_;refine cS [1000,1001] (xI (t:=t) (bs:=bs) (a:=[]) (b:=[]) [0,0] n l fp fp) rfl rfl rfl rfl (fun v ⟨e,h⟩=>⟨e,bn h⟩) ?_;rintro v Mo ⟨ns,k,c,rfl,rfl⟩ _ _;refine r9 (G3 (gO c)) fun f d=>r9 d fun j d=>?_;cases d;have c:bT gW 2 bs=some ([f,j],k):=c;refine⟨rfl,?_⟩;exact cD [1000,1001] rfl rfl rfl rfl ⟨⟨f,j⟩,k,aD c,rfl,rfl⟩
theorem U2:iD 75 [] [.fn 76 [] []] (eu SS) [.sl []] (fun l=>[.sl (l.map tY)]):=aaO aaT (ent 76 Tryz.func76 rfl rfl) Rv
theorem U3:iD 77 [] [.fn 78 [] []] (eu WN) [.sl []] (fun l=>[.sl (l.map Af)]):=aaN aaS (ent 78 Tryz.func78 rfl rfl) Rt
theorem U4:iD 79 [] [.fn 80 [] []] (eu Oo) [.sl []] (fun l=>[.sl (l.map vM)]):=aaP aaU (ent 80 Tryz.func80 rfl rfl) Rq
theorem U5:iD 81 [] [.fn 82 [] []] (eu WL) [.sl []] (fun l=>[.sl (l.map DX)]):=aaQ Xf (ent 82 Tryz.func82 rfl rfl) Ru
theorem U6:iD 83 [] [.fn 84 [] []] (eu WM) [.sl []] (fun l=>[.sl (l.map GR)]):=aaR aaV (ent 84 Tryz.func84 rfl rfl) Rs
theorem aaW (t:Nat) (f j:List (List C)) (d:Int) (bs:List UInt8):CallsTX PZ 35 [.ifo none 86 1000 0,.own 1001 0] [RB bs,.box t [.sl f,.sl j,IC d,.sl [],.sl [],.sl [],.sl [],.sl [],IC 0,IC 0,IC 0]]
  (fun Mo c=>∃x r,Fm bs=some (x,r)/\Mo=[RB r,.box t (.sl f::.sl j::IC d::UO x)]/\c=.tup []) (fun v=>v=gC/\Fm bs=none):=by
 refine CallsTX.view (Lin:=[RB bs,.win t [] ([.sl f,.sl j,IC d]++[.sl [],.sl [],.sl [],.sl [],.sl [],IC 0,IC 0,IC 0]) []])
  (R:=fun Mo c=>∃x r,Fm bs=some (x,r)/\Mo=[RB r,.win t [] ([.sl f,.sl j,IC d]++UO x) []]/\c=.tup []) (Pp:=fun v=>v=gC/\Fm bs=none) ?_
  (vw.same (vw.cons (yx rfl fp fp) (vw.refl []))) (fun Mo c ⟨x,r,e,q1,q2⟩=>⟨_,by rw[q1];exact vw.same (vw.cons (Dt (by simp)) (vw.refl [])),x,r,e,rfl,q2⟩) fun _ h=>h
 refine aC Tryz.func35 HY rfl fun hw ad=>?_;refine cH [1000,1001] (U2.at (t:=t) (bs:=bs) (pre:=[]) (post:=[]) (a:=[.sl f,.sl j,IC d]) (b:=[.sl [],.sl [],.sl [],.sl [],IC 0,IC 0,IC 0]) fp fp (aW rfl) (aW rfl)) rfl rfl rfl rfl (fun v ⟨e,h⟩=>⟨e,bn h⟩) ?_;rintro v Mo ⟨l,r1,k,rfl,rfl⟩ _ _;refine⟨rfl,?_⟩;refine cH [1000,1001] (U3.at (t:=t) (bs:=r1) (pre:=[]) (post:=[]) (a:=[.sl f,.sl j,IC d,.sl (l.map tY)]) (b:=[.sl [],.sl [],.sl [],IC 0,IC 0,IC 0]) fp fp (aW rfl) (aW rfl)) rfl rfl rfl rfl (fun v ⟨e,h⟩=>⟨e,by unfold Fm;rw[aD k,bn h]⟩) ?_;rintro v Mo ⟨o,r2,p,rfl,rfl⟩ _ _;refine⟨rfl,?_⟩;refine cH [1000,1001] (U4.at (t:=t) (bs:=r2) (pre:=[]) (post:=[]) (a:=[.sl f,.sl j,IC d,.sl (l.map tY),.sl (o.map Af)]) (b:=[.sl [],.sl [],IC 0,IC 0,IC 0]) fp fp (aW rfl) (aW rfl)) rfl rfl rfl rfl (fun v ⟨e,h⟩=>⟨e,by unfold Fm;rw[aD k,aD p,bn h]⟩) ?_;rintro v Mo ⟨u,r3,s,rfl,rfl⟩ _ _;refine⟨rfl,?_⟩;refine cH [1000,1001] (U5.at (t:=t) (bs:=r3) (pre:=[]) (post:=[]) (a:=[.sl f,.sl j,IC d,.sl (l.map tY),.sl (o.map Af),.sl (u.map vM)]) (b:=[.sl [],IC 0,IC 0,IC 0]) fp fp (aW rfl) (aW rfl)) rfl rfl rfl rfl (fun v ⟨e,h⟩=>⟨e,by unfold Fm;rw[aD k,aD p,aD s,bn h]⟩) ?_;rintro v Mo ⟨y,r4,w,rfl,rfl⟩ _ _;refine⟨rfl,?_⟩;refine cH [1000,1001] (U6.at (t:=t) (bs:=r4) (pre:=[]) (post:=[]) (a:=[.sl f,.sl j,IC d,.sl (l.map tY),.sl (o.map Af),.sl (u.map vM),.sl (y.map DX)]) (b:=[IC 0,IC 0,IC 0]) fp fp (aW rfl) (aW rfl)) rfl rfl rfl rfl (fun v ⟨e,h⟩=>⟨e,by unfold Fm;rw[aD k,aD p,aD s,aD w,bn h]⟩) ?_;rintro v Mo ⟨x5,r5,z,rfl,rfl⟩ _ _;refine⟨rfl,?_⟩;refine cS [1000,1001] (xI (t:=t) (bs:=r5) (pre:=[]) (post:=[]) (a:=[.sl f,.sl j,IC d,.sl (l.map tY),.sl (o.map Af),.sl (u.map vM),.sl (y.map DX),.sl (x5.map GR)]) (b:=[]) [0,0,0] fp fp (aW rfl) fp) rfl rfl rfl rfl (fun v ⟨e,h⟩=>⟨e,by unfold Fm;rw[aD k,aD p,aD s,aD w,aD z];exact bn h⟩) ?_;rintro v Mo ⟨ns,r6,q,rfl,rfl⟩ _ _;refine r9 (Al (gO q)) fun a m=>r9 m fun c m=>r9 m fun n m=>?_;cases m;have q:bT gW 3 r5=some ([a,c,n],r6):=q;refine⟨rfl,?_⟩;exact cD [1000,1001] rfl rfl rfl rfl ⟨⟨l,o,u,y,x5,a,c,n⟩,r6,by unfold Fm;rw[aD k,aD p,aD s,aD w,aD z,aD q];rfl,rfl,rfl⟩
structure uO (k:Kd):Prop where
 num:∃f,pB PZ k.t "leasehold/snapshot.num"=some f/\(∀n,gj k f [.own 1000 0,.pt [IC n] 0] (k.num n))/\∀n,WrO k f n
 siz:∃f,pB PZ k.t "leasehold/snapshot.size"=some f/\∀n:Nat,Yj k f [.own 1000 0,IC n] (k.siz n) (IC n)
 mkn:Sc Jo k.t "leasehold/snapshot.num"=true
 mks:Sc Jo k.t "leasehold/snapshot.size"=true
theorem Cm:uO kW:=⟨⟨167,by kernel_rfl,aaI,W4⟩,⟨168,by kernel_rfl,aaJ⟩,rfl,rfl⟩
theorem Cn:uO kL:=⟨⟨169,by kernel_rfl,WZ,W5⟩,⟨170,by kernel_rfl,aaK⟩,rfl,rfl⟩
theorem G5 {l:List C}(h:eP l=true) (n:Nat):eP (l.take n)=true:=jA.2 fun c a=>jA.1 h c (List.mem_of_mem_take a)
theorem G6 {l:List C}(h:eP l=true) (n:Nat):eP (l.drop n)=true:=jA.2 fun c a=>jA.1 h c (List.mem_of_mem_drop a)
theorem IQ {F:aJ}{L:Loc}{es es':List C}{off:Nat}{v:Value}(e:(es.drop off).take es'.length=es') (h:Rel F L (.pt es off) v):Rel F L (.pt es' 0) v:=by
 simp only[Rel] at h ⊢;obtain⟨b,o,vs,rfl,⟨c,d,t,l,hb,n,j⟩,m,f⟩:=h;refine⟨b,o,(vs.drop off).take es'.length,rfl,⟨c+off,d,t,l,hb,by omega,fun i v a=>?_⟩,?_,?_⟩
 ·rw[adn] at a;split at a
  case isFalse=>cases a
  rw[adj] at a;have:=j _ _ a
  rwa [<-Nat.add_assoc] at this
 ·rw[<-e];exact G5 (G6 m off) _
 ·have:=(f.drop off).take es'.length
  rwa [e] at this
theorem IU {P:Program}{f:Nat}{args a:List C}{Lin:List TO}{R:List TO->C->Prop}{Pp:Value->Prop}(h:CallsTX P f args Lin R Pp) (d:∀F L vs,aK F L a vs->aK F L args vs):CallsTX P f a Lin R Pp :=
 ⟨fun F Li vs b c e=>h.out F Li vs b c (d _ _ _ e)⟩
theorem Fy {F:aJ}{L:Loc}{a b:List C}{c l:C}(m:∀v,Rel F L c v->Rel F L l v):∀{vs:List Value},aK F L (a++c::b) vs->aK F L (a++l::b) vs:=by
 induction a with
 | nil =>
  intro vs h;simp only[acX,aK] at h ⊢;obtain⟨v,e,rfl,f,j⟩:=h;exact⟨v,e,rfl,m v f,j⟩
 | cons d a n =>
  intro vs h;simp only[acW,aK] at h ⊢;obtain⟨v,e,rfl,f,j⟩:=h;exact⟨v,e,rfl,f,n j⟩
theorem gj.at {k:Kd}{f:Nat}{b:C}{ca:List C}{es es':List C}{off:Nat}{e:Enc}(h:gj k f (b::.pt es' 0::ca) e) (j:(es.drop off).take es'.length=es'):gj k f (b::.pt es off::ca) e :=
 fun bs hb=>IU (h bs hb) fun F L vs d=>Fy (a:=[b]) (fun v c=>IQ j c) d
def IV (es:List C):List Nat->List C->Prop
 | o::os,c::cs=>es[o]?=some c/\IV es os cs
 | [],[]=>True
 | _,_=>False
theorem Fz {F:aJ}{a:Option Addr}{sz:Nat}{es:List C}:∀{os:List Nat}{cs:List C}{i:Nat},IV es os cs->ij F a sz i (os.map fun o=>[.pt es o])->ij F a sz i (cs.map fun c=>[.pt [c] 0])
 | [],[],i,_,h=>by simp only[adA,ij]
 | o::os,c::cs,i,b,h=>by
  simp only[acU,ij] at h ⊢;obtain⟨⟨vs,m,f,p,e⟩,l⟩:=h;refine⟨⟨vs,m,f,rfl,?_⟩,Fz b.2 l⟩;simp only[aK] at e ⊢;obtain⟨v,d,rfl,n,j⟩:=e;refine⟨v,d,rfl,IQ (es':=[c]) ?_ n,j⟩;exact take_one b.1
 | [],_::_,i,b,h=>b.elim
 | _::_,[],i,b,h=>b.elim
theorem Co {es:List C}:∀{os:List Nat}{cs:List C},IV es os cs->os.length=cs.length
 | [],[],_=>rfl
 | o::os,c::cs,h=>by simp[Co h.2]
theorem gj.pts {k:Kd}{f:Nat}{d:C}{es:List C}{os:List Nat}{cs:List C}{e:Enc}(h:gj k f [d,.sl (cs.map fun c=>[.pt [c] 0])] e) (l:IV es os cs):gj k f [d,.sl (os.map fun o=>[.pt es o])] e :=
 fun bs hb=>IU (h bs hb) fun F L vs q=>Fy (a:=[d]) (b:=[]) (fun v j=>by
  simp only[Rel] at j ⊢;obtain⟨a,c,rfl,p,u,m,sz,s⟩:=j;have n:=Co l;simp only[ac1] at p u m ⊢;refine⟨a,c,by rw[n],by omega,by omega,fun e=>?_,sz,Fz l s⟩;obtain⟨t,r⟩:=m e;have:os=[]:=by simpa using t
  subst this;have:cs=[]:=ade (by simpa using n.symm);subst this;exact⟨rfl,r⟩) q
theorem Nq {a b:Enc}(p:List UInt8) (h:a.2=true):br (p,true) (br a b)=br (p++a.1,true) b:=by
 obtain⟨q,y⟩:=a;simp only at h;subst h;simp[br]
theorem Nr {a b:Enc}(p:List UInt8) (h:a.2=false):(br (p,true) (br a b)).2=false:=by simp[br,h]
theorem j4 {b:Type}{f:b->Enc}{l:List b}{k:Nat}{x:b}{bs s p:List UInt8}(e:l.drop k=x::l.drop (k+1)) (d:s=bs++p) (a:aL f l=br (p,true) (aL f (l.drop k))) (hb:bs.length+(aL f l).1.length<=70368744177664) :
  s.length+(f x).1.length<=70368744177664/\((f x).2=false->(aL f l).2=false)/\((f x).2=true->aL f l=br (p++(f x).1,true) (aL f (l.drop (k+1)))):=by
 rw[e] at a;have c:aL f (x::l.drop (k+1))=br (f x) (aL f (l.drop (k+1))):=rfl;rw[c] at a;refine⟨?_,fun h=>by rw[a];exact Nr p h,fun h=>by rw[a,Nq p h]⟩;rw[a] at hb;rw[d];simp only[br,yo] at hb ⊢;omega
theorem nj {b:Type}{f:b->Enc}{l:List b}{k:Nat}{bs s p:List UInt8}(d:l.drop k=[]) (c:s=bs++p) (a:aL f l=br (p,true) (aL f (l.drop k))):(aL f l).2=true/\s=bs++(aL f l).1:=by
 rw[d] at a;rw[a,c];simp[br,aL,wJ]
section
variable {k:Kd}(hk:uO k)
include hk
theorem DA (ns:List Int):gj k 85 [.ifo none k.t 1000 0,.sl ((ns.map IC).map fun c=>[.pt [c] 0])] (aL k.num ns):=by
 intro bs hb;obtain⟨fn,m,j,_⟩:=hk.num;rw[adI];refine aC Tryz.func85 Im rfl fun w ho=>?_;have o:=bw w.2.1;have f:((ns.map ((fun c=>[C.pt [c] 0])∘IC)).length:Int)=ns.length:=by simp
 refine aP ns.length 8 [] bs (fun _=>[]) (fun s=>GW k.tb s) (fun i s=>∃p,s=bs++p/\aL k.num ns=br (p,true) (aL k.num (ns.drop i))) ⟨[],by simp,by simp[br]⟩ (af rfl) trivial
  ⟨bJ,bJ,trivial⟩ ?_
 rintro i s hi ⟨p,n,b⟩ _ _ _;refine aF (fun a=>?_) (fun d=>?_)
 ·have a:i<ns.length:=by
   have h:(i:Int)<((ns.map ((fun c=>[C.pt [c] 0])∘IC)).length:Int):=a;rw[f] at h;omega
  refine eZ a fun x hx r q=>?_;obtain⟨y,u,g3⟩:=j4 q n b hb;refine bK hx rfl rfl ?_;refine⟨fn,m,?_⟩;refine cH [1000,1001] (j x s y) rfl rfl rfl rfl (fun v ⟨e,h⟩=>⟨e,u h⟩) ?_;rintro v Mo ⟨l,rfl,rfl⟩ _ _;refine⟨rfl,?_⟩;refine bf ?_;exact⟨(i+1,s++(k.num x).1),⟨by omega,p++(k.num x).1,by rw[n,acM],g3 l⟩,⟨aR,trivial⟩,⟨bJ,bJ,trivial⟩,aS a⟩
 ·have d:¬i<ns.length:=by
   have h:¬(i:Int)<((ns.map ((fun c=>[C.pt [c] 0])∘IC)).length:Int):=d;rw[f] at h;omega
  obtain⟨l,z⟩:=nj (gM d) n b;exact cD [1000,1001] rfl rfl rfl rfl ⟨l,j3 (WB k.tb) z,rfl⟩
theorem FA (ns:List Bool):gj k 103 [.ifo none k.t 1000 0,.sl ((ns.map C.bool).map fun c=>[.pt [c] 0])] (aL (iS k) ns):=by
 intro bs hb;obtain⟨fn,o,_,n⟩:=hk.num;rw[adI];refine aC Tryz.func103 E4 rfl fun z ho=>?_;have r:=bw z.2.1;have j:((ns.map ((fun c=>[C.pt [c] 0])∘C.bool)).length:Int)=ns.length:=by simp
 refine aP ns.length 9 [] bs (fun _=>[]) (fun s=>GW k.tb s) (fun i s=>∃p,s=bs++p/\aL (iS k) ns=br (p,true) (aL (iS k) (ns.drop i))) ⟨[],by simp,by simp[br]⟩ (af rfl) trivial
  ⟨bJ,bJ,trivial⟩ ?_
 rintro i s hi ⟨p,m,b⟩ _ _ _;refine aF (fun a=>?_) (fun d=>?_)
 ·have a:i<ns.length:=by
   have h:(i:Int)<((ns.map ((fun c=>[C.pt [c] 0])∘C.bool)).length:Int):=a;rw[j] at h;omega
  refine eZ a fun x hx w u=>?_;obtain⟨g1,y,q⟩:=j4 u m b hb;refine bK hx rfl rfl ?_;refine aj (fun f=>?_) (fun f=>?_)
  all_goals
   subst f;refine⟨fn,o,?_⟩;refine cH [1000,1001,6] (n _ s g1) rfl rfl rfl rfl (fun v ⟨e,h⟩=>⟨e,y h⟩) ?_;rintro v Mo ⟨l,rfl,rfl⟩ _ _;refine⟨rfl,?_⟩
  ·refine wK (vV true) rfl (fun h=>by cases h) fun _=>?_;refine⟨rfl,?_⟩;refine bf ?_;exact⟨(i+1,s++(iS k true).1),⟨by omega,p++(iS k true).1,by rw[m,acM],q l⟩,⟨aR,trivial⟩,⟨bJ,bJ,trivial⟩,aS a⟩
  ·refine wK (vV true) rfl (fun h=>by cases h) fun _=>?_;refine⟨rfl,?_⟩;refine bf ?_;exact⟨(i+1,s++(iS k false).1),⟨by omega,p++(iS k false).1,by rw[m,acM],q l⟩,⟨aR,trivial⟩,⟨bJ,bJ,trivial⟩,aS a⟩
 ·have d:¬i<ns.length:=by
   have h:¬(i:Int)<((ns.map ((fun c=>[C.pt [c] 0])∘C.bool)).length:Int):=d;rw[j] at h;omega
  obtain⟨l,e2⟩:=nj (gM d) m b;exact cD [1000,1001] rfl rfl rfl rfl ⟨l,j3 (WB k.tb) e2,rfl⟩
end
end Go.Fr.Tryz
