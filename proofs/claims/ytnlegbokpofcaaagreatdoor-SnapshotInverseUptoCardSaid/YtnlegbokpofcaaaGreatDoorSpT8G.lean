/- Part of the proofs of the statements of this seat. -/
import Derived.Test.YtnlegbokpofcaaaGreatDoorSpT5G
set_option maxRecDepth 10000
set_option linter.unusedVariables false
set_option linter.unusedSimpArgs false
namespace Go.Fr.Tryz
open Go Go.RowKit Go.Proofs Go.Fr Go.Fr.T Go.Fr.Api
theorem Ur {α:Type}{f:Nat}{a:Dec α}{cs:α->List C}(w:iq f [] [] a [IC 0] cs) (he:nK PZ f) (ad:∀x,zL 1 (cs x)):iq 109 [] [.fn f [] []] (dN a) [.sl []] (fun l=>[.sl (l.map cs)]):=by
 intro t pre post bs _ _;refine au Tryz.func109 DZ rfl fun hw ap=>?_;refine⟨.inl ⟨0,rfl,?_⟩⟩;refine⟨rfl,?_⟩;refine⟨165,Ag,?_⟩;refine cH [1000] (Af 0 bs) rfl rfl rfl rfl (fun v ⟨e,h⟩=>⟨e,bf h⟩) ?_;rintro v Mo ⟨n,p,e0,rfl,rfl⟩ _ _;refine⟨rfl,?_⟩;have hD:dN a bs=bH a n p:=aA e0;have hn:=lQ e0;refine⟨.inl ⟨0,rfl,?_⟩⟩;refine af (fun hb=>?_) (fun hb=>?_)
 ·refine⟨by omega,abj _,by omega,by simp only[maxLen];omega,?_⟩;refine⟨.inl ⟨0,rfl,?_⟩⟩;refine⟨.inl ⟨0,rfl,?_⟩⟩;have u:∀m:Nat,((List.replicate m [IC 0]:List (List C)).length:Int)=m:=fun m=>by simp
  refine aZ n 31 [] (([],p):List α×List UInt8) (fun _=>[]) (fun s=>[(25,.row 3 1 (s.1.map cs++List.replicate (n-s.1.length) [IC 0])),(1000,RB s.2),(1001,.win t pre [.rw 25] post)])
   (fun k s=>s.1.length=k/\(∀xs r,bH a (n-k) s.2=some (xs,r)->bH a n p=some (s.1++xs,r))/\(bH a (n-k) s.2=none->bH a n p=none))
   ⟨rfl,fun xs r h=>h,fun h=>h⟩ (aj rfl) trivial ⟨.inl ⟨_,rfl,.inl ⟨rfl,rfl⟩⟩,.inl ⟨_,rfl,.inl ⟨rfl,rfl⟩⟩,.inl ⟨_,rfl,.inl ⟨rfl,rfl⟩⟩,trivial⟩ (fun _=>rfl) (fun _=>rfl) ?_
  rintro k ⟨done,b⟩ hk ⟨z,o,y⟩ _ _ al;simp only at z o y;refine aK (fun c=>?_) (fun j=>?_)
  ·have c:k<n:=by have h:(k:Int)<((List.replicate n [IC 0]:List (List C)).length:Int):=c;rw[u] at h;omega
   refine⟨.inl ⟨0,rfl,?_⟩⟩;refine⟨by omega,by simp;omega,?_⟩;refine oN [1000,25] (iP (e:=3) (sz:=1) (ca:=[]) w he rfl (fun d w=>by
    rcases aaQ.1 w with rfl | w
    ·exact⟨rfl,rfl⟩
    ·cases w) ad ⟨rfl,rfl,rfl⟩ z c b) rfl rfl rfl rfl (fun v ⟨e,h⟩=>⟨e,?_⟩) ?_
   ·rw[hD];exact y (by rw[show n-k=(n-(k+1))+1 by omega];simp only[bH,h])
   rintro v Mo ⟨x,r,e1,rfl,rfl⟩ _ _;refine⟨rfl,?_⟩;refine Fit.aad (by omega) (by omega) ?_;rw[show n-k=(n-(k+1))+1 by omega] at o y;simp only[bH,e1] at o y;refine⟨(k+1,done++[x],r),⟨by omega,by simp[z],fun xs r' h=>?_,fun h=>?_⟩,⟨bn,trivial⟩,⟨.inl ⟨_,rfl,.inl ⟨rfl,rfl⟩⟩,.inl ⟨_,rfl,.inl ⟨rfl,rfl⟩⟩,.inl ⟨_,rfl,.inl ⟨rfl,rfl⟩⟩,trivial⟩,bq c⟩
   ·rw[o (x::xs) r' (by simp only[h])];simp
   ·exact y (by simp only[h])
  ·have j:n-k=0:=by
    have h:¬(k:Int)<((List.replicate n [IC 0]:List (List C)).length:Int):=j;rw[u] at h;omega
   rw[j] at o;have hf:=o [] b rfl;rw[aaX] at hf;refine rK [25] [1000,1001] ⟨_,_,rfl,rfl,rfl,done,b,by rw[hD];exact hf,?_,rfl⟩;have hl:n-done.length=0:=by omega
   exact j3 (fun q=>[RB b,TO.win t pre [C.sl q] post]) (show done.map cs++List.replicate (n-done.length) [IC 0]=done.map cs by rw[hl];simp)
 ·have aa:n=0:=by
   have h:=hb;simp at h;omega
  subst aa;refine⟨.inl ⟨0,rfl,?_⟩⟩;refine aZ 0 31 [] () (fun _=>[]) (fun _=>[(1000,RB p),(1001,.win t pre [.sl []] post)]) (fun _ _=>True) trivial (aj rfl) trivial ⟨.inl ⟨_,rfl,.inl ⟨rfl,rfl⟩⟩,.inl ⟨_,rfl,.inl ⟨rfl,rfl⟩⟩,trivial⟩ (fun _=>rfl) (fun _=>rfl) ?_;rintro k ⟨⟩ hk _ _ _ _;exact dK [1000,1001] rfl rfl rfl rfl ⟨[],p,by rw[hD];rfl,rfl,rfl⟩
theorem X0 {α:Type}{f:Nat}{a:Dec α}{cs:α->List C}(w:iq f [] [] a [.bool false] cs) (he:nK PZ f) (ad:∀x,zL 1 (cs x)):iq 77 [] [.fn f [] []] (dN a) [.sl []] (fun l=>[.sl (l.map cs)]):=by
 intro t pre post bs _ _;refine au Tryz.func77 Gp rfl fun hw ap=>?_;refine⟨.inl ⟨0,rfl,?_⟩⟩;refine⟨rfl,?_⟩;refine⟨165,Ag,?_⟩;refine cH [1000] (Af 0 bs) rfl rfl rfl rfl (fun v ⟨e,h⟩=>⟨e,bf h⟩) ?_;rintro v Mo ⟨n,p,e0,rfl,rfl⟩ _ _;refine⟨rfl,?_⟩;have hD:dN a bs=bH a n p:=aA e0;have hn:=lQ e0;refine⟨.inl ⟨0,rfl,?_⟩⟩;refine af (fun hb=>?_) (fun hb=>?_)
 ·refine⟨by omega,abj _,by omega,by simp only[maxLen];omega,?_⟩;refine⟨.inl ⟨0,rfl,?_⟩⟩;refine⟨.inl ⟨0,rfl,?_⟩⟩;have u:∀m:Nat,((List.replicate m [.bool false]:List (List C)).length:Int)=m:=fun m=>by simp
  refine aZ n 31 [] (([],p):List α×List UInt8) (fun _=>[]) (fun s=>[(25,.row 4 1 (s.1.map cs++List.replicate (n-s.1.length) [.bool false])),(1000,RB s.2),(1001,.win t pre [.rw 25] post)])
   (fun k s=>s.1.length=k/\(∀xs r,bH a (n-k) s.2=some (xs,r)->bH a n p=some (s.1++xs,r))/\(bH a (n-k) s.2=none->bH a n p=none))
   ⟨rfl,fun xs r h=>h,fun h=>h⟩ (aj rfl) trivial ⟨.inl ⟨_,rfl,.inl ⟨rfl,rfl⟩⟩,.inl ⟨_,rfl,.inl ⟨rfl,rfl⟩⟩,.inl ⟨_,rfl,.inl ⟨rfl,rfl⟩⟩,trivial⟩ (fun _=>rfl) (fun _=>rfl) ?_
  rintro k ⟨done,b⟩ hk ⟨z,o,y⟩ _ _ al;simp only at z o y;refine aK (fun c=>?_) (fun j=>?_)
  ·have c:k<n:=by have h:(k:Int)<((List.replicate n [.bool false]:List (List C)).length:Int):=c;rw[u] at h;omega
   refine⟨.inl ⟨0,rfl,?_⟩⟩;refine⟨by omega,by simp;omega,?_⟩;refine oN [1000,25] (iP (e:=4) (sz:=1) (ca:=[]) w he rfl (fun d w=>by
    rcases aaQ.1 w with rfl | w
    ·exact⟨rfl,rfl⟩
    ·cases w) ad ⟨rfl,rfl,rfl⟩ z c b) rfl rfl rfl rfl (fun v ⟨e,h⟩=>⟨e,?_⟩) ?_
   ·rw[hD];exact y (by rw[show n-k=(n-(k+1))+1 by omega];simp only[bH,h])
   rintro v Mo ⟨x,r,e1,rfl,rfl⟩ _ _;refine⟨rfl,?_⟩;refine Fit.aad (by omega) (by omega) ?_;rw[show n-k=(n-(k+1))+1 by omega] at o y;simp only[bH,e1] at o y;refine⟨(k+1,done++[x],r),⟨by omega,by simp[z],fun xs r' h=>?_,fun h=>?_⟩,⟨bn,trivial⟩,⟨.inl ⟨_,rfl,.inl ⟨rfl,rfl⟩⟩,.inl ⟨_,rfl,.inl ⟨rfl,rfl⟩⟩,.inl ⟨_,rfl,.inl ⟨rfl,rfl⟩⟩,trivial⟩,bq c⟩
   ·rw[o (x::xs) r' (by simp only[h])];simp
   ·exact y (by simp only[h])
  ·have j:n-k=0:=by
    have h:¬(k:Int)<((List.replicate n [.bool false]:List (List C)).length:Int):=j;rw[u] at h;omega
   rw[j] at o;have hf:=o [] b rfl;rw[aaX] at hf;refine rK [25] [1000,1001] ⟨_,_,rfl,rfl,rfl,done,b,by rw[hD];exact hf,?_,rfl⟩;have hl:n-done.length=0:=by omega
   exact j3 (fun q=>[RB b,TO.win t pre [C.sl q] post]) (show done.map cs++List.replicate (n-done.length) [.bool false]=done.map cs by rw[hl];simp)
 ·have aa:n=0:=by
   have h:=hb;simp at h;omega
  subst aa;refine⟨.inl ⟨0,rfl,?_⟩⟩;refine aZ 0 31 [] () (fun _=>[]) (fun _=>[(1000,RB p),(1001,.win t pre [.sl []] post)]) (fun _ _=>True) trivial (aj rfl) trivial ⟨.inl ⟨_,rfl,.inl ⟨rfl,rfl⟩⟩,.inl ⟨_,rfl,.inl ⟨rfl,rfl⟩⟩,trivial⟩ (fun _=>rfl) (fun _=>rfl) ?_;rintro k ⟨⟩ hk _ _ _ _;exact dK [1000,1001] rfl rfl rfl rfl ⟨[],p,by rw[hD];rfl,rfl,rfl⟩
theorem X1 {α:Type}{f:Nat}{a:Dec α}{cs:α->List C}(w:iq f [] [] a [.bool false,IC 0,IC 0,IC 0,IC 0,IC 0,.sl [],.bool false,.sl [],.sl []] cs) (he:nK PZ f) (ad:∀x,zL 10 (cs x)):iq 75 [] [.fn f [] []] (dN a) [.sl []] (fun l=>[.sl (l.map cs)]):=by
 intro t pre post bs _ _;refine au Tryz.func75 Gm rfl fun hw ap=>?_;refine⟨.inl ⟨0,rfl,?_⟩⟩;refine⟨rfl,?_⟩;refine⟨165,Ag,?_⟩;refine cH [1000] (Af 0 bs) rfl rfl rfl rfl (fun v ⟨e,h⟩=>⟨e,bf h⟩) ?_;rintro v Mo ⟨n,p,e0,rfl,rfl⟩ _ _;refine⟨rfl,?_⟩;have hD:dN a bs=bH a n p:=aA e0;have hn:=lQ e0;refine⟨.inl ⟨0,rfl,?_⟩⟩;refine af (fun hb=>?_) (fun hb=>?_)
 ·refine⟨by omega,abj _,by omega,by simp only[maxLen];omega,?_⟩;refine⟨.inl ⟨0,rfl,?_⟩⟩;refine⟨.inl ⟨0,rfl,?_⟩⟩;have u:∀m:Nat,((List.replicate m [.bool false,IC 0,IC 0,IC 0,IC 0,IC 0,.sl [],.bool false,.sl [],.sl []]:List (List C)).length:Int)=m:=fun m=>by simp
  refine aZ n 31 [] (([],p):List α×List UInt8) (fun _=>[]) (fun s=>[(25,.row 63 10 (s.1.map cs++List.replicate (n-s.1.length) [.bool false,IC 0,IC 0,IC 0,IC 0,IC 0,.sl [],.bool false,.sl [],.sl []])),(1000,RB s.2),(1001,.win t pre [.rw 25] post)])
   (fun k s=>s.1.length=k/\(∀xs r,bH a (n-k) s.2=some (xs,r)->bH a n p=some (s.1++xs,r))/\(bH a (n-k) s.2=none->bH a n p=none))
   ⟨rfl,fun xs r h=>h,fun h=>h⟩ (aj rfl) trivial ⟨.inl ⟨_,rfl,.inl ⟨rfl,rfl⟩⟩,.inl ⟨_,rfl,.inl ⟨rfl,rfl⟩⟩,.inl ⟨_,rfl,.inl ⟨rfl,rfl⟩⟩,trivial⟩ (fun _=>rfl) (fun _=>rfl) ?_
  rintro k ⟨done,b⟩ hk ⟨z,o,y⟩ _ _ al;simp only at z o y;refine aK (fun c=>?_) (fun j=>?_)
  ·have c:k<n:=by have h:(k:Int)<((List.replicate n [.bool false,IC 0,IC 0,IC 0,IC 0,IC 0,.sl [],.bool false,.sl [],.sl []]:List (List C)).length:Int):=c;rw[u] at h;omega
   refine⟨.inl ⟨0,rfl,?_⟩⟩;refine⟨by omega,by simp;omega,?_⟩;refine oN [1000,25] (iP (e:=63) (sz:=10) (ca:=[]) w he rfl (fun d w=>by
    rcases aaQ.1 w with rfl | w
    ·exact⟨rfl,rfl⟩
    ·cases w) ad ⟨rfl,rfl,rfl⟩ z c b) rfl rfl rfl rfl (fun v ⟨e,h⟩=>⟨e,?_⟩) ?_
   ·rw[hD];exact y (by rw[show n-k=(n-(k+1))+1 by omega];simp only[bH,h])
   rintro v Mo ⟨x,r,e1,rfl,rfl⟩ _ _;refine⟨rfl,?_⟩;refine Fit.aad (by omega) (by omega) ?_;rw[show n-k=(n-(k+1))+1 by omega] at o y;simp only[bH,e1] at o y;refine⟨(k+1,done++[x],r),⟨by omega,by simp[z],fun xs r' h=>?_,fun h=>?_⟩,⟨bn,trivial⟩,⟨.inl ⟨_,rfl,.inl ⟨rfl,rfl⟩⟩,.inl ⟨_,rfl,.inl ⟨rfl,rfl⟩⟩,.inl ⟨_,rfl,.inl ⟨rfl,rfl⟩⟩,trivial⟩,bq c⟩
   ·rw[o (x::xs) r' (by simp only[h])];simp
   ·exact y (by simp only[h])
  ·have j:n-k=0:=by
    have h:¬(k:Int)<((List.replicate n [.bool false,IC 0,IC 0,IC 0,IC 0,IC 0,.sl [],.bool false,.sl [],.sl []]:List (List C)).length:Int):=j;rw[u] at h;omega
   rw[j] at o;have hf:=o [] b rfl;rw[aaX] at hf;refine rK [25] [1000,1001] ⟨_,_,rfl,rfl,rfl,done,b,by rw[hD];exact hf,?_,rfl⟩;have hl:n-done.length=0:=by omega
   exact j3 (fun q=>[RB b,TO.win t pre [C.sl q] post]) (show done.map cs++List.replicate (n-done.length) [.bool false,IC 0,IC 0,IC 0,IC 0,IC 0,.sl [],.bool false,.sl [],.sl []]=done.map cs by rw[hl];simp)
 ·have aa:n=0:=by
   have h:=hb;simp at h;omega
  subst aa;refine⟨.inl ⟨0,rfl,?_⟩⟩;refine aZ 0 31 [] () (fun _=>[]) (fun _=>[(1000,RB p),(1001,.win t pre [.sl []] post)]) (fun _ _=>True) trivial (aj rfl) trivial ⟨.inl ⟨_,rfl,.inl ⟨rfl,rfl⟩⟩,.inl ⟨_,rfl,.inl ⟨rfl,rfl⟩⟩,trivial⟩ (fun _=>rfl) (fun _=>rfl) ?_;rintro k ⟨⟩ hk _ _ _ _;exact dK [1000,1001] rfl rfl rfl rfl ⟨[],p,by rw[hD];rfl,rfl,rfl⟩
theorem X2 {α:Type}{f:Nat}{a:Dec α}{cs:α->List C}(w:iq f [] [] a [IC 0,.sl [],.sl [],IC 0,IC 0,IC 0,.sl []] cs) (he:nK PZ f) (ad:∀x,zL 7 (cs x)):iq 79 [] [.fn f [] []] (dN a) [.sl []] (fun l=>[.sl (l.map cs)]):=by
 intro t pre post bs _ _;refine au Tryz.func79 Gr rfl fun hw ap=>?_;refine⟨.inl ⟨0,rfl,?_⟩⟩;refine⟨rfl,?_⟩;refine⟨165,Ag,?_⟩;refine cH [1000] (Af 0 bs) rfl rfl rfl rfl (fun v ⟨e,h⟩=>⟨e,bf h⟩) ?_;rintro v Mo ⟨n,p,e0,rfl,rfl⟩ _ _;refine⟨rfl,?_⟩;have hD:dN a bs=bH a n p:=aA e0;have hn:=lQ e0;refine⟨.inl ⟨0,rfl,?_⟩⟩;refine af (fun hb=>?_) (fun hb=>?_)
 ·refine⟨by omega,abj _,by omega,by simp only[maxLen];omega,?_⟩;refine⟨.inl ⟨0,rfl,?_⟩⟩;refine⟨.inl ⟨0,rfl,?_⟩⟩;have u:∀m:Nat,((List.replicate m [IC 0,.sl [],.sl [],IC 0,IC 0,IC 0,.sl []]:List (List C)).length:Int)=m:=fun m=>by simp
  refine aZ n 31 [] (([],p):List α×List UInt8) (fun _=>[]) (fun s=>[(25,.row 67 7 (s.1.map cs++List.replicate (n-s.1.length) [IC 0,.sl [],.sl [],IC 0,IC 0,IC 0,.sl []])),(1000,RB s.2),(1001,.win t pre [.rw 25] post)])
   (fun k s=>s.1.length=k/\(∀xs r,bH a (n-k) s.2=some (xs,r)->bH a n p=some (s.1++xs,r))/\(bH a (n-k) s.2=none->bH a n p=none))
   ⟨rfl,fun xs r h=>h,fun h=>h⟩ (aj rfl) trivial ⟨.inl ⟨_,rfl,.inl ⟨rfl,rfl⟩⟩,.inl ⟨_,rfl,.inl ⟨rfl,rfl⟩⟩,.inl ⟨_,rfl,.inl ⟨rfl,rfl⟩⟩,trivial⟩ (fun _=>rfl) (fun _=>rfl) ?_
  rintro k ⟨done,b⟩ hk ⟨z,o,y⟩ _ _ al;simp only at z o y;refine aK (fun c=>?_) (fun j=>?_)
  ·have c:k<n:=by have h:(k:Int)<((List.replicate n [IC 0,.sl [],.sl [],IC 0,IC 0,IC 0,.sl []]:List (List C)).length:Int):=c;rw[u] at h;omega
   refine⟨.inl ⟨0,rfl,?_⟩⟩;refine⟨by omega,by simp;omega,?_⟩;refine oN [1000,25] (iP (e:=67) (sz:=7) (ca:=[]) w he rfl (fun d w=>by
    rcases aaQ.1 w with rfl | w
    ·exact⟨rfl,rfl⟩
    ·cases w) ad ⟨rfl,rfl,rfl⟩ z c b) rfl rfl rfl rfl (fun v ⟨e,h⟩=>⟨e,?_⟩) ?_
   ·rw[hD];exact y (by rw[show n-k=(n-(k+1))+1 by omega];simp only[bH,h])
   rintro v Mo ⟨x,r,e1,rfl,rfl⟩ _ _;refine⟨rfl,?_⟩;refine Fit.aad (by omega) (by omega) ?_;rw[show n-k=(n-(k+1))+1 by omega] at o y;simp only[bH,e1] at o y;refine⟨(k+1,done++[x],r),⟨by omega,by simp[z],fun xs r' h=>?_,fun h=>?_⟩,⟨bn,trivial⟩,⟨.inl ⟨_,rfl,.inl ⟨rfl,rfl⟩⟩,.inl ⟨_,rfl,.inl ⟨rfl,rfl⟩⟩,.inl ⟨_,rfl,.inl ⟨rfl,rfl⟩⟩,trivial⟩,bq c⟩
   ·rw[o (x::xs) r' (by simp only[h])];simp
   ·exact y (by simp only[h])
  ·have j:n-k=0:=by
    have h:¬(k:Int)<((List.replicate n [IC 0,.sl [],.sl [],IC 0,IC 0,IC 0,.sl []]:List (List C)).length:Int):=j;rw[u] at h;omega
   rw[j] at o;have hf:=o [] b rfl;rw[aaX] at hf;refine rK [25] [1000,1001] ⟨_,_,rfl,rfl,rfl,done,b,by rw[hD];exact hf,?_,rfl⟩;have hl:n-done.length=0:=by omega
   exact j3 (fun q=>[RB b,TO.win t pre [C.sl q] post]) (show done.map cs++List.replicate (n-done.length) [IC 0,.sl [],.sl [],IC 0,IC 0,IC 0,.sl []]=done.map cs by rw[hl];simp)
 ·have aa:n=0:=by
   have h:=hb;simp at h;omega
  subst aa;refine⟨.inl ⟨0,rfl,?_⟩⟩;refine aZ 0 31 [] () (fun _=>[]) (fun _=>[(1000,RB p),(1001,.win t pre [.sl []] post)]) (fun _ _=>True) trivial (aj rfl) trivial ⟨.inl ⟨_,rfl,.inl ⟨rfl,rfl⟩⟩,.inl ⟨_,rfl,.inl ⟨rfl,rfl⟩⟩,trivial⟩ (fun _=>rfl) (fun _=>rfl) ?_;rintro k ⟨⟩ hk _ _ _ _;exact dK [1000,1001] rfl rfl rfl rfl ⟨[],p,by rw[hD];rfl,rfl,rfl⟩
theorem X3 {α:Type}{f:Nat}{a:Dec α}{cs:α->List C}(w:iq f [] [] a [.sl []] cs) (he:nK PZ f) (ad:∀x,zL 1 (cs x)):iq 81 [] [.fn f [] []] (dN a) [.sl []] (fun l=>[.sl (l.map cs)]):=by
 intro t pre post bs _ _;refine au Tryz.func81 Gt rfl fun hw ap=>?_;refine⟨.inl ⟨0,rfl,?_⟩⟩;refine⟨rfl,?_⟩;refine⟨165,Ag,?_⟩;refine cH [1000] (Af 0 bs) rfl rfl rfl rfl (fun v ⟨e,h⟩=>⟨e,bf h⟩) ?_;rintro v Mo ⟨n,p,e0,rfl,rfl⟩ _ _;refine⟨rfl,?_⟩;have hD:dN a bs=bH a n p:=aA e0;have hn:=lQ e0;refine⟨.inl ⟨0,rfl,?_⟩⟩;refine af (fun hb=>?_) (fun hb=>?_)
 ·refine⟨by omega,abj _,by omega,by simp only[maxLen];omega,?_⟩;refine⟨.inl ⟨0,rfl,?_⟩⟩;refine⟨.inl ⟨0,rfl,?_⟩⟩;have u:∀m:Nat,((List.replicate m [.sl []]:List (List C)).length:Int)=m:=fun m=>by simp
  refine aZ n 31 [] (([],p):List α×List UInt8) (fun _=>[]) (fun s=>[(25,.row 58 1 (s.1.map cs++List.replicate (n-s.1.length) [.sl []])),(1000,RB s.2),(1001,.win t pre [.rw 25] post)])
   (fun k s=>s.1.length=k/\(∀xs r,bH a (n-k) s.2=some (xs,r)->bH a n p=some (s.1++xs,r))/\(bH a (n-k) s.2=none->bH a n p=none))
   ⟨rfl,fun xs r h=>h,fun h=>h⟩ (aj rfl) trivial ⟨.inl ⟨_,rfl,.inl ⟨rfl,rfl⟩⟩,.inl ⟨_,rfl,.inl ⟨rfl,rfl⟩⟩,.inl ⟨_,rfl,.inl ⟨rfl,rfl⟩⟩,trivial⟩ (fun _=>rfl) (fun _=>rfl) ?_
  rintro k ⟨done,b⟩ hk ⟨z,o,y⟩ _ _ al;simp only at z o y;refine aK (fun c=>?_) (fun j=>?_)
  ·have c:k<n:=by have h:(k:Int)<((List.replicate n [.sl []]:List (List C)).length:Int):=c;rw[u] at h;omega
   refine⟨.inl ⟨0,rfl,?_⟩⟩;refine⟨by omega,by simp;omega,?_⟩;refine oN [1000,25] (iP (e:=58) (sz:=1) (ca:=[]) w he rfl (fun d w=>by
    rcases aaQ.1 w with rfl | w
    ·exact⟨rfl,rfl⟩
    ·cases w) ad ⟨rfl,rfl,rfl⟩ z c b) rfl rfl rfl rfl (fun v ⟨e,h⟩=>⟨e,?_⟩) ?_
   ·rw[hD];exact y (by rw[show n-k=(n-(k+1))+1 by omega];simp only[bH,h])
   rintro v Mo ⟨x,r,e1,rfl,rfl⟩ _ _;refine⟨rfl,?_⟩;refine Fit.aad (by omega) (by omega) ?_;rw[show n-k=(n-(k+1))+1 by omega] at o y;simp only[bH,e1] at o y;refine⟨(k+1,done++[x],r),⟨by omega,by simp[z],fun xs r' h=>?_,fun h=>?_⟩,⟨bn,trivial⟩,⟨.inl ⟨_,rfl,.inl ⟨rfl,rfl⟩⟩,.inl ⟨_,rfl,.inl ⟨rfl,rfl⟩⟩,.inl ⟨_,rfl,.inl ⟨rfl,rfl⟩⟩,trivial⟩,bq c⟩
   ·rw[o (x::xs) r' (by simp only[h])];simp
   ·exact y (by simp only[h])
  ·have j:n-k=0:=by
    have h:¬(k:Int)<((List.replicate n [.sl []]:List (List C)).length:Int):=j;rw[u] at h;omega
   rw[j] at o;have hf:=o [] b rfl;rw[aaX] at hf;refine rK [25] [1000,1001] ⟨_,_,rfl,rfl,rfl,done,b,by rw[hD];exact hf,?_,rfl⟩;have hl:n-done.length=0:=by omega
   exact j3 (fun q=>[RB b,TO.win t pre [C.sl q] post]) (show done.map cs++List.replicate (n-done.length) [.sl []]=done.map cs by rw[hl];simp)
 ·have aa:n=0:=by
   have h:=hb;simp at h;omega
  subst aa;refine⟨.inl ⟨0,rfl,?_⟩⟩;refine aZ 0 31 [] () (fun _=>[]) (fun _=>[(1000,RB p),(1001,.win t pre [.sl []] post)]) (fun _ _=>True) trivial (aj rfl) trivial ⟨.inl ⟨_,rfl,.inl ⟨rfl,rfl⟩⟩,.inl ⟨_,rfl,.inl ⟨rfl,rfl⟩⟩,trivial⟩ (fun _=>rfl) (fun _=>rfl) ?_;rintro k ⟨⟩ hk _ _ _ _;exact dK [1000,1001] rfl rfl rfl rfl ⟨[],p,by rw[hD];rfl,rfl,rfl⟩
theorem X4 {α:Type}{f:Nat}{a:Dec α}{cs:α->List C}(w:iq f [] [] a [IC 0,IC 0] cs) (he:nK PZ f) (ad:∀x,zL 2 (cs x)):iq 83 [] [.fn f [] []] (dN a) [.sl []] (fun l=>[.sl (l.map cs)]):=by
 intro t pre post bs _ _;refine au Tryz.func83 Gv rfl fun hw ap=>?_;refine⟨.inl ⟨0,rfl,?_⟩⟩;refine⟨rfl,?_⟩;refine⟨165,Ag,?_⟩;refine cH [1000] (Af 0 bs) rfl rfl rfl rfl (fun v ⟨e,h⟩=>⟨e,bf h⟩) ?_;rintro v Mo ⟨n,p,e0,rfl,rfl⟩ _ _;refine⟨rfl,?_⟩;have hD:dN a bs=bH a n p:=aA e0;have hn:=lQ e0;refine⟨.inl ⟨0,rfl,?_⟩⟩;refine af (fun hb=>?_) (fun hb=>?_)
 ·refine⟨by omega,abj _,by omega,by simp only[maxLen];omega,?_⟩;refine⟨.inl ⟨0,rfl,?_⟩⟩;refine⟨.inl ⟨0,rfl,?_⟩⟩;have u:∀m:Nat,((List.replicate m [IC 0,IC 0]:List (List C)).length:Int)=m:=fun m=>by simp
  refine aZ n 31 [] (([],p):List α×List UInt8) (fun _=>[]) (fun s=>[(25,.row 101 2 (s.1.map cs++List.replicate (n-s.1.length) [IC 0,IC 0])),(1000,RB s.2),(1001,.win t pre [.rw 25] post)])
   (fun k s=>s.1.length=k/\(∀xs r,bH a (n-k) s.2=some (xs,r)->bH a n p=some (s.1++xs,r))/\(bH a (n-k) s.2=none->bH a n p=none))
   ⟨rfl,fun xs r h=>h,fun h=>h⟩ (aj rfl) trivial ⟨.inl ⟨_,rfl,.inl ⟨rfl,rfl⟩⟩,.inl ⟨_,rfl,.inl ⟨rfl,rfl⟩⟩,.inl ⟨_,rfl,.inl ⟨rfl,rfl⟩⟩,trivial⟩ (fun _=>rfl) (fun _=>rfl) ?_
  rintro k ⟨done,b⟩ hk ⟨z,o,y⟩ _ _ al;simp only at z o y;refine aK (fun c=>?_) (fun j=>?_)
  ·have c:k<n:=by have h:(k:Int)<((List.replicate n [IC 0,IC 0]:List (List C)).length:Int):=c;rw[u] at h;omega
   refine⟨.inl ⟨0,rfl,?_⟩⟩;refine⟨by omega,by simp;omega,?_⟩;refine oN [1000,25] (iP (e:=101) (sz:=2) (ca:=[]) w he rfl (fun d w=>by
    rcases aaQ.1 w with rfl | w
    ·exact⟨rfl,rfl⟩
    ·cases w) ad ⟨rfl,rfl,rfl⟩ z c b) rfl rfl rfl rfl (fun v ⟨e,h⟩=>⟨e,?_⟩) ?_
   ·rw[hD];exact y (by rw[show n-k=(n-(k+1))+1 by omega];simp only[bH,h])
   rintro v Mo ⟨x,r,e1,rfl,rfl⟩ _ _;refine⟨rfl,?_⟩;refine Fit.aad (by omega) (by omega) ?_;rw[show n-k=(n-(k+1))+1 by omega] at o y;simp only[bH,e1] at o y;refine⟨(k+1,done++[x],r),⟨by omega,by simp[z],fun xs r' h=>?_,fun h=>?_⟩,⟨bn,trivial⟩,⟨.inl ⟨_,rfl,.inl ⟨rfl,rfl⟩⟩,.inl ⟨_,rfl,.inl ⟨rfl,rfl⟩⟩,.inl ⟨_,rfl,.inl ⟨rfl,rfl⟩⟩,trivial⟩,bq c⟩
   ·rw[o (x::xs) r' (by simp only[h])];simp
   ·exact y (by simp only[h])
  ·have j:n-k=0:=by
    have h:¬(k:Int)<((List.replicate n [IC 0,IC 0]:List (List C)).length:Int):=j;rw[u] at h;omega
   rw[j] at o;have hf:=o [] b rfl;rw[aaX] at hf;refine rK [25] [1000,1001] ⟨_,_,rfl,rfl,rfl,done,b,by rw[hD];exact hf,?_,rfl⟩;have hl:n-done.length=0:=by omega
   exact j3 (fun q=>[RB b,TO.win t pre [C.sl q] post]) (show done.map cs++List.replicate (n-done.length) [IC 0,IC 0]=done.map cs by rw[hl];simp)
 ·have aa:n=0:=by
   have h:=hb;simp at h;omega
  subst aa;refine⟨.inl ⟨0,rfl,?_⟩⟩;refine aZ 0 31 [] () (fun _=>[]) (fun _=>[(1000,RB p),(1001,.win t pre [.sl []] post)]) (fun _ _=>True) trivial (aj rfl) trivial ⟨.inl ⟨_,rfl,.inl ⟨rfl,rfl⟩⟩,.inl ⟨_,rfl,.inl ⟨rfl,rfl⟩⟩,trivial⟩ (fun _=>rfl) (fun _=>rfl) ?_;rintro k ⟨⟩ hk _ _ _ _;exact dK [1000,1001] rfl rfl rfl rfl ⟨[],p,by rw[hD];rfl,rfl,rfl⟩
theorem Us {α:Type}{f:Nat}{a:Dec α}{cs:α->List C}(w:iq f [] [] a [IC 0,IC 0,IC 0,IC 0,IC 0,.sl [],.sl []] cs) (he:nK PZ f) (ad:∀x,zL 7 (cs x)):iq 105 [] [.fn f [] []] (dN a) [.sl []] (fun l=>[.sl (l.map cs)]):=by
 intro t pre post bs _ _;refine au Tryz.func105 DV rfl fun hw ap=>?_;refine⟨.inl ⟨0,rfl,?_⟩⟩;refine⟨rfl,?_⟩;refine⟨165,Ag,?_⟩;refine cH [1000] (Af 0 bs) rfl rfl rfl rfl (fun v ⟨e,h⟩=>⟨e,bf h⟩) ?_;rintro v Mo ⟨n,p,e0,rfl,rfl⟩ _ _;refine⟨rfl,?_⟩;have hD:dN a bs=bH a n p:=aA e0;have hn:=lQ e0;refine⟨.inl ⟨0,rfl,?_⟩⟩;refine af (fun hb=>?_) (fun hb=>?_)
 ·refine⟨by omega,abj _,by omega,by simp only[maxLen];omega,?_⟩;refine⟨.inl ⟨0,rfl,?_⟩⟩;refine⟨.inl ⟨0,rfl,?_⟩⟩;have u:∀m:Nat,((List.replicate m [IC 0,IC 0,IC 0,IC 0,IC 0,.sl [],.sl []]:List (List C)).length:Int)=m:=fun m=>by simp
  refine aZ n 31 [] (([],p):List α×List UInt8) (fun _=>[]) (fun s=>[(25,.row 69 7 (s.1.map cs++List.replicate (n-s.1.length) [IC 0,IC 0,IC 0,IC 0,IC 0,.sl [],.sl []])),(1000,RB s.2),(1001,.win t pre [.rw 25] post)])
   (fun k s=>s.1.length=k/\(∀xs r,bH a (n-k) s.2=some (xs,r)->bH a n p=some (s.1++xs,r))/\(bH a (n-k) s.2=none->bH a n p=none))
   ⟨rfl,fun xs r h=>h,fun h=>h⟩ (aj rfl) trivial ⟨.inl ⟨_,rfl,.inl ⟨rfl,rfl⟩⟩,.inl ⟨_,rfl,.inl ⟨rfl,rfl⟩⟩,.inl ⟨_,rfl,.inl ⟨rfl,rfl⟩⟩,trivial⟩ (fun _=>rfl) (fun _=>rfl) ?_
  rintro k ⟨done,b⟩ hk ⟨z,o,y⟩ _ _ al;simp only at z o y;refine aK (fun c=>?_) (fun j=>?_)
  ·have c:k<n:=by have h:(k:Int)<((List.replicate n [IC 0,IC 0,IC 0,IC 0,IC 0,.sl [],.sl []]:List (List C)).length:Int):=c;rw[u] at h;omega
   refine⟨.inl ⟨0,rfl,?_⟩⟩;refine⟨by omega,by simp;omega,?_⟩;refine oN [1000,25] (iP (e:=69) (sz:=7) (ca:=[]) w he rfl (fun d w=>by
    rcases aaQ.1 w with rfl | w
    ·exact⟨rfl,rfl⟩
    ·cases w) ad ⟨rfl,rfl,rfl⟩ z c b) rfl rfl rfl rfl (fun v ⟨e,h⟩=>⟨e,?_⟩) ?_
   ·rw[hD];exact y (by rw[show n-k=(n-(k+1))+1 by omega];simp only[bH,h])
   rintro v Mo ⟨x,r,e1,rfl,rfl⟩ _ _;refine⟨rfl,?_⟩;refine Fit.aad (by omega) (by omega) ?_;rw[show n-k=(n-(k+1))+1 by omega] at o y;simp only[bH,e1] at o y;refine⟨(k+1,done++[x],r),⟨by omega,by simp[z],fun xs r' h=>?_,fun h=>?_⟩,⟨bn,trivial⟩,⟨.inl ⟨_,rfl,.inl ⟨rfl,rfl⟩⟩,.inl ⟨_,rfl,.inl ⟨rfl,rfl⟩⟩,.inl ⟨_,rfl,.inl ⟨rfl,rfl⟩⟩,trivial⟩,bq c⟩
   ·rw[o (x::xs) r' (by simp only[h])];simp
   ·exact y (by simp only[h])
  ·have j:n-k=0:=by
    have h:¬(k:Int)<((List.replicate n [IC 0,IC 0,IC 0,IC 0,IC 0,.sl [],.sl []]:List (List C)).length:Int):=j;rw[u] at h;omega
   rw[j] at o;have hf:=o [] b rfl;rw[aaX] at hf;refine rK [25] [1000,1001] ⟨_,_,rfl,rfl,rfl,done,b,by rw[hD];exact hf,?_,rfl⟩;have hl:n-done.length=0:=by omega
   exact j3 (fun q=>[RB b,TO.win t pre [C.sl q] post]) (show done.map cs++List.replicate (n-done.length) [IC 0,IC 0,IC 0,IC 0,IC 0,.sl [],.sl []]=done.map cs by rw[hl];simp)
 ·have aa:n=0:=by
   have h:=hb;simp at h;omega
  subst aa;refine⟨.inl ⟨0,rfl,?_⟩⟩;refine aZ 0 31 [] () (fun _=>[]) (fun _=>[(1000,RB p),(1001,.win t pre [.sl []] post)]) (fun _ _=>True) trivial (aj rfl) trivial ⟨.inl ⟨_,rfl,.inl ⟨rfl,rfl⟩⟩,.inl ⟨_,rfl,.inl ⟨rfl,rfl⟩⟩,trivial⟩ (fun _=>rfl) (fun _=>rfl) ?_;rintro k ⟨⟩ hk _ _ _ _;exact dK [1000,1001] rfl rfl rfl rfl ⟨[],p,by rw[hD];rfl,rfl,rfl⟩
theorem Ut {α:Type}{f:Nat}{a:Dec α}{cs:α->List C}(w:iq f [] [] a [IC 0,IC 0,.bool false,.bool false,.bool false] cs) (he:nK PZ f) (ad:∀x,zL 5 (cs x)):iq 107 [] [.fn f [] []] (dN a) [.sl []] (fun l=>[.sl (l.map cs)]):=by
 intro t pre post bs _ _;refine au Tryz.func107 DX rfl fun hw ap=>?_;refine⟨.inl ⟨0,rfl,?_⟩⟩;refine⟨rfl,?_⟩;refine⟨165,Ag,?_⟩;refine cH [1000] (Af 0 bs) rfl rfl rfl rfl (fun v ⟨e,h⟩=>⟨e,bf h⟩) ?_;rintro v Mo ⟨n,p,e0,rfl,rfl⟩ _ _;refine⟨rfl,?_⟩;have hD:dN a bs=bH a n p:=aA e0;have hn:=lQ e0;refine⟨.inl ⟨0,rfl,?_⟩⟩;refine af (fun hb=>?_) (fun hb=>?_)
 ·refine⟨by omega,abj _,by omega,by simp only[maxLen];omega,?_⟩;refine⟨.inl ⟨0,rfl,?_⟩⟩;refine⟨.inl ⟨0,rfl,?_⟩⟩;have u:∀m:Nat,((List.replicate m [IC 0,IC 0,.bool false,.bool false,.bool false]:List (List C)).length:Int)=m:=fun m=>by simp
  refine aZ n 31 [] (([],p):List α×List UInt8) (fun _=>[]) (fun s=>[(25,.row 129 5 (s.1.map cs++List.replicate (n-s.1.length) [IC 0,IC 0,.bool false,.bool false,.bool false])),(1000,RB s.2),(1001,.win t pre [.rw 25] post)])
   (fun k s=>s.1.length=k/\(∀xs r,bH a (n-k) s.2=some (xs,r)->bH a n p=some (s.1++xs,r))/\(bH a (n-k) s.2=none->bH a n p=none))
   ⟨rfl,fun xs r h=>h,fun h=>h⟩ (aj rfl) trivial ⟨.inl ⟨_,rfl,.inl ⟨rfl,rfl⟩⟩,.inl ⟨_,rfl,.inl ⟨rfl,rfl⟩⟩,.inl ⟨_,rfl,.inl ⟨rfl,rfl⟩⟩,trivial⟩ (fun _=>rfl) (fun _=>rfl) ?_
  rintro k ⟨done,b⟩ hk ⟨z,o,y⟩ _ _ al;simp only at z o y;refine aK (fun c=>?_) (fun j=>?_)
  ·have c:k<n:=by have h:(k:Int)<((List.replicate n [IC 0,IC 0,.bool false,.bool false,.bool false]:List (List C)).length:Int):=c;rw[u] at h;omega
   refine⟨.inl ⟨0,rfl,?_⟩⟩;refine⟨by omega,by simp;omega,?_⟩;refine oN [1000,25] (iP (e:=129) (sz:=5) (ca:=[]) w he rfl (fun d w=>by
    rcases aaQ.1 w with rfl | w
    ·exact⟨rfl,rfl⟩
    ·cases w) ad ⟨rfl,rfl,rfl⟩ z c b) rfl rfl rfl rfl (fun v ⟨e,h⟩=>⟨e,?_⟩) ?_
   ·rw[hD];exact y (by rw[show n-k=(n-(k+1))+1 by omega];simp only[bH,h])
   rintro v Mo ⟨x,r,e1,rfl,rfl⟩ _ _;refine⟨rfl,?_⟩;refine Fit.aad (by omega) (by omega) ?_;rw[show n-k=(n-(k+1))+1 by omega] at o y;simp only[bH,e1] at o y;refine⟨(k+1,done++[x],r),⟨by omega,by simp[z],fun xs r' h=>?_,fun h=>?_⟩,⟨bn,trivial⟩,⟨.inl ⟨_,rfl,.inl ⟨rfl,rfl⟩⟩,.inl ⟨_,rfl,.inl ⟨rfl,rfl⟩⟩,.inl ⟨_,rfl,.inl ⟨rfl,rfl⟩⟩,trivial⟩,bq c⟩
   ·rw[o (x::xs) r' (by simp only[h])];simp
   ·exact y (by simp only[h])
  ·have j:n-k=0:=by
    have h:¬(k:Int)<((List.replicate n [IC 0,IC 0,.bool false,.bool false,.bool false]:List (List C)).length:Int):=j;rw[u] at h;omega
   rw[j] at o;have hf:=o [] b rfl;rw[aaX] at hf;refine rK [25] [1000,1001] ⟨_,_,rfl,rfl,rfl,done,b,by rw[hD];exact hf,?_,rfl⟩;have hl:n-done.length=0:=by omega
   exact j3 (fun q=>[RB b,TO.win t pre [C.sl q] post]) (show done.map cs++List.replicate (n-done.length) [IC 0,IC 0,.bool false,.bool false,.bool false]=done.map cs by rw[hl];simp)
 ·have aa:n=0:=by
   have h:=hb;simp at h;omega
  subst aa;refine⟨.inl ⟨0,rfl,?_⟩⟩;refine aZ 0 31 [] () (fun _=>[]) (fun _=>[(1000,RB p),(1001,.win t pre [.sl []] post)]) (fun _ _=>True) trivial (aj rfl) trivial ⟨.inl ⟨_,rfl,.inl ⟨rfl,rfl⟩⟩,.inl ⟨_,rfl,.inl ⟨rfl,rfl⟩⟩,trivial⟩ (fun _=>rfl) (fun _=>rfl) ?_;rintro k ⟨⟩ hk _ _ _ _;exact dK [1000,1001] rfl rfl rfl rfl ⟨[],p,by rw[hD];rfl,rfl,rfl⟩
theorem Uu {α:Type}{f:Nat}{a:Dec α}{cs:α->List C}(w:iq f [] [] a [IC 0,IC 0,IC 0,IC 0,.sl [],.bool false,.sl [],.sl []] cs) (he:nK PZ f) (ad:∀x,zL 8 (cs x)):iq 111 [] [.fn f [] []] (dN a) [.sl []] (fun l=>[.sl (l.map cs)]):=by
 intro t pre post bs _ _;refine au Tryz.func111 uR rfl fun hw ap=>?_;refine⟨.inl ⟨0,rfl,?_⟩⟩;refine⟨rfl,?_⟩;refine⟨165,Ag,?_⟩;refine cH [1000] (Af 0 bs) rfl rfl rfl rfl (fun v ⟨e,h⟩=>⟨e,bf h⟩) ?_;rintro v Mo ⟨n,p,e0,rfl,rfl⟩ _ _;refine⟨rfl,?_⟩;have hD:dN a bs=bH a n p:=aA e0;have hn:=lQ e0;refine⟨.inl ⟨0,rfl,?_⟩⟩;refine af (fun hb=>?_) (fun hb=>?_)
 ·refine⟨by omega,abj _,by omega,by simp only[maxLen];omega,?_⟩;refine⟨.inl ⟨0,rfl,?_⟩⟩;refine⟨.inl ⟨0,rfl,?_⟩⟩;have u:∀m:Nat,((List.replicate m [IC 0,IC 0,IC 0,IC 0,.sl [],.bool false,.sl [],.sl []]:List (List C)).length:Int)=m:=fun m=>by simp
  refine aZ n 31 [] (([],p):List α×List UInt8) (fun _=>[]) (fun s=>[(25,.row 61 8 (s.1.map cs++List.replicate (n-s.1.length) [IC 0,IC 0,IC 0,IC 0,.sl [],.bool false,.sl [],.sl []])),(1000,RB s.2),(1001,.win t pre [.rw 25] post)])
   (fun k s=>s.1.length=k/\(∀xs r,bH a (n-k) s.2=some (xs,r)->bH a n p=some (s.1++xs,r))/\(bH a (n-k) s.2=none->bH a n p=none))
   ⟨rfl,fun xs r h=>h,fun h=>h⟩ (aj rfl) trivial ⟨.inl ⟨_,rfl,.inl ⟨rfl,rfl⟩⟩,.inl ⟨_,rfl,.inl ⟨rfl,rfl⟩⟩,.inl ⟨_,rfl,.inl ⟨rfl,rfl⟩⟩,trivial⟩ (fun _=>rfl) (fun _=>rfl) ?_
  rintro k ⟨done,b⟩ hk ⟨z,o,y⟩ _ _ al;simp only at z o y;refine aK (fun c=>?_) (fun j=>?_)
  ·have c:k<n:=by have h:(k:Int)<((List.replicate n [IC 0,IC 0,IC 0,IC 0,.sl [],.bool false,.sl [],.sl []]:List (List C)).length:Int):=c;rw[u] at h;omega
   refine⟨.inl ⟨0,rfl,?_⟩⟩;refine⟨by omega,by simp;omega,?_⟩;refine oN [1000,25] (iP (e:=61) (sz:=8) (ca:=[]) w he rfl (fun d w=>by
    rcases aaQ.1 w with rfl | w
    ·exact⟨rfl,rfl⟩
    ·cases w) ad ⟨rfl,rfl,rfl⟩ z c b) rfl rfl rfl rfl (fun v ⟨e,h⟩=>⟨e,?_⟩) ?_
   ·rw[hD];exact y (by rw[show n-k=(n-(k+1))+1 by omega];simp only[bH,h])
   rintro v Mo ⟨x,r,e1,rfl,rfl⟩ _ _;refine⟨rfl,?_⟩;refine Fit.aad (by omega) (by omega) ?_;rw[show n-k=(n-(k+1))+1 by omega] at o y;simp only[bH,e1] at o y;refine⟨(k+1,done++[x],r),⟨by omega,by simp[z],fun xs r' h=>?_,fun h=>?_⟩,⟨bn,trivial⟩,⟨.inl ⟨_,rfl,.inl ⟨rfl,rfl⟩⟩,.inl ⟨_,rfl,.inl ⟨rfl,rfl⟩⟩,.inl ⟨_,rfl,.inl ⟨rfl,rfl⟩⟩,trivial⟩,bq c⟩
   ·rw[o (x::xs) r' (by simp only[h])];simp
   ·exact y (by simp only[h])
  ·have j:n-k=0:=by
    have h:¬(k:Int)<((List.replicate n [IC 0,IC 0,IC 0,IC 0,.sl [],.bool false,.sl [],.sl []]:List (List C)).length:Int):=j;rw[u] at h;omega
   rw[j] at o;have hf:=o [] b rfl;rw[aaX] at hf;refine rK [25] [1000,1001] ⟨_,_,rfl,rfl,rfl,done,b,by rw[hD];exact hf,?_,rfl⟩;have hl:n-done.length=0:=by omega
   exact j3 (fun q=>[RB b,TO.win t pre [C.sl q] post]) (show done.map cs++List.replicate (n-done.length) [IC 0,IC 0,IC 0,IC 0,.sl [],.bool false,.sl [],.sl []]=done.map cs by rw[hl];simp)
 ·have aa:n=0:=by
   have h:=hb;simp at h;omega
  subst aa;refine⟨.inl ⟨0,rfl,?_⟩⟩;refine aZ 0 31 [] () (fun _=>[]) (fun _=>[(1000,RB p),(1001,.win t pre [.sl []] post)]) (fun _ _=>True) trivial (aj rfl) trivial ⟨.inl ⟨_,rfl,.inl ⟨rfl,rfl⟩⟩,.inl ⟨_,rfl,.inl ⟨rfl,rfl⟩⟩,trivial⟩ (fun _=>rfl) (fun _=>rfl) ?_;rintro k ⟨⟩ hk _ _ _ _;exact dK [1000,1001] rfl rfl rfl rfl ⟨[],p,by rw[hD];rfl,rfl,rfl⟩
theorem Sw {α:Type}{f:Nat}{d:Int}{a:Dec α}{cs:α->List C}(w:iq f [] [.pt [IC d] 0] a [IC 0,IC 0,IC 0,IC 0,.sl [],.bool false,.sl [],.sl []] cs) (he:nK PZ f) (ad:∀x,zL 8 (cs x)):iq 111 [] [.fn f [] [.pt [IC d] 0]] (dN a) [.sl []] (fun l=>[.sl (l.map cs)]):=by
 intro t pre post bs _ _;refine au Tryz.func111 uR rfl fun hw ap=>?_;refine⟨.inl ⟨0,rfl,?_⟩⟩;refine⟨rfl,?_⟩;refine⟨165,Ag,?_⟩;refine cH [1000] (Af 0 bs) rfl rfl rfl rfl (fun v ⟨e,h⟩=>⟨e,bf h⟩) ?_;rintro v Mo ⟨n,p,e0,rfl,rfl⟩ _ _;refine⟨rfl,?_⟩;have hD:dN a bs=bH a n p:=aA e0;have hn:=lQ e0;refine⟨.inl ⟨0,rfl,?_⟩⟩;refine af (fun hb=>?_) (fun hb=>?_)
 ·refine⟨by omega,abj _,by omega,by simp only[maxLen];omega,?_⟩;refine⟨.inl ⟨0,rfl,?_⟩⟩;refine⟨.inl ⟨0,rfl,?_⟩⟩;have u:∀m:Nat,((List.replicate m [IC 0,IC 0,IC 0,IC 0,.sl [],.bool false,.sl [],.sl []]:List (List C)).length:Int)=m:=fun m=>by simp
  refine aZ n 31 [] (([],p):List α×List UInt8) (fun _=>[]) (fun s=>[(25,.row 61 8 (s.1.map cs++List.replicate (n-s.1.length) [IC 0,IC 0,IC 0,IC 0,.sl [],.bool false,.sl [],.sl []])),(1000,RB s.2),(1001,.win t pre [.rw 25] post)])
   (fun k s=>s.1.length=k/\(∀xs r,bH a (n-k) s.2=some (xs,r)->bH a n p=some (s.1++xs,r))/\(bH a (n-k) s.2=none->bH a n p=none))
   ⟨rfl,fun xs r h=>h,fun h=>h⟩ (aj rfl) trivial ⟨.inl ⟨_,rfl,.inl ⟨rfl,rfl⟩⟩,.inl ⟨_,rfl,.inl ⟨rfl,rfl⟩⟩,.inl ⟨_,rfl,.inl ⟨rfl,rfl⟩⟩,trivial⟩ (fun _=>rfl) (fun _=>rfl) ?_
  rintro k ⟨done,b⟩ hk ⟨z,o,y⟩ _ _ al;simp only at z o y;refine aK (fun c=>?_) (fun j=>?_)
  ·have c:k<n:=by have h:(k:Int)<((List.replicate n [IC 0,IC 0,IC 0,IC 0,.sl [],.bool false,.sl [],.sl []]:List (List C)).length:Int):=c;rw[u] at h;omega
   refine⟨.inl ⟨0,rfl,?_⟩⟩;refine⟨by omega,by simp;omega,?_⟩;refine oN [1000,25] (iP (e:=61) (sz:=8) (ca:=[.pt [IC d] 0]) w he rfl (fun d w=>by
    rcases aaQ.1 w with rfl | w
    ·exact⟨rfl,rfl⟩
    ·rw[abv.1 w];exact⟨rfl,rfl⟩) ad ⟨rfl,rfl,rfl⟩ z c b) rfl rfl rfl rfl (fun v ⟨e,h⟩=>⟨e,?_⟩) ?_
   ·rw[hD];exact y (by rw[show n-k=(n-(k+1))+1 by omega];simp only[bH,h])
   rintro v Mo ⟨x,r,e1,rfl,rfl⟩ _ _;refine⟨rfl,?_⟩;refine Fit.aad (by omega) (by omega) ?_;rw[show n-k=(n-(k+1))+1 by omega] at o y;simp only[bH,e1] at o y;refine⟨(k+1,done++[x],r),⟨by omega,by simp[z],fun xs r' h=>?_,fun h=>?_⟩,⟨bn,trivial⟩,⟨.inl ⟨_,rfl,.inl ⟨rfl,rfl⟩⟩,.inl ⟨_,rfl,.inl ⟨rfl,rfl⟩⟩,.inl ⟨_,rfl,.inl ⟨rfl,rfl⟩⟩,trivial⟩,bq c⟩
   ·rw[o (x::xs) r' (by simp only[h])];simp
   ·exact y (by simp only[h])
  ·have j:n-k=0:=by
    have h:¬(k:Int)<((List.replicate n [IC 0,IC 0,IC 0,IC 0,.sl [],.bool false,.sl [],.sl []]:List (List C)).length:Int):=j;rw[u] at h;omega
   rw[j] at o;have hf:=o [] b rfl;rw[aaX] at hf;refine rK [25] [1000,1001] ⟨_,_,rfl,rfl,rfl,done,b,by rw[hD];exact hf,?_,rfl⟩;have hl:n-done.length=0:=by omega
   exact j3 (fun q=>[RB b,TO.win t pre [C.sl q] post]) (show done.map cs++List.replicate (n-done.length) [IC 0,IC 0,IC 0,IC 0,.sl [],.bool false,.sl [],.sl []]=done.map cs by rw[hl];simp)
 ·have aa:n=0:=by
   have h:=hb;simp at h;omega
  subst aa;refine⟨.inl ⟨0,rfl,?_⟩⟩;refine aZ 0 31 [] () (fun _=>[]) (fun _=>[(1000,RB p),(1001,.win t pre [.sl []] post)]) (fun _ _=>True) trivial (aj rfl) trivial ⟨.inl ⟨_,rfl,.inl ⟨rfl,rfl⟩⟩,.inl ⟨_,rfl,.inl ⟨rfl,rfl⟩⟩,trivial⟩ (fun _=>rfl) (fun _=>rfl) ?_;rintro k ⟨⟩ hk _ _ _ _;exact dK [1000,1001] rfl rfl rfl rfl ⟨[],p,by rw[hD];rfl,rfl,rfl⟩
theorem gC {c:Type}{f:Dec c}:∀{n:Nat}{bs r:List UInt8}{xs:List c},bH f n bs=some (xs,r)->xs.length=n
 | 0,bs,r,xs,h=>by
  simp only[bH,w7,Prod.mk.injEq] at h;rw[<-h.1];rfl
 | n+1,bs,r,xs,h=>by
  simp only[bH] at h;split at h
  ·split at h
   ·rename_i ys e d;injection h with h
    injection h with h _
    rw[<-h,aaW,gC d]
   ·cases h
  ·cases h
theorem CC {c:Type}(g:c->C):∀(ns:List c) (a b:List C) (zs:List C),zs.length=ns.length->CB g (a++(zs++b)) ((List.range ns.length).map fun j=>a.length+j) ns=a++(ns.map g++b)
 | [],a,b,zs,h=>by
  have:zs=[]:=abh (by simpa using h);subst this;rfl
 | n::ns,a,b,z::zs,h=>by
  have e:((List.range (n::ns).length).map fun j=>a.length+j)=a.length::(List.range ns.length).map (fun j=>(a++[g n]).length+j):=by
   rw[aaW,List.range_succ_eq_map,aaU,abG];congr 1;apply abK;intro j _;simp;omega
  rw[e];simp only[CB];rw[show(a++(z::zs++b)).set a.length (g n)=(a++[g n])++(zs++b) by rw[List.set_append_right _ _ (aa8 _)];simp];rw[CC g ns (a++[g n]) b zs (by simpa using h)];simp
theorem ints_at (a b:List C) (xs:List Int):∀o∈(List.range xs.length).map (fun j=>a.length+j),∃x,(a++(xs.map IC++b))[o]?=some (IC x):=by
 intro o d;obtain⟨j,c,rfl⟩:=abk.1 d;have c:=List.mem_range.1 c;refine⟨xs[j],?_⟩;rw[aa4 (by omega),show a.length+j-a.length=j by omega,aaY (by simpa using c)];simp[c]
theorem Pg (a b:List C) (xs:List Bool):∀o∈(List.range xs.length).map (fun j=>a.length+j),∃x,(a++(xs.map C.bool++b))[o]?=some (.bool x):=by
 intro o d;obtain⟨j,c,rfl⟩:=abk.1 d;have c:=List.mem_range.1 c;refine⟨xs[j],?_⟩;rw[aa4 (by omega),show a.length+j-a.length=j by omega,aaY (by simpa using c)];simp[c]
theorem Bm (xs:List Int):cG (xs.map IC):=fun c d=>by
 obtain⟨x,_,rfl⟩:=abk.1 d;exact .inl rfl
theorem zl (xs:List Bool):cG (xs.map C.bool):=fun c d=>by
 obtain⟨x,_,rfl⟩:=abk.1 d;exact .inl rfl
theorem lR {pre a:List C}{m:Nat}:((List.range m).map fun j=>(pre++a).length+j)=(List.range m).map fun j=>pre.length+(a.length+j):=by
 apply abK;intro j _;simp[Nat.add_assoc]
section
variable {t:Nat}{pre post a b:List C}{bs:List UInt8}
theorem wF (xs:List Int) (d:cG pre) (f:cG post) (m:cG a) (hb:cG b) :
  CallsTX PZ 85 [.ifo none 86 1000 0,.slo 1001 ((List.range xs.length).map fun j=>pre.length+(a.length+j))] [RB bs,.win t pre (a++(xs.map IC++b)) post]
   (fun Mo c=>∃ns r,bH gM xs.length bs=some (ns,r)/\Mo=[RB r,.win t pre (a++(ns.map IC++b)) post]/\c=.tup []) (fun v=>v=fW/\bH gM xs.length bs=none):=by
 have q:cG ([]:List C):=fun c n=>by cases n
 have h:=XZ t (pre++(a++(xs.map IC++b))++post) ((List.range xs.length).map fun j=>(pre++a).length+j) bs ((d.append (m.append ((Bm xs).append hb))).append f) (fun o s=>by
  have:=ints_at (pre++a) (b++post) xs o s;simpa using this)
 rw[lR] at h;refine h.view (vw.same (vw.cons (oC (by simp) (d.append (m.append ((Bm xs).append hb)) |>.append f) q) (vw.refl []))) ?_ (fun v h=>by simpa using h);rintro Mo c ⟨ns,r,e,rfl,rfl⟩;rw[aa6,List.length_range] at e;have l:=gC e;have k:=CC IC ns (pre++a) (b++post) (xs.map IC) (by simp[l]);rw[l,lR] at k;refine⟨_,vw.same (vw.cons (oC (pre':=pre) (cs':=a++(ns.map IC++b)) (post':=post) ?_ d f) (vw.refl [])),ns,r,e,rfl,rfl⟩;have p:pre++(a++(xs.map IC++b))++post=pre++a++(xs.map IC++(b++post)):=by simp
 rw[p,k];simp
theorem GP (xs:List Bool) (d:cG pre) (f:cG post) (m:cG a) (hb:cG b) :
  CallsTX PZ 103 [.ifo none 86 1000 0,.slo 1001 ((List.range xs.length).map fun j=>pre.length+(a.length+j))] [RB bs,.win t pre (a++(xs.map C.bool++b)) post]
   (fun Mo c=>∃ns r,bH oO xs.length bs=some (ns,r)/\Mo=[RB r,.win t pre (a++(ns.map C.bool++b)) post]/\c=.tup []) (fun v=>v=fW/\bH oO xs.length bs=none):=by
 have q:cG ([]:List C):=fun c n=>by cases n
 have h:=Uq t (pre++(a++(xs.map C.bool++b))++post) ((List.range xs.length).map fun j=>(pre++a).length+j) bs ((d.append (m.append ((zl xs).append hb))).append f) (fun o s=>by
  have:=Pg (pre++a) (b++post) xs o s;simpa using this)
 rw[lR] at h;refine h.view (vw.same (vw.cons (oC (by simp) (d.append (m.append ((zl xs).append hb)) |>.append f) q) (vw.refl []))) ?_ (fun v h=>by simpa using h);rintro Mo c ⟨ns,r,e,rfl,rfl⟩;rw[aa6,List.length_range] at e;have l:=gC e;have k:=CC C.bool ns (pre++a) (b++post) (xs.map C.bool) (by simp[l]);rw[l,lR] at k;refine⟨_,vw.same (vw.cons (oC (pre':=pre) (cs':=a++(ns.map C.bool++b)) (post':=post) ?_ d f) (vw.refl [])),ns,r,e,rfl,rfl⟩;have p:pre++(a++(xs.map C.bool++b))++post=pre++a++(xs.map C.bool++(b++post)):=by simp
 rw[p,k];simp
theorem iq.at {l:Type}{f:Nat}{fi ca:List C}{d:Dec l}{z:List C}{cs:l->List C}(n:iq f fi ca d z cs) (j:cG pre) (k:cG post) (m:cG a) (hb:cG b) :
  CallsTX PZ f (fi++.ifo none 86 1000 0::.own 1001 (pre.length+a.length)::ca) [RB bs,.win t pre (a++(z++b)) post]
   (fun Mo c=>∃x r,d bs=some (x,r)/\Mo=[RB r,.win t pre (a++(cs x++b)) post]/\c=.tup []) (fun v=>v=fW/\d bs=none):=by
 have h:=n t (pre++a) (b++post) bs (j.append m) (hb.append k);rw[aaR] at h;refine h.view (vw.same (vw.cons (oC (by simp) (j.append m) (hb.append k)) (vw.refl []))) ?_ fun _ h=>h;rintro Mo c ⟨x,r,e,rfl,rfl⟩;exact⟨_,vw.same (vw.cons (oC (by simp) j k) (vw.refl [])),x,r,e,rfl,rfl⟩
end
theorem zm {c:Type}{l:List c}(h:l.length=1):∃a,l=[a]:=by
 match l,h with | [a],_=>exact⟨a,rfl⟩
theorem FA {c:Type}{l:List c}(h:l.length=2):∃a b,l=[a,b]:=by
 match l,h with | [a,b],_=>exact⟨a,b,rfl⟩
theorem zn {d:Type}{l:List d}(h:l.length=3):∃a b c,l=[a,b,c]:=by
 match l,h with | [a,b,c],_=>exact⟨a,b,c,rfl⟩
theorem Ph {e:Type}{l:List e}(h:l.length=4):∃a b c d,l=[a,b,c,d]:=by
 match l,h with | [a,b,c,d],_=>exact⟨a,b,c,d,rfl⟩
theorem Pj {f:Type}{l:List f}(h:l.length=5):∃a b c d e,l=[a,b,c,d,e]:=by
 match l,h with | [a,b,c,d,e],_=>exact⟨a,b,c,d,e,rfl⟩
theorem eT:cG ([]:List C):=fun c a=>by cases a
theorem Uv:iq 110 [] [] gM [IC 0] (fun n=>[IC n]):=by
 intro t pre post bs c b;refine au Tryz.func110 D3 rfl fun d a=>?_;refine⟨164,Sv,?_⟩;refine ck [1000,1001] (Ss t pre post 0 bs c b) rfl rfl rfl rfl (fun v h=>h) ?_;rintro v Mo ⟨n,r,e,rfl,rfl⟩ _ _;refine⟨rfl,?_⟩;exact dK [1000,1001] rfl rfl rfl rfl ⟨n,r,e,rfl,rfl⟩
theorem X5:iq 78 [] [] T9 [.bool false] EH:=by
 intro t pre post bs d c;have hb:=GP (t:=t) (bs:=bs) (a:=[]) (b:=[]) [false] d c eT eT;refine au Tryz.func78 Gq rfl fun k f=>?_;refine ck [1000,1001] hb rfl rfl rfl rfl (fun v ⟨e,h⟩=>⟨e,bf h⟩) ?_;rintro v Mo ⟨ns,r,e,rfl,rfl⟩ _ _;refine rI (zm (gC e)) fun n j=>?_;cases j;refine⟨rfl,?_⟩;exact dK [1000,1001] rfl rfl rfl rfl ⟨n,r,aA e,rfl,rfl⟩
theorem Lx (d:Int):CallsT PZ 134 [IC d] [] (jv [] (.fn 146 [] [.pt [IC d] 0])):=by
 refine aq Tryz.func134 KT rfl fun a _=>?_;exact aO rfl rfl
theorem ent (f:Nat) {fn:Func}(h:PZ.funcs[f]?=some fn) (h2:fn.body.isSome=true) (h3:(fn.name == "runtime.NumGoroutine")=false):nK PZ f:=⟨fn,h,h2,h3⟩
theorem GQ (x:Vl):zL 8 (n9 x):=by
 cases x;exact⟨rfl,rfl,rfl⟩
def zV:List C:=[IC 0,IC 0,IC 0,IC 0,.sl [],.bool false,.sl [],.sl []]
theorem Pk (n:Int):zL 1 [IC n]:=⟨rfl,rfl,rfl⟩
theorem xL:iq 109 [] [.fn 110 [] []] (dN gM) [.sl []] (fun l=>[.sl (qK l)]):=Ur Uv (ent 110 Tryz.func110 rfl rfl) Pk
theorem Qv:∀d:Nat,(d:Int)<=60->iq 146 [] [.pt [IC d] 0] (Ft d) zV n9
 | 0,hd=>by
  intro t pre post bs r o;refine au Tryz.func146 uS rfl fun hw w=>?_;refine vV (u9 false) rfl (fun h=>⟨rfl,rfl⟩) fun h=>by cases h
 | d+1,hd=>by
  intro t pre post bs r o;have ih:=Qv d (by omega);have hl:=Sw ih (ent 146 Tryz.func146 rfl rfl) GQ;have hn:=wF (t:=t) (bs:=bs) (a:=[]) (b:=[.sl [],.bool false,.sl [],.sl []]) [0,0,0,0] r o eT (aU rfl);refine au Tryz.func146 uS rfl fun hw w=>?_;refine aK (fun x=>?_) (fun x=>p7 (show(0:Int)<((d+1:Nat):Int) by omega) x);refine vV (u9 true) rfl (fun h=>by cases h) fun _=>?_;refine cH [1000,1001] hn rfl rfl rfl rfl (fun v ⟨e,h⟩=>⟨e,by simp only[Ft];exact bf h⟩) ?_;rintro v Mo ⟨ns,r1,f,rfl,rfl⟩ _ _;refine rI (Ph (gC f)) fun k c=>rI c fun i c=>rI c fun j c=>rI c fun n c=>?_;cases c;have f:bH gM 4 bs=some ([k,i,j,n],r1):=f;refine⟨rfl,?_⟩;refine Fit.to (m:=(d:Int)) (by rw[show((d+1:Nat):Int)-1=(d:Int) by omega];exact bZ (by omega) (by omega)) ?_;refine eK (Lx d) rfl fun _=>?_;refine cH [1000,1001] (hl.at (t:=t) (bs:=r1) (a:=[IC k,IC i,IC j,IC n]) (b:=[.bool false,.sl [],.sl []]) r o (aU rfl) (aU rfl)) rfl rfl rfl rfl (fun v ⟨e,h⟩=>⟨e,by simp only[Ft];rw[aA f,bf h]⟩) ?_;rintro v Mo ⟨fs,y,u,rfl,rfl⟩ _ _;refine⟨rfl,?_⟩;refine ck [1000,1001] (GP (t:=t) (bs:=y) (a:=[IC k,IC i,IC j,IC n,.sl (fs.map n9)]) (b:=[.sl [],.sl []]) [false] r o (aU rfl) (aU rfl)) rfl rfl rfl rfl (fun v ⟨e,h⟩=>⟨e,by simp only[Ft];rw[aA f,aA u];exact bf h⟩) ?_;rintro v Mo ⟨ns,r3,s,rfl,rfl⟩ _ _;refine rI (zm (gC s)) fun ex c=>?_;cases c;have s:bH oO 1 y=some ([ex],r3):=s;refine⟨rfl,?_⟩;refine ck [1000,1001] (xL.at (t:=t) (bs:=r3) (a:=[IC k,IC i,IC j,IC n,.sl (fs.map n9),.bool ex]) (b:=[.sl []]) r o (aU rfl) (aU rfl)) rfl rfl rfl rfl (fun v ⟨e,h⟩=>⟨e,by simp only[Ft];rw[aA f,aA u,aA s,bf h]⟩) ?_;rintro v Mo ⟨p,r4,z,rfl,rfl⟩ _ _;refine⟨rfl,?_⟩;refine ck [1000,1001] (xL.at (t:=t) (bs:=r4) (a:=[IC k,IC i,IC j,IC n,.sl (fs.map n9),.bool ex,.sl (qK p)]) (b:=[]) r o (aU rfl) (aU rfl)) rfl rfl rfl rfl (fun v ⟨e,h⟩=>⟨e,by simp only[Ft];rw[aA f,aA u,aA s,aA z,bf h]⟩) ?_;rintro v Mo ⟨l,r5,e5,rfl,rfl⟩ _ _;refine⟨rfl,?_⟩;refine dK [1000,1001] rfl rfl rfl rfl ⟨.mk k i j n fs ex p l,r5,by simp only[Ft];rw[aA f,aA u,aA s,aA z,aA e5];rfl,?_,rfl⟩;exact j3 (fun q=>[RB r5,TO.win t pre [IC k,IC i,IC j,IC n,.sl q,.bool ex,.sl (qK p),.sl (qK l)] post]) (rJ fs).symm
theorem Qw:iq 104 [] [] GF zV n9:=by
 intro t pre post bs c b;have h:=Qv 60 (by omega) t pre post bs c b;refine au Tryz.func104 DU rfl fun d a=>?_;refine bM (Lx 60) rfl fun _=>?_;refine ck [1000,1001] h rfl rfl rfl rfl (fun v h=>h) ?_;rintro v Mo ⟨x,r,e,rfl,rfl⟩ _ _;cases x;refine⟨rfl,?_⟩;exact dK [1000,1001] rfl rfl rfl rfl ⟨_,r,e,rfl,rfl⟩
theorem Uw:iq 82 [] [] TW [.sl []] Iy:=by
 intro t pre post bs c b;have h:=Uu Qw (ent 104 Tryz.func104 rfl rfl) GQ t pre post bs c b;refine au Tryz.func82 Gu rfl fun d a=>?_;refine ck [1000,1001] h rfl rfl rfl rfl (fun v h=>h) ?_;rintro v Mo ⟨x,r,e,rfl,rfl⟩ _ _;refine⟨rfl,?_⟩;exact dK [1000,1001] rfl rfl rfl rfl ⟨x,r,e,rfl,rfl⟩
theorem X6:iq 76 [] [] Qm (.bool false::IC 0::zV) wO:=by
 intro t pre post bs j f;refine au Tryz.func76 Gn rfl fun q n=>?_;refine ck [1000,1001] (GP (t:=t) (bs:=bs) (a:=[]) (b:=IC 0::zV) [false] j f eT (aU rfl)) rfl rfl rfl rfl (fun v ⟨e,h⟩=>⟨e,bf h⟩) ?_;rintro v Mo ⟨ns,l,c,rfl,rfl⟩ _ _;refine rI (zm (gC c)) fun b k=>?_;cases k;have c:bH oO 1 bs=some ([b],l):=c;refine⟨rfl,?_⟩;refine ck [1000,1001] (wF (t:=t) (bs:=l) (a:=[.bool b]) (b:=zV) [0] j f (aU rfl) (aU rfl)) rfl rfl rfl rfl (fun v ⟨e,h⟩=>⟨e,by unfold Qm;rw[aA c];exact bf h⟩) ?_;rintro v Mo ⟨ns,m,d,rfl,rfl⟩ _ _;refine rI (zm (gC d)) fun a k=>?_;cases k;have d:bH gM 1 l=some ([a],m):=d;refine⟨rfl,?_⟩;refine ck [1000,1001] (Qw.at (t:=t) (bs:=m) (a:=[.bool b,IC a]) (b:=[]) j f (aU rfl) eT) rfl rfl rfl rfl (fun v ⟨e,h⟩=>⟨e,by unfold Qm;rw[aA c,aA d,bf h]⟩) ?_;rintro v Mo ⟨x,p,o,rfl,rfl⟩ _ _;cases x;refine⟨rfl,?_⟩;exact dK [1000,1001] rfl rfl rfl rfl ⟨⟨b,a,.mk _ _ _ _ _ _ _ _⟩,p,by unfold Qm;rw[aA c,aA d,aA o];rfl,rfl,rfl⟩
theorem Ux:iq 106 [] [] Qn [IC 0,IC 0,IC 0,IC 0,IC 0,.sl [],.sl []] Cx:=by
 intro t pre post bs p o;refine au Tryz.func106 DW rfl fun z w=>?_;refine cH [1000,1001] (wF (t:=t) (bs:=bs) (a:=[]) (b:=[.sl [],.sl []]) [0,0,0,0,0] p o eT (aU rfl)) rfl rfl rfl rfl (fun v ⟨e,h⟩=>⟨e,bf h⟩) ?_;rintro v Mo ⟨ns,r,d,rfl,rfl⟩ _ _;refine rI (Pj (gC d)) fun n c=>rI c fun f c=>rI c fun k c=>rI c fun j c=>rI c fun m c=>?_;cases c;have d:bH gM 5 bs=some ([n,f,k,j,m],r):=d;refine⟨rfl,?_⟩;refine ck [1000,1001] (Uw.at (t:=t) (bs:=r) (a:=[IC n,IC f,IC k,IC j,IC m]) (b:=[.sl []]) p o (aU rfl) (aU rfl)) rfl rfl rfl rfl (fun v ⟨e,h⟩=>⟨e,by unfold Qn;rw[aA d,bf h]⟩) ?_;rintro v Mo ⟨s,u,q,rfl,rfl⟩ _ _;refine⟨rfl,?_⟩;refine ck [1000,1001] (xL.at (t:=t) (bs:=u) (a:=[IC n,IC f,IC k,IC j,IC m,.sl (s.map n9)]) (b:=[]) p o (aU rfl) eT) rfl rfl rfl rfl (fun v ⟨e,h⟩=>⟨e,by unfold Qn;rw[aA d,aA q,bf h]⟩) ?_;rintro v Mo ⟨l,y,x,rfl,rfl⟩ _ _;refine⟨rfl,?_⟩;exact dK [1000,1001] rfl rfl rfl rfl ⟨⟨n,f,k,j,m,s,l⟩,y,by unfold Qn;rw[aA d,aA q,aA x];rfl,rfl,rfl⟩
theorem Uy:iq 108 [] [] Sk [IC 0,IC 0,.bool false,.bool false,.bool false] I6:=by
 intro t pre post bs p n;refine au Tryz.func108 DY rfl fun u s=>?_;refine cH [1000,1001] (wF (t:=t) (bs:=bs) (a:=[]) (b:=[.bool false,.bool false,.bool false]) [0,0] p n eT (aU rfl)) rfl rfl rfl rfl (fun v ⟨e,h⟩=>⟨e,bf h⟩) ?_;rintro v Mo ⟨ns,k,d,rfl,rfl⟩ _ _;refine rI (FA (gC d)) fun l c=>rI c fun j c=>?_;cases c;have d:bH gM 2 bs=some ([l,j],k):=d;refine⟨rfl,?_⟩;refine cH [1000,1001] (GP (t:=t) (bs:=k) (a:=[IC l,IC j]) (b:=[]) [false,false,false] p n (aU rfl) eT) rfl rfl rfl rfl (fun v ⟨e,h⟩=>⟨e,by unfold Sk;rw[aA d];exact bf h⟩) ?_;rintro v Mo ⟨ns,m,f,rfl,rfl⟩ _ _;refine rI (zn (gC f)) fun r c=>rI c fun q c=>rI c fun o c=>?_;cases c;have f:bH oO 3 k=some ([r,q,o],m):=f;refine⟨rfl,?_⟩;exact dK [1000,1001] rfl rfl rfl rfl ⟨⟨l,j,r,q,o⟩,m,by unfold Sk;rw[aA d,aA f];rfl,rfl,rfl⟩
theorem Pm (x:Ac):zL 7 (Cx x):=⟨rfl,rfl,rfl⟩
theorem Pn (x:Ln):zL 5 (I6 x):=⟨rfl,rfl,rfl⟩
theorem Po (x:Tk):zL 7 (z8 x):=⟨rfl,rfl,rfl⟩
theorem Pq (x:Ou):zL 2 (Lh x):=⟨rfl,rfl,rfl⟩
theorem Pr (x:Bool):zL 1 (EH x):=⟨rfl,rfl,rfl⟩
theorem Ps (x:List Vl):zL 1 (Iy x):=⟨rfl,rfl,rfl⟩
theorem Pt (x:Ce):zL 10 (wO x):=by
 obtain⟨a,b,v⟩:=x;cases v;exact⟨rfl,rfl,rfl⟩
theorem Sy:iq 105 [] [.fn 106 [] []] (dN Qn) [.sl []] (fun l=>[.sl (l.map Cx)]):=Us Ux (ent 106 Tryz.func106 rfl rfl) Pm
theorem Sz:iq 107 [] [.fn 108 [] []] (dN Sk) [.sl []] (fun l=>[.sl (l.map I6)]):=Ut Uy (ent 108 Tryz.func108 rfl rfl) Pn
theorem X7:iq 80 [] [] My [IC 0,.sl [],.sl [],IC 0,IC 0,IC 0,.sl []] z8:=by
 intro t pre post bs o m;refine au Tryz.func80 Gs rfl fun hw z=>?_;refine ck [1000,1001] (wF (t:=t) (bs:=bs) (a:=[]) (b:=[.sl [],.sl [],IC 0,IC 0,IC 0,.sl []]) [0] o m eT (aU rfl)) rfl rfl rfl rfl (fun v ⟨e,h⟩=>⟨e,bf h⟩) ?_;rintro v Mo ⟨ns,x,j,rfl,rfl⟩ _ _;refine rI (zm (gC j)) fun s k=>?_;cases k;have j:bH gM 1 bs=some ([s],x):=j;refine⟨rfl,?_⟩;refine ck [1000,1001] (Sy.at (t:=t) (bs:=x) (a:=[IC s]) (b:=[.sl [],IC 0,IC 0,IC 0,.sl []]) o m (aU rfl) (aU rfl)) rfl rfl rfl rfl (fun v ⟨e,h⟩=>⟨e,by unfold My;rw[aA j,bf h]⟩) ?_;rintro v Mo ⟨f,y,q,rfl,rfl⟩ _ _;refine⟨rfl,?_⟩;refine ck [1000,1001] (Sz.at (t:=t) (bs:=y) (a:=[IC s,.sl (f.map Cx)]) (b:=[IC 0,IC 0,IC 0,.sl []]) o m (aU rfl) (aU rfl)) rfl rfl rfl rfl (fun v ⟨e,h⟩=>⟨e,by unfold My;rw[aA j,aA q,bf h]⟩) ?_;rintro v Mo ⟨l,w,r,rfl,rfl⟩ _ _;refine⟨rfl,?_⟩;refine cH [1000,1001] (wF (t:=t) (bs:=w) (a:=[IC s,.sl (f.map Cx),.sl (l.map I6)]) (b:=[.sl []]) [0,0,0] o m (aU rfl) (aU rfl)) rfl rfl rfl rfl (fun v ⟨e,h⟩=>⟨e,by unfold My;rw[aA j,aA q,aA r];exact bf h⟩) ?_;rintro v Mo ⟨ns,u,p,rfl,rfl⟩ _ _;refine rI (zn (gC p)) fun a k=>rI k fun c k=>rI k fun n k=>?_;cases k;have p:bH gM 3 w=some ([a,c,n],u):=p;refine⟨rfl,?_⟩;refine ck [1000,1001] (xL.at (t:=t) (bs:=u) (a:=[IC s,.sl (f.map Cx),.sl (l.map I6),IC a,IC c,IC n]) (b:=[]) o m (aU rfl) eT) rfl rfl rfl rfl (fun v ⟨e,h⟩=>⟨e,by unfold My;rw[aA j,aA q,aA r,aA p,bf h]⟩) ?_;rintro v Mo ⟨d,r5,e5,rfl,rfl⟩ _ _;refine⟨rfl,?_⟩;exact dK [1000,1001] rfl rfl rfl rfl ⟨⟨s,f,l,a,c,n,d⟩,r5,by unfold My;rw[aA j,aA q,aA r,aA p,aA e5];rfl,rfl,rfl⟩
theorem X8:iq 84 [] [] TY [IC 0,IC 0] Lh:=by
 intro t pre post bs m l;refine au Tryz.func84 Gw rfl fun o n=>?_;refine cH [1000,1001] (wF (t:=t) (bs:=bs) (a:=[]) (b:=[]) [0,0] m l eT eT) rfl rfl rfl rfl (fun v ⟨e,h⟩=>⟨e,bf h⟩) ?_;rintro v Mo ⟨ns,j,c,rfl,rfl⟩ _ _;refine rI (FA (gC c)) fun k d=>rI d fun f d=>?_;cases d;have c:bH gM 2 bs=some ([k,f],j):=c;refine⟨rfl,?_⟩;exact dK [1000,1001] rfl rfl rfl rfl ⟨⟨k,f⟩,j,aA c,rfl,rfl⟩
theorem SA:iq 75 [] [.fn 76 [] []] (dN Qm) [.sl []] (fun l=>[.sl (l.map wO)]):=X1 X6 (ent 76 Tryz.func76 rfl rfl) Pt
theorem SB:iq 77 [] [.fn 78 [] []] (dN T9) [.sl []] (fun l=>[.sl (l.map EH)]):=X0 X5 (ent 78 Tryz.func78 rfl rfl) Pr
theorem SC:iq 79 [] [.fn 80 [] []] (dN My) [.sl []] (fun l=>[.sl (l.map z8)]):=X2 X7 (ent 80 Tryz.func80 rfl rfl) Po
theorem SD:iq 81 [] [.fn 82 [] []] (dN TW) [.sl []] (fun l=>[.sl (l.map Iy)]):=X3 Uw (ent 82 Tryz.func82 rfl rfl) Ps
theorem SE:iq 83 [] [.fn 84 [] []] (dN TY) [.sl []] (fun l=>[.sl (l.map Lh)]):=X4 X8 (ent 84 Tryz.func84 rfl rfl) Pq
theorem X9 (t:Nat) (f d:List (List C)) (j:Int) (bs:List UInt8):CallsTX PZ 35 [.ifo none 86 1000 0,.own 1001 0] [RB bs,.box t [.sl f,.sl d,IC j,.sl [],.sl [],.sl [],.sl [],.sl [],IC 0,IC 0,IC 0]]
  (fun Mo c=>∃x r,Eb bs=some (x,r)/\Mo=[RB r,.box t (.sl f::.sl d::IC j::Sj x)]/\c=.tup []) (fun v=>v=fW/\Eb bs=none):=by
 refine CallsTX.view (Lin:=[RB bs,.win t [] ([.sl f,.sl d,IC j]++[.sl [],.sl [],.sl [],.sl [],.sl [],IC 0,IC 0,IC 0]) []])
  (R:=fun Mo c=>∃x r,Eb bs=some (x,r)/\Mo=[RB r,.win t [] ([.sl f,.sl d,IC j]++Sj x) []]/\c=.tup []) (Pp:=fun v=>v=fW/\Eb bs=none) ?_
  (vw.same (vw.cons (xK rfl eT eT) (vw.refl []))) (fun Mo c ⟨x,r,e,q1,q2⟩=>⟨_,by rw[q1];exact vw.same (vw.cons (Cw (by simp)) (vw.refl [])),x,r,e,rfl,q2⟩) fun _ h=>h
 refine au Tryz.func35 Gj rfl fun hw ag=>?_;refine ck [1000,1001] (SA.at (t:=t) (bs:=bs) (pre:=[]) (post:=[]) (a:=[.sl f,.sl d,IC j]) (b:=[.sl [],.sl [],.sl [],.sl [],IC 0,IC 0,IC 0]) eT eT (aU rfl) (aU rfl)) rfl rfl rfl rfl (fun v ⟨e,h⟩=>⟨e,bf h⟩) ?_;rintro v Mo ⟨l,r1,k,rfl,rfl⟩ _ _;refine⟨rfl,?_⟩;refine ck [1000,1001] (SB.at (t:=t) (bs:=r1) (pre:=[]) (post:=[]) (a:=[.sl f,.sl d,IC j,.sl (l.map wO)]) (b:=[.sl [],.sl [],.sl [],IC 0,IC 0,IC 0]) eT eT (aU rfl) (aU rfl)) rfl rfl rfl rfl (fun v ⟨e,h⟩=>⟨e,by unfold Eb;rw[aA k,bf h]⟩) ?_;rintro v Mo ⟨p,r2,m,rfl,rfl⟩ _ _;refine⟨rfl,?_⟩;refine ck [1000,1001] (SC.at (t:=t) (bs:=r2) (pre:=[]) (post:=[]) (a:=[.sl f,.sl d,IC j,.sl (l.map wO),.sl (p.map EH)]) (b:=[.sl [],.sl [],IC 0,IC 0,IC 0]) eT eT (aU rfl) (aU rfl)) rfl rfl rfl rfl (fun v ⟨e,h⟩=>⟨e,by unfold Eb;rw[aA k,aA m,bf h]⟩) ?_;rintro v Mo ⟨q,r3,u,rfl,rfl⟩ _ _;refine⟨rfl,?_⟩;refine ck [1000,1001] (SD.at (t:=t) (bs:=r3) (pre:=[]) (post:=[]) (a:=[.sl f,.sl d,IC j,.sl (l.map wO),.sl (p.map EH),.sl (q.map z8)]) (b:=[.sl [],IC 0,IC 0,IC 0]) eT eT (aU rfl) (aU rfl)) rfl rfl rfl rfl (fun v ⟨e,h⟩=>⟨e,by unfold Eb;rw[aA k,aA m,aA u,bf h]⟩) ?_;rintro v Mo ⟨w,r4,y,rfl,rfl⟩ _ _;refine⟨rfl,?_⟩;refine ck [1000,1001] (SE.at (t:=t) (bs:=r4) (pre:=[]) (post:=[]) (a:=[.sl f,.sl d,IC j,.sl (l.map wO),.sl (p.map EH),.sl (q.map z8),.sl (w.map Iy)]) (b:=[IC 0,IC 0,IC 0]) eT eT (aU rfl) (aU rfl)) rfl rfl rfl rfl (fun v ⟨e,h⟩=>⟨e,by unfold Eb;rw[aA k,aA m,aA u,aA y,bf h]⟩) ?_;rintro v Mo ⟨x5,r5,z,rfl,rfl⟩ _ _;refine⟨rfl,?_⟩;refine cH [1000,1001] (wF (t:=t) (bs:=r5) (pre:=[]) (post:=[]) (a:=[.sl f,.sl d,IC j,.sl (l.map wO),.sl (p.map EH),.sl (q.map z8),.sl (w.map Iy),.sl (x5.map Lh)]) (b:=[]) [0,0,0] eT eT (aU rfl) eT) rfl rfl rfl rfl (fun v ⟨e,h⟩=>⟨e,by unfold Eb;rw[aA k,aA m,aA u,aA y,aA z];exact bf h⟩) ?_;rintro v Mo ⟨ns,r6,s,rfl,rfl⟩ _ _;refine rI (zn (gC s)) fun a o=>rI o fun c o=>rI o fun n o=>?_;cases o;have s:bH gM 3 r5=some ([a,c,n],r6):=s;refine⟨rfl,?_⟩;exact dK [1000,1001] rfl rfl rfl rfl ⟨⟨l,p,q,w,x5,a,c,n⟩,r6,by unfold Eb;rw[aA k,aA m,aA u,aA y,aA z,aA s];rfl,rfl,rfl⟩
end Go.Fr.Tryz
