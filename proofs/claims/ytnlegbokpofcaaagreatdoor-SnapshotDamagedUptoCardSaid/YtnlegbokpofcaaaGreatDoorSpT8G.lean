/- Part of the proofs of the statements of this seat. -/
import Derived.Test.YtnlegbokpofcaaaGreatDoorSpT5G
set_option maxRecDepth 10000
set_option linter.unusedVariables false
set_option linter.unusedSimpArgs false
namespace Go.Fr.Tryz
open Go Go.RowKit Go.Proofs Go.Fr Go.Fr.T Go.Fr.Api
theorem Ui {z:Type}{f:Nat}{a:Dec z}{cs:z->List C}(w:gS f [] [] a [IC 0] cs) (he:ni PZ f) (ac:∀x,zl 1 (cs x)):gS 109 [] [.fn f [] []] (dn a) [.sl []] (fun l=>[.sl (l.map cs)]):=by
 intro t pre post bs _ _;refine ak Tryz.func109 DM rfl fun hw ao=>?_;refine⟨.inl ⟨0,rfl,?_⟩⟩;refine⟨rfl,?_⟩;refine⟨165,zP,?_⟩;refine cu [1000] (zO 0 bs) rfl rfl rfl rfl (fun v ⟨e,h⟩=>⟨e,aW h⟩) ?_;rintro v Mo ⟨n,p,e0,rfl,rfl⟩ _ _;refine⟨rfl,?_⟩;have hD:dn a bs=bA a n p:=aq e0;have hn:=ld e0;refine⟨.inl ⟨0,rfl,?_⟩⟩;refine aB (fun hb=>?_) (fun hb=>?_)
 ·refine⟨by omega,abe _,by omega,by simp only[maxLen];omega,?_⟩;refine⟨.inl ⟨0,rfl,?_⟩⟩;refine⟨.inl ⟨0,rfl,?_⟩⟩;have y:∀m:Nat,((List.replicate m [IC 0]:List (List C)).length:Int)=m:=fun m=>by simp
  refine bw n 31 [] (([],p):List z×List UInt8) (fun _=>[]) (fun s=>[(25,.row 3 1 (s.1.map cs++List.replicate (n-s.1.length) [IC 0])),(1000,RB s.2),(1001,.win t pre [.rw 25] post)])
   (fun k s=>s.1.length=k/\(∀xs r,bA a (n-k) s.2=some (xs,r)->bA a n p=some (s.1++xs,r))/\(bA a (n-k) s.2=none->bA a n p=none))
   ⟨rfl,fun xs r h=>h,fun h=>h⟩ (ah rfl) trivial ⟨.inl ⟨_,rfl,.inl ⟨rfl,rfl⟩⟩,.inl ⟨_,rfl,.inl ⟨rfl,rfl⟩⟩,.inl ⟨_,rfl,.inl ⟨rfl,rfl⟩⟩,trivial⟩ (fun _=>rfl) (fun _=>rfl) ?_
  rintro k ⟨done,b⟩ hk ⟨h1,o,u⟩ _ _ ag;simp only at h1 o u;refine aM (fun c=>?_) (fun j=>?_)
  ·have c:k<n:=by have h:(k:Int)<((List.replicate n [IC 0]:List (List C)).length:Int):=c;rw[y] at h;omega
   refine⟨.inl ⟨0,rfl,?_⟩⟩;refine⟨by omega,by simp;omega,?_⟩;refine ow [1000,25] (iy (e:=3) (sz:=1) (ca:=[]) w he rfl (fun d w=>by
    rcases xC.1 w with rfl | w
    ·exact⟨rfl,rfl⟩
    ·cases w) ac ⟨rfl,rfl,rfl⟩ h1 c b) rfl rfl rfl rfl (fun v ⟨e,h⟩=>⟨e,?_⟩) ?_
   ·rw[hD];exact u (by rw[show n-k=(n-(k+1))+1 by omega];simp only[bA,h])
   rintro v Mo ⟨x,r,e1,rfl,rfl⟩ _ _;refine⟨rfl,?_⟩;refine Fit.aae (by omega) (by omega) ?_;rw[show n-k=(n-(k+1))+1 by omega] at o u;simp only[bA,e1] at o u;refine⟨(k+1,done++[x],r),⟨by omega,by simp[h1],fun xs r' h=>?_,fun h=>?_⟩,⟨bE,trivial⟩,⟨.inl ⟨_,rfl,.inl ⟨rfl,rfl⟩⟩,.inl ⟨_,rfl,.inl ⟨rfl,rfl⟩⟩,.inl ⟨_,rfl,.inl ⟨rfl,rfl⟩⟩,trivial⟩,bF c⟩
   ·rw[o (x::xs) r' (by simp only[h])];simp
   ·exact u (by simp only[h])
  ·have j:n-k=0:=by
    have h:¬(k:Int)<((List.replicate n [IC 0]:List (List C)).length:Int):=j;rw[y] at h;omega
   rw[j] at o;have hf:=o [] b rfl;rw[aaU] at hf;refine rq [25] [1000,1001] ⟨_,_,rfl,rfl,rfl,done,b,by rw[hD];exact hf,?_,rfl⟩;have hl:n-done.length=0:=by omega
   exact j3 (fun q=>[RB b,TO.win t pre [C.sl q] post]) (show done.map cs++List.replicate (n-done.length) [IC 0]=done.map cs by rw[hl];simp)
 ·have aa:n=0:=by
   have h:=hb;simp at h;omega
  subst aa;refine⟨.inl ⟨0,rfl,?_⟩⟩;refine bw 0 31 [] () (fun _=>[]) (fun _=>[(1000,RB p),(1001,.win t pre [.sl []] post)]) (fun _ _=>True) trivial (ah rfl) trivial ⟨.inl ⟨_,rfl,.inl ⟨rfl,rfl⟩⟩,.inl ⟨_,rfl,.inl ⟨rfl,rfl⟩⟩,trivial⟩ (fun _=>rfl) (fun _=>rfl) ?_;rintro k ⟨⟩ hk _ _ _ _;exact di [1000,1001] rfl rfl rfl rfl ⟨[],p,by rw[hD];rfl,rfl,rfl⟩
theorem Xv {z:Type}{f:Nat}{a:Dec z}{cs:z->List C}(w:gS f [] [] a [.bool false] cs) (he:ni PZ f) (ac:∀x,zl 1 (cs x)):gS 77 [] [.fn f [] []] (dn a) [.sl []] (fun l=>[.sl (l.map cs)]):=by
 intro t pre post bs _ _;refine ak Tryz.func77 Gg rfl fun hw ao=>?_;refine⟨.inl ⟨0,rfl,?_⟩⟩;refine⟨rfl,?_⟩;refine⟨165,zP,?_⟩;refine cu [1000] (zO 0 bs) rfl rfl rfl rfl (fun v ⟨e,h⟩=>⟨e,aW h⟩) ?_;rintro v Mo ⟨n,p,e0,rfl,rfl⟩ _ _;refine⟨rfl,?_⟩;have hD:dn a bs=bA a n p:=aq e0;have hn:=ld e0;refine⟨.inl ⟨0,rfl,?_⟩⟩;refine aB (fun hb=>?_) (fun hb=>?_)
 ·refine⟨by omega,abe _,by omega,by simp only[maxLen];omega,?_⟩;refine⟨.inl ⟨0,rfl,?_⟩⟩;refine⟨.inl ⟨0,rfl,?_⟩⟩;have y:∀m:Nat,((List.replicate m [.bool false]:List (List C)).length:Int)=m:=fun m=>by simp
  refine bw n 31 [] (([],p):List z×List UInt8) (fun _=>[]) (fun s=>[(25,.row 4 1 (s.1.map cs++List.replicate (n-s.1.length) [.bool false])),(1000,RB s.2),(1001,.win t pre [.rw 25] post)])
   (fun k s=>s.1.length=k/\(∀xs r,bA a (n-k) s.2=some (xs,r)->bA a n p=some (s.1++xs,r))/\(bA a (n-k) s.2=none->bA a n p=none))
   ⟨rfl,fun xs r h=>h,fun h=>h⟩ (ah rfl) trivial ⟨.inl ⟨_,rfl,.inl ⟨rfl,rfl⟩⟩,.inl ⟨_,rfl,.inl ⟨rfl,rfl⟩⟩,.inl ⟨_,rfl,.inl ⟨rfl,rfl⟩⟩,trivial⟩ (fun _=>rfl) (fun _=>rfl) ?_
  rintro k ⟨done,b⟩ hk ⟨h1,o,u⟩ _ _ ag;simp only at h1 o u;refine aM (fun c=>?_) (fun j=>?_)
  ·have c:k<n:=by have h:(k:Int)<((List.replicate n [.bool false]:List (List C)).length:Int):=c;rw[y] at h;omega
   refine⟨.inl ⟨0,rfl,?_⟩⟩;refine⟨by omega,by simp;omega,?_⟩;refine ow [1000,25] (iy (e:=4) (sz:=1) (ca:=[]) w he rfl (fun d w=>by
    rcases xC.1 w with rfl | w
    ·exact⟨rfl,rfl⟩
    ·cases w) ac ⟨rfl,rfl,rfl⟩ h1 c b) rfl rfl rfl rfl (fun v ⟨e,h⟩=>⟨e,?_⟩) ?_
   ·rw[hD];exact u (by rw[show n-k=(n-(k+1))+1 by omega];simp only[bA,h])
   rintro v Mo ⟨x,r,e1,rfl,rfl⟩ _ _;refine⟨rfl,?_⟩;refine Fit.aae (by omega) (by omega) ?_;rw[show n-k=(n-(k+1))+1 by omega] at o u;simp only[bA,e1] at o u;refine⟨(k+1,done++[x],r),⟨by omega,by simp[h1],fun xs r' h=>?_,fun h=>?_⟩,⟨bE,trivial⟩,⟨.inl ⟨_,rfl,.inl ⟨rfl,rfl⟩⟩,.inl ⟨_,rfl,.inl ⟨rfl,rfl⟩⟩,.inl ⟨_,rfl,.inl ⟨rfl,rfl⟩⟩,trivial⟩,bF c⟩
   ·rw[o (x::xs) r' (by simp only[h])];simp
   ·exact u (by simp only[h])
  ·have j:n-k=0:=by
    have h:¬(k:Int)<((List.replicate n [.bool false]:List (List C)).length:Int):=j;rw[y] at h;omega
   rw[j] at o;have hf:=o [] b rfl;rw[aaU] at hf;refine rq [25] [1000,1001] ⟨_,_,rfl,rfl,rfl,done,b,by rw[hD];exact hf,?_,rfl⟩;have hl:n-done.length=0:=by omega
   exact j3 (fun q=>[RB b,TO.win t pre [C.sl q] post]) (show done.map cs++List.replicate (n-done.length) [.bool false]=done.map cs by rw[hl];simp)
 ·have aa:n=0:=by
   have h:=hb;simp at h;omega
  subst aa;refine⟨.inl ⟨0,rfl,?_⟩⟩;refine bw 0 31 [] () (fun _=>[]) (fun _=>[(1000,RB p),(1001,.win t pre [.sl []] post)]) (fun _ _=>True) trivial (ah rfl) trivial ⟨.inl ⟨_,rfl,.inl ⟨rfl,rfl⟩⟩,.inl ⟨_,rfl,.inl ⟨rfl,rfl⟩⟩,trivial⟩ (fun _=>rfl) (fun _=>rfl) ?_;rintro k ⟨⟩ hk _ _ _ _;exact di [1000,1001] rfl rfl rfl rfl ⟨[],p,by rw[hD];rfl,rfl,rfl⟩
theorem Xw {z:Type}{f:Nat}{a:Dec z}{cs:z->List C}(w:gS f [] [] a [.bool false,IC 0,IC 0,IC 0,IC 0,IC 0,.sl [],.bool false,.sl [],.sl []] cs) (he:ni PZ f) (ac:∀x,zl 10 (cs x)):gS 75 [] [.fn f [] []] (dn a) [.sl []] (fun l=>[.sl (l.map cs)]):=by
 intro t pre post bs _ _;refine ak Tryz.func75 Ge rfl fun hw ao=>?_;refine⟨.inl ⟨0,rfl,?_⟩⟩;refine⟨rfl,?_⟩;refine⟨165,zP,?_⟩;refine cu [1000] (zO 0 bs) rfl rfl rfl rfl (fun v ⟨e,h⟩=>⟨e,aW h⟩) ?_;rintro v Mo ⟨n,p,e0,rfl,rfl⟩ _ _;refine⟨rfl,?_⟩;have hD:dn a bs=bA a n p:=aq e0;have hn:=ld e0;refine⟨.inl ⟨0,rfl,?_⟩⟩;refine aB (fun hb=>?_) (fun hb=>?_)
 ·refine⟨by omega,abe _,by omega,by simp only[maxLen];omega,?_⟩;refine⟨.inl ⟨0,rfl,?_⟩⟩;refine⟨.inl ⟨0,rfl,?_⟩⟩;have y:∀m:Nat,((List.replicate m [.bool false,IC 0,IC 0,IC 0,IC 0,IC 0,.sl [],.bool false,.sl [],.sl []]:List (List C)).length:Int)=m:=fun m=>by simp
  refine bw n 31 [] (([],p):List z×List UInt8) (fun _=>[]) (fun s=>[(25,.row 63 10 (s.1.map cs++List.replicate (n-s.1.length) [.bool false,IC 0,IC 0,IC 0,IC 0,IC 0,.sl [],.bool false,.sl [],.sl []])),(1000,RB s.2),(1001,.win t pre [.rw 25] post)])
   (fun k s=>s.1.length=k/\(∀xs r,bA a (n-k) s.2=some (xs,r)->bA a n p=some (s.1++xs,r))/\(bA a (n-k) s.2=none->bA a n p=none))
   ⟨rfl,fun xs r h=>h,fun h=>h⟩ (ah rfl) trivial ⟨.inl ⟨_,rfl,.inl ⟨rfl,rfl⟩⟩,.inl ⟨_,rfl,.inl ⟨rfl,rfl⟩⟩,.inl ⟨_,rfl,.inl ⟨rfl,rfl⟩⟩,trivial⟩ (fun _=>rfl) (fun _=>rfl) ?_
  rintro k ⟨done,b⟩ hk ⟨h1,o,u⟩ _ _ ag;simp only at h1 o u;refine aM (fun c=>?_) (fun j=>?_)
  ·have c:k<n:=by have h:(k:Int)<((List.replicate n [.bool false,IC 0,IC 0,IC 0,IC 0,IC 0,.sl [],.bool false,.sl [],.sl []]:List (List C)).length:Int):=c;rw[y] at h;omega
   refine⟨.inl ⟨0,rfl,?_⟩⟩;refine⟨by omega,by simp;omega,?_⟩;refine ow [1000,25] (iy (e:=63) (sz:=10) (ca:=[]) w he rfl (fun d w=>by
    rcases xC.1 w with rfl | w
    ·exact⟨rfl,rfl⟩
    ·cases w) ac ⟨rfl,rfl,rfl⟩ h1 c b) rfl rfl rfl rfl (fun v ⟨e,h⟩=>⟨e,?_⟩) ?_
   ·rw[hD];exact u (by rw[show n-k=(n-(k+1))+1 by omega];simp only[bA,h])
   rintro v Mo ⟨x,r,e1,rfl,rfl⟩ _ _;refine⟨rfl,?_⟩;refine Fit.aae (by omega) (by omega) ?_;rw[show n-k=(n-(k+1))+1 by omega] at o u;simp only[bA,e1] at o u;refine⟨(k+1,done++[x],r),⟨by omega,by simp[h1],fun xs r' h=>?_,fun h=>?_⟩,⟨bE,trivial⟩,⟨.inl ⟨_,rfl,.inl ⟨rfl,rfl⟩⟩,.inl ⟨_,rfl,.inl ⟨rfl,rfl⟩⟩,.inl ⟨_,rfl,.inl ⟨rfl,rfl⟩⟩,trivial⟩,bF c⟩
   ·rw[o (x::xs) r' (by simp only[h])];simp
   ·exact u (by simp only[h])
  ·have j:n-k=0:=by
    have h:¬(k:Int)<((List.replicate n [.bool false,IC 0,IC 0,IC 0,IC 0,IC 0,.sl [],.bool false,.sl [],.sl []]:List (List C)).length:Int):=j;rw[y] at h;omega
   rw[j] at o;have hf:=o [] b rfl;rw[aaU] at hf;refine rq [25] [1000,1001] ⟨_,_,rfl,rfl,rfl,done,b,by rw[hD];exact hf,?_,rfl⟩;have hl:n-done.length=0:=by omega
   exact j3 (fun q=>[RB b,TO.win t pre [C.sl q] post]) (show done.map cs++List.replicate (n-done.length) [.bool false,IC 0,IC 0,IC 0,IC 0,IC 0,.sl [],.bool false,.sl [],.sl []]=done.map cs by rw[hl];simp)
 ·have aa:n=0:=by
   have h:=hb;simp at h;omega
  subst aa;refine⟨.inl ⟨0,rfl,?_⟩⟩;refine bw 0 31 [] () (fun _=>[]) (fun _=>[(1000,RB p),(1001,.win t pre [.sl []] post)]) (fun _ _=>True) trivial (ah rfl) trivial ⟨.inl ⟨_,rfl,.inl ⟨rfl,rfl⟩⟩,.inl ⟨_,rfl,.inl ⟨rfl,rfl⟩⟩,trivial⟩ (fun _=>rfl) (fun _=>rfl) ?_;rintro k ⟨⟩ hk _ _ _ _;exact di [1000,1001] rfl rfl rfl rfl ⟨[],p,by rw[hD];rfl,rfl,rfl⟩
theorem Xx {z:Type}{f:Nat}{a:Dec z}{cs:z->List C}(w:gS f [] [] a [IC 0,.sl [],.sl [],IC 0,IC 0,IC 0,.sl []] cs) (he:ni PZ f) (ac:∀x,zl 7 (cs x)):gS 79 [] [.fn f [] []] (dn a) [.sl []] (fun l=>[.sl (l.map cs)]):=by
 intro t pre post bs _ _;refine ak Tryz.func79 Gi rfl fun hw ao=>?_;refine⟨.inl ⟨0,rfl,?_⟩⟩;refine⟨rfl,?_⟩;refine⟨165,zP,?_⟩;refine cu [1000] (zO 0 bs) rfl rfl rfl rfl (fun v ⟨e,h⟩=>⟨e,aW h⟩) ?_;rintro v Mo ⟨n,p,e0,rfl,rfl⟩ _ _;refine⟨rfl,?_⟩;have hD:dn a bs=bA a n p:=aq e0;have hn:=ld e0;refine⟨.inl ⟨0,rfl,?_⟩⟩;refine aB (fun hb=>?_) (fun hb=>?_)
 ·refine⟨by omega,abe _,by omega,by simp only[maxLen];omega,?_⟩;refine⟨.inl ⟨0,rfl,?_⟩⟩;refine⟨.inl ⟨0,rfl,?_⟩⟩;have y:∀m:Nat,((List.replicate m [IC 0,.sl [],.sl [],IC 0,IC 0,IC 0,.sl []]:List (List C)).length:Int)=m:=fun m=>by simp
  refine bw n 31 [] (([],p):List z×List UInt8) (fun _=>[]) (fun s=>[(25,.row 67 7 (s.1.map cs++List.replicate (n-s.1.length) [IC 0,.sl [],.sl [],IC 0,IC 0,IC 0,.sl []])),(1000,RB s.2),(1001,.win t pre [.rw 25] post)])
   (fun k s=>s.1.length=k/\(∀xs r,bA a (n-k) s.2=some (xs,r)->bA a n p=some (s.1++xs,r))/\(bA a (n-k) s.2=none->bA a n p=none))
   ⟨rfl,fun xs r h=>h,fun h=>h⟩ (ah rfl) trivial ⟨.inl ⟨_,rfl,.inl ⟨rfl,rfl⟩⟩,.inl ⟨_,rfl,.inl ⟨rfl,rfl⟩⟩,.inl ⟨_,rfl,.inl ⟨rfl,rfl⟩⟩,trivial⟩ (fun _=>rfl) (fun _=>rfl) ?_
  rintro k ⟨done,b⟩ hk ⟨h1,o,u⟩ _ _ ag;simp only at h1 o u;refine aM (fun c=>?_) (fun j=>?_)
  ·have c:k<n:=by have h:(k:Int)<((List.replicate n [IC 0,.sl [],.sl [],IC 0,IC 0,IC 0,.sl []]:List (List C)).length:Int):=c;rw[y] at h;omega
   refine⟨.inl ⟨0,rfl,?_⟩⟩;refine⟨by omega,by simp;omega,?_⟩;refine ow [1000,25] (iy (e:=67) (sz:=7) (ca:=[]) w he rfl (fun d w=>by
    rcases xC.1 w with rfl | w
    ·exact⟨rfl,rfl⟩
    ·cases w) ac ⟨rfl,rfl,rfl⟩ h1 c b) rfl rfl rfl rfl (fun v ⟨e,h⟩=>⟨e,?_⟩) ?_
   ·rw[hD];exact u (by rw[show n-k=(n-(k+1))+1 by omega];simp only[bA,h])
   rintro v Mo ⟨x,r,e1,rfl,rfl⟩ _ _;refine⟨rfl,?_⟩;refine Fit.aae (by omega) (by omega) ?_;rw[show n-k=(n-(k+1))+1 by omega] at o u;simp only[bA,e1] at o u;refine⟨(k+1,done++[x],r),⟨by omega,by simp[h1],fun xs r' h=>?_,fun h=>?_⟩,⟨bE,trivial⟩,⟨.inl ⟨_,rfl,.inl ⟨rfl,rfl⟩⟩,.inl ⟨_,rfl,.inl ⟨rfl,rfl⟩⟩,.inl ⟨_,rfl,.inl ⟨rfl,rfl⟩⟩,trivial⟩,bF c⟩
   ·rw[o (x::xs) r' (by simp only[h])];simp
   ·exact u (by simp only[h])
  ·have j:n-k=0:=by
    have h:¬(k:Int)<((List.replicate n [IC 0,.sl [],.sl [],IC 0,IC 0,IC 0,.sl []]:List (List C)).length:Int):=j;rw[y] at h;omega
   rw[j] at o;have hf:=o [] b rfl;rw[aaU] at hf;refine rq [25] [1000,1001] ⟨_,_,rfl,rfl,rfl,done,b,by rw[hD];exact hf,?_,rfl⟩;have hl:n-done.length=0:=by omega
   exact j3 (fun q=>[RB b,TO.win t pre [C.sl q] post]) (show done.map cs++List.replicate (n-done.length) [IC 0,.sl [],.sl [],IC 0,IC 0,IC 0,.sl []]=done.map cs by rw[hl];simp)
 ·have aa:n=0:=by
   have h:=hb;simp at h;omega
  subst aa;refine⟨.inl ⟨0,rfl,?_⟩⟩;refine bw 0 31 [] () (fun _=>[]) (fun _=>[(1000,RB p),(1001,.win t pre [.sl []] post)]) (fun _ _=>True) trivial (ah rfl) trivial ⟨.inl ⟨_,rfl,.inl ⟨rfl,rfl⟩⟩,.inl ⟨_,rfl,.inl ⟨rfl,rfl⟩⟩,trivial⟩ (fun _=>rfl) (fun _=>rfl) ?_;rintro k ⟨⟩ hk _ _ _ _;exact di [1000,1001] rfl rfl rfl rfl ⟨[],p,by rw[hD];rfl,rfl,rfl⟩
theorem Xy {z:Type}{f:Nat}{a:Dec z}{cs:z->List C}(w:gS f [] [] a [.sl []] cs) (he:ni PZ f) (ac:∀x,zl 1 (cs x)):gS 81 [] [.fn f [] []] (dn a) [.sl []] (fun l=>[.sl (l.map cs)]):=by
 intro t pre post bs _ _;refine ak Tryz.func81 Gk rfl fun hw ao=>?_;refine⟨.inl ⟨0,rfl,?_⟩⟩;refine⟨rfl,?_⟩;refine⟨165,zP,?_⟩;refine cu [1000] (zO 0 bs) rfl rfl rfl rfl (fun v ⟨e,h⟩=>⟨e,aW h⟩) ?_;rintro v Mo ⟨n,p,e0,rfl,rfl⟩ _ _;refine⟨rfl,?_⟩;have hD:dn a bs=bA a n p:=aq e0;have hn:=ld e0;refine⟨.inl ⟨0,rfl,?_⟩⟩;refine aB (fun hb=>?_) (fun hb=>?_)
 ·refine⟨by omega,abe _,by omega,by simp only[maxLen];omega,?_⟩;refine⟨.inl ⟨0,rfl,?_⟩⟩;refine⟨.inl ⟨0,rfl,?_⟩⟩;have y:∀m:Nat,((List.replicate m [.sl []]:List (List C)).length:Int)=m:=fun m=>by simp
  refine bw n 31 [] (([],p):List z×List UInt8) (fun _=>[]) (fun s=>[(25,.row 58 1 (s.1.map cs++List.replicate (n-s.1.length) [.sl []])),(1000,RB s.2),(1001,.win t pre [.rw 25] post)])
   (fun k s=>s.1.length=k/\(∀xs r,bA a (n-k) s.2=some (xs,r)->bA a n p=some (s.1++xs,r))/\(bA a (n-k) s.2=none->bA a n p=none))
   ⟨rfl,fun xs r h=>h,fun h=>h⟩ (ah rfl) trivial ⟨.inl ⟨_,rfl,.inl ⟨rfl,rfl⟩⟩,.inl ⟨_,rfl,.inl ⟨rfl,rfl⟩⟩,.inl ⟨_,rfl,.inl ⟨rfl,rfl⟩⟩,trivial⟩ (fun _=>rfl) (fun _=>rfl) ?_
  rintro k ⟨done,b⟩ hk ⟨h1,o,u⟩ _ _ ag;simp only at h1 o u;refine aM (fun c=>?_) (fun j=>?_)
  ·have c:k<n:=by have h:(k:Int)<((List.replicate n [.sl []]:List (List C)).length:Int):=c;rw[y] at h;omega
   refine⟨.inl ⟨0,rfl,?_⟩⟩;refine⟨by omega,by simp;omega,?_⟩;refine ow [1000,25] (iy (e:=58) (sz:=1) (ca:=[]) w he rfl (fun d w=>by
    rcases xC.1 w with rfl | w
    ·exact⟨rfl,rfl⟩
    ·cases w) ac ⟨rfl,rfl,rfl⟩ h1 c b) rfl rfl rfl rfl (fun v ⟨e,h⟩=>⟨e,?_⟩) ?_
   ·rw[hD];exact u (by rw[show n-k=(n-(k+1))+1 by omega];simp only[bA,h])
   rintro v Mo ⟨x,r,e1,rfl,rfl⟩ _ _;refine⟨rfl,?_⟩;refine Fit.aae (by omega) (by omega) ?_;rw[show n-k=(n-(k+1))+1 by omega] at o u;simp only[bA,e1] at o u;refine⟨(k+1,done++[x],r),⟨by omega,by simp[h1],fun xs r' h=>?_,fun h=>?_⟩,⟨bE,trivial⟩,⟨.inl ⟨_,rfl,.inl ⟨rfl,rfl⟩⟩,.inl ⟨_,rfl,.inl ⟨rfl,rfl⟩⟩,.inl ⟨_,rfl,.inl ⟨rfl,rfl⟩⟩,trivial⟩,bF c⟩
   ·rw[o (x::xs) r' (by simp only[h])];simp
   ·exact u (by simp only[h])
  ·have j:n-k=0:=by
    have h:¬(k:Int)<((List.replicate n [.sl []]:List (List C)).length:Int):=j;rw[y] at h;omega
   rw[j] at o;have hf:=o [] b rfl;rw[aaU] at hf;refine rq [25] [1000,1001] ⟨_,_,rfl,rfl,rfl,done,b,by rw[hD];exact hf,?_,rfl⟩;have hl:n-done.length=0:=by omega
   exact j3 (fun q=>[RB b,TO.win t pre [C.sl q] post]) (show done.map cs++List.replicate (n-done.length) [.sl []]=done.map cs by rw[hl];simp)
 ·have aa:n=0:=by
   have h:=hb;simp at h;omega
  subst aa;refine⟨.inl ⟨0,rfl,?_⟩⟩;refine bw 0 31 [] () (fun _=>[]) (fun _=>[(1000,RB p),(1001,.win t pre [.sl []] post)]) (fun _ _=>True) trivial (ah rfl) trivial ⟨.inl ⟨_,rfl,.inl ⟨rfl,rfl⟩⟩,.inl ⟨_,rfl,.inl ⟨rfl,rfl⟩⟩,trivial⟩ (fun _=>rfl) (fun _=>rfl) ?_;rintro k ⟨⟩ hk _ _ _ _;exact di [1000,1001] rfl rfl rfl rfl ⟨[],p,by rw[hD];rfl,rfl,rfl⟩
theorem Xz {z:Type}{f:Nat}{a:Dec z}{cs:z->List C}(w:gS f [] [] a [IC 0,IC 0] cs) (he:ni PZ f) (ac:∀x,zl 2 (cs x)):gS 83 [] [.fn f [] []] (dn a) [.sl []] (fun l=>[.sl (l.map cs)]):=by
 intro t pre post bs _ _;refine ak Tryz.func83 Gm rfl fun hw ao=>?_;refine⟨.inl ⟨0,rfl,?_⟩⟩;refine⟨rfl,?_⟩;refine⟨165,zP,?_⟩;refine cu [1000] (zO 0 bs) rfl rfl rfl rfl (fun v ⟨e,h⟩=>⟨e,aW h⟩) ?_;rintro v Mo ⟨n,p,e0,rfl,rfl⟩ _ _;refine⟨rfl,?_⟩;have hD:dn a bs=bA a n p:=aq e0;have hn:=ld e0;refine⟨.inl ⟨0,rfl,?_⟩⟩;refine aB (fun hb=>?_) (fun hb=>?_)
 ·refine⟨by omega,abe _,by omega,by simp only[maxLen];omega,?_⟩;refine⟨.inl ⟨0,rfl,?_⟩⟩;refine⟨.inl ⟨0,rfl,?_⟩⟩;have y:∀m:Nat,((List.replicate m [IC 0,IC 0]:List (List C)).length:Int)=m:=fun m=>by simp
  refine bw n 31 [] (([],p):List z×List UInt8) (fun _=>[]) (fun s=>[(25,.row 101 2 (s.1.map cs++List.replicate (n-s.1.length) [IC 0,IC 0])),(1000,RB s.2),(1001,.win t pre [.rw 25] post)])
   (fun k s=>s.1.length=k/\(∀xs r,bA a (n-k) s.2=some (xs,r)->bA a n p=some (s.1++xs,r))/\(bA a (n-k) s.2=none->bA a n p=none))
   ⟨rfl,fun xs r h=>h,fun h=>h⟩ (ah rfl) trivial ⟨.inl ⟨_,rfl,.inl ⟨rfl,rfl⟩⟩,.inl ⟨_,rfl,.inl ⟨rfl,rfl⟩⟩,.inl ⟨_,rfl,.inl ⟨rfl,rfl⟩⟩,trivial⟩ (fun _=>rfl) (fun _=>rfl) ?_
  rintro k ⟨done,b⟩ hk ⟨h1,o,u⟩ _ _ ag;simp only at h1 o u;refine aM (fun c=>?_) (fun j=>?_)
  ·have c:k<n:=by have h:(k:Int)<((List.replicate n [IC 0,IC 0]:List (List C)).length:Int):=c;rw[y] at h;omega
   refine⟨.inl ⟨0,rfl,?_⟩⟩;refine⟨by omega,by simp;omega,?_⟩;refine ow [1000,25] (iy (e:=101) (sz:=2) (ca:=[]) w he rfl (fun d w=>by
    rcases xC.1 w with rfl | w
    ·exact⟨rfl,rfl⟩
    ·cases w) ac ⟨rfl,rfl,rfl⟩ h1 c b) rfl rfl rfl rfl (fun v ⟨e,h⟩=>⟨e,?_⟩) ?_
   ·rw[hD];exact u (by rw[show n-k=(n-(k+1))+1 by omega];simp only[bA,h])
   rintro v Mo ⟨x,r,e1,rfl,rfl⟩ _ _;refine⟨rfl,?_⟩;refine Fit.aae (by omega) (by omega) ?_;rw[show n-k=(n-(k+1))+1 by omega] at o u;simp only[bA,e1] at o u;refine⟨(k+1,done++[x],r),⟨by omega,by simp[h1],fun xs r' h=>?_,fun h=>?_⟩,⟨bE,trivial⟩,⟨.inl ⟨_,rfl,.inl ⟨rfl,rfl⟩⟩,.inl ⟨_,rfl,.inl ⟨rfl,rfl⟩⟩,.inl ⟨_,rfl,.inl ⟨rfl,rfl⟩⟩,trivial⟩,bF c⟩
   ·rw[o (x::xs) r' (by simp only[h])];simp
   ·exact u (by simp only[h])
  ·have j:n-k=0:=by
    have h:¬(k:Int)<((List.replicate n [IC 0,IC 0]:List (List C)).length:Int):=j;rw[y] at h;omega
   rw[j] at o;have hf:=o [] b rfl;rw[aaU] at hf;refine rq [25] [1000,1001] ⟨_,_,rfl,rfl,rfl,done,b,by rw[hD];exact hf,?_,rfl⟩;have hl:n-done.length=0:=by omega
   exact j3 (fun q=>[RB b,TO.win t pre [C.sl q] post]) (show done.map cs++List.replicate (n-done.length) [IC 0,IC 0]=done.map cs by rw[hl];simp)
 ·have aa:n=0:=by
   have h:=hb;simp at h;omega
  subst aa;refine⟨.inl ⟨0,rfl,?_⟩⟩;refine bw 0 31 [] () (fun _=>[]) (fun _=>[(1000,RB p),(1001,.win t pre [.sl []] post)]) (fun _ _=>True) trivial (ah rfl) trivial ⟨.inl ⟨_,rfl,.inl ⟨rfl,rfl⟩⟩,.inl ⟨_,rfl,.inl ⟨rfl,rfl⟩⟩,trivial⟩ (fun _=>rfl) (fun _=>rfl) ?_;rintro k ⟨⟩ hk _ _ _ _;exact di [1000,1001] rfl rfl rfl rfl ⟨[],p,by rw[hD];rfl,rfl,rfl⟩
theorem Uj {z:Type}{f:Nat}{a:Dec z}{cs:z->List C}(w:gS f [] [] a [IC 0,IC 0,IC 0,IC 0,IC 0,.sl [],.sl []] cs) (he:ni PZ f) (ac:∀x,zl 7 (cs x)):gS 105 [] [.fn f [] []] (dn a) [.sl []] (fun l=>[.sl (l.map cs)]):=by
 intro t pre post bs _ _;refine ak Tryz.func105 DI rfl fun hw ao=>?_;refine⟨.inl ⟨0,rfl,?_⟩⟩;refine⟨rfl,?_⟩;refine⟨165,zP,?_⟩;refine cu [1000] (zO 0 bs) rfl rfl rfl rfl (fun v ⟨e,h⟩=>⟨e,aW h⟩) ?_;rintro v Mo ⟨n,p,e0,rfl,rfl⟩ _ _;refine⟨rfl,?_⟩;have hD:dn a bs=bA a n p:=aq e0;have hn:=ld e0;refine⟨.inl ⟨0,rfl,?_⟩⟩;refine aB (fun hb=>?_) (fun hb=>?_)
 ·refine⟨by omega,abe _,by omega,by simp only[maxLen];omega,?_⟩;refine⟨.inl ⟨0,rfl,?_⟩⟩;refine⟨.inl ⟨0,rfl,?_⟩⟩;have y:∀m:Nat,((List.replicate m [IC 0,IC 0,IC 0,IC 0,IC 0,.sl [],.sl []]:List (List C)).length:Int)=m:=fun m=>by simp
  refine bw n 31 [] (([],p):List z×List UInt8) (fun _=>[]) (fun s=>[(25,.row 69 7 (s.1.map cs++List.replicate (n-s.1.length) [IC 0,IC 0,IC 0,IC 0,IC 0,.sl [],.sl []])),(1000,RB s.2),(1001,.win t pre [.rw 25] post)])
   (fun k s=>s.1.length=k/\(∀xs r,bA a (n-k) s.2=some (xs,r)->bA a n p=some (s.1++xs,r))/\(bA a (n-k) s.2=none->bA a n p=none))
   ⟨rfl,fun xs r h=>h,fun h=>h⟩ (ah rfl) trivial ⟨.inl ⟨_,rfl,.inl ⟨rfl,rfl⟩⟩,.inl ⟨_,rfl,.inl ⟨rfl,rfl⟩⟩,.inl ⟨_,rfl,.inl ⟨rfl,rfl⟩⟩,trivial⟩ (fun _=>rfl) (fun _=>rfl) ?_
  rintro k ⟨done,b⟩ hk ⟨h1,o,u⟩ _ _ ag;simp only at h1 o u;refine aM (fun c=>?_) (fun j=>?_)
  ·have c:k<n:=by have h:(k:Int)<((List.replicate n [IC 0,IC 0,IC 0,IC 0,IC 0,.sl [],.sl []]:List (List C)).length:Int):=c;rw[y] at h;omega
   refine⟨.inl ⟨0,rfl,?_⟩⟩;refine⟨by omega,by simp;omega,?_⟩;refine ow [1000,25] (iy (e:=69) (sz:=7) (ca:=[]) w he rfl (fun d w=>by
    rcases xC.1 w with rfl | w
    ·exact⟨rfl,rfl⟩
    ·cases w) ac ⟨rfl,rfl,rfl⟩ h1 c b) rfl rfl rfl rfl (fun v ⟨e,h⟩=>⟨e,?_⟩) ?_
   ·rw[hD];exact u (by rw[show n-k=(n-(k+1))+1 by omega];simp only[bA,h])
   rintro v Mo ⟨x,r,e1,rfl,rfl⟩ _ _;refine⟨rfl,?_⟩;refine Fit.aae (by omega) (by omega) ?_;rw[show n-k=(n-(k+1))+1 by omega] at o u;simp only[bA,e1] at o u;refine⟨(k+1,done++[x],r),⟨by omega,by simp[h1],fun xs r' h=>?_,fun h=>?_⟩,⟨bE,trivial⟩,⟨.inl ⟨_,rfl,.inl ⟨rfl,rfl⟩⟩,.inl ⟨_,rfl,.inl ⟨rfl,rfl⟩⟩,.inl ⟨_,rfl,.inl ⟨rfl,rfl⟩⟩,trivial⟩,bF c⟩
   ·rw[o (x::xs) r' (by simp only[h])];simp
   ·exact u (by simp only[h])
  ·have j:n-k=0:=by
    have h:¬(k:Int)<((List.replicate n [IC 0,IC 0,IC 0,IC 0,IC 0,.sl [],.sl []]:List (List C)).length:Int):=j;rw[y] at h;omega
   rw[j] at o;have hf:=o [] b rfl;rw[aaU] at hf;refine rq [25] [1000,1001] ⟨_,_,rfl,rfl,rfl,done,b,by rw[hD];exact hf,?_,rfl⟩;have hl:n-done.length=0:=by omega
   exact j3 (fun q=>[RB b,TO.win t pre [C.sl q] post]) (show done.map cs++List.replicate (n-done.length) [IC 0,IC 0,IC 0,IC 0,IC 0,.sl [],.sl []]=done.map cs by rw[hl];simp)
 ·have aa:n=0:=by
   have h:=hb;simp at h;omega
  subst aa;refine⟨.inl ⟨0,rfl,?_⟩⟩;refine bw 0 31 [] () (fun _=>[]) (fun _=>[(1000,RB p),(1001,.win t pre [.sl []] post)]) (fun _ _=>True) trivial (ah rfl) trivial ⟨.inl ⟨_,rfl,.inl ⟨rfl,rfl⟩⟩,.inl ⟨_,rfl,.inl ⟨rfl,rfl⟩⟩,trivial⟩ (fun _=>rfl) (fun _=>rfl) ?_;rintro k ⟨⟩ hk _ _ _ _;exact di [1000,1001] rfl rfl rfl rfl ⟨[],p,by rw[hD];rfl,rfl,rfl⟩
theorem Uk {z:Type}{f:Nat}{a:Dec z}{cs:z->List C}(w:gS f [] [] a [IC 0,IC 0,.bool false,.bool false,.bool false] cs) (he:ni PZ f) (ac:∀x,zl 5 (cs x)):gS 107 [] [.fn f [] []] (dn a) [.sl []] (fun l=>[.sl (l.map cs)]):=by
 intro t pre post bs _ _;refine ak Tryz.func107 DK rfl fun hw ao=>?_;refine⟨.inl ⟨0,rfl,?_⟩⟩;refine⟨rfl,?_⟩;refine⟨165,zP,?_⟩;refine cu [1000] (zO 0 bs) rfl rfl rfl rfl (fun v ⟨e,h⟩=>⟨e,aW h⟩) ?_;rintro v Mo ⟨n,p,e0,rfl,rfl⟩ _ _;refine⟨rfl,?_⟩;have hD:dn a bs=bA a n p:=aq e0;have hn:=ld e0;refine⟨.inl ⟨0,rfl,?_⟩⟩;refine aB (fun hb=>?_) (fun hb=>?_)
 ·refine⟨by omega,abe _,by omega,by simp only[maxLen];omega,?_⟩;refine⟨.inl ⟨0,rfl,?_⟩⟩;refine⟨.inl ⟨0,rfl,?_⟩⟩;have y:∀m:Nat,((List.replicate m [IC 0,IC 0,.bool false,.bool false,.bool false]:List (List C)).length:Int)=m:=fun m=>by simp
  refine bw n 31 [] (([],p):List z×List UInt8) (fun _=>[]) (fun s=>[(25,.row 129 5 (s.1.map cs++List.replicate (n-s.1.length) [IC 0,IC 0,.bool false,.bool false,.bool false])),(1000,RB s.2),(1001,.win t pre [.rw 25] post)])
   (fun k s=>s.1.length=k/\(∀xs r,bA a (n-k) s.2=some (xs,r)->bA a n p=some (s.1++xs,r))/\(bA a (n-k) s.2=none->bA a n p=none))
   ⟨rfl,fun xs r h=>h,fun h=>h⟩ (ah rfl) trivial ⟨.inl ⟨_,rfl,.inl ⟨rfl,rfl⟩⟩,.inl ⟨_,rfl,.inl ⟨rfl,rfl⟩⟩,.inl ⟨_,rfl,.inl ⟨rfl,rfl⟩⟩,trivial⟩ (fun _=>rfl) (fun _=>rfl) ?_
  rintro k ⟨done,b⟩ hk ⟨h1,o,u⟩ _ _ ag;simp only at h1 o u;refine aM (fun c=>?_) (fun j=>?_)
  ·have c:k<n:=by have h:(k:Int)<((List.replicate n [IC 0,IC 0,.bool false,.bool false,.bool false]:List (List C)).length:Int):=c;rw[y] at h;omega
   refine⟨.inl ⟨0,rfl,?_⟩⟩;refine⟨by omega,by simp;omega,?_⟩;refine ow [1000,25] (iy (e:=129) (sz:=5) (ca:=[]) w he rfl (fun d w=>by
    rcases xC.1 w with rfl | w
    ·exact⟨rfl,rfl⟩
    ·cases w) ac ⟨rfl,rfl,rfl⟩ h1 c b) rfl rfl rfl rfl (fun v ⟨e,h⟩=>⟨e,?_⟩) ?_
   ·rw[hD];exact u (by rw[show n-k=(n-(k+1))+1 by omega];simp only[bA,h])
   rintro v Mo ⟨x,r,e1,rfl,rfl⟩ _ _;refine⟨rfl,?_⟩;refine Fit.aae (by omega) (by omega) ?_;rw[show n-k=(n-(k+1))+1 by omega] at o u;simp only[bA,e1] at o u;refine⟨(k+1,done++[x],r),⟨by omega,by simp[h1],fun xs r' h=>?_,fun h=>?_⟩,⟨bE,trivial⟩,⟨.inl ⟨_,rfl,.inl ⟨rfl,rfl⟩⟩,.inl ⟨_,rfl,.inl ⟨rfl,rfl⟩⟩,.inl ⟨_,rfl,.inl ⟨rfl,rfl⟩⟩,trivial⟩,bF c⟩
   ·rw[o (x::xs) r' (by simp only[h])];simp
   ·exact u (by simp only[h])
  ·have j:n-k=0:=by
    have h:¬(k:Int)<((List.replicate n [IC 0,IC 0,.bool false,.bool false,.bool false]:List (List C)).length:Int):=j;rw[y] at h;omega
   rw[j] at o;have hf:=o [] b rfl;rw[aaU] at hf;refine rq [25] [1000,1001] ⟨_,_,rfl,rfl,rfl,done,b,by rw[hD];exact hf,?_,rfl⟩;have hl:n-done.length=0:=by omega
   exact j3 (fun q=>[RB b,TO.win t pre [C.sl q] post]) (show done.map cs++List.replicate (n-done.length) [IC 0,IC 0,.bool false,.bool false,.bool false]=done.map cs by rw[hl];simp)
 ·have aa:n=0:=by
   have h:=hb;simp at h;omega
  subst aa;refine⟨.inl ⟨0,rfl,?_⟩⟩;refine bw 0 31 [] () (fun _=>[]) (fun _=>[(1000,RB p),(1001,.win t pre [.sl []] post)]) (fun _ _=>True) trivial (ah rfl) trivial ⟨.inl ⟨_,rfl,.inl ⟨rfl,rfl⟩⟩,.inl ⟨_,rfl,.inl ⟨rfl,rfl⟩⟩,trivial⟩ (fun _=>rfl) (fun _=>rfl) ?_;rintro k ⟨⟩ hk _ _ _ _;exact di [1000,1001] rfl rfl rfl rfl ⟨[],p,by rw[hD];rfl,rfl,rfl⟩
theorem Ul {z:Type}{f:Nat}{a:Dec z}{cs:z->List C}(w:gS f [] [] a [IC 0,IC 0,IC 0,IC 0,.sl [],.bool false,.sl [],.sl []] cs) (he:ni PZ f) (ac:∀x,zl 8 (cs x)):gS 111 [] [.fn f [] []] (dn a) [.sl []] (fun l=>[.sl (l.map cs)]):=by
 intro t pre post bs _ _;refine ak Tryz.func111 uI rfl fun hw ao=>?_;refine⟨.inl ⟨0,rfl,?_⟩⟩;refine⟨rfl,?_⟩;refine⟨165,zP,?_⟩;refine cu [1000] (zO 0 bs) rfl rfl rfl rfl (fun v ⟨e,h⟩=>⟨e,aW h⟩) ?_;rintro v Mo ⟨n,p,e0,rfl,rfl⟩ _ _;refine⟨rfl,?_⟩;have hD:dn a bs=bA a n p:=aq e0;have hn:=ld e0;refine⟨.inl ⟨0,rfl,?_⟩⟩;refine aB (fun hb=>?_) (fun hb=>?_)
 ·refine⟨by omega,abe _,by omega,by simp only[maxLen];omega,?_⟩;refine⟨.inl ⟨0,rfl,?_⟩⟩;refine⟨.inl ⟨0,rfl,?_⟩⟩;have y:∀m:Nat,((List.replicate m [IC 0,IC 0,IC 0,IC 0,.sl [],.bool false,.sl [],.sl []]:List (List C)).length:Int)=m:=fun m=>by simp
  refine bw n 31 [] (([],p):List z×List UInt8) (fun _=>[]) (fun s=>[(25,.row 61 8 (s.1.map cs++List.replicate (n-s.1.length) [IC 0,IC 0,IC 0,IC 0,.sl [],.bool false,.sl [],.sl []])),(1000,RB s.2),(1001,.win t pre [.rw 25] post)])
   (fun k s=>s.1.length=k/\(∀xs r,bA a (n-k) s.2=some (xs,r)->bA a n p=some (s.1++xs,r))/\(bA a (n-k) s.2=none->bA a n p=none))
   ⟨rfl,fun xs r h=>h,fun h=>h⟩ (ah rfl) trivial ⟨.inl ⟨_,rfl,.inl ⟨rfl,rfl⟩⟩,.inl ⟨_,rfl,.inl ⟨rfl,rfl⟩⟩,.inl ⟨_,rfl,.inl ⟨rfl,rfl⟩⟩,trivial⟩ (fun _=>rfl) (fun _=>rfl) ?_
  rintro k ⟨done,b⟩ hk ⟨h1,o,u⟩ _ _ ag;simp only at h1 o u;refine aM (fun c=>?_) (fun j=>?_)
  ·have c:k<n:=by have h:(k:Int)<((List.replicate n [IC 0,IC 0,IC 0,IC 0,.sl [],.bool false,.sl [],.sl []]:List (List C)).length:Int):=c;rw[y] at h;omega
   refine⟨.inl ⟨0,rfl,?_⟩⟩;refine⟨by omega,by simp;omega,?_⟩;refine ow [1000,25] (iy (e:=61) (sz:=8) (ca:=[]) w he rfl (fun d w=>by
    rcases xC.1 w with rfl | w
    ·exact⟨rfl,rfl⟩
    ·cases w) ac ⟨rfl,rfl,rfl⟩ h1 c b) rfl rfl rfl rfl (fun v ⟨e,h⟩=>⟨e,?_⟩) ?_
   ·rw[hD];exact u (by rw[show n-k=(n-(k+1))+1 by omega];simp only[bA,h])
   rintro v Mo ⟨x,r,e1,rfl,rfl⟩ _ _;refine⟨rfl,?_⟩;refine Fit.aae (by omega) (by omega) ?_;rw[show n-k=(n-(k+1))+1 by omega] at o u;simp only[bA,e1] at o u;refine⟨(k+1,done++[x],r),⟨by omega,by simp[h1],fun xs r' h=>?_,fun h=>?_⟩,⟨bE,trivial⟩,⟨.inl ⟨_,rfl,.inl ⟨rfl,rfl⟩⟩,.inl ⟨_,rfl,.inl ⟨rfl,rfl⟩⟩,.inl ⟨_,rfl,.inl ⟨rfl,rfl⟩⟩,trivial⟩,bF c⟩
   ·rw[o (x::xs) r' (by simp only[h])];simp
   ·exact u (by simp only[h])
  ·have j:n-k=0:=by
    have h:¬(k:Int)<((List.replicate n [IC 0,IC 0,IC 0,IC 0,.sl [],.bool false,.sl [],.sl []]:List (List C)).length:Int):=j;rw[y] at h;omega
   rw[j] at o;have hf:=o [] b rfl;rw[aaU] at hf;refine rq [25] [1000,1001] ⟨_,_,rfl,rfl,rfl,done,b,by rw[hD];exact hf,?_,rfl⟩;have hl:n-done.length=0:=by omega
   exact j3 (fun q=>[RB b,TO.win t pre [C.sl q] post]) (show done.map cs++List.replicate (n-done.length) [IC 0,IC 0,IC 0,IC 0,.sl [],.bool false,.sl [],.sl []]=done.map cs by rw[hl];simp)
 ·have aa:n=0:=by
   have h:=hb;simp at h;omega
  subst aa;refine⟨.inl ⟨0,rfl,?_⟩⟩;refine bw 0 31 [] () (fun _=>[]) (fun _=>[(1000,RB p),(1001,.win t pre [.sl []] post)]) (fun _ _=>True) trivial (ah rfl) trivial ⟨.inl ⟨_,rfl,.inl ⟨rfl,rfl⟩⟩,.inl ⟨_,rfl,.inl ⟨rfl,rfl⟩⟩,trivial⟩ (fun _=>rfl) (fun _=>rfl) ?_;rintro k ⟨⟩ hk _ _ _ _;exact di [1000,1001] rfl rfl rfl rfl ⟨[],p,by rw[hD];rfl,rfl,rfl⟩
theorem Sf {z:Type}{f:Nat}{d:Int}{a:Dec z}{cs:z->List C}(w:gS f [] [.pt [IC d] 0] a [IC 0,IC 0,IC 0,IC 0,.sl [],.bool false,.sl [],.sl []] cs) (he:ni PZ f) (ac:∀x,zl 8 (cs x)):gS 111 [] [.fn f [] [.pt [IC d] 0]] (dn a) [.sl []] (fun l=>[.sl (l.map cs)]):=by
 intro t pre post bs _ _;refine ak Tryz.func111 uI rfl fun hw ao=>?_;refine⟨.inl ⟨0,rfl,?_⟩⟩;refine⟨rfl,?_⟩;refine⟨165,zP,?_⟩;refine cu [1000] (zO 0 bs) rfl rfl rfl rfl (fun v ⟨e,h⟩=>⟨e,aW h⟩) ?_;rintro v Mo ⟨n,p,e0,rfl,rfl⟩ _ _;refine⟨rfl,?_⟩;have hD:dn a bs=bA a n p:=aq e0;have hn:=ld e0;refine⟨.inl ⟨0,rfl,?_⟩⟩;refine aB (fun hb=>?_) (fun hb=>?_)
 ·refine⟨by omega,abe _,by omega,by simp only[maxLen];omega,?_⟩;refine⟨.inl ⟨0,rfl,?_⟩⟩;refine⟨.inl ⟨0,rfl,?_⟩⟩;have y:∀m:Nat,((List.replicate m [IC 0,IC 0,IC 0,IC 0,.sl [],.bool false,.sl [],.sl []]:List (List C)).length:Int)=m:=fun m=>by simp
  refine bw n 31 [] (([],p):List z×List UInt8) (fun _=>[]) (fun s=>[(25,.row 61 8 (s.1.map cs++List.replicate (n-s.1.length) [IC 0,IC 0,IC 0,IC 0,.sl [],.bool false,.sl [],.sl []])),(1000,RB s.2),(1001,.win t pre [.rw 25] post)])
   (fun k s=>s.1.length=k/\(∀xs r,bA a (n-k) s.2=some (xs,r)->bA a n p=some (s.1++xs,r))/\(bA a (n-k) s.2=none->bA a n p=none))
   ⟨rfl,fun xs r h=>h,fun h=>h⟩ (ah rfl) trivial ⟨.inl ⟨_,rfl,.inl ⟨rfl,rfl⟩⟩,.inl ⟨_,rfl,.inl ⟨rfl,rfl⟩⟩,.inl ⟨_,rfl,.inl ⟨rfl,rfl⟩⟩,trivial⟩ (fun _=>rfl) (fun _=>rfl) ?_
  rintro k ⟨done,b⟩ hk ⟨h1,o,u⟩ _ _ ag;simp only at h1 o u;refine aM (fun c=>?_) (fun j=>?_)
  ·have c:k<n:=by have h:(k:Int)<((List.replicate n [IC 0,IC 0,IC 0,IC 0,.sl [],.bool false,.sl [],.sl []]:List (List C)).length:Int):=c;rw[y] at h;omega
   refine⟨.inl ⟨0,rfl,?_⟩⟩;refine⟨by omega,by simp;omega,?_⟩;refine ow [1000,25] (iy (e:=61) (sz:=8) (ca:=[.pt [IC d] 0]) w he rfl (fun d w=>by
    rcases xC.1 w with rfl | w
    ·exact⟨rfl,rfl⟩
    ·rw[abu.1 w];exact⟨rfl,rfl⟩) ac ⟨rfl,rfl,rfl⟩ h1 c b) rfl rfl rfl rfl (fun v ⟨e,h⟩=>⟨e,?_⟩) ?_
   ·rw[hD];exact u (by rw[show n-k=(n-(k+1))+1 by omega];simp only[bA,h])
   rintro v Mo ⟨x,r,e1,rfl,rfl⟩ _ _;refine⟨rfl,?_⟩;refine Fit.aae (by omega) (by omega) ?_;rw[show n-k=(n-(k+1))+1 by omega] at o u;simp only[bA,e1] at o u;refine⟨(k+1,done++[x],r),⟨by omega,by simp[h1],fun xs r' h=>?_,fun h=>?_⟩,⟨bE,trivial⟩,⟨.inl ⟨_,rfl,.inl ⟨rfl,rfl⟩⟩,.inl ⟨_,rfl,.inl ⟨rfl,rfl⟩⟩,.inl ⟨_,rfl,.inl ⟨rfl,rfl⟩⟩,trivial⟩,bF c⟩
   ·rw[o (x::xs) r' (by simp only[h])];simp
   ·exact u (by simp only[h])
  ·have j:n-k=0:=by
    have h:¬(k:Int)<((List.replicate n [IC 0,IC 0,IC 0,IC 0,.sl [],.bool false,.sl [],.sl []]:List (List C)).length:Int):=j;rw[y] at h;omega
   rw[j] at o;have hf:=o [] b rfl;rw[aaU] at hf;refine rq [25] [1000,1001] ⟨_,_,rfl,rfl,rfl,done,b,by rw[hD];exact hf,?_,rfl⟩;have hl:n-done.length=0:=by omega
   exact j3 (fun q=>[RB b,TO.win t pre [C.sl q] post]) (show done.map cs++List.replicate (n-done.length) [IC 0,IC 0,IC 0,IC 0,.sl [],.bool false,.sl [],.sl []]=done.map cs by rw[hl];simp)
 ·have aa:n=0:=by
   have h:=hb;simp at h;omega
  subst aa;refine⟨.inl ⟨0,rfl,?_⟩⟩;refine bw 0 31 [] () (fun _=>[]) (fun _=>[(1000,RB p),(1001,.win t pre [.sl []] post)]) (fun _ _=>True) trivial (ah rfl) trivial ⟨.inl ⟨_,rfl,.inl ⟨rfl,rfl⟩⟩,.inl ⟨_,rfl,.inl ⟨rfl,rfl⟩⟩,trivial⟩ (fun _=>rfl) (fun _=>rfl) ?_;rintro k ⟨⟩ hk _ _ _ _;exact di [1000,1001] rfl rfl rfl rfl ⟨[],p,by rw[hD];rfl,rfl,rfl⟩
theorem fQ {c:Type}{f:Dec c}:∀{n:Nat}{bs r:List UInt8}{xs:List c},bA f n bs=some (xs,r)->xs.length=n
 | 0,bs,r,xs,h=>by
  simp only[bA,vz,Prod.mk.injEq] at h;rw[<-h.1];rfl
 | n+1,bs,r,xs,h=>by
  simp only[bA] at h;split at h
  ·split at h
   ·rename_i ys e d;injection h with h
    injection h with h _
    rw[<-h,aaV,fQ d]
   ·cases h
  ·cases h
theorem Cm {c:Type}(g:c->C):∀(ns:List c) (a b:List C) (zs:List C),zs.length=ns.length->Cl g (a++(zs++b)) ((List.range ns.length).map fun j=>a.length+j) ns=a++(ns.map g++b)
 | [],a,b,zs,h=>by
  have:zs=[]:=abg (by simpa using h);subst this;rfl
 | n::ns,a,b,z::zs,h=>by
  have e:((List.range (n::ns).length).map fun j=>a.length+j)=a.length::(List.range ns.length).map (fun j=>(a++[g n]).length+j):=by
   rw[aaV,List.range_succ_eq_map,aaS,abF];congr 1;apply abH;intro j _;simp;omega
  rw[e];simp only[Cl];rw[show(a++(z::zs++b)).set a.length (g n)=(a++[g n])++(zs++b) by rw[List.set_append_right _ _ (aa7 _)];simp];rw[Cm g ns (a++[g n]) b zs (by simpa using h)];simp
theorem ints_at (a b:List C) (xs:List Int):∀o∈(List.range xs.length).map (fun j=>a.length+j),∃x,(a++(xs.map IC++b))[o]?=some (IC x):=by
 intro o d;obtain⟨j,c,rfl⟩:=abh.1 d;have c:=List.mem_range.1 c;refine⟨xs[j],?_⟩;rw[aa2 (by omega),show a.length+j-a.length=j by omega,aaW (by simpa using c)];simp[c]
theorem OZ (a b:List C) (xs:List Bool):∀o∈(List.range xs.length).map (fun j=>a.length+j),∃x,(a++(xs.map C.bool++b))[o]?=some (.bool x):=by
 intro o d;obtain⟨j,c,rfl⟩:=abh.1 d;have c:=List.mem_range.1 c;refine⟨xs[j],?_⟩;rw[aa2 (by omega),show a.length+j-a.length=j by omega,aaW (by simpa using c)];simp[c]
theorem AP (xs:List Int):cq (xs.map IC):=fun c d=>by
 obtain⟨x,_,rfl⟩:=abh.1 d;exact .inl rfl
theorem yS (xs:List Bool):cq (xs.map C.bool):=fun c d=>by
 obtain⟨x,_,rfl⟩:=abh.1 d;exact .inl rfl
theorem lf {pre a:List C}{m:Nat}:((List.range m).map fun j=>(pre++a).length+j)=(List.range m).map fun j=>pre.length+(a.length+j):=by
 apply abH;intro j _;simp[Nat.add_assoc]
section
variable {t:Nat}{pre post a b:List C}{bs:List UInt8}
theorem wk (xs:List Int) (f:cq pre) (d:cq post) (l:cq a) (hb:cq b) :
  CallsTX PZ 85 [.ifo none 86 1000 0,.slo 1001 ((List.range xs.length).map fun j=>pre.length+(a.length+j))] [RB bs,.win t pre (a++(xs.map IC++b)) post]
   (fun Mo c=>∃ns r,bA gk xs.length bs=some (ns,r)/\Mo=[RB r,.win t pre (a++(ns.map IC++b)) post]/\c=.tup []) (fun v=>v=fG/\bA gk xs.length bs=none):=by
 have p:cq ([]:List C):=fun c s=>by cases s
 have h:=Xu t (pre++(a++(xs.map IC++b))++post) ((List.range xs.length).map fun j=>(pre++a).length+j) bs ((f.append (l.append ((AP xs).append hb))).append d) (fun o q=>by
  have:=ints_at (pre++a) (b++post) xs o q;simpa using this)
 rw[lf] at h;refine h.view (vw.same (vw.cons (nW (by simp) (f.append (l.append ((AP xs).append hb)) |>.append d) p) (vw.refl []))) ?_ (fun v h=>by simpa using h);rintro Mo c ⟨ns,r,e,rfl,rfl⟩;rw[aa3,List.length_range] at e;have m:=fQ e;have k:=Cm IC ns (pre++a) (b++post) (xs.map IC) (by simp[m]);rw[m,lf] at k;refine⟨_,vw.same (vw.cons (nW (pre':=pre) (cs':=a++(ns.map IC++b)) (post':=post) ?_ f d) (vw.refl [])),ns,r,e,rfl,rfl⟩;have n:pre++(a++(xs.map IC++b))++post=pre++a++(xs.map IC++(b++post)):=by simp
 rw[n,k];simp
theorem GD (xs:List Bool) (f:cq pre) (d:cq post) (l:cq a) (hb:cq b) :
  CallsTX PZ 103 [.ifo none 86 1000 0,.slo 1001 ((List.range xs.length).map fun j=>pre.length+(a.length+j))] [RB bs,.win t pre (a++(xs.map C.bool++b)) post]
   (fun Mo c=>∃ns r,bA oz xs.length bs=some (ns,r)/\Mo=[RB r,.win t pre (a++(ns.map C.bool++b)) post]/\c=.tup []) (fun v=>v=fG/\bA oz xs.length bs=none):=by
 have p:cq ([]:List C):=fun c s=>by cases s
 have h:=Uh t (pre++(a++(xs.map C.bool++b))++post) ((List.range xs.length).map fun j=>(pre++a).length+j) bs ((f.append (l.append ((yS xs).append hb))).append d) (fun o q=>by
  have:=OZ (pre++a) (b++post) xs o q;simpa using this)
 rw[lf] at h;refine h.view (vw.same (vw.cons (nW (by simp) (f.append (l.append ((yS xs).append hb)) |>.append d) p) (vw.refl []))) ?_ (fun v h=>by simpa using h);rintro Mo c ⟨ns,r,e,rfl,rfl⟩;rw[aa3,List.length_range] at e;have m:=fQ e;have k:=Cm C.bool ns (pre++a) (b++post) (xs.map C.bool) (by simp[m]);rw[m,lf] at k;refine⟨_,vw.same (vw.cons (nW (pre':=pre) (cs':=a++(ns.map C.bool++b)) (post':=post) ?_ f d) (vw.refl [])),ns,r,e,rfl,rfl⟩;have n:pre++(a++(xs.map C.bool++b))++post=pre++a++(xs.map C.bool++(b++post)):=by simp
 rw[n,k];simp
theorem gS.at {m:Type}{f:Nat}{fi ca:List C}{d:Dec m}{z:List C}{cs:m->List C}(n:gS f fi ca d z cs) (k:cq pre) (j:cq post) (l:cq a) (hb:cq b) :
  CallsTX PZ f (fi++.ifo none 86 1000 0::.own 1001 (pre.length+a.length)::ca) [RB bs,.win t pre (a++(z++b)) post]
   (fun Mo c=>∃x r,d bs=some (x,r)/\Mo=[RB r,.win t pre (a++(cs x++b)) post]/\c=.tup []) (fun v=>v=fG/\d bs=none):=by
 have h:=n t (pre++a) (b++post) bs (k.append l) (hb.append j);rw[yo] at h;refine h.view (vw.same (vw.cons (nW (by simp) (k.append l) (hb.append j)) (vw.refl []))) ?_ fun _ h=>h;rintro Mo c ⟨x,r,e,rfl,rfl⟩;exact⟨_,vw.same (vw.cons (nW (by simp) k j) (vw.refl [])),x,r,e,rfl,rfl⟩
end
theorem yT {c:Type}{l:List c}(h:l.length=1):∃a,l=[a]:=by
 match l,h with | [a],_=>exact⟨a,rfl⟩
theorem Fm {c:Type}{l:List c}(h:l.length=2):∃a b,l=[a,b]:=by
 match l,h with | [a,b],_=>exact⟨a,b,rfl⟩
theorem yU {d:Type}{l:List d}(h:l.length=3):∃a b c,l=[a,b,c]:=by
 match l,h with | [a,b,c],_=>exact⟨a,b,c,rfl⟩
theorem O0 {e:Type}{l:List e}(h:l.length=4):∃a b c d,l=[a,b,c,d]:=by
 match l,h with | [a,b,c,d],_=>exact⟨a,b,c,d,rfl⟩
theorem O1 {f:Type}{l:List f}(h:l.length=5):∃a b c d e,l=[a,b,c,d,e]:=by
 match l,h with | [a,b,c,d,e],_=>exact⟨a,b,c,d,e,rfl⟩
theorem ef:cq ([]:List C):=fun c a=>by cases a
theorem Um:gS 110 [] [] gk [IC 0] (fun n=>[IC n]):=by
 intro t pre post bs a b;refine ak Tryz.func110 DN rfl fun d c=>?_;refine⟨164,Se,?_⟩;refine bW [1000,1001] (Sd t pre post 0 bs a b) rfl rfl rfl rfl (fun v h=>h) ?_;rintro v Mo ⟨n,r,e,rfl,rfl⟩ _ _;refine⟨rfl,?_⟩;exact di [1000,1001] rfl rfl rfl rfl ⟨n,r,e,rfl,rfl⟩
theorem XA:gS 78 [] [] TP [.bool false] Ip:=by
 intro t pre post bs j c;have hb:=GD (t:=t) (bs:=bs) (a:=[]) (b:=[]) [false] j c ef ef;refine ak Tryz.func78 Gh rfl fun k f=>?_;refine bW [1000,1001] hb rfl rfl rfl rfl (fun v ⟨e,h⟩=>⟨e,aW h⟩) ?_;rintro v Mo ⟨ns,r,e,rfl,rfl⟩ _ _;refine rj (yT (fQ e)) fun n d=>?_;cases d;refine⟨rfl,?_⟩;exact di [1000,1001] rfl rfl rfl rfl ⟨n,r,aq e,rfl,rfl⟩
theorem Le (d:Int):CallsT PZ 134 [IC d] [] (iQ [] (.fn 146 [] [.pt [IC d] 0])):=by
 refine au Tryz.func134 KD rfl fun a _=>?_;exact bK rfl rfl
theorem ent (f:Nat) {fn:Func}(h:PZ.funcs[f]?=some fn) (h2:fn.body.isSome=true) (h3:(fn.name == "runtime.NumGoroutine")=false):ni PZ f:=⟨fn,h,h2,h3⟩
theorem GF (x:Vl):zl 8 (oH x):=by
 cases x;exact⟨rfl,rfl,rfl⟩
def zV:List C:=[IC 0,IC 0,IC 0,IC 0,.sl [],.bool false,.sl [],.sl []]
theorem O2 (n:Int):zl 1 [IC n]:=⟨rfl,rfl,rfl⟩
theorem wW:gS 109 [] [.fn 110 [] []] (dn gk) [.sl []] (fun l=>[.sl (tM l)]):=Ui Um (ent 110 Tryz.func110 rfl rfl) O2
theorem Qi:∀d:Nat,(d:Int)<=60->gS 146 [] [.pt [IC d] 0] (Fc d) zV oH
 | 0,hd=>by
  intro t pre post bs r o;refine ak Tryz.func146 uJ rfl fun hw w=>?_;refine vM (uY false) rfl (fun h=>⟨rfl,rfl⟩) fun h=>by cases h
 | d+1,hd=>by
  intro t pre post bs r o;have ih:=Qi d (by omega);have hl:=Sf ih (ent 146 Tryz.func146 rfl rfl) GF;have hn:=wk (t:=t) (bs:=bs) (a:=[]) (b:=[.sl [],.bool false,.sl [],.sl []]) [0,0,0,0] r o ef (aR rfl);refine ak Tryz.func146 uJ rfl fun hw w=>?_;refine aM (fun z=>?_) (fun z=>o4 (show(0:Int)<((d+1:Nat):Int) by omega) z);refine vM (uY true) rfl (fun h=>by cases h) fun _=>?_;refine cu [1000,1001] hn rfl rfl rfl rfl (fun v ⟨e,h⟩=>⟨e,by simp only[Fc];exact aW h⟩) ?_;rintro v Mo ⟨ns,r1,f,rfl,rfl⟩ _ _;refine rj (O0 (fQ f)) fun k c=>rj c fun i c=>rj c fun j c=>rj c fun n c=>?_;cases c;have f:bA gk 4 bs=some ([k,i,j,n],r1):=f;refine⟨rfl,?_⟩;refine Fit.to (m:=(d:Int)) (by rw[show((d+1:Nat):Int)-1=(d:Int) by omega];exact bT (by omega) (by omega)) ?_;refine jy (Le d) rfl fun _=>?_;refine cu [1000,1001] (hl.at (t:=t) (bs:=r1) (a:=[IC k,IC i,IC j,IC n]) (b:=[.bool false,.sl [],.sl []]) r o (aR rfl) (aR rfl)) rfl rfl rfl rfl (fun v ⟨e,h⟩=>⟨e,by simp only[Fc];rw[aq f,aW h]⟩) ?_;rintro v Mo ⟨fs,r2,u,rfl,rfl⟩ _ _;refine⟨rfl,?_⟩;refine bW [1000,1001] (GD (t:=t) (bs:=r2) (a:=[IC k,IC i,IC j,IC n,.sl (fs.map oH)]) (b:=[.sl [],.sl []]) [false] r o (aR rfl) (aR rfl)) rfl rfl rfl rfl (fun v ⟨e,h⟩=>⟨e,by simp only[Fc];rw[aq f,aq u];exact aW h⟩) ?_;rintro v Mo ⟨ns,y,s,rfl,rfl⟩ _ _;refine rj (yT (fQ s)) fun ex c=>?_;cases c;have s:bA oz 1 r2=some ([ex],y):=s;refine⟨rfl,?_⟩;refine bW [1000,1001] (wW.at (t:=t) (bs:=y) (a:=[IC k,IC i,IC j,IC n,.sl (fs.map oH),.bool ex]) (b:=[.sl []]) r o (aR rfl) (aR rfl)) rfl rfl rfl rfl (fun v ⟨e,h⟩=>⟨e,by simp only[Fc];rw[aq f,aq u,aq s,aW h]⟩) ?_;rintro v Mo ⟨p,r4,x,rfl,rfl⟩ _ _;refine⟨rfl,?_⟩;refine bW [1000,1001] (wW.at (t:=t) (bs:=r4) (a:=[IC k,IC i,IC j,IC n,.sl (fs.map oH),.bool ex,.sl (tM p)]) (b:=[]) r o (aR rfl) (aR rfl)) rfl rfl rfl rfl (fun v ⟨e,h⟩=>⟨e,by simp only[Fc];rw[aq f,aq u,aq s,aq x,aW h]⟩) ?_;rintro v Mo ⟨l,r5,e5,rfl,rfl⟩ _ _;refine⟨rfl,?_⟩;refine di [1000,1001] rfl rfl rfl rfl ⟨.mk k i j n fs ex p l,r5,by simp only[Fc];rw[aq f,aq u,aq s,aq x,aq e5];rfl,?_,rfl⟩;exact j3 (fun q=>[RB r5,TO.win t pre [IC k,IC i,IC j,IC n,.sl q,.bool ex,.sl (tM p),.sl (tM l)] post]) (rp fs).symm
theorem Qj:gS 104 [] [] Gu zV oH:=by
 intro t pre post bs a c;have h:=Qi 60 (by omega) t pre post bs a c;refine ak Tryz.func104 DH rfl fun d b=>?_;refine bY (Le 60) rfl fun _=>?_;refine bW [1000,1001] h rfl rfl rfl rfl (fun v h=>h) ?_;rintro v Mo ⟨x,r,e,rfl,rfl⟩ _ _;cases x;refine⟨rfl,?_⟩;exact di [1000,1001] rfl rfl rfl rfl ⟨_,r,e,rfl,rfl⟩
theorem Un:gS 82 [] [] TM [.sl []] IV:=by
 intro t pre post bs a c;have h:=Ul Qj (ent 104 Tryz.func104 rfl rfl) GF t pre post bs a c;refine ak Tryz.func82 Gl rfl fun d b=>?_;refine bW [1000,1001] h rfl rfl rfl rfl (fun v h=>h) ?_;rintro v Mo ⟨x,r,e,rfl,rfl⟩ _ _;refine⟨rfl,?_⟩;exact di [1000,1001] rfl rfl rfl rfl ⟨x,r,e,rfl,rfl⟩
theorem XB:gS 76 [] [] P9 (.bool false::IC 0::zV) zk:=by
 intro t pre post bs l f;refine ak Tryz.func76 Gf rfl fun q o=>?_;refine bW [1000,1001] (GD (t:=t) (bs:=bs) (a:=[]) (b:=IC 0::zV) [false] l f ef (aR rfl)) rfl rfl rfl rfl (fun v ⟨e,h⟩=>⟨e,aW h⟩) ?_;rintro v Mo ⟨ns,k,c,rfl,rfl⟩ _ _;refine rj (yT (fQ c)) fun b j=>?_;cases j;have c:bA oz 1 bs=some ([b],k):=c;refine⟨rfl,?_⟩;refine bW [1000,1001] (wk (t:=t) (bs:=k) (a:=[.bool b]) (b:=zV) [0] l f (aR rfl) (aR rfl)) rfl rfl rfl rfl (fun v ⟨e,h⟩=>⟨e,by unfold P9;rw[aq c];exact aW h⟩) ?_;rintro v Mo ⟨ns,m,d,rfl,rfl⟩ _ _;refine rj (yT (fQ d)) fun a j=>?_;cases j;have d:bA gk 1 k=some ([a],m):=d;refine⟨rfl,?_⟩;refine bW [1000,1001] (Qj.at (t:=t) (bs:=m) (a:=[.bool b,IC a]) (b:=[]) l f (aR rfl) ef) rfl rfl rfl rfl (fun v ⟨e,h⟩=>⟨e,by unfold P9;rw[aq c,aq d,aW h]⟩) ?_;rintro v Mo ⟨x,n,p,rfl,rfl⟩ _ _;cases x;refine⟨rfl,?_⟩;exact di [1000,1001] rfl rfl rfl rfl ⟨⟨b,a,.mk _ _ _ _ _ _ _ _⟩,n,by unfold P9;rw[aq c,aq d,aq p];rfl,rfl,rfl⟩
theorem Uo:gS 106 [] [] Qa [IC 0,IC 0,IC 0,IC 0,IC 0,.sl [],.sl []] Ep:=by
 intro t pre post bs p o;refine ak Tryz.func106 DJ rfl fun z x=>?_;refine cu [1000,1001] (wk (t:=t) (bs:=bs) (a:=[]) (b:=[.sl [],.sl []]) [0,0,0,0,0] p o ef (aR rfl)) rfl rfl rfl rfl (fun v ⟨e,h⟩=>⟨e,aW h⟩) ?_;rintro v Mo ⟨ns,r,d,rfl,rfl⟩ _ _;refine rj (O1 (fQ d)) fun j c=>rj c fun k c=>rj c fun n c=>rj c fun f c=>rj c fun m c=>?_;cases c;have d:bA gk 5 bs=some ([j,k,n,f,m],r):=d;refine⟨rfl,?_⟩;refine bW [1000,1001] (Un.at (t:=t) (bs:=r) (a:=[IC j,IC k,IC n,IC f,IC m]) (b:=[.sl []]) p o (aR rfl) (aR rfl)) rfl rfl rfl rfl (fun v ⟨e,h⟩=>⟨e,by unfold Qa;rw[aq d,aW h]⟩) ?_;rintro v Mo ⟨s,w,q,rfl,rfl⟩ _ _;refine⟨rfl,?_⟩;refine bW [1000,1001] (wW.at (t:=t) (bs:=w) (a:=[IC j,IC k,IC n,IC f,IC m,.sl (s.map oH)]) (b:=[]) p o (aR rfl) ef) rfl rfl rfl rfl (fun v ⟨e,h⟩=>⟨e,by unfold Qa;rw[aq d,aq q,aW h]⟩) ?_;rintro v Mo ⟨l,u,y,rfl,rfl⟩ _ _;refine⟨rfl,?_⟩;exact di [1000,1001] rfl rfl rfl rfl ⟨⟨j,k,n,f,m,s,l⟩,u,by unfold Qa;rw[aq d,aq q,aq y];rfl,rfl,rfl⟩
theorem Uq:gS 108 [] [] R8 [IC 0,IC 0,.bool false,.bool false,.bool false] K3:=by
 intro t pre post bs p m;refine ak Tryz.func108 DL rfl fun u s=>?_;refine cu [1000,1001] (wk (t:=t) (bs:=bs) (a:=[]) (b:=[.bool false,.bool false,.bool false]) [0,0] p m ef (aR rfl)) rfl rfl rfl rfl (fun v ⟨e,h⟩=>⟨e,aW h⟩) ?_;rintro v Mo ⟨ns,l,d,rfl,rfl⟩ _ _;refine rj (Fm (fQ d)) fun j c=>rj c fun k c=>?_;cases c;have d:bA gk 2 bs=some ([j,k],l):=d;refine⟨rfl,?_⟩;refine cu [1000,1001] (GD (t:=t) (bs:=l) (a:=[IC j,IC k]) (b:=[]) [false,false,false] p m (aR rfl) ef) rfl rfl rfl rfl (fun v ⟨e,h⟩=>⟨e,by unfold R8;rw[aq d];exact aW h⟩) ?_;rintro v Mo ⟨ns,n,f,rfl,rfl⟩ _ _;refine rj (yU (fQ f)) fun q c=>rj c fun r c=>rj c fun o c=>?_;cases c;have f:bA oz 3 l=some ([q,r,o],n):=f;refine⟨rfl,?_⟩;exact di [1000,1001] rfl rfl rfl rfl ⟨⟨j,k,q,r,o⟩,n,by unfold R8;rw[aq d,aq f];rfl,rfl,rfl⟩
theorem O3 (x:Ac):zl 7 (Ep x):=⟨rfl,rfl,rfl⟩
theorem O4 (x:Ln):zl 5 (K3 x):=⟨rfl,rfl,rfl⟩
theorem O5 (x:Tk):zl 7 (CC x):=⟨rfl,rfl,rfl⟩
theorem O6 (x:Ou):zl 2 (OO x):=⟨rfl,rfl,rfl⟩
theorem O7 (x:Bool):zl 1 (Ip x):=⟨rfl,rfl,rfl⟩
theorem O8 (x:List Vl):zl 1 (IV x):=⟨rfl,rfl,rfl⟩
theorem O9 (x:Ce):zl 10 (zk x):=by
 obtain⟨a,b,v⟩:=x;cases v;exact⟨rfl,rfl,rfl⟩
theorem Sg:gS 105 [] [.fn 106 [] []] (dn Qa) [.sl []] (fun l=>[.sl (l.map Ep)]):=Uj Uo (ent 106 Tryz.func106 rfl rfl) O3
theorem Sh:gS 107 [] [.fn 108 [] []] (dn R8) [.sl []] (fun l=>[.sl (l.map K3)]):=Uk Uq (ent 108 Tryz.func108 rfl rfl) O4
theorem XC:gS 80 [] [] Mp [IC 0,.sl [],.sl [],IC 0,IC 0,IC 0,.sl []] CC:=by
 intro t pre post bs p m;refine ak Tryz.func80 Gj rfl fun hw aa=>?_;refine bW [1000,1001] (wk (t:=t) (bs:=bs) (a:=[]) (b:=[.sl [],.sl [],IC 0,IC 0,IC 0,.sl []]) [0] p m ef (aR rfl)) rfl rfl rfl rfl (fun v ⟨e,h⟩=>⟨e,aW h⟩) ?_;rintro v Mo ⟨ns,x,j,rfl,rfl⟩ _ _;refine rj (yT (fQ j)) fun s k=>?_;cases k;have j:bA gk 1 bs=some ([s],x):=j;refine⟨rfl,?_⟩;refine bW [1000,1001] (Sg.at (t:=t) (bs:=x) (a:=[IC s]) (b:=[.sl [],IC 0,IC 0,IC 0,.sl []]) p m (aR rfl) (aR rfl)) rfl rfl rfl rfl (fun v ⟨e,h⟩=>⟨e,by unfold Mp;rw[aq j,aW h]⟩) ?_;rintro v Mo ⟨f,z,q,rfl,rfl⟩ _ _;refine⟨rfl,?_⟩;refine bW [1000,1001] (Sh.at (t:=t) (bs:=z) (a:=[IC s,.sl (f.map Ep)]) (b:=[IC 0,IC 0,IC 0,.sl []]) p m (aR rfl) (aR rfl)) rfl rfl rfl rfl (fun v ⟨e,h⟩=>⟨e,by unfold Mp;rw[aq j,aq q,aW h]⟩) ?_;rintro v Mo ⟨l,w,r,rfl,rfl⟩ _ _;refine⟨rfl,?_⟩;refine cu [1000,1001] (wk (t:=t) (bs:=w) (a:=[IC s,.sl (f.map Ep),.sl (l.map K3)]) (b:=[.sl []]) [0,0,0] p m (aR rfl) (aR rfl)) rfl rfl rfl rfl (fun v ⟨e,h⟩=>⟨e,by unfold Mp;rw[aq j,aq q,aq r];exact aW h⟩) ?_;rintro v Mo ⟨ns,u,o,rfl,rfl⟩ _ _;refine rj (yU (fQ o)) fun a k=>rj k fun c k=>rj k fun n k=>?_;cases k;have o:bA gk 3 w=some ([a,c,n],u):=o;refine⟨rfl,?_⟩;refine bW [1000,1001] (wW.at (t:=t) (bs:=u) (a:=[IC s,.sl (f.map Ep),.sl (l.map K3),IC a,IC c,IC n]) (b:=[]) p m (aR rfl) ef) rfl rfl rfl rfl (fun v ⟨e,h⟩=>⟨e,by unfold Mp;rw[aq j,aq q,aq r,aq o,aW h]⟩) ?_;rintro v Mo ⟨d,r5,y,rfl,rfl⟩ _ _;refine⟨rfl,?_⟩;exact di [1000,1001] rfl rfl rfl rfl ⟨⟨s,f,l,a,c,n,d⟩,r5,by unfold Mp;rw[aq j,aq q,aq r,aq o,aq y];rfl,rfl,rfl⟩
theorem XD:gS 84 [] [] TN [IC 0,IC 0] OO:=by
 intro t pre post bs n l;refine ak Tryz.func84 Gn rfl fun o m=>?_;refine cu [1000,1001] (wk (t:=t) (bs:=bs) (a:=[]) (b:=[]) [0,0] n l ef ef) rfl rfl rfl rfl (fun v ⟨e,h⟩=>⟨e,aW h⟩) ?_;rintro v Mo ⟨ns,k,c,rfl,rfl⟩ _ _;refine rj (Fm (fQ c)) fun f d=>rj d fun j d=>?_;cases d;have c:bA gk 2 bs=some ([f,j],k):=c;refine⟨rfl,?_⟩;exact di [1000,1001] rfl rfl rfl rfl ⟨⟨f,j⟩,k,aq c,rfl,rfl⟩
theorem Si:gS 75 [] [.fn 76 [] []] (dn P9) [.sl []] (fun l=>[.sl (l.map zk)]):=Xw XB (ent 76 Tryz.func76 rfl rfl) O9
theorem Sj:gS 77 [] [.fn 78 [] []] (dn TP) [.sl []] (fun l=>[.sl (l.map Ip)]):=Xv XA (ent 78 Tryz.func78 rfl rfl) O7
theorem Sk:gS 79 [] [.fn 80 [] []] (dn Mp) [.sl []] (fun l=>[.sl (l.map CC)]):=Xx XC (ent 80 Tryz.func80 rfl rfl) O5
theorem Sn:gS 81 [] [.fn 82 [] []] (dn TM) [.sl []] (fun l=>[.sl (l.map IV)]):=Xy Un (ent 82 Tryz.func82 rfl rfl) O8
theorem Sq:gS 83 [] [.fn 84 [] []] (dn TN) [.sl []] (fun l=>[.sl (l.map OO)]):=Xz XD (ent 84 Tryz.func84 rfl rfl) O6
theorem XE (t:Nat) (d j:List (List C)) (f:Int) (bs:List UInt8):CallsTX PZ 35 [.ifo none 86 1000 0,.own 1001 0] [RB bs,.box t [.sl d,.sl j,IC f,.sl [],.sl [],.sl [],.sl [],.sl [],IC 0,IC 0,IC 0]]
  (fun Mo c=>∃x r,DU bs=some (x,r)/\Mo=[RB r,.box t (.sl d::.sl j::IC f::R7 x)]/\c=.tup []) (fun v=>v=fG/\DU bs=none):=by
 refine CallsTX.view (Lin:=[RB bs,.win t [] ([.sl d,.sl j,IC f]++[.sl [],.sl [],.sl [],.sl [],.sl [],IC 0,IC 0,IC 0]) []])
  (R:=fun Mo c=>∃x r,DU bs=some (x,r)/\Mo=[RB r,.win t [] ([.sl d,.sl j,IC f]++R7 x) []]/\c=.tup []) (Pp:=fun v=>v=fG/\DU bs=none) ?_
  (vw.same (vw.cons (wV rfl ef ef) (vw.refl []))) (fun Mo c ⟨x,r,e,q1,q2⟩=>⟨_,by rw[q1];exact vw.same (vw.cons (Ch (by simp)) (vw.refl [])),x,r,e,rfl,q2⟩) fun _ h=>h
 refine ak Tryz.func35 Gb rfl fun hw al=>?_;refine bW [1000,1001] (Si.at (t:=t) (bs:=bs) (pre:=[]) (post:=[]) (a:=[.sl d,.sl j,IC f]) (b:=[.sl [],.sl [],.sl [],.sl [],IC 0,IC 0,IC 0]) ef ef (aR rfl) (aR rfl)) rfl rfl rfl rfl (fun v ⟨e,h⟩=>⟨e,aW h⟩) ?_;rintro v Mo ⟨k,r1,l,rfl,rfl⟩ _ _;refine⟨rfl,?_⟩;refine bW [1000,1001] (Sj.at (t:=t) (bs:=r1) (pre:=[]) (post:=[]) (a:=[.sl d,.sl j,IC f,.sl (k.map zk)]) (b:=[.sl [],.sl [],.sl [],IC 0,IC 0,IC 0]) ef ef (aR rfl) (aR rfl)) rfl rfl rfl rfl (fun v ⟨e,h⟩=>⟨e,by unfold DU;rw[aq l,aW h]⟩) ?_;rintro v Mo ⟨o,r2,m,rfl,rfl⟩ _ _;refine⟨rfl,?_⟩;refine bW [1000,1001] (Sk.at (t:=t) (bs:=r2) (pre:=[]) (post:=[]) (a:=[.sl d,.sl j,IC f,.sl (k.map zk),.sl (o.map Ip)]) (b:=[.sl [],.sl [],IC 0,IC 0,IC 0]) ef ef (aR rfl) (aR rfl)) rfl rfl rfl rfl (fun v ⟨e,h⟩=>⟨e,by unfold DU;rw[aq l,aq m,aW h]⟩) ?_;rintro v Mo ⟨q,r3,u,rfl,rfl⟩ _ _;refine⟨rfl,?_⟩;refine bW [1000,1001] (Sn.at (t:=t) (bs:=r3) (pre:=[]) (post:=[]) (a:=[.sl d,.sl j,IC f,.sl (k.map zk),.sl (o.map Ip),.sl (q.map CC)]) (b:=[.sl [],IC 0,IC 0,IC 0]) ef ef (aR rfl) (aR rfl)) rfl rfl rfl rfl (fun v ⟨e,h⟩=>⟨e,by unfold DU;rw[aq l,aq m,aq u,aW h]⟩) ?_;rintro v Mo ⟨y,r4,w,rfl,rfl⟩ _ _;refine⟨rfl,?_⟩;refine bW [1000,1001] (Sq.at (t:=t) (bs:=r4) (pre:=[]) (post:=[]) (a:=[.sl d,.sl j,IC f,.sl (k.map zk),.sl (o.map Ip),.sl (q.map CC),.sl (y.map IV)]) (b:=[IC 0,IC 0,IC 0]) ef ef (aR rfl) (aR rfl)) rfl rfl rfl rfl (fun v ⟨e,h⟩=>⟨e,by unfold DU;rw[aq l,aq m,aq u,aq w,aW h]⟩) ?_;rintro v Mo ⟨x5,r5,e5,rfl,rfl⟩ _ _;refine⟨rfl,?_⟩;refine cu [1000,1001] (wk (t:=t) (bs:=r5) (pre:=[]) (post:=[]) (a:=[.sl d,.sl j,IC f,.sl (k.map zk),.sl (o.map Ip),.sl (q.map CC),.sl (y.map IV),.sl (x5.map OO)]) (b:=[]) [0,0,0] ef ef (aR rfl) ef) rfl rfl rfl rfl (fun v ⟨e,h⟩=>⟨e,by unfold DU;rw[aq l,aq m,aq u,aq w,aq e5];exact aW h⟩) ?_;rintro v Mo ⟨ns,z,s,rfl,rfl⟩ _ _;refine rj (yU (fQ s)) fun a p=>rj p fun c p=>rj p fun n p=>?_;cases p;have s:bA gk 3 r5=some ([a,c,n],z):=s;refine⟨rfl,?_⟩;exact di [1000,1001] rfl rfl rfl rfl ⟨⟨k,o,q,y,x5,a,c,n⟩,z,by unfold DU;rw[aq l,aq m,aq u,aq w,aq e5,aq s];rfl,rfl,rfl⟩
end Go.Fr.Tryz
