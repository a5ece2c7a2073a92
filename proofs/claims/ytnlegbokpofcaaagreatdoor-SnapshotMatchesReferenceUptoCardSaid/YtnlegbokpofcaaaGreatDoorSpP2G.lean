/- Part of the proofs of the statements of this seat. -/
import Derived.Test.YtnlegbokpofcaaaGreatDoorSpW3G
import Derived.Test.YtnlegbokpofcaaaGreatDoorSpW1G
import Derived.Test.YtnlegbokpofcaaaGreatDoorFW3
import Derived.Test.YtnlegbokpofcaaaGreatDoorFW2
set_option maxRecDepth 10000
set_option linter.unusedVariables false
set_option linter.unusedSimpArgs false
namespace Go.Fr.Tryz
open Go Go.RowKit Go.Proofs Go.Fr Go.Fr.T Go.Fr.Api
theorem Xi {k:Kd}(hk:uO k) {y:Type}{f:Nat}{enc:y->Enc}{cs:y->List C}(l:List y) (hl:∀x,T.eI (cs x) 1=true) (hf:∀x∈l,gj k f (.ifo none k.t 1000 0::.pt (cs x) 0::[]) (enc x)) :
  gj k 109 [.ifo none k.t 1000 0,.pt [.sl (l.map cs)] 0,.fn f [] []] (bI k enc l):=by
 intro bs hb;obtain⟨fs,z,q⟩:=hk.siz;have hE:bI k enc l=br (k.siz (l.map cs).length) (aL enc l):=by unfold bI;rw[ac1]
 rw[hE] at hb ⊢;have w:bs.length+(k.siz (l.map cs).length).1.length<=70368744177664:=by
  simp only[br,yo] at hb;omega
 refine aC Tryz.func109 Fb rfl fun hw ho=>?_;have r:(l.map cs).length<=9223372036854775807:=by have h:=hw.2.1.1.1;simp only[maxLen] at h;exact h
 refine⟨hk.mks,?_⟩;refine⟨fs,z,?_⟩;refine cS [1000,1001] (q (l.map cs).length bs w) rfl rfl rfl rfl (fun v ⟨e,h⟩=>⟨e,by show(_&&_)=false;rw[h];rfl⟩) ?_;rintro v Mo ⟨e0,rfl,rfl⟩ _ _;refine⟨rfl,?_⟩;refine aj (fun h=>?_) (fun _=>?_)
 ·simp at h
 have d:(bs++(k.siz (l.map cs).length).1).length+(aL enc l).1.length<=70368744177664:=by
  simp only[br,yo] at hb ⊢;omega
 generalize o:bs++(k.siz (l.map cs).length).1=b1 at d;have j:((l.map cs).length:Int)=l.length:=by simp
 refine aP l.length 31 [] b1 (fun _=>[]) (fun s=>GW k.tb s) (fun i s=>∃p,s=b1++p/\aL enc l=br (p,true) (aL enc (l.drop i))) ⟨[],by simp,by simp[br]⟩ (af rfl) trivial
  ⟨bJ,bJ,trivial⟩ ?_
 rintro i s hi ⟨p,u,b⟩ _ _ _;refine aF (fun a=>?_) (fun c=>?_)
 ·have a:i<l.length:=by
   have h:(i:Int)<((l.map cs).length:Int):=a;rw[j] at h;omega
  refine eZ a fun x hx n hd=>?_;obtain⟨g1,g2,g3⟩:=j4 hd u b d;refine bK hx rfl (hl x) ?_;refine cH [1000,1001] (hf x n s g1) rfl rfl rfl rfl (fun v ⟨e,h⟩=>⟨e,by show(_&&_)=false;rw[g2 h,adu]⟩) ?_;rintro v Mo ⟨m,rfl,rfl⟩ _ _;refine⟨rfl,?_⟩;refine Fit.abU (by omega) (by rw[ac1] at r;omega) ?_;exact⟨(i+1,s++(enc x).1),⟨by omega,p++(enc x).1,by rw[u,acM],g3 m⟩,⟨aR,trivial⟩,⟨bJ,bJ,trivial⟩,aS a⟩
 ·have c:¬i<l.length:=by
   have h:¬(i:Int)<((l.map cs).length:Int):=c;rw[j] at h;omega
  obtain⟨m,e2⟩:=nj (gM c) u b;exact cD [1000,1001] rfl rfl rfl rfl ⟨by show(_&&_)=true;rw[e0,m];rfl,j3 (WB k.tb) (by rw[e2,<-o];show _=bs++(_++_);rw[acM]),rfl⟩
theorem aaX {k:Kd}(hk:uO k) {y:Type}{f:Nat}{enc:y->Enc}{cs:y->List C}(l:List y) (hl:∀x,T.eI (cs x) 1=true) (hf:∀x∈l,gj k f (.ifo none k.t 1000 0::.pt (cs x) 0::[]) (enc x)) :
  gj k 77 [.ifo none k.t 1000 0,.pt [.sl (l.map cs)] 0,.fn f [] []] (bI k enc l):=by
 intro bs hb;obtain⟨fs,z,q⟩:=hk.siz;have hE:bI k enc l=br (k.siz (l.map cs).length) (aL enc l):=by unfold bI;rw[ac1]
 rw[hE] at hb ⊢;have w:bs.length+(k.siz (l.map cs).length).1.length<=70368744177664:=by
  simp only[br,yo] at hb;omega
 refine aC Tryz.func77 Ic rfl fun hw ho=>?_;have r:(l.map cs).length<=9223372036854775807:=by have h:=hw.2.1.1.1;simp only[maxLen] at h;exact h
 refine⟨hk.mks,?_⟩;refine⟨fs,z,?_⟩;refine cS [1000,1001] (q (l.map cs).length bs w) rfl rfl rfl rfl (fun v ⟨e,h⟩=>⟨e,by show(_&&_)=false;rw[h];rfl⟩) ?_;rintro v Mo ⟨e0,rfl,rfl⟩ _ _;refine⟨rfl,?_⟩;refine aj (fun h=>?_) (fun _=>?_)
 ·simp at h
 have d:(bs++(k.siz (l.map cs).length).1).length+(aL enc l).1.length<=70368744177664:=by
  simp only[br,yo] at hb ⊢;omega
 generalize o:bs++(k.siz (l.map cs).length).1=b1 at d;have j:((l.map cs).length:Int)=l.length:=by simp
 refine aP l.length 31 [] b1 (fun _=>[]) (fun s=>GW k.tb s) (fun i s=>∃p,s=b1++p/\aL enc l=br (p,true) (aL enc (l.drop i))) ⟨[],by simp,by simp[br]⟩ (af rfl) trivial
  ⟨bJ,bJ,trivial⟩ ?_
 rintro i s hi ⟨p,u,b⟩ _ _ _;refine aF (fun a=>?_) (fun c=>?_)
 ·have a:i<l.length:=by
   have h:(i:Int)<((l.map cs).length:Int):=a;rw[j] at h;omega
  refine eZ a fun x hx n hd=>?_;obtain⟨g1,g2,g3⟩:=j4 hd u b d;refine bK hx rfl (hl x) ?_;refine cH [1000,1001] (hf x n s g1) rfl rfl rfl rfl (fun v ⟨e,h⟩=>⟨e,by show(_&&_)=false;rw[g2 h,adu]⟩) ?_;rintro v Mo ⟨m,rfl,rfl⟩ _ _;refine⟨rfl,?_⟩;refine Fit.abU (by omega) (by rw[ac1] at r;omega) ?_;exact⟨(i+1,s++(enc x).1),⟨by omega,p++(enc x).1,by rw[u,acM],g3 m⟩,⟨aR,trivial⟩,⟨bJ,bJ,trivial⟩,aS a⟩
 ·have c:¬i<l.length:=by
   have h:¬(i:Int)<((l.map cs).length:Int):=c;rw[j] at h;omega
  obtain⟨m,e2⟩:=nj (gM c) u b;exact cD [1000,1001] rfl rfl rfl rfl ⟨by show(_&&_)=true;rw[e0,m];rfl,j3 (WB k.tb) (by rw[e2,<-o];show _=bs++(_++_);rw[acM]),rfl⟩
theorem aaY {k:Kd}(hk:uO k) {y:Type}{f:Nat}{enc:y->Enc}{cs:y->List C}(l:List y) (hl:∀x,T.eI (cs x) 10=true) (hf:∀x∈l,gj k f (.ifo none k.t 1000 0::.pt (cs x) 0::[]) (enc x)) :
  gj k 75 [.ifo none k.t 1000 0,.pt [.sl (l.map cs)] 0,.fn f [] []] (bI k enc l):=by
 intro bs hb;obtain⟨fs,z,q⟩:=hk.siz;have hE:bI k enc l=br (k.siz (l.map cs).length) (aL enc l):=by unfold bI;rw[ac1]
 rw[hE] at hb ⊢;have w:bs.length+(k.siz (l.map cs).length).1.length<=70368744177664:=by
  simp only[br,yo] at hb;omega
 refine aC Tryz.func75 Ia rfl fun hw ho=>?_;have r:(l.map cs).length<=9223372036854775807:=by have h:=hw.2.1.1.1;simp only[maxLen] at h;exact h
 refine⟨hk.mks,?_⟩;refine⟨fs,z,?_⟩;refine cS [1000,1001] (q (l.map cs).length bs w) rfl rfl rfl rfl (fun v ⟨e,h⟩=>⟨e,by show(_&&_)=false;rw[h];rfl⟩) ?_;rintro v Mo ⟨e0,rfl,rfl⟩ _ _;refine⟨rfl,?_⟩;refine aj (fun h=>?_) (fun _=>?_)
 ·simp at h
 have d:(bs++(k.siz (l.map cs).length).1).length+(aL enc l).1.length<=70368744177664:=by
  simp only[br,yo] at hb ⊢;omega
 generalize o:bs++(k.siz (l.map cs).length).1=b1 at d;have j:((l.map cs).length:Int)=l.length:=by simp
 refine aP l.length 31 [] b1 (fun _=>[]) (fun s=>GW k.tb s) (fun i s=>∃p,s=b1++p/\aL enc l=br (p,true) (aL enc (l.drop i))) ⟨[],by simp,by simp[br]⟩ (af rfl) trivial
  ⟨bJ,bJ,trivial⟩ ?_
 rintro i s hi ⟨p,u,b⟩ _ _ _;refine aF (fun a=>?_) (fun c=>?_)
 ·have a:i<l.length:=by
   have h:(i:Int)<((l.map cs).length:Int):=a;rw[j] at h;omega
  refine eZ a fun x hx n hd=>?_;obtain⟨g1,g2,g3⟩:=j4 hd u b d;refine bK hx rfl (hl x) ?_;refine cH [1000,1001] (hf x n s g1) rfl rfl rfl rfl (fun v ⟨e,h⟩=>⟨e,by show(_&&_)=false;rw[g2 h,adu]⟩) ?_;rintro v Mo ⟨m,rfl,rfl⟩ _ _;refine⟨rfl,?_⟩;refine Fit.abU (by omega) (by rw[ac1] at r;omega) ?_;exact⟨(i+1,s++(enc x).1),⟨by omega,p++(enc x).1,by rw[u,acM],g3 m⟩,⟨aR,trivial⟩,⟨bJ,bJ,trivial⟩,aS a⟩
 ·have c:¬i<l.length:=by
   have h:¬(i:Int)<((l.map cs).length:Int):=c;rw[j] at h;omega
  obtain⟨m,e2⟩:=nj (gM c) u b;exact cD [1000,1001] rfl rfl rfl rfl ⟨by show(_&&_)=true;rw[e0,m];rfl,j3 (WB k.tb) (by rw[e2,<-o];show _=bs++(_++_);rw[acM]),rfl⟩
theorem aaZ {k:Kd}(hk:uO k) {y:Type}{f:Nat}{enc:y->Enc}{cs:y->List C}(l:List y) (hl:∀x,T.eI (cs x) 7=true) (hf:∀x∈l,gj k f (.ifo none k.t 1000 0::.pt (cs x) 0::[]) (enc x)) :
  gj k 79 [.ifo none k.t 1000 0,.pt [.sl (l.map cs)] 0,.fn f [] []] (bI k enc l):=by
 intro bs hb;obtain⟨fs,z,q⟩:=hk.siz;have hE:bI k enc l=br (k.siz (l.map cs).length) (aL enc l):=by unfold bI;rw[ac1]
 rw[hE] at hb ⊢;have w:bs.length+(k.siz (l.map cs).length).1.length<=70368744177664:=by
  simp only[br,yo] at hb;omega
 refine aC Tryz.func79 Ig rfl fun hw ho=>?_;have r:(l.map cs).length<=9223372036854775807:=by have h:=hw.2.1.1.1;simp only[maxLen] at h;exact h
 refine⟨hk.mks,?_⟩;refine⟨fs,z,?_⟩;refine cS [1000,1001] (q (l.map cs).length bs w) rfl rfl rfl rfl (fun v ⟨e,h⟩=>⟨e,by show(_&&_)=false;rw[h];rfl⟩) ?_;rintro v Mo ⟨e0,rfl,rfl⟩ _ _;refine⟨rfl,?_⟩;refine aj (fun h=>?_) (fun _=>?_)
 ·simp at h
 have d:(bs++(k.siz (l.map cs).length).1).length+(aL enc l).1.length<=70368744177664:=by
  simp only[br,yo] at hb ⊢;omega
 generalize o:bs++(k.siz (l.map cs).length).1=b1 at d;have j:((l.map cs).length:Int)=l.length:=by simp
 refine aP l.length 31 [] b1 (fun _=>[]) (fun s=>GW k.tb s) (fun i s=>∃p,s=b1++p/\aL enc l=br (p,true) (aL enc (l.drop i))) ⟨[],by simp,by simp[br]⟩ (af rfl) trivial
  ⟨bJ,bJ,trivial⟩ ?_
 rintro i s hi ⟨p,u,b⟩ _ _ _;refine aF (fun a=>?_) (fun c=>?_)
 ·have a:i<l.length:=by
   have h:(i:Int)<((l.map cs).length:Int):=a;rw[j] at h;omega
  refine eZ a fun x hx n hd=>?_;obtain⟨g1,g2,g3⟩:=j4 hd u b d;refine bK hx rfl (hl x) ?_;refine cH [1000,1001] (hf x n s g1) rfl rfl rfl rfl (fun v ⟨e,h⟩=>⟨e,by show(_&&_)=false;rw[g2 h,adu]⟩) ?_;rintro v Mo ⟨m,rfl,rfl⟩ _ _;refine⟨rfl,?_⟩;refine Fit.abU (by omega) (by rw[ac1] at r;omega) ?_;exact⟨(i+1,s++(enc x).1),⟨by omega,p++(enc x).1,by rw[u,acM],g3 m⟩,⟨aR,trivial⟩,⟨bJ,bJ,trivial⟩,aS a⟩
 ·have c:¬i<l.length:=by
   have h:¬(i:Int)<((l.map cs).length:Int):=c;rw[j] at h;omega
  obtain⟨m,e2⟩:=nj (gM c) u b;exact cD [1000,1001] rfl rfl rfl rfl ⟨by show(_&&_)=true;rw[e0,m];rfl,j3 (WB k.tb) (by rw[e2,<-o];show _=bs++(_++_);rw[acM]),rfl⟩
theorem aa0 {k:Kd}(hk:uO k) {y:Type}{f:Nat}{enc:y->Enc}{cs:y->List C}(l:List y) (hl:∀x,T.eI (cs x) 1=true) (hf:∀x∈l,gj k f (.ifo none k.t 1000 0::.pt (cs x) 0::[]) (enc x)) :
  gj k 81 [.ifo none k.t 1000 0,.pt [.sl (l.map cs)] 0,.fn f [] []] (bI k enc l):=by
 intro bs hb;obtain⟨fs,z,q⟩:=hk.siz;have hE:bI k enc l=br (k.siz (l.map cs).length) (aL enc l):=by unfold bI;rw[ac1]
 rw[hE] at hb ⊢;have w:bs.length+(k.siz (l.map cs).length).1.length<=70368744177664:=by
  simp only[br,yo] at hb;omega
 refine aC Tryz.func81 Ii rfl fun hw ho=>?_;have r:(l.map cs).length<=9223372036854775807:=by have h:=hw.2.1.1.1;simp only[maxLen] at h;exact h
 refine⟨hk.mks,?_⟩;refine⟨fs,z,?_⟩;refine cS [1000,1001] (q (l.map cs).length bs w) rfl rfl rfl rfl (fun v ⟨e,h⟩=>⟨e,by show(_&&_)=false;rw[h];rfl⟩) ?_;rintro v Mo ⟨e0,rfl,rfl⟩ _ _;refine⟨rfl,?_⟩;refine aj (fun h=>?_) (fun _=>?_)
 ·simp at h
 have d:(bs++(k.siz (l.map cs).length).1).length+(aL enc l).1.length<=70368744177664:=by
  simp only[br,yo] at hb ⊢;omega
 generalize o:bs++(k.siz (l.map cs).length).1=b1 at d;have j:((l.map cs).length:Int)=l.length:=by simp
 refine aP l.length 31 [] b1 (fun _=>[]) (fun s=>GW k.tb s) (fun i s=>∃p,s=b1++p/\aL enc l=br (p,true) (aL enc (l.drop i))) ⟨[],by simp,by simp[br]⟩ (af rfl) trivial
  ⟨bJ,bJ,trivial⟩ ?_
 rintro i s hi ⟨p,u,b⟩ _ _ _;refine aF (fun a=>?_) (fun c=>?_)
 ·have a:i<l.length:=by
   have h:(i:Int)<((l.map cs).length:Int):=a;rw[j] at h;omega
  refine eZ a fun x hx n hd=>?_;obtain⟨g1,g2,g3⟩:=j4 hd u b d;refine bK hx rfl (hl x) ?_;refine cH [1000,1001] (hf x n s g1) rfl rfl rfl rfl (fun v ⟨e,h⟩=>⟨e,by show(_&&_)=false;rw[g2 h,adu]⟩) ?_;rintro v Mo ⟨m,rfl,rfl⟩ _ _;refine⟨rfl,?_⟩;refine Fit.abU (by omega) (by rw[ac1] at r;omega) ?_;exact⟨(i+1,s++(enc x).1),⟨by omega,p++(enc x).1,by rw[u,acM],g3 m⟩,⟨aR,trivial⟩,⟨bJ,bJ,trivial⟩,aS a⟩
 ·have c:¬i<l.length:=by
   have h:¬(i:Int)<((l.map cs).length:Int):=c;rw[j] at h;omega
  obtain⟨m,e2⟩:=nj (gM c) u b;exact cD [1000,1001] rfl rfl rfl rfl ⟨by show(_&&_)=true;rw[e0,m];rfl,j3 (WB k.tb) (by rw[e2,<-o];show _=bs++(_++_);rw[acM]),rfl⟩
theorem aa1 {k:Kd}(hk:uO k) {y:Type}{f:Nat}{enc:y->Enc}{cs:y->List C}(l:List y) (hl:∀x,T.eI (cs x) 2=true) (hf:∀x∈l,gj k f (.ifo none k.t 1000 0::.pt (cs x) 0::[]) (enc x)) :
  gj k 83 [.ifo none k.t 1000 0,.pt [.sl (l.map cs)] 0,.fn f [] []] (bI k enc l):=by
 intro bs hb;obtain⟨fs,z,q⟩:=hk.siz;have hE:bI k enc l=br (k.siz (l.map cs).length) (aL enc l):=by unfold bI;rw[ac1]
 rw[hE] at hb ⊢;have w:bs.length+(k.siz (l.map cs).length).1.length<=70368744177664:=by
  simp only[br,yo] at hb;omega
 refine aC Tryz.func83 Ik rfl fun hw ho=>?_;have r:(l.map cs).length<=9223372036854775807:=by have h:=hw.2.1.1.1;simp only[maxLen] at h;exact h
 refine⟨hk.mks,?_⟩;refine⟨fs,z,?_⟩;refine cS [1000,1001] (q (l.map cs).length bs w) rfl rfl rfl rfl (fun v ⟨e,h⟩=>⟨e,by show(_&&_)=false;rw[h];rfl⟩) ?_;rintro v Mo ⟨e0,rfl,rfl⟩ _ _;refine⟨rfl,?_⟩;refine aj (fun h=>?_) (fun _=>?_)
 ·simp at h
 have d:(bs++(k.siz (l.map cs).length).1).length+(aL enc l).1.length<=70368744177664:=by
  simp only[br,yo] at hb ⊢;omega
 generalize o:bs++(k.siz (l.map cs).length).1=b1 at d;have j:((l.map cs).length:Int)=l.length:=by simp
 refine aP l.length 31 [] b1 (fun _=>[]) (fun s=>GW k.tb s) (fun i s=>∃p,s=b1++p/\aL enc l=br (p,true) (aL enc (l.drop i))) ⟨[],by simp,by simp[br]⟩ (af rfl) trivial
  ⟨bJ,bJ,trivial⟩ ?_
 rintro i s hi ⟨p,u,b⟩ _ _ _;refine aF (fun a=>?_) (fun c=>?_)
 ·have a:i<l.length:=by
   have h:(i:Int)<((l.map cs).length:Int):=a;rw[j] at h;omega
  refine eZ a fun x hx n hd=>?_;obtain⟨g1,g2,g3⟩:=j4 hd u b d;refine bK hx rfl (hl x) ?_;refine cH [1000,1001] (hf x n s g1) rfl rfl rfl rfl (fun v ⟨e,h⟩=>⟨e,by show(_&&_)=false;rw[g2 h,adu]⟩) ?_;rintro v Mo ⟨m,rfl,rfl⟩ _ _;refine⟨rfl,?_⟩;refine Fit.abU (by omega) (by rw[ac1] at r;omega) ?_;exact⟨(i+1,s++(enc x).1),⟨by omega,p++(enc x).1,by rw[u,acM],g3 m⟩,⟨aR,trivial⟩,⟨bJ,bJ,trivial⟩,aS a⟩
 ·have c:¬i<l.length:=by
   have h:¬(i:Int)<((l.map cs).length:Int):=c;rw[j] at h;omega
  obtain⟨m,e2⟩:=nj (gM c) u b;exact cD [1000,1001] rfl rfl rfl rfl ⟨by show(_&&_)=true;rw[e0,m];rfl,j3 (WB k.tb) (by rw[e2,<-o];show _=bs++(_++_);rw[acM]),rfl⟩
theorem Xj {k:Kd}(hk:uO k) {y:Type}{f:Nat}{enc:y->Enc}{cs:y->List C}(l:List y) (hl:∀x,T.eI (cs x) 7=true) (hf:∀x∈l,gj k f (.ifo none k.t 1000 0::.pt (cs x) 0::[]) (enc x)) :
  gj k 105 [.ifo none k.t 1000 0,.pt [.sl (l.map cs)] 0,.fn f [] []] (bI k enc l):=by
 intro bs hb;obtain⟨fs,z,q⟩:=hk.siz;have hE:bI k enc l=br (k.siz (l.map cs).length) (aL enc l):=by unfold bI;rw[ac1]
 rw[hE] at hb ⊢;have w:bs.length+(k.siz (l.map cs).length).1.length<=70368744177664:=by
  simp only[br,yo] at hb;omega
 refine aC Tryz.func105 E6 rfl fun hw ho=>?_;have r:(l.map cs).length<=9223372036854775807:=by have h:=hw.2.1.1.1;simp only[maxLen] at h;exact h
 refine⟨hk.mks,?_⟩;refine⟨fs,z,?_⟩;refine cS [1000,1001] (q (l.map cs).length bs w) rfl rfl rfl rfl (fun v ⟨e,h⟩=>⟨e,by show(_&&_)=false;rw[h];rfl⟩) ?_;rintro v Mo ⟨e0,rfl,rfl⟩ _ _;refine⟨rfl,?_⟩;refine aj (fun h=>?_) (fun _=>?_)
 ·simp at h
 have d:(bs++(k.siz (l.map cs).length).1).length+(aL enc l).1.length<=70368744177664:=by
  simp only[br,yo] at hb ⊢;omega
 generalize o:bs++(k.siz (l.map cs).length).1=b1 at d;have j:((l.map cs).length:Int)=l.length:=by simp
 refine aP l.length 31 [] b1 (fun _=>[]) (fun s=>GW k.tb s) (fun i s=>∃p,s=b1++p/\aL enc l=br (p,true) (aL enc (l.drop i))) ⟨[],by simp,by simp[br]⟩ (af rfl) trivial
  ⟨bJ,bJ,trivial⟩ ?_
 rintro i s hi ⟨p,u,b⟩ _ _ _;refine aF (fun a=>?_) (fun c=>?_)
 ·have a:i<l.length:=by
   have h:(i:Int)<((l.map cs).length:Int):=a;rw[j] at h;omega
  refine eZ a fun x hx n hd=>?_;obtain⟨g1,g2,g3⟩:=j4 hd u b d;refine bK hx rfl (hl x) ?_;refine cH [1000,1001] (hf x n s g1) rfl rfl rfl rfl (fun v ⟨e,h⟩=>⟨e,by show(_&&_)=false;rw[g2 h,adu]⟩) ?_;rintro v Mo ⟨m,rfl,rfl⟩ _ _;refine⟨rfl,?_⟩;refine Fit.abU (by omega) (by rw[ac1] at r;omega) ?_;exact⟨(i+1,s++(enc x).1),⟨by omega,p++(enc x).1,by rw[u,acM],g3 m⟩,⟨aR,trivial⟩,⟨bJ,bJ,trivial⟩,aS a⟩
 ·have c:¬i<l.length:=by
   have h:¬(i:Int)<((l.map cs).length:Int):=c;rw[j] at h;omega
  obtain⟨m,e2⟩:=nj (gM c) u b;exact cD [1000,1001] rfl rfl rfl rfl ⟨by show(_&&_)=true;rw[e0,m];rfl,j3 (WB k.tb) (by rw[e2,<-o];show _=bs++(_++_);rw[acM]),rfl⟩
theorem Xk {k:Kd}(hk:uO k) {y:Type}{f:Nat}{enc:y->Enc}{cs:y->List C}(l:List y) (hl:∀x,T.eI (cs x) 5=true) (hf:∀x∈l,gj k f (.ifo none k.t 1000 0::.pt (cs x) 0::[]) (enc x)) :
  gj k 107 [.ifo none k.t 1000 0,.pt [.sl (l.map cs)] 0,.fn f [] []] (bI k enc l):=by
 intro bs hb;obtain⟨fs,z,q⟩:=hk.siz;have hE:bI k enc l=br (k.siz (l.map cs).length) (aL enc l):=by unfold bI;rw[ac1]
 rw[hE] at hb ⊢;have w:bs.length+(k.siz (l.map cs).length).1.length<=70368744177664:=by
  simp only[br,yo] at hb;omega
 refine aC Tryz.func107 E8 rfl fun hw ho=>?_;have r:(l.map cs).length<=9223372036854775807:=by have h:=hw.2.1.1.1;simp only[maxLen] at h;exact h
 refine⟨hk.mks,?_⟩;refine⟨fs,z,?_⟩;refine cS [1000,1001] (q (l.map cs).length bs w) rfl rfl rfl rfl (fun v ⟨e,h⟩=>⟨e,by show(_&&_)=false;rw[h];rfl⟩) ?_;rintro v Mo ⟨e0,rfl,rfl⟩ _ _;refine⟨rfl,?_⟩;refine aj (fun h=>?_) (fun _=>?_)
 ·simp at h
 have d:(bs++(k.siz (l.map cs).length).1).length+(aL enc l).1.length<=70368744177664:=by
  simp only[br,yo] at hb ⊢;omega
 generalize o:bs++(k.siz (l.map cs).length).1=b1 at d;have j:((l.map cs).length:Int)=l.length:=by simp
 refine aP l.length 31 [] b1 (fun _=>[]) (fun s=>GW k.tb s) (fun i s=>∃p,s=b1++p/\aL enc l=br (p,true) (aL enc (l.drop i))) ⟨[],by simp,by simp[br]⟩ (af rfl) trivial
  ⟨bJ,bJ,trivial⟩ ?_
 rintro i s hi ⟨p,u,b⟩ _ _ _;refine aF (fun a=>?_) (fun c=>?_)
 ·have a:i<l.length:=by
   have h:(i:Int)<((l.map cs).length:Int):=a;rw[j] at h;omega
  refine eZ a fun x hx n hd=>?_;obtain⟨g1,g2,g3⟩:=j4 hd u b d;refine bK hx rfl (hl x) ?_;refine cH [1000,1001] (hf x n s g1) rfl rfl rfl rfl (fun v ⟨e,h⟩=>⟨e,by show(_&&_)=false;rw[g2 h,adu]⟩) ?_;rintro v Mo ⟨m,rfl,rfl⟩ _ _;refine⟨rfl,?_⟩;refine Fit.abU (by omega) (by rw[ac1] at r;omega) ?_;exact⟨(i+1,s++(enc x).1),⟨by omega,p++(enc x).1,by rw[u,acM],g3 m⟩,⟨aR,trivial⟩,⟨bJ,bJ,trivial⟩,aS a⟩
 ·have c:¬i<l.length:=by
   have h:¬(i:Int)<((l.map cs).length:Int):=c;rw[j] at h;omega
  obtain⟨m,e2⟩:=nj (gM c) u b;exact cD [1000,1001] rfl rfl rfl rfl ⟨by show(_&&_)=true;rw[e0,m];rfl,j3 (WB k.tb) (by rw[e2,<-o];show _=bs++(_++_);rw[acM]),rfl⟩
theorem Xl {k:Kd}(hk:uO k) {y:Type}{f:Nat}{enc:y->Enc}{cs:y->List C}(l:List y) (hl:∀x,T.eI (cs x) 8=true) (hf:∀x∈l,gj k f (.ifo none k.t 1000 0::.pt (cs x) 0::[]) (enc x)) :
  gj k 111 [.ifo none k.t 1000 0,.pt [.sl (l.map cs)] 0,.fn f [] []] (bI k enc l):=by
 intro bs hb;obtain⟨fs,z,q⟩:=hk.siz;have hE:bI k enc l=br (k.siz (l.map cs).length) (aL enc l):=by unfold bI;rw[ac1]
 rw[hE] at hb ⊢;have w:bs.length+(k.siz (l.map cs).length).1.length<=70368744177664:=by
  simp only[br,yo] at hb;omega
 refine aC Tryz.func111 vJ rfl fun hw ho=>?_;have r:(l.map cs).length<=9223372036854775807:=by have h:=hw.2.1.1.1;simp only[maxLen] at h;exact h
 refine⟨hk.mks,?_⟩;refine⟨fs,z,?_⟩;refine cS [1000,1001] (q (l.map cs).length bs w) rfl rfl rfl rfl (fun v ⟨e,h⟩=>⟨e,by show(_&&_)=false;rw[h];rfl⟩) ?_;rintro v Mo ⟨e0,rfl,rfl⟩ _ _;refine⟨rfl,?_⟩;refine aj (fun h=>?_) (fun _=>?_)
 ·simp at h
 have d:(bs++(k.siz (l.map cs).length).1).length+(aL enc l).1.length<=70368744177664:=by
  simp only[br,yo] at hb ⊢;omega
 generalize o:bs++(k.siz (l.map cs).length).1=b1 at d;have j:((l.map cs).length:Int)=l.length:=by simp
 refine aP l.length 31 [] b1 (fun _=>[]) (fun s=>GW k.tb s) (fun i s=>∃p,s=b1++p/\aL enc l=br (p,true) (aL enc (l.drop i))) ⟨[],by simp,by simp[br]⟩ (af rfl) trivial
  ⟨bJ,bJ,trivial⟩ ?_
 rintro i s hi ⟨p,u,b⟩ _ _ _;refine aF (fun a=>?_) (fun c=>?_)
 ·have a:i<l.length:=by
   have h:(i:Int)<((l.map cs).length:Int):=a;rw[j] at h;omega
  refine eZ a fun x hx n hd=>?_;obtain⟨g1,g2,g3⟩:=j4 hd u b d;refine bK hx rfl (hl x) ?_;refine cH [1000,1001] (hf x n s g1) rfl rfl rfl rfl (fun v ⟨e,h⟩=>⟨e,by show(_&&_)=false;rw[g2 h,adu]⟩) ?_;rintro v Mo ⟨m,rfl,rfl⟩ _ _;refine⟨rfl,?_⟩;refine Fit.abU (by omega) (by rw[ac1] at r;omega) ?_;exact⟨(i+1,s++(enc x).1),⟨by omega,p++(enc x).1,by rw[u,acM],g3 m⟩,⟨aR,trivial⟩,⟨bJ,bJ,trivial⟩,aS a⟩
 ·have c:¬i<l.length:=by
   have h:¬(i:Int)<((l.map cs).length:Int):=c;rw[j] at h;omega
  obtain⟨m,e2⟩:=nj (gM c) u b;exact cD [1000,1001] rfl rfl rfl rfl ⟨by show(_&&_)=true;rw[e0,m];rfl,j3 (WB k.tb) (by rw[e2,<-o];show _=bs++(_++_);rw[acM]),rfl⟩
theorem Ns {k:Kd}(hk:uO k) {z:Type}{f:Nat}{d:Int}{enc:z->Enc}{cs:z->List C}(l:List z) (hl:∀x,T.eI (cs x) 8=true) (hf:∀x∈l,gj k f (.ifo none k.t 1000 0::.pt (cs x) 0::[.pt [IC d] 0]) (enc x)) :
  gj k 111 [.ifo none k.t 1000 0,.pt [.sl (l.map cs)] 0,.fn f [] [.pt [IC d] 0]] (bI k enc l):=by
 intro bs hb;obtain⟨fs,aa,r⟩:=hk.siz;have hE:bI k enc l=br (k.siz (l.map cs).length) (aL enc l):=by unfold bI;rw[ac1]
 rw[hE] at hb ⊢;have y:bs.length+(k.siz (l.map cs).length).1.length<=70368744177664:=by
  simp only[br,yo] at hb;omega
 refine aC Tryz.func111 vJ rfl fun hw ho=>?_;have u:(l.map cs).length<=9223372036854775807:=by have h:=hw.2.1.1.1;simp only[maxLen] at h;exact h
 refine⟨hk.mks,?_⟩;refine⟨fs,aa,?_⟩;refine cS [1000,1001] (r (l.map cs).length bs y) rfl rfl rfl rfl (fun v ⟨e,h⟩=>⟨e,by show(_&&_)=false;rw[h];rfl⟩) ?_;rintro v Mo ⟨e0,rfl,rfl⟩ _ _;refine⟨rfl,?_⟩;refine aj (fun h=>?_) (fun _=>?_)
 ·simp at h
 have j:(bs++(k.siz (l.map cs).length).1).length+(aL enc l).1.length<=70368744177664:=by
  simp only[br,yo] at hb ⊢;omega
 generalize q:bs++(k.siz (l.map cs).length).1=b1 at j;have m:((l.map cs).length:Int)=l.length:=by simp
 refine aP l.length 31 [] b1 (fun _=>[]) (fun s=>GW k.tb s) (fun i s=>∃p,s=b1++p/\aL enc l=br (p,true) (aL enc (l.drop i))) ⟨[],by simp,by simp[br]⟩ (af rfl) trivial
  ⟨bJ,bJ,trivial⟩ ?_
 rintro i s hi ⟨p,w,b⟩ _ _ _;refine aF (fun a=>?_) (fun c=>?_)
 ·have a:i<l.length:=by
   have h:(i:Int)<((l.map cs).length:Int):=a;rw[m] at h;omega
  refine eZ a fun x hx o hd=>?_;obtain⟨g1,g2,g3⟩:=j4 hd w b j;refine bK hx rfl (hl x) ?_;refine cH [1000,1001] (hf x o s g1) rfl rfl rfl rfl (fun v ⟨e,h⟩=>⟨e,by show(_&&_)=false;rw[g2 h,adu]⟩) ?_;rintro v Mo ⟨n,rfl,rfl⟩ _ _;refine⟨rfl,?_⟩;refine Fit.abU (by omega) (by rw[ac1] at u;omega) ?_;exact⟨(i+1,s++(enc x).1),⟨by omega,p++(enc x).1,by rw[w,acM],g3 n⟩,⟨aR,trivial⟩,⟨bJ,bJ,trivial⟩,aS a⟩
 ·have c:¬i<l.length:=by
   have h:¬(i:Int)<((l.map cs).length:Int):=c;rw[m] at h;omega
  obtain⟨n,e2⟩:=nj (gM c) w b;exact cD [1000,1001] rfl rfl rfl rfl ⟨by show(_&&_)=true;rw[e0,n];rfl,j3 (WB k.tb) (by rw[e2,<-q];show _=bs++(_++_);rw[acM]),rfl⟩
theorem fe {a b:Enc}(h:a.2=false):(br a b).2=false:=by show(_&&_)=false;rw[h];rfl
theorem bC {a b:Enc}(h:b.2=false):(br a b).2=false:=by show(_&&_)=false;rw[h,adu]
theorem gk {a b:Enc}(h:a.2=true) (c:b.2=true):(br a b).2=true:=by show(_&&_)=true;rw[h,c];rfl
theorem fw {bs:List UInt8}{a b:Enc}{B:Nat}(h:bs.length+(br a b).1.length<=B):bs.length+a.1.length<=B:=by
 simp only[br,yo] at h;omega
theorem eV {bs:List UInt8}{a b:Enc}{B:Nat}(h:bs.length+(br a b).1.length<=B):(bs++a.1).length+b.1.length<=B:=by
 simp only[br,yo] at h ⊢;omega
theorem Xm (bs a b:List UInt8):(bs++a)++b=bs++(a++b):=by simp
theorem Xn (bs a b c:List UInt8):((bs++a)++b)++c=bs++(a++(b++c)):=by simp
theorem U7 (bs a b c d e:List UInt8):((((bs++a)++b)++c)++d)++e=bs++(a++(b++(c++(d++e)))):=by simp
theorem aa2 (bs a b c d e f:List UInt8):(((((bs++a)++b)++c)++d)++e)++f=bs++(a++(b++(c++(d++(e++f))))):=by simp
section
variable {L:TL}{ρ:bg}{k:Kd}
theorem yG {PS:qX}{f:Nat}{args a:List C}{bs:List UInt8}{e:Enc}{K:TL->bg->C->Prop}(h:gj k f a e) (hb:bs.length+e.1.length<=70368744177664)
  (n:L.sub [1000,1001]=some (WB k.tb bs)) (m:(args.map fun c=>c.abk.ren (cn [1000,1001] 1000))=a) (l:e.2=false->PS.ps gC)
  (b:e.2=true->K (((L.aa7 [1000,1001]).kills (rowsOf L [1000,1001])).puts [1000,1001] (WB k.tb (bs++e.1))) (fQ (rowsOf L [1000,1001]) ρ) (.tup [])) (p:mF L [1000,1001] PS.hb=true:=by rfl):qo PZ PS f args L ρ K :=
 cH [1000,1001] (h bs hb) n rfl m rfl (fun v ⟨e,h⟩=>e▸l h) (fun v Mo ⟨j,o,d⟩ _ _=>by subst o d;exact⟨rfl,b j⟩) p
theorem Bo {PS:qX}{d:List Nat}{f:Nat}{args a:List C}{bs:List UInt8}{e:Enc}{K:TL->bg->C->Prop}(h:gj k f a e) (hb:bs.length+e.1.length<=70368744177664)
  (p:L.sub [1000,1001]=some (WB k.tb bs)) (b:wY [1000,1001] d=true) (o:(args.map fun c=>c.abk.ren (cn [1000,1001] 1000))=a) (n:e.2=false->PS.ps gC)
  (j:e.2=true->K (((L.aa7 [1000,1001]).kills (rowsOf L [1000,1001])).puts [1000,1001] (WB k.tb (bs++e.1))) (fQ (rowsOf L [1000,1001]) ρ) (.tup [])) (r:mF L [1000,1001] PS.hb=true:=by rfl):nH PZ PS d f args L ρ K :=
 cS [1000,1001] (h bs hb) p (by simp only[acR];exact⟨⟨rfl,b⟩,rfl⟩) o rfl (fun v ⟨e,h⟩=>e▸n h) (fun v Mo ⟨m,q,l⟩ _ _=>by subst q l;exact⟨rfl,j m⟩) r
end
section
variable {k:Kd}(hk:uO k)
include hk
theorem Xo (n:Int):gj k 110 [.ifo none k.t 1000 0,.pt [IC n] 0] (k.num n):=by
 intro bs hb;obtain⟨fn,b,a,_⟩:=hk.num;refine aC Tryz.func110 Fc rfl fun d c=>?_;refine⟨fn,b,?_⟩;refine yG (a n) hb rfl rfl (fun h=>⟨rfl,h⟩) fun h=>?_;exact cD [1000,1001] rfl rfl rfl rfl ⟨h,rfl,rfl⟩
theorem aa3 (b:Bool):gj k 78 [.ifo none k.t 1000 0,.pt (Af b) 0] (Iy k b):=by
 intro bs hb;have a:=(FA hk [b]).pts (es:=Af b) (os:=[0]) ⟨rfl,trivial⟩;refine aC Tryz.func78 Ie rfl fun d c=>?_;refine yG a hb rfl rfl (fun h=>⟨rfl,h⟩) fun h=>?_;exact cD [1000,1001] rfl rfl rfl rfl ⟨h,rfl,rfl⟩
theorem p6 (p:List Int):gj k 109 [.ifo none k.t 1000 0,.pt [.sl (oO p)] 0,.fn 110 [] []] (bI k k.num p):=Xi hk p (cs:=fun n=>[IC n]) (fun _=>rfl) fun x _=>Xo hk x
end
theorem S5:∀(m:Nat) (v:Vl),GV v<=m->∀d:Int,-4611686018427387904+(m:Int)<=d->d<=4611686018427387904->gj kW 146 [.ifo none kW.t 1000 0,.pt (mS v) 0,.pt [IC d] 0] (ni kW v d)
 | 0,.mk a b c n f e p l,w,d,h1,z=>by rw[GV] at w;omega
 | m+1,.mk a b c n f e p l,w,d,h1,z=>by
  intro bs hb;have ih:∀x∈f,gj kW 146 [.ifo none kW.t 1000 0,.pt (mS x) 0,.pt [IC (d-1)] 0] (ni kW x (d-1)):=fun x hx=>S5 m x (by
   have:=Ag hx;rw[GV] at w;omega) (d-1) (by omega) (by omega)
  have hE:ni kW (.mk a b c n f e p l) d=br (sj (decide (0<d)||kW.deep)) (br (aL kW.num [a,b,c,n]) (br (bI kW (fun x=>ni kW x (d-1)) f) (br (aL (iS kW) [e]) (br (bI kW kW.num p) (bI kW kW.num l))))):=by
   rw[ni,nU];rfl
  rw[hE] at hb ⊢;have j:=eV hb;have j:bs.length+(br (aL kW.num [a,b,c,n]) (br (bI kW (fun x=>ni kW x (d-1)) f) (br (aL (iS kW) [e]) (br (bI kW kW.num p) (bI kW kW.num l))))).1.length<=70368744177664:=by simpa[sj] using j
  have w1:=(DA Cm [a,b,c,n]).pts (es:=mS (.mk a b c n f e p l)) (os:=[0,1,2,3]) ⟨rfl,rfl,rfl,rfl,trivial⟩;have w2:=(Ns Cm f (cs:=mS) (fun x=>by cases x;rfl) ih).at (es:=mS (.mk a b c n f e p l)) (off:=4) (j3 (fun q=>[C.sl q]) (si f));have w3:=(FA Cm [e]).pts (es:=mS (.mk a b c n f e p l)) (os:=[5]) ⟨rfl,trivial⟩;have w4:=(p6 Cm p).at (es:=mS (.mk a b c n f e p l)) (off:=6) rfl;have w5:=(p6 Cm l).at (es:=mS (.mk a b c n f e p l)) (off:=7) rfl;refine aC Tryz.func146 vK rfl fun hw ho=>?_;refine aF (fun y=>?_) (fun y=>?_)
  ·have u:(sj (decide (0<d)||kW.deep)).2=true:=by show(decide (0<d)||false)=true;simp;exact y
   refine wK (vV true) rfl (fun h=>by cases h) fun _=>?_;refine Bo w1 (fw j) rfl rfl rfl (fun h=>⟨rfl,bC (fe h)⟩) fun o1=>?_;have s:=eV j;refine bf ?_;refine cR (Np (d-1)) rfl fun _=>?_;refine Bo w2 (fw s) rfl rfl rfl (fun h=>⟨rfl,bC (bC (fe h))⟩) fun o2=>?_;have r:=eV s;refine yG w3 (fw r) rfl rfl (fun h=>⟨rfl,bC (bC (bC (fe h)))⟩) fun o3=>?_;have o:=eV r;refine yG w4 (fw o) rfl rfl (fun h=>⟨rfl,bC (bC (bC (bC (fe h))))⟩) fun o4=>?_;refine yG w5 (eV o) rfl rfl (fun h=>⟨rfl,bC (bC (bC (bC (bC h))))⟩) fun o5=>?_;exact cD [1000,1001] rfl rfl rfl rfl ⟨gk u (gk o1 (gk o2 (gk o3 (gk o4 o5)))),j3 (WB kW.tb) (U7 _ _ _ _ _ _),rfl⟩
  ·refine wK (vV false) rfl (fun _=>⟨rfl,fe (by show(decide (0<d)||false)=false;simp;omega)⟩) fun h=>by cases h
theorem S6:∀(m:Nat) (v:Vl),GV v<=m->∀d:Int,-4611686018427387904+(m:Int)<=d->d<=4611686018427387904->gj kL 146 [.ifo none kL.t 1000 0,.pt (mS v) 0,.pt [IC d] 0] (ni kL v d)
 | 0,.mk a b c n f e p l,w,d,h1,y=>by rw[GV] at w;omega
 | m+1,.mk a b c n f e p l,w,d,h1,y=>by
  intro bs hb;have ih:∀x∈f,gj kL 146 [.ifo none kL.t 1000 0,.pt (mS x) 0,.pt [IC (d-1)] 0] (ni kL x (d-1)):=fun x hx=>S6 m x (by
   have:=Ag hx;rw[GV] at w;omega) (d-1) (by omega) (by omega)
  have hE:ni kL (.mk a b c n f e p l) d=br (sj (decide (0<d)||kL.deep)) (br (aL kL.num [a,b,c,n]) (br (bI kL (fun x=>ni kL x (d-1)) f) (br (aL (iS kL) [e]) (br (bI kL kL.num p) (bI kL kL.num l))))):=by
   rw[ni,nU];rfl
  rw[hE] at hb ⊢;have j:=eV hb;have j:bs.length+(br (aL kL.num [a,b,c,n]) (br (bI kL (fun x=>ni kL x (d-1)) f) (br (aL (iS kL) [e]) (br (bI kL kL.num p) (bI kL kL.num l))))).1.length<=70368744177664:=by simpa[sj] using j
  have w1:=(DA Cn [a,b,c,n]).pts (es:=mS (.mk a b c n f e p l)) (os:=[0,1,2,3]) ⟨rfl,rfl,rfl,rfl,trivial⟩;have z:=(Ns Cn f (cs:=mS) (fun x=>by cases x;rfl) ih).at (es:=mS (.mk a b c n f e p l)) (off:=4) (j3 (fun q=>[C.sl q]) (si f));have w3:=(FA Cn [e]).pts (es:=mS (.mk a b c n f e p l)) (os:=[5]) ⟨rfl,trivial⟩;have w4:=(p6 Cn p).at (es:=mS (.mk a b c n f e p l)) (off:=6) rfl;have w5:=(p6 Cn l).at (es:=mS (.mk a b c n f e p l)) (off:=7) rfl;refine aC Tryz.func146 vK rfl fun hw ho=>?_;have u:(sj (decide (0<d)||kL.deep)).2=true:=by show(decide (0<d)||true)=true;simp
  refine aF (fun h0=>?_) (fun h0=>?_)
  all_goals
   refine wK (vV true) rfl (fun h=>by cases h) fun _=>?_;refine Bo w1 (fw j) rfl rfl rfl (fun h=>⟨rfl,bC (fe h)⟩) fun o1=>?_;have s:=eV j;refine bf ?_;refine cR (Np (d-1)) rfl fun _=>?_;refine Bo z (fw s) rfl rfl rfl (fun h=>⟨rfl,bC (bC (fe h))⟩) fun o2=>?_;have r:=eV s;refine yG w3 (fw r) rfl rfl (fun h=>⟨rfl,bC (bC (bC (fe h)))⟩) fun o3=>?_;have o:=eV r;refine yG w4 (fw o) rfl rfl (fun h=>⟨rfl,bC (bC (bC (bC (fe h))))⟩) fun o4=>?_;refine yG w5 (eV o) rfl rfl (fun h=>⟨rfl,bC (bC (bC (bC (bC h))))⟩) fun o5=>?_;exact cD [1000,1001] rfl rfl rfl rfl ⟨gk u (gk o1 (gk o2 (gk o3 (gk o4 o5)))),j3 (WB kL.tb) (U7 _ _ _ _ _ _),rfl⟩
structure KdV (k:Kd):Prop where
 toKdOk:uO k
 val:∀v:Vl,GV v<=4611686018427387904->gj k 146 [.ifo none k.t 1000 0,.pt (mS v) 0,.pt [IC 60] 0] (oQ k v)
theorem aa5:KdV kW:={toKdOk:=Cm,val:=fun v h=>S5 _ v h 60 (by omega) (by omega)}
theorem aa6:KdV kL:={toKdOk:=Cn,val:=fun v h=>S6 _ v h 60 (by omega) (by omega)}
def vsB (l:List Vl):Prop:=∀v∈l,GV v<=4611686018427387904
def Yk (x:Ce):Prop:=GV x.value<=4611686018427387904
def acB (x:Ac):Prop:=vsB x.slots
def tkB (x:Tk):Prop:=∀f∈x.frames,acB f
def Ga (x:Wd):Prop:=(∀c∈x.cells,Yk c)/\(∀t∈x.tasks,tkB t)/\∀l∈x.channels,vsB l
section
variable {k:Kd}(hk:KdV k)
include hk
theorem S7 (v:Vl) (a:GV v<=4611686018427387904):gj k 104 [.ifo none k.t 1000 0,.pt (mS v) 0] (oQ k v):=by
 intro bs hb;refine aC Tryz.func104 E5 rfl fun c b=>?_;refine bM (Np 60) rfl fun _=>?_;refine yG (hk.val v a) hb rfl rfl (fun h=>⟨rfl,h⟩) fun h=>?_;exact cD [1000,1001] rfl rfl rfl rfl ⟨h,rfl,rfl⟩
theorem Xp (l:List Vl) (a:vsB l):gj k 82 [.ifo none k.t 1000 0,.pt (DX l) 0] (GU k l):=by
 intro bs hb;refine aC Tryz.func82 Ij rfl fun d c=>?_;refine yG (Xl hk.toKdOk l (cs:=mS) (fun x=>by cases x;rfl) fun x b=>S7 hk x (a x b)) hb rfl rfl (fun h=>⟨rfl,h⟩) fun h=>?_;exact cD [1000,1001] rfl rfl rfl rfl ⟨h,rfl,rfl⟩
theorem aa9 (x:Ce) (d:Yk x):gj k 76 [.ifo none k.t 1000 0,.pt (tY x) 0] (Fp k x):=by
 intro bs hb;obtain⟨b,a,v⟩:=x;have n:=(FA hk.toKdOk [b]).pts (es:=tY ⟨b,a,v⟩) (os:=[0]) ⟨rfl,trivial⟩;have e:=(DA hk.toKdOk [a]).pts (es:=tY ⟨b,a,v⟩) (os:=[1]) ⟨rfl,trivial⟩;have j:=(S7 hk v d).at (es:=tY ⟨b,a,v⟩) (off:=2) (by cases v;rfl);refine aC Tryz.func76 Ib rfl fun p o=>?_;refine yG n (fw hb) rfl rfl (fun h=>⟨rfl,fe h⟩) fun m=>?_;have c:=eV hb;refine yG e (fw c) rfl rfl (fun h=>⟨rfl,bC (fe h)⟩) fun l=>?_;refine yG j (eV c) rfl rfl (fun h=>⟨rfl,bC (bC h)⟩) fun f=>?_;exact cD [1000,1001] rfl rfl rfl rfl ⟨gk m (gk l f),j3 (WB k.tb) (Xn _ _ _ _),rfl⟩
theorem Xq (x:Ac) (b:acB x):gj k 106 [.ifo none k.t 1000 0,.pt (yE x) 0] (Fq k x):=by
 intro bs hb;have l:=(DA hk.toKdOk [x.number,x.routine,x.block,x.index,x.dst]).pts (es:=yE x) (os:=[0,1,2,3,4]) ⟨rfl,rfl,rfl,rfl,rfl,trivial⟩;have c:=(Xp hk x.slots b).at (es:=yE x) (off:=5) rfl;have e:=(p6 hk.toKdOk x.since).at (es:=yE x) (off:=6) rfl;refine aC Tryz.func106 E7 rfl fun n m=>?_;refine Bo l (fw hb) rfl rfl rfl (fun h=>⟨rfl,fe h⟩) fun j=>?_;have a:=eV hb;refine yG c (fw a) rfl rfl (fun h=>⟨rfl,bC (fe h)⟩) fun f=>?_;refine yG e (eV a) rfl rfl (fun h=>⟨rfl,bC (bC h)⟩) fun d=>?_;exact cD [1000,1001] rfl rfl rfl rfl ⟨gk j (gk f d),j3 (WB k.tb) (Xn _ _ _ _),rfl⟩
theorem Xr (x:Ln):gj k 108 [.ifo none k.t 1000 0,.pt (F8 x) 0] (Fs k x):=by
 intro bs hb;have d:=(DA hk.toKdOk [x.frame,x.slot]).pts (es:=F8 x) (os:=[0,1]) ⟨rfl,rfl,trivial⟩;have a:=(FA hk.toKdOk [x.excl,x.re,x.over]).pts (es:=F8 x) (os:=[2,3,4]) ⟨rfl,rfl,rfl,trivial⟩;refine aC Tryz.func108 E9 rfl fun f e=>?_;refine Bo d (fw hb) rfl rfl rfl (fun h=>⟨rfl,fe h⟩) fun c=>?_;refine Bo a (eV hb) rfl rfl rfl (fun h=>⟨rfl,bC h⟩) fun b=>?_;exact cD [1000,1001] rfl rfl rfl rfl ⟨gk c b,j3 (WB k.tb) (Xm _ _ _),rfl⟩
theorem abb (x:Tk) (r:tkB x):gj k 80 [.ifo none k.t 1000 0,.pt (vM x) 0] (Du k x):=by
 intro bs hb;have p:=(DA hk.toKdOk [x.state]).pts (es:=vM x) (os:=[0]) ⟨rfl,trivial⟩;have d:=(Xj hk.toKdOk x.frames (cs:=yE) (fun _=>rfl) fun y l=>Xq hk y (r y l)).at (es:=vM x) (off:=1) rfl;have e:=(Xk hk.toKdOk x.loans (cs:=F8) (fun _=>rfl) fun y _=>Xr hk y).at (es:=vM x) (off:=2) rfl;have o:=(DA hk.toKdOk [x.allocs,x.clock,x.next]).pts (es:=vM x) (os:=[3,4,5]) ⟨rfl,rfl,rfl,trivial⟩;have j:=(p6 hk.toKdOk x.cells).at (es:=vM x) (off:=6) rfl;refine aC Tryz.func80 Ih rfl fun v u=>?_;refine yG p (fw hb) rfl rfl (fun h=>⟨rfl,fe h⟩) fun q=>?_;have c:=eV hb;refine yG d (fw c) rfl rfl (fun h=>⟨rfl,bC (fe h)⟩) fun f=>?_;have b:=eV c;refine yG e (fw b) rfl rfl (fun h=>⟨rfl,bC (bC (fe h))⟩) fun n=>?_;have a:=eV b;refine Bo o (fw a) rfl rfl rfl (fun h=>⟨rfl,bC (bC (bC (fe h)))⟩) fun m=>?_;refine yG j (eV a) rfl rfl (fun h=>⟨rfl,bC (bC (bC (bC h)))⟩) fun s=>?_;exact cD [1000,1001] rfl rfl rfl rfl ⟨gk q (gk f (gk n (gk m s))),j3 (WB k.tb) (U7 _ _ _ _ _ _),rfl⟩
theorem abd (x:Ou):gj k 84 [.ifo none k.t 1000 0,.pt (GR x) 0] (F9 k x):=by
 intro bs hb;have b:=(DA hk.toKdOk [x.task,x.number]).pts (es:=GR x) (os:=[0,1]) ⟨rfl,rfl,trivial⟩;refine aC Tryz.func84 Il rfl fun d c=>?_;refine Bo b hb rfl rfl rfl (fun h=>⟨rfl,h⟩) fun a=>?_;exact cD [1000,1001] rfl rfl rfl rfl ⟨a,rfl,rfl⟩
theorem Xt (m n:List (List C)) (l:Int) (x:Wd) (j:Ga x):gj k 35 [.ifo none k.t 1000 0,.pt (.sl m::.sl n::IC l::UO x) 0] (mQ k x):=by
 intro bs hb;generalize a:(.sl m::.sl n::IC l::UO x:List C)=es;have w1:=(aaY hk.toKdOk x.cells (cs:=tY) (fun y=>by obtain⟨_,_,v⟩:=y;cases v;rfl) fun y d=>aa9 hk y (j.1 y d)).at (es:=es) (off:=3) (by rw[<-a];rfl);have p:=(aaX hk.toKdOk x.arenas (cs:=Af) (fun _=>rfl) fun y _=>aa3 hk.toKdOk y).at (es:=es) (off:=4) (by rw[<-a];rfl);have r:=(aaZ hk.toKdOk x.tasks (cs:=vM) (fun _=>rfl) fun y d=>abb hk y (j.2.1 y d)).at (es:=es) (off:=5) (by rw[<-a];rfl);have w4:=(aa0 hk.toKdOk x.channels (cs:=DX) (fun _=>rfl) fun y d=>Xp hk y (j.2.2 y d)).at (es:=es) (off:=6) (by rw[<-a];rfl);have u:=(aa1 hk.toKdOk x.outputs (cs:=GR) (fun _=>rfl) fun y _=>abd hk y).at (es:=es) (off:=7) (by rw[<-a];rfl);have o:=(DA hk.toKdOk [x.made,x.dropped,x.closed]).pts (es:=es) (os:=[8,9,10]) (by rw[<-a];exact⟨rfl,rfl,rfl,trivial⟩);refine aC Tryz.func35 HY rfl fun hw ho=>?_;refine yG w1 (fw hb) rfl rfl (fun h=>⟨rfl,fe h⟩) fun o1=>?_;have f:=eV hb;refine yG p (fw f) rfl rfl (fun h=>⟨rfl,bC (fe h)⟩) fun s=>?_;have e:=eV f;refine yG r (fw e) rfl rfl (fun h=>⟨rfl,bC (bC (fe h))⟩) fun z=>?_;have c:=eV e;refine yG w4 (fw c) rfl rfl (fun h=>⟨rfl,bC (bC (bC (fe h)))⟩) fun w=>?_;have b:=eV c;refine yG u (fw b) rfl rfl (fun h=>⟨rfl,bC (bC (bC (bC (fe h))))⟩) fun o5=>?_;refine Bo o (eV b) rfl rfl rfl (fun h=>⟨rfl,bC (bC (bC (bC (bC h))))⟩) fun q=>?_;exact cD [1000,1001] rfl rfl rfl rfl ⟨gk o1 (gk s (gk z (gk w (gk o5 q)))),j3 (WB k.tb) (aa2 _ _ _ _ _ _ _),rfl⟩
end
end Go.Fr.Tryz
namespace Go.Fr.Tryz
open Go Go.RowKit Go.Proofs Go.Fr Go.Fr.T Go.Fr.Api Go.Fr.Dm
theorem FB:∀(l:List Int) (h:Int),(∀x∈l,0<=x)->0<=h/\h<2147483647->0<=l.foldl qU h/\l.foldl qU h<2147483647
 | [],h,_,hb=>hb
 | x::l,h,a,hb=>FB l _ (fun y b=>a y (by simp[b])) (vP hb.1 (a x (by simp)))
def jw (bs:List UInt8):Int:=Xu (Am bs)
theorem js (bs:List UInt8):0<=jw bs/\jw bs<2147483647:=FB _ _ (fun x a=>by
 simp only[Am,adi] at a;obtain⟨b,_,rfl⟩:=a;omega) (by omega)
theorem t67 (b:UInt8):CallsT PZ 67 [iX b] [] (gL [] (.int .i64 b.toNat)):=by
 refine au Tryz.func67 QE rfl fun a _=>?_;refine Fit.abU (by omega) (by have:=b.toNat_lt;omega) ?_;exact aM rfl rfl
theorem t66 (bs:List UInt8):CallsT PZ 66 [.sl (ah bs),.fn 67 [] []] [] (gL [] (IC (jw bs))):=by
 refine au Tryz.func66 QD rfl fun n _=>?_;have r:=vH n.1;refine aP bs.length 10 [5] 7 (fun h=>[.int .i64 h]) (fun _=>[]) (fun k h=>0<=h/\h<2147483647/\(Am (bs.drop k)).foldl qU h=jw bs) ⟨by omega,by omega,rfl⟩
  (af rfl) ⟨af rfl,trivial⟩ trivial ?_
 rintro k h q ⟨p,s,d⟩ l _ e;refine aF (fun a=>?_) (fun c=>?_)
 ·have a:k<bs.length:=by simpa[ah] using a
  obtain⟨b,hb,f⟩:=drop_cons a;rw[f] at d;obtain⟨o,m⟩:=vP (x:=b.toNat) p (by omega);have j:=b.toNat_lt;refine ER hb ?_;refine bf ?_;refine bM (t67 b) rfl fun _=>?_;refine bf ?_;refine bf ?_;refine kK.mk (by omega) ?_;refine bf ?_;exact⟨(k+1,qU h b.toNat),⟨a,o,m,d⟩,⟨aR,af rfl,trivial⟩,trivial,aS a⟩
 ·have c:¬k<bs.length:=by simpa[ah] using c
  rw[gM c] at d;exact aM rfl (j3 (C.int .i64) d)
theorem Wg (bs:List UInt8):CallsT PZ 23 [.sl (ah bs)] [] (gL [] (IC (jw bs))):=by
 refine au Tryz.func23 PY rfl fun a _=>?_;refine bM (t66 bs) rfl fun _=>?_;exact aM rfl rfl
theorem Yl (bs:List UInt8):CallsT PZ 47 [.sl (ah bs)] [] (gL [] (IC (jw bs))):=by
 refine au Tryz.func47 H7 rfl fun n _=>?_;have d:bs.length<=9223372036854775807:=vH n.1;refine aP bs.length 4 [3] (7:Int) (fun h=>[IC h]) (fun _=>[]) (fun k h=>(Am (bs.drop k)).foldl qU h=jw bs/\0<=h/\h<2147483647) ⟨rfl,by omega,by omega⟩ (af rfl) ⟨af rfl,trivial⟩ trivial ?_;rintro k h q ⟨a,m,p⟩ _ _ _;refine aF (fun b=>?_) (fun c=>?_)
 ·have b:k<bs.length:=by simpa[ah] using b
  refine eZ b fun x f l o=>?_;rw[o] at a;have j:=x.toNat_lt;refine bf ?_;refine ER f ?_;refine bf ?_;refine bf ?_;refine bf ?_;refine kK.mk (by omega) ?_;have e:=vP (x:=x.toNat) m (by omega);refine bf ?_;exact⟨(k+1,qU h x.toNat),⟨b,a,e.1,e.2⟩,⟨aR,af rfl,trivial⟩,trivial,aS b⟩
 ·have c:¬k<bs.length:=by simpa[ah] using c
  rw[gM c] at a;exact aM rfl (j3 (C.int .i64) a)
theorem fL (a b:List UInt8):pD ⟨a.toArray⟩ ⟨b.toArray⟩=decide (a=b):=by simp[pD]
theorem t31 (a b:List UInt8):CallsT PZ 31 [.sl (ah a),.sl (ah b)] [] (gL [] (.bool (decide (a=b)))):=by
 refine au Tryz.func31 P6 rfl fun c _=>?_;refine fP.mk ⟨a,rfl,?_⟩;refine fP.mk ⟨b,rfl,?_⟩;exact aM rfl (j3 C.bool (fL a b))
def Wh (n:Int):UInt8:=UInt8.ofNat n.toNat
def l8 (bs:List UInt8):List UInt8:=[Wh (jw bs / 16777216),Wh (jw bs / 65536),Wh (jw bs / 256),Wh (jw bs)]
def fV (b:List UInt8):List UInt8:=b++l8 b
theorem iZ {n m:Int}(h:0<=m) (e:n=m):IntKind.wrap .u8 n=((Wh m).toNat:Int):=by
 subst e;simp only[IntKind.wrap,IntKind.bits,IntKind.signed,Wh,UInt8.toNat_ofNat'];simp;omega
theorem t73:∀bs:List UInt8,bs.length<=70368744177664->CallsT PZ 73 [.sl (ah bs)] [] (gL [.row 5 1 (ah bs)] (.rw 1000))
 | [],hb=>by
  refine au Tryz.func73 H9 rfl fun c _=>?_;intro b _;refine aj (fun _=>?_) (fun _=>?_)
  ·exact YL 2 5 1 rfl rfl
  ·refine m9 0 rfl (by simp) ?_;exact xP [5] rfl rfl rfl rfl
 | x::l,hb=>by
  refine au Tryz.func73 H9 rfl fun c _=>?_;intro b a;refine aj (fun h=>?_) (fun _=>?_)
  ·rw[a (by simp[ah])] at h;cases h
  ·refine m9 0 rfl (by omega) ?_;exact xP [5] rfl rfl rfl rfl
theorem Xw (b:List UInt8):ah b++ah (l8 b)=ah (fV b):=by simp[ah,fV]
theorem t32 (bs:List UInt8) (hb:bs.length<=70368744177664):CallsT PZ 32 [.sl (ah bs)] [] (gL [.row 5 1 (ah (fV bs))] (.rw 1000)):=by
 obtain⟨d,a⟩:=js bs;refine au Tryz.func32 P7 rfl fun c _=>?_;refine bM (Wg bs) rfl fun _=>?_;refine callO [] [7] (t73 bs hb) rfl rfl rfl rfl rfl fun _ _=>?_;refine⟨by decide,?_⟩;refine Fit.to (iZ (m:=jw bs / 16777216) (by omega) (Int.fdiv_eq_ediv_of_nonneg (b:=16777216) _ (by omega))) ?_;refine⟨by decide,?_⟩;refine Fit.to (iZ (m:=jw bs / 65536) (by omega) (Int.fdiv_eq_ediv_of_nonneg (b:=65536) _ (by omega))) ?_;refine⟨by decide,?_⟩;refine Fit.to (iZ (m:=jw bs / 256) (by omega) (Int.fdiv_eq_ediv_of_nonneg (b:=256) _ (by omega))) ?_;refine Fit.to (iZ (m:=jw bs) (by omega) rfl) ?_;refine m9 (bs:=l8 bs) bs.length aG (by simp[l8];omega) ?_;exact xP [7] rfl rfl (j3 (fun q=>[TO.row 5 1 q]) (Xw bs)) rfl
theorem t24 (bs:List UInt8):CallsT PZ 24 [.sl (ah bs)] [] (gL [] (.sl (ah (l8 bs)))):=by
 obtain⟨d,a⟩:=js bs;refine au Tryz.func24 HX rfl fun c _=>?_;refine bM (Yl bs) rfl fun _=>?_;refine⟨by decide,?_⟩;refine Fit.to (iZ (m:=jw bs / 16777216) (by omega) (Int.fdiv_eq_ediv_of_nonneg (b:=16777216) _ (by omega))) ?_;refine⟨by decide,?_⟩;refine Fit.to (iZ (m:=jw bs / 65536) (by omega) (Int.fdiv_eq_ediv_of_nonneg (b:=65536) _ (by omega))) ?_;refine⟨by decide,?_⟩;refine Fit.to (iZ (m:=jw bs / 256) (by omega) (Int.fdiv_eq_ediv_of_nonneg (b:=256) _ (by omega))) ?_;refine Fit.to (iZ (m:=jw bs) (by omega) rfl) ?_;exact aM rfl rfl
def cB:List UInt8:=[76,83,1]
theorem t30:CallsT PZ 30 [] [] (gL [] (.sl (ah cB))):=by
 refine au Tryz.func30 P5 rfl fun a _=>?_;exact aM rfl rfl
theorem Nu (a b:List UInt8):decide ((a.take b.length)=b)=decide (b <+: a):=by
 congr 1;exact propext ⟨fun h=>h▸List.take_prefix _ _,fun⟨t,h⟩=>by rw[<-h];simp⟩
theorem t29 (a b:List UInt8):CallsT PZ 29 [.sl (ah a),.sl (ah b)] [] (gL [] (.bool (decide (b <+: a)))):=by
 refine au Tryz.func29 P4 rfl fun d _=>?_;have c:(ah a).length=a.length:=aG;have hb:(ah b).length=b.length:=aG;refine aF (fun h=>?_) (fun h=>?_)
 ·rw[c,hb] at h;refine tF.mk (ac9 0) (by omega) (by rw[c,hb];exact h) dM ?_;refine bM (t31 (a.take b.length) b) (j3 (fun q=>[C.sl q,C.sl (ah b)]) (?_:((ah a).drop 0).take (((ah b).length:Int).toNat-0)=ah (a.take b.length))) fun _=>?_
  ·rw[dI,hb];simp
  ·exact aM rfl (j3 C.bool (Nu a b))
 ·rw[c,hb] at h;refine aM rfl (j3 C.bool (?_:false=_))
  symm
  exact adD fun q=>h (by have:=q.length_le;omega)
theorem t61 (n:Nat) (b:n<=4611686018427387904):CallsT PZ 61 [IC n] [] (gL [] (IC ((n+31) / 32:Nat))):=by
 refine au Tryz.func61 Qx rfl fun a _=>?_;refine bf ?_;refine kK.mk (by omega) ?_;refine Fit.to (m:=(((n+31) / 32:Nat):Int)) (by show IntKind.wrap .i64 (((n+31) / 32:Nat):Int)=_;exact bP (by omega) (by omega)) ?_;exact aM rfl rfl
def cJ (b:List UInt8) (i:Nat):List UInt8:=(b.drop (32*i)).take 32
theorem IX (b:List UInt8) (i:Nat):((ah b).drop (min (32*i) b.length)).take (min (32*i+32) b.length-min (32*i) b.length)=ah (cJ b i):=by
 rw[dI];congr 1;unfold cJ
 by_cases h:32*i<=b.length
 ·rw[Nat.min_eq_left h]
  by_cases a:32*i+32<=b.length
  ·rw[Nat.min_eq_left a];congr 1;omega
  ·rw[Nat.min_eq_right (by omega),adv (by simp),adv (by simp;omega)]
 ·have e:min (32*i) b.length=b.length:=Nat.min_eq_right (by omega);rw[e,List.drop_eq_nil_of_le (ac4 b.length),List.drop_eq_nil_of_le (by omega:b.length<=32*i)];simp
theorem t62 (b:List UInt8) (i:Nat) (hi:i<=1125899906842624):CallsT PZ 62 [.sl (ah b),IC i] [] (gL [] (.sl (ah (cJ b i)))):=by
 refine au Tryz.func62 H8 rfl fun h _=>?_;have hb:(ah b).length=b.length:=aG;have l:=vH h.1;have c:(if((ah b).length:Int)<32*(i:Int) then((ah b).length:Int) else 32*(i:Int))=((min (32*i) b.length:Nat):Int):=by
  rw[hb];split<;>omega
 have a:(if((ah b).length:Int)<32*(i:Int)+32 then((ah b).length:Int) else 32*(i:Int)+32)=((min (32*i+32) b.length:Nat):Int):=by
  rw[hb];split<;>omega
 have d:0<=(if((ah b).length:Int)<32*(i:Int) then((ah b).length:Int) else 32*(i:Int)):=by rw[c];omega
 have e:(if((ah b).length:Int)<32*(i:Int) then((ah b).length:Int) else 32*(i:Int))<=(if((ah b).length:Int)<32*(i:Int)+32 then((ah b).length:Int) else 32*(i:Int)+32):=by rw[c,a];omega
 have j:(if((ah b).length:Int)<32*(i:Int)+32 then((ah b).length:Int) else 32*(i:Int)+32)<=((ah b).length:Int):=by rw[a,hb];omega
 have f:((ah b).drop (if((ah b).length:Int)<32*(i:Int) then((ah b).length:Int) else 32*(i:Int)).toNat).take ((if((ah b).length:Int)<32*(i:Int)+32 then((ah b).length:Int) else 32*(i:Int)+32).toNat-(if((ah b).length:Int)<32*(i:Int) then((ah b).length:Int) else 32*(i:Int)).toNat)=ah (cJ b i):=by
  rw[c,a];exact IX b i
 have wf:∀n:Nat,n<=b.length->(Lit.int .i64 (n:Int)).wf=true:=by
  intro n k;simp[Lit.wf,IntKind.min,IntKind.max,IntKind.bits,IntKind.signed];omega
 refine bf ?_;refine⟨(j3 (fun q=>(Lit.int .i64 q).wf) c).trans (wf _ (Nat.min_le_right _ _)),?_⟩;refine bf ?_;refine bf ?_;refine⟨(j3 (fun q=>(Lit.int .i64 q).wf) a).trans (wf _ (Nat.min_le_right _ _)),?_⟩;refine tF.mk d e j dM ?_;exact aM rfl (j3 C.sl f)
end Go.Fr.Tryz
namespace Go.Fr.Tryz
open Go Go.RowKit Go.Proofs Go.Fr Go.Fr.T Go.Fr.Api
theorem S9:∀{bs:List Own}{n:Nat},F7 bs [n]->∃g t cs,bs=[.box g (t+1) cs]/\cs.length=n
 | [],_,h=>h.elim
 | [o],n,h=>by
  cases o with
  | row=>exact h.1.elim
  | box g t cs =>
   cases t with
   | zero=>exact h.1.elim
   | succ t=>exact⟨g,t,cs,rfl,h.1⟩
 | _::_::_,_,h=>h.2.elim
theorem qP.mono {P:Program}{H:Nat}{PS PS':Value->Prop}{ns:List Nat}{out:Value->List (List Value)}(h:qP P H PS ns out) (c:∀v,PS' v->PS v):qP P H PS' ns out :=
 ⟨h.inv,h.idle,fun F bs v a w b=>h.caught F bs v a w (c v b)⟩
def Nv (v:Value):List (List Value):=[[.bool false]]
theorem U9 (bs:List Own) (w:World) (hb:F7 bs [1]):CallsD PZ 74 (bs.map oG).toArray .returning w fun e b w'=>e=.returned (.tuple #[])/\b=.returning/\w'=w:=by
 have d:Tryz.f74.ntmps=15:=by kernel_rfl
 have f:Tryz.f74.results=#[]:=by kernel_rfl
 obtain⟨g,t,cs,rfl,_⟩:=S9 hb;refine callsD_of_wpS Tryz.func74 rfl fun a cs c=>?_;apply wpS_seq;apply wpS_region;simp[wpOpsS,go_sem,recoverD,c,d,Exit.thenS,oG];apply wpS_seq;apply wpS_region;simp[wpOpsS,go_sem,Exit.thenS];refine wpS_cond (t:=false) (by simp[Act.eval,Array.replicate]) ?_;simp only[acZ,adz];refine wpS_of_wp (wp_skip ?_);cases a
 simp_all [bodyPostS,results]
theorem yH:qP PZ 74 (fun v=>v=gC) [1] Nv:=by
 refine Df Tryz.func74 QK rfl U9 ?_;rintro F bs v rfl hb;obtain⟨g,t,cs,rfl,b⟩:=S9 hb
 match cs,b with
 | [a],_ =>
  (try intro d)<;>(try intro c)<;>exact rfl
def q9 (a c:List (List C)) (b:Int) (x:Wd):List C:=.sl a::.sl c::IC b::UO x
section
variable {L:TL}{ρ:bg}
theorem cO (ks:List Nat) {f:Nat}{args a:List C}{K:TL->bg->C->Prop}{R:List TO->C->Prop}{Lin Lin':List TO}(h:CallsT PZ f a Lin' R) (l:L.sub ks=some Lin)
  (d:(T.bR ks&&T.lN L ks ks&&aY Lin ks ks)=true) (j:(args.map fun c=>c.abk.ren (cn ks 1000))=a) (m:Lin.map (TO.aa8 (C.ren (cn ks 1000)))=Lin')
  (k:∀v Mo,R Mo v->Wf v->(∀o∈Mo,o.Wf)->ks.length=Mo.length/\K (((L.aa7 ks).kills (rowsOf L ks)).puts ks (Mo.map (TO.aa8 (C.ren (bF ks))))) (fQ (rowsOf L ks) ρ) (v.ren (bF ks)).slt):nA PZ f args L ρ K:=by
 subst j m;simp only[acR] at d;obtain⟨⟨b,e⟩,c3⟩:=d;exact .mk ⟨[],ks,ks,L,Lin,_,.inl rfl,l,b,b,e,c3,h,k⟩
end
def EB (bs:List UInt8):List TO:=[.box 102 [.own 1001 0],.box 108 [.rw 1002,IC 0,.int .i8 0],.row 5 1 (ah bs)]
theorem t49 (d f:List (List C)) (b:Int) (x:Wd) (m:Ga x) (bs:List UInt8) (hb:bs.length+(mQ kW x).1.length<=70368744177664) :
  CallsTX PZ 49 [.own 1000 0,.pt (q9 d f b x) 0] (EB bs) (fun Mo c=>(mQ kW x).2=true/\Mo=EB (bs++(mQ kW x).1)/\c=.tup []) (fun v=>v=gC/\(mQ kW x).2=false):=by
 have a:=Xt aa5 d f b x m bs hb;generalize mQ kW x=e at a ⊢;obtain⟨n,p⟩:=e;unfold q9;generalize k:(.sl d::.sl f::IC b::UO x:List C)=es at a ⊢;refine aC Tryz.func49 Qk rfl fun o j=>?_;refine cH [1001,1002] a rfl rfl rfl rfl (fun v h=>h) ?_;rintro v Mo ⟨l,rfl,rfl⟩ _ _;refine⟨rfl,?_⟩;exact cD [1000,1001,1002] rfl rfl rfl rfl ⟨l,rfl,rfl⟩
theorem abh (d f:List (List C)) (b:Int) (x:Wd) (q:Ga x) (bs:List UInt8) (hb:bs.length+(mQ kW x).1.length<=70368744177664) :
  CallsT PZ 33 [.fn 49 [] [.own 1000 0,.pt (q9 d f b x) 0]] (EB bs) (fun Mo c=>((mQ kW x).2=true/\Mo=EB (bs++(mQ kW x).1)/\c=.bool true)\/((mQ kW x).2=false/\tV (EB bs) Mo/\c=.bool false)):=by
 have a:=t49 d f b x q bs hb;generalize mQ kW x=e at a ⊢;obtain⟨r,m⟩:=e;generalize q9 d f b x=es at a ⊢;refine iP (PS:=fun v=>v=gC/\m=false) (ns:=[1]) (out:=Nv) Tryz.func33 yu (qP.mono yH fun v h=>h.1) (fun v h=>rfl) rfl rfl ?_ fun s k=>?_
 ·rintro v ⟨rfl,h⟩;refine⟨.bool false,.bool false,?_,?_,fun Mo n=>.inr ⟨h,n,rfl⟩⟩
  ·intro L ρ p;obtain⟨o,g,t,j⟩:=p 0 2 _ rfl rfl;simp only[mU,o,j];rfl
  ·intro F L;rw[Rel]
 refine⟨rfl,?_⟩;refine cH [1000,1001,1002] a rfl rfl rfl rfl (fun v h=>h) ?_;rintro v Mo ⟨l,rfl,rfl⟩ _ _;refine⟨rfl,?_⟩;exact cD [1000,1001,1002] rfl rfl rfl rfl (.inl ⟨l,rfl,rfl⟩)
def kg (x:Wd):List UInt8:=if(mQ kW x).2=true then fV (cB++(mQ kW x).1) else[]
theorem Ap:cB.length=3:=rfl
theorem abj:CallsT PZ 48 [.own 1000 0,.sl (ah cB)] [.box 108 [.nils,IC 0,.int .i8 0]] (gL (Nj 108 [] cB) (.tup [IC 3,.opq 0])) :=
 CallsT.gives (WX 108 [] rfl [] cB (by decide) (by decide))
  ⟨.inl ⟨_,rfl,.inr ⟨108,_,_,rfl,rfl,⟨_,_,rfl,jK rfl rfl,⟨_,_,rfl,af rfl,⟨_,_,rfl,af rfl,rfl⟩⟩⟩⟩⟩,.inr ⟨rfl,5,1,rfl⟩,trivial⟩ (by decide)
theorem t14 (f h:List (List C)) (d:Int) (x:Wd) (m:Ga x) (hb:(mQ kW x).1.length<=35184372088832) :
  CallsT PZ 14 [.agg (q9 f h d x)] [] (gL [.row 5 1 (ah (kg x))] (.rw 1000)):=by
 have a:=abh f h d x m cB (by rw[Ap];omega);have j:=t32 (cB++(mQ kW x).1) (by simp[Ap];omega);have b:kg x=if(mQ kW x).2=true then fV (cB++(mQ kW x).1) else[]:=rfl;generalize kg x=eb at b ⊢;generalize mQ kW x=e at a b j;obtain⟨l,q⟩:=e;refine au Tryz.func14 PG rfl fun o k=>?_;refine cR t30 rfl fun _=>?_;refine C9 [5] [5,6] abj rfl rfl rfl rfl rfl fun _ _=>?_;refine cO [3,5,6] a rfl rfl rfl rfl ?_;rintro v Mo (⟨c,rfl,rfl⟩ | ⟨c,⟨n,M1,rfl,p,M2,rfl,M3,rfl,rfl⟩,rfl⟩) _ _
 ·refine⟨rfl,?_⟩;refine vG [6] [5] [5] (UW 108 (cB++l)) ⟨_,rfl,rfl,rfl,rfl,rfl,fun _ _=>?_⟩;refine callO [] [18] j rfl rfl rfl rfl rfl fun _ _=>?_;exact xP [18] rfl rfl (by rw[b,c];rfl) rfl
 ·refine⟨rfl,?_⟩;refine WK ?_;exact Xx 2 5 1 rfl rfl (by rw[b,s8 (by rw[c];exact adx)];rfl)
end Go.Fr.Tryz
namespace Go.Fr.Tryz
open Go Go.RowKit Go.Proofs Go.Fr Go.Fr.T Go.Fr.Api Go.Fr.Dm
def dG (n:Nat):Nat:=(n+31) / 32
def nN (a b:List UInt8) (i:Nat):Bool:=!decide (cJ b i <+: cJ a i)
def gT (a b:List UInt8):List Nat:=(List.range (dG b.length)).filter (nN a b)
def lR:List Int->List UInt8
 | []=>[]
 | n::l=>bN (zz n)++lR l
def ri (b:List UInt8):Int->List Nat->List UInt8
 | _,[]=>[]
 | p,i::r=>bN (zz (i-p))++(cJ b i++ri b i r)
def p7 (a b:List UInt8):List Int:=[a.length,jw a,b.length,jw b,(gT a b).length]
def cI (a b:List UInt8):List UInt8:=lR (p7 a b)++ri b (-1) (gT a b)
def su (l:List Nat):List (List C):=l.map fun(i:Nat)=>([IC (i:Int)]:List C)
theorem sw (l:List Nat):(su l).length=l.length:=by simp[su]
theorem Rw {l:List Nat}{k i:Nat}(h:l[k]?=some i):(su l)[k]?=some [IC i]:=by simp[su,h]
theorem wM {a b:List UInt8}{i:Nat}(h:i∈gT a b):i<dG b.length:=by
 simp only[gT,List.mem_filter,List.mem_range] at h;exact h.1
theorem yI (a b:List UInt8):(gT a b).length<=dG b.length:=by
 have:=List.length_filter_le (nN a b) (List.range (dG b.length));simpa[gT] using this
theorem vQ:∀(f z:Nat),z<128 ^ (f+1)->(bN z).length<=f+1
 | 0,z,h=>by rw[bN,dif_pos (by omega)];simp
 | f+1,z,h=>by
  rw[bN];split
  ·simp
  ·have:=vQ f (z / 128) (by rw[Nat.pow_succ] at h;omega);simp only[xo];omega
theorem Nw (n:Int) (m:Nat) (b:-(m:Int)<=n) (a:n<=m):zz n<=2*m:=by
 unfold zz;split<;>omega
theorem jt (n:Int) (a:-2305843009213693952<=n) (b:n<=2305843009213693952):(bN (zz n)).length<=10 :=
 vQ 9 _ (Nat.lt_of_le_of_lt (Nw n 2305843009213693952 a b) (by decide))
def Sm (n:Int):Prop:=-2305843009213693952<=n/\n<=2305843009213693952
theorem Cp:∀(l:List Int),(∀n∈l,Sm n)->(lR l).length<=10*l.length
 | [],_=>by simp[lR]
 | n::l,h=>by
  have b:=jt n (h n (by simp)).1 (h n (by simp)).2;have c:=Cp l fun m a=>h m (by simp[a]);simp only[lR,yo,xo];omega
theorem Aq (b:List UInt8) (i:Nat):(cJ b i).length<=32:=by unfold cJ;rw[ac2];omega
theorem DC (b:List UInt8):∀(p:Int) (l:List Nat),-1<=p->p<=1152921504606846976->(∀i∈l,i<=1152921504606846976)->(ri b p l).length<=42*l.length
 | p,[],_,_,_=>by simp[ri]
 | p,i::l,j,d,h=>by
  have hi:=h i (by simp);have c:=jt (i-p) (by omega) (by omega);have f:=DC b i l (by omega) (by omega) fun m a=>h m (by simp[a]);have e:=Aq b i;simp only[ri,yo,xo];omega
theorem Ta {els:List (List C)}{c:List C}{K:Prop}(n:Nat) (d:c.length=1) (b:els.length=n) (h:n<=2 ^ 40) (k:K):uE els [c] 1 8 K :=
 ⟨fun es a=>(by rcases acQ.1 a with rfl | a;exact d;cases a),by rw[b];simp only[xo,acV,maxLen];omega,by
  rw[b];simp only[xo,acV];omega,k⟩
theorem Cq (s:List Nat) (k:Nat):su s++[[IC (k:Int)]]=su (s++[k]):=by simp[su]
theorem Rx {l:List Nat}{k:Nat}{x:Nat}{K:List C->Prop}(a:l[k]?=some x) (h:K [IC (x:Int)]):Eu (su l) (k:Int) 1 K:=⟨[IC (x:Int)],by omega,Rw a,rfl,h⟩
set_option maxRecDepth 20000 in
theorem t18 (a b:List UInt8) (ha:a.length<=1073741824) (hb:b.length<=1073741824) :
  CallsT PZ 18 [.sl (ah a),.sl (ah b)] [] (gL [] (.sl (ah (cI a b)))):=by
 have ag:(ah a).length=a.length:=aG;have ab:(ah b).length=b.length:=aG;obtain⟨n,w⟩:∃n,dG b.length=n:=⟨_,rfl⟩;have av:n<=33554433:=by rw[<-w];unfold dG;omega
 have ak:CallsT PZ 61 [IC ((ah b).length:Nat)] [] (gL [] (IC (n:Nat))):=by
  rw[ab,<-w];exact t61 b.length (by omega)
 refine au Tryz.func18 PN rfl fun hw ax=>?_;refine bM ak rfl fun _=>?_;refine aP n 16 [5] [] (fun _=>[.rw 30]) (fun s:List Nat=>[(30,.row 3 1 (su s))]) (fun k s=>s=(List.range k).filter (nN a b)) rfl (af rfl) ⟨jK rfl rfl,trivial⟩ ⟨.inr ⟨rfl,3,1,rfl⟩,trivial⟩ ?_;rintro k s hk j _ _ r;refine aF (fun c=>?_) (fun o=>?_)
 ·have c:k<n:=by omega
  have ba:s.length<=k:=by
   have:=List.length_filter_le (nN a b) (List.range k);rw[j];simpa using this
  have z:(List.range (k+1)).filter (nN a b)=s++if nN a b k=true then[k] else[]:=by
   rw[List.range_succ,List.filter_append,<-j];congr 1;cases e:nN a b k<;>simp[e]
  refine bM (t62 a k (by omega)) rfl fun _=>?_;refine bM (t62 b k (by omega)) rfl fun _=>?_;refine bM (t29 (cJ a k) (cJ b k)) rfl fun _=>?_;refine aj (fun v=>?_) (fun v=>?_)
  ·have v:nN a b k=true:=v;refine Ta s.length rfl (sw s) (by omega) ?_;refine bf ?_;refine⟨(k+1,s++[k]),⟨c,by rw[z,o6 v]⟩,⟨aR,af rfl,trivial⟩,⟨.inl ⟨_,rfl,.inl ⟨j3 (TO.row 3 1) (Cq s k),rfl⟩⟩,trivial⟩,aS c⟩
  ·have v:nN a b k=false:=v;refine bf ?_;refine⟨(k+1,s),⟨c,by rw[z,s8 (by rw[v];exact adx),acT]⟩,⟨aR,af rfl,trivial⟩,⟨bJ,trivial⟩,aS c⟩
 have j:s=gT a b:=by
  have:k=n:=by omega
  rw[j,this,<-w];rfl
 have ay:s.length<=n:=by rw[j,<-w];exact yI a b
 have bb:=js a;have aw:=js b;have al:[((ah a).length:Int),jw a,((ah b).length:Int),jw b,((su s).length:Int)]=p7 a b:=by rw[ag,ab,sw,j];rfl
 have aa:∀m∈p7 a b,Sm m:=by
  intro m hm;simp only[p7,<-j,acQ,List.not_mem_nil,or_false] at hm;unfold Sm;rcases hm with rfl | rfl | rfl | rfl | rfl<;>omega
 refine bM (Wg a) rfl fun _=>?_;refine bM (Wg b) rfl fun _=>?_;have hN:=Cp _ aa;have h5:(p7 a b).length=5:=rfl;have hD:(cI a b).length<=50+42*s.length:=by
  have:=DC b (-1) (gT a b) (by omega) (by omega) fun i hi=>by have:=wM hi;omega
  rw[<-j] at this;rw[cI,yo,<-j];omega
 refine aP 5 46 [] [] (fun _=>[]) (fun d:List UInt8=>[(33,.box 108 [.rw 60,IC 0,.int .i8 0]),(60,.row 5 1 (ah d))]) (fun k d=>d++lR ((p7 a b).drop k)=lR (p7 a b)) rfl (af rfl) trivial
  ⟨.inl ⟨_,rfl,.inr ⟨108,_,_,rfl,rfl,⟨_,_,rfl,jK rfl rfl,⟨_,_,rfl,af rfl,⟨_,_,rfl,af rfl,rfl⟩⟩⟩⟩⟩,.inr ⟨rfl,5,1,rfl⟩,trivial⟩ ?_
 rintro k d hk f _ _ r;refine aF (fun c=>?_) (fun o=>?_)
 ·have h:(k:Int)<(5:Nat):=c;have h:k<5:=by omega
  refine eZ (l:=p7 a b) h fun x hx t u=>?_;rw[u] at f;obtain⟨x1,x2⟩:=aa x t;have am:=jt x x1 x2;have ad:d.length+10<=1000:=by
   have:=j3 List.length f;rw[yo] at this;omega
  refine wG (l:=[((ah a).length:Int),jw a,((ah b).length:Int),jw b,((su s).length:Int)]) (by rw[al];exact hx) ?_;refine callO [33,60] [33,60] (WY 108 d x (by omega) (by omega) (by omega)) rfl rfl rfl rfl rfl fun _ _=>?_;refine bf ?_;refine⟨(k+1,d++bN (zz x)),⟨h,by rw[acM];exact f⟩,⟨aR,trivial⟩,⟨bJ,bJ,trivial⟩,aS h⟩
 have ap:¬(k:Int)<(5:Nat):=o;have f:d=lR (p7 a b):=by
  rw[List.drop_eq_nil_of_le (by omega)] at f;simpa[lR] using f
 have ao:(su s).length=s.length:=sw s;refine aP s.length 56 [10] (d,(-1:Int)) (fun x:List UInt8×Int=>[IC x.2]) (fun x=>[(33,.box 108 [.rw 60,IC 0,.int .i8 0]),(60,.row 5 1 (ah x.1))])
  (fun k x=>x.1++ri b x.2 (s.drop k)=cI a b/\-1<=x.2/\x.2<=33554433) ⟨by rw[f,j];rfl,by omega,by omega⟩ (af rfl) ⟨af rfl,trivial⟩
  ⟨bJ,bJ,trivial⟩ ?_
 rintro k ⟨d,p⟩ hk ⟨f,y,ac⟩ _ _ r;refine aF (fun c=>?_) (fun o=>?_)
 ·have c:k<s.length:=by omega
  refine eZ c fun x hx t u=>?_;have f:d++ri b p (s.drop k)=cI a b:=f;rw[u] at f;have y:-1<=p:=y;have ac:p<=33554433:=ac;have bd:x<n:=by rw[<-w];exact wM (by rw[<-j];exact t)
  have am:=jt (x-p) (by omega) (by omega);have bc:=Aq b x;have ad:d.length<=50+42*s.length:=by
   have:=j3 List.length f;rw[yo] at this;omega
  refine Rx hx ?_;refine bf ?_;refine callO [33,60] [33,60] (WY 108 d (x-p) (by omega) (by omega) (by omega)) rfl rfl rfl rfl rfl fun _ _=>?_;refine cR (t62 b x (by omega)) rfl fun _=>?_;refine C9 [33,60] [33,60] (WX 108 [] rfl (d++bN (zz (x-p))) (cJ b x) (by rw[yo];omega) (by have:=jU (zz (x-p));rw[yo];omega)) rfl rfl rfl rfl rfl fun _ _=>?_;refine bf ?_;refine⟨(k+1,(d++bN (zz (x-p))++cJ b x,(x:Int))),⟨c,by simpa[ri] using f,by show(-1:Int)<=(x:Int);omega,by show(x:Int)<=33554433;omega⟩,⟨aR,af rfl,trivial⟩,⟨bJ,bJ,trivial⟩,aS c⟩
 have o:¬k<s.length:=by omega
 have f:d++ri b p (s.drop k)=cI a b:=f;have f:d=cI a b:=by
  rw[List.drop_eq_nil_of_le (by omega)] at f;simpa[ri] using f
 refine vG [60] [33] [33] (UW 108 d) ⟨_,rfl,rfl,rfl,rfl,rfl,fun _ _=>?_⟩;exact aM rfl (j3 (fun q=>C.sl (ah q)) f)
end Go.Fr.Tryz
