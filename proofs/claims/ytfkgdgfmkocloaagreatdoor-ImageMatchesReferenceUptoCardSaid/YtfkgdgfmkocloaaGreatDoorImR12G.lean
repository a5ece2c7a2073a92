/- Part of the proofs of the statements of this seat. -/
import Derived.Test.YtfkgdgfmkocloaaGreatDoorImR5G
import Derived.Test.YtfkgdgfmkocloaaGreatDoorImT2G
import Derived.Test.YtfkgdgfmkocloaaGreatDoorImE1G
set_option maxRecDepth 10000
set_option linter.unusedVariables false
set_option linter.unusedSimpArgs false
namespace Go.Fr.Tryz
open Go Go.RowKit Go.Proofs Go.Fr Go.Fr.T Go.Fr.Api
theorem bulkAll_app (a b:List G):G.bulkAll (a ++ b) = G.bulkAll a + G.bulkAll b:=by
 induction a with
 | nil => simp [G.bulkAll]
 | cons x a ih => simp only [List.cons_append,G.bulkAll,ih]; omega
structure LInv {α:Type} (e:α → Enc) (g:α → G) (s:WS) (n k:Nat) (a:List α) (t:WS):Prop where
 ak:a.length = k
 le:t.1.length ≤ s.1.length
 ok:t.2 = false → s.2 = false ∧ G.bulkAll (a.map g) + 2 + 2 * t.1.length ≤ 2 * s.1.length
 code:∀ ys r,s = ((listE e ys).1 ++ r,false) → (listE e ys).2 = true → n = ys.length ∧ t.2 = false ∧ ∃ zs,ys = a ++ zs ∧ t.1 = (eachE e zs).1 ++ r ∧ (eachE e zs).2 = true
def PosE {α:Type} (e:α → Enc):Prop:=∀ y,(e y).2 = true → 1 ≤ (e y).1.length
theorem pos_each {α:Type} {e:α → Enc} (h:PosE e):∀ ys:List α,(eachE e ys).2 = true → ys.length ≤ (eachE e ys).1.length
 | [],_ => Nat.zero_le _
 | y :: ys,hk => by
  obtain ⟨h1,h2⟩:=andE_t.1 hk
  have e1:(eachE e (y :: ys)).1 = (e y).1 ++ (eachE e ys).1:=andE_1 h1
  have:=h y h1
  have:=pos_each h ys h2
  rw [e1,List.length_append,List.length_cons]
  omega
theorem pos_num:PosE numE:=fun y h => by
 rw [(zz_le h).2,vint]
 split <;> simp
theorem pos_and {α:Type} {e a b:α → Enc} (h:PosE a) (he:∀ y,e y = andE (a y) (b y)):PosE e:=fun y hk => by
 rw [he] at hk ⊢
 obtain ⟨h1,h2⟩:=andE_t.1 hk
 have:=h y h1
 rw [andE_1 h1,List.length_append]; omega
theorem pos_chk {α:Type} {e b:α → Enc} {c:α → Bool} (h:PosE b) (he:∀ y,e y = andE (chkE (c y)) (b y)):PosE e:=fun y hk => by
 rw [he] at hk ⊢
 obtain ⟨h1,h2⟩:=andE_t.1 hk
 have:=h y h2
 rw [andE_1 h1,List.length_append]; omega
theorem pos_on {α β:Type} {e:α → Enc} {f:β → α} (h:PosE e):PosE (fun y => e (f y)):=fun y hk => h (f y) hk
theorem pos_list {α:Type} {e:α → Enc}:PosE (listE e):=pos_chk (b:=fun l => andE (numsE [(l.length:Int)]) (eachE e l)) (c:=fun l => decide (l.length ≤ 400)) (pos_and (a:=fun l:List α => numsE [(l.length:Int)]) (b:=fun l => eachE e l) (pos_on (f:=fun l:List α => (l.length:Int)) (pos_and (a:=numE) (b:=fun _ => okE) pos_num fun _ => rfl)) fun _ => rfl) fun _ => rfl
theorem linv0 {α:Type} {e:α → Enc} {g:α → G} {s s':WS} {n:Nat} (he:PosE e) (h:GotN 400 s n s'):LInv e g s n 0 [] s':=by
 refine ⟨rfl,h.le,fun hs => ?_,fun ys r hy hk => ?_⟩
 ·obtain ⟨h1,h2⟩:=h.ok hs
  exact ⟨h1,by simp only [List.map_nil,G.bulkAll]; omega⟩
 ·obtain ⟨h1,h2⟩:=andE_t.1 hk
  obtain ⟨h2,h3⟩:=andE_t.1 h2
  have hl:ys.length ≤ 400:=of_decide_eq_true h1
  have hone:numsE [(ys.length:Int)] = numE (ys.length:Int):=andE_nil _
  have e1:(listE e ys).1 = (numE (ys.length:Int)).1 ++ (eachE e ys).1:=by
   rw [listE,andE_1 h1,andE_1 h2,hone]; rfl
  rw [hone] at h2
  rw [e1,List.append_assoc] at hy
  have hp:=pos_each he ys h3
  obtain ⟨rfl,k2⟩:=h.code ys.length _ hy h2 (by omega) (by rw [List.length_append]; omega)
  rw [k2]
  exact ⟨rfl,rfl,ys,rfl,rfl,h3⟩
theorem linv1 {α:Type} {e:α → Enc} {g:α → G} {s t t':WS} {n k:Nat} {a:List α} {x:α} (h:LInv e g s n k a t) (hk:k < n) (hg:Got e (fun x => (g x).bulk) t x t'):LInv e g s n (k + 1) (a ++ [x]) t':=by
 refine ⟨by simp [h.ak],Nat.le_trans hg.le h.le,fun hs => ?_,fun ys r hy hc => ?_⟩
 ·obtain ⟨h1,h2⟩:=hg.ok hs
  obtain ⟨h3,h4⟩:=h.ok h1
  refine ⟨h3,?_⟩
  rw [List.map_append,bulkAll_app]
  simp only [List.map_cons,List.map_nil,G.bulkAll]
  omega
 ·obtain ⟨h1,h2,zs,h3,h4,h5⟩:=h.code ys r hy hc
  have hak:=h.ak
  cases zs with
  | nil =>
   exfalso
   rw [List.append_nil] at h3
   rw [h3] at h1
   omega
  | cons z zs =>
   obtain ⟨q1,q2⟩:=andE_t.1 h5
   have e1:(eachE e (z :: zs)).1 = (e z).1 ++ (eachE e zs).1:=andE_1 q1
   obtain ⟨rfl,p2⟩:=hg.code z ((eachE e zs).1 ++ r) (by
    obtain ⟨t1,t2⟩:=t
    simp only at h2 h4
    rw [h2,h4,e1,List.append_assoc]) q1
   rw [p2]
   exact ⟨h1,rfl,zs,by rw [h3]; simp,rfl,q2⟩
theorem linv_end {α:Type} {e:α → Enc} {g:α → G} {s t:WS} {n k sz:Nat} {a:List α} (h:LInv e g s n k a t) (hk:¬ k < n ∨ t.2 = true):Got (listE e) (fun l => (G.sl sz (l.map g)).bulk) s a t:=by
 refine ⟨h.le,fun hs => ?_,fun ys r hy hc => ?_⟩
 ·obtain ⟨h1,h2⟩:=h.ok hs
  exact ⟨h1,by simp only [G.bulk]; omega⟩
 ·obtain ⟨h1,h2,zs,h3,h4,h5⟩:=h.code ys r hy hc
  rcases hk with hk | hk
  ·have hz:zs = []:=by
    have:=congrArg List.length h3
    rw [List.length_append,h.ak] at this
    exact List.eq_nil_of_length_eq_zero (by omega)
   subst hz
   rw [List.append_nil] at h3
   refine ⟨h3.symm,?_⟩
   obtain ⟨t1,t2⟩:=t
   simp only at h2 h4
   rw [h2,h4]; rfl
  ·rw [h2] at hk; cases hk
theorem LInv.n400 {most:Int} {s s':WS} {n:Nat} (h:GotN most s n s') (hm:most ≤ 400):n ≤ 400:=by
 have:=h.nm
 by_cases hn:n = 0
 ·omega
 ·have:=this hn; omega
def QL {α:Type} (key t sz:Nat) (cell:α → List C) (q:List α × WS):TL:=[(key,.row t sz (q.1.map cell)),(1000,.box 71 [.sl (bcells q.2.1),.bool q.2.2])]
theorem q76:RrdR 76 [.own 1000 0] intsE (fun l => (G.sl 1 (l.map I)).bulk) (fun l => .sl (ics l)):=by
 intro s hb
 refine callsT_facts Tryz.func76 facts76 rfl fun hw ho => ?_
 refine qL s (q34 400) hb rfl rfl fun n s1 hg => ?_
 have hn:=LInv.n400 hg (by omega)
 refine loopN n 5 [3] (([],s1):List Int × WS) (fun _ => [.rw 17]) (fun q => QL 17 3 1 (fun n => [IC n]) q) (fun k q => LInv (fun n => numsE [n]) I s n k q.1 q.2) (linv0 (pos_on (f:=fun n:Int => n) (pos_and (a:=numE) (b:=fun _ => okE) pos_num fun _ => rfl)) hg) (same_keys rfl) ⟨nil_rw rfl rfl,trivial⟩
  ⟨.inr ⟨rfl,3,1,rfl⟩,.inl ⟨_,rfl,.inl ⟨rfl,rfl⟩⟩,trivial⟩ (fun _ => rfl) (fun _ => rfl) ?_
 rintro k ⟨a,t⟩ hk hinv _ _ _
 simp only at hinv
 have hak:=hinv.ak
 refine brn_p (fun hlt => ?_) (fun hge => ?_)
 ·have hlt:k < n:=by omega
  refine qN t q37 (Nat.le_trans hinv.le hb) rfl rfl fun x t' hx _ => ?_
  refine app1r k rfl (by simpa using hak) (by omega) (by omega) ?_
  refine Fit.in64 (by omega) (by omega) ?_
  refine ⟨(k + 1,(a ++ [x],t')),⟨by omega,linv1 hinv hlt (hx.map (b':=fun x => (I x).bulk) (fun n => n) (fun n => n) (fun y => andE_nil _) (fun _ => rfl) (Nat.le_refl _))⟩,⟨nextI,⟨same_keys rfl,trivial⟩⟩,⟨.inl ⟨_,rfl,.inl ⟨?_,rfl⟩⟩,.inl ⟨_,rfl,.inl ⟨rfl,rfl⟩⟩,trivial⟩,nextM hlt⟩
  exact congrArg (TO.row 3 1) (List.map_append (f:=fun n => [IC n]) (l₁:=a) (l₂:=[x])).symm
 ·refine retRF [17] [1000] ⟨_,_,rfl,rfl,rfl,?_⟩
  exact ⟨a,t,rfl,rfl,linv_end hinv (.inl (by omega))⟩
theorem q74w (hc:RrdR 75 [.own 1000 0,IC 8] fullE (fun x => x.g.bulk) tyA):RrdR 74 [.own 1000 0] typesE (fun l => (G.sl 3 (l.map Ty.g)).bulk) (fun l => .sl (l.map tyC)):=by
 intro s hb
 refine callsT_facts Tryz.func74 facts74 rfl fun hw ho => ?_
 refine qL s (q34 400) hb rfl rfl fun n s1 hg => ?_
 have hn:=LInv.n400 hg (by omega)
 refine loopN n 5 [3] (([],s1):List Ty × WS) (fun _ => [.rw 24]) (fun q => QL 24 51 3 tyC q) (fun k q => LInv fullE Ty.g s n k q.1 q.2) (linv0 (pos_and (a:=fun t => numsE [t.kind,t.id]) (b:=fun t => listE (typE 7) t.args) (pos_and (a:=fun t:Ty => numE t.kind) (b:=fun t => numsE [t.id]) (pos_on (f:=Ty.kind) pos_num) fun _ => rfl) fun _ => rfl) hg) (same_keys rfl) ⟨nil_rw rfl rfl,trivial⟩
  ⟨.inr ⟨rfl,51,3,rfl⟩,.inl ⟨_,rfl,.inl ⟨rfl,rfl⟩⟩,trivial⟩ (fun _ => rfl) (fun _ => rfl) ?_
 rintro k ⟨a,t⟩ hk hinv _ _ _
 simp only at hinv
 have hak:=hinv.ak
 refine brn_p (fun hlt => ?_) (fun hge => ?_)
 ·have hlt:k < n:=by omega
  refine brn_split (fun ok => ?_) (fun bad => ?_)
  ·refine qN t hc (Nat.le_trans hinv.le hb) rfl rfl fun x t' hx _ => ?_
   refine app1r k rfl (by simpa using hak) (by omega) (by omega) ?_
   refine Fit.in64 (by omega) (by omega) ?_
   refine ⟨(k + 1,(a ++ [x],t')),⟨by omega,linv1 hinv hlt hx⟩,⟨nextI,⟨same_keys rfl,trivial⟩⟩,⟨.inl ⟨_,rfl,.inl ⟨?_,rfl⟩⟩,.inl ⟨_,rfl,.inl ⟨rfl,rfl⟩⟩,trivial⟩,nextM hlt⟩
   exact congrArg (TO.row 51 3) (by rw [List.map_append,List.map_singleton,tyC_eq]; rfl)
  ·refine retRF [24] [1000] ⟨_,_,rfl,rfl,rfl,?_⟩
   exact ⟨a,t,rfl,rfl,linv_end hinv (.inr (by simpa using bad))⟩
 ·refine retRF [24] [1000] ⟨_,_,rfl,rfl,rfl,?_⟩
  exact ⟨a,t,rfl,rfl,linv_end hinv (.inl (by omega))⟩
theorem qX {α:Type} {PS:Value → Prop} {fb:List Nat} {f:Nat} {args args':List C} {e:α → Enc} {bulk:α → Nat} {cell:α → C} {L:TL} {ρ:TEnv} {K:TL → TEnv → C → Prop} (s:WS) (h:RrdR f args' e bulk cell) (hb:s.1.length ≤ mxR) (hs:L.sub [1000] = some (RR s))
  (hfb:disjB [1000] fb = true) (ha:(args.map fun c => c.canA.ren (toIn [1000] 1000)) = args')
  (k:∀ x s',Got e bulk s x s' → Wf (cell x) → K ((L.dels [1000]).puts [1000] (RR s')) ρ ((cell x).ren (fromIn [1000])).slt):CallXDT PZ PS fb f args L ρ K:=by
 subst ha
 refine ⟨[1000],_,_,fun _ => False,hs,rfl,hfb,rfl,(h s hb).toX,fun v h => h.elim,?_⟩
 rintro v Mo ⟨x,s',rfl,rfl,hg⟩ hw hwo
 refine ⟨rfl,?_⟩
 rw [show rowsOf L [1000] = [] from rows1 hs]
 exact k x s' hg hw
def QT (k i:Int) (q:List Ty × WS):TL:=[(45,.row 51 3 (q.1.map tyC)),(1000,.box 71 [.sl (bcells q.2.1),.bool q.2.2]),(5,.box 51 [IC k,IC i,.rw 45]),(4,.box 51 [IC 0,IC 0,.nils])]
theorem bool_pair (s:WS) {b:Bool} (h:b = s.2):((s.1,b):WS) = s:=by rw [h]
theorem got_none {s t:WS} {x:Ty} (h:t.1.length ≤ s.1.length) (hb:t.2 = true):Got (typE 0) (fun x => x.g.bulk) s x t :=
 ⟨h,fun q => (by rw [hb] at q; cases q),fun y r _ he => (by cases he)⟩
theorem q75:∀ (d:Nat) (m:Int),m.toNat = d → RrdR 75 [.own 1000 0,IC m] (typE d) (fun x => x.g.bulk) tyA
 | 0,m,hm => by
  intro s hb
  refine callsT_facts Tryz.func75 facts75 rfl fun hw ho => ?_
  refine qN s q37 hb rfl rfl fun kd s1 g1 _ => ?_
  have b1:=Nat.le_trans g1.le hb
  refine qN s1 q37 b1 rfl rfl fun id s2 g2 _ => ?_
  have b2:=Nat.le_trans g2.le b1
  refine qL s2 (q34 400) b2 rfl rfl fun n s3 g3 => ?_
  have b3:=Nat.le_trans g3.le b2
  have hle:s3.1.length ≤ s.1.length:=Nat.le_trans g3.le (Nat.le_trans g2.le g1.le)
  refine brn_split (fun h4 => ?_) (fun h4 => ?_)
  ·refine loopN n 7 [] (([],(s3.1,true)):List Ty × WS) (fun _ => []) (fun q => QT kd id q) (fun _ q => q = ([],(s3.1,true))) rfl (same_keys rfl) trivial
    ⟨.inr ⟨rfl,51,3,rfl⟩,.inl ⟨_,rfl,.inl ⟨rfl,rfl⟩⟩,.inl ⟨_,rfl,.inr ⟨51,_,_,rfl,rfl,_,_,rfl,same_keys rfl,_,_,rfl,same_keys rfl,_,_,rfl,nil_rw rfl rfl,rfl⟩⟩,.inl ⟨_,rfl,.inl ⟨rfl,rfl⟩⟩,trivial⟩ (fun _ => rfl) (fun _ => rfl) ?_
   rintro k q hk hq _ _ _
   refine brn_p (fun hlt => ?_) (fun hge => ?_)
   ·refine brn_split (fun ok => ?_) (fun bad => ?_)
    ·rw [hq] at ok; cases ok
    ·refine retRF [45] [1000] ⟨_,_,rfl,rfl,rfl,?_⟩
     exact ⟨.mk kd id q.1,q.2,rfl,rfl,got_none (by rw [hq]; exact hle) (by rw [hq])⟩
   ·refine retRF [45] [1000] ⟨_,_,rfl,rfl,rfl,?_⟩
    exact ⟨.mk kd id q.1,q.2,rfl,rfl,got_none (by rw [hq]; exact hle) (by rw [hq])⟩
  ·have hb4:decide (m < 1) = true:=decide_eq_true (by omega)
   refine loopN n 7 [] (([],(s3.1,decide (m < 1))):List Ty × WS) (fun _ => []) (fun q => QT kd id q) (fun _ q => q = ([],(s3.1,decide (m < 1)))) rfl (same_keys rfl) trivial
    ⟨.inr ⟨rfl,51,3,rfl⟩,.inl ⟨_,rfl,.inl ⟨rfl,rfl⟩⟩,.inl ⟨_,rfl,.inr ⟨51,_,_,rfl,rfl,_,_,rfl,same_keys rfl,_,_,rfl,same_keys rfl,_,_,rfl,nil_rw rfl rfl,rfl⟩⟩,.inl ⟨_,rfl,.inl ⟨rfl,rfl⟩⟩,trivial⟩ (fun _ => rfl) (fun _ => rfl) ?_
   rintro k q hk hq _ _ _
   refine brn_p (fun hlt => ?_) (fun hge => ?_)
   ·refine brn_split (fun ok => ?_) (fun bad => ?_)
    ·rw [hq,hb4] at ok; cases ok
    ·refine retRF [45] [1000] ⟨_,_,rfl,rfl,rfl,?_⟩
     exact ⟨.mk kd id q.1,q.2,rfl,rfl,got_none (by rw [hq]; exact hle) (by rw [hq]; exact hb4)⟩
   ·refine retRF [45] [1000] ⟨_,_,rfl,rfl,rfl,?_⟩
    exact ⟨.mk kd id q.1,q.2,rfl,rfl,got_none (by rw [hq]; exact hle) (by rw [hq]; exact hb4)⟩
 | d + 1,m,hm => by
  have ih:=q75 d (m - 1) (by omega)
  intro s hb
  refine callsT_facts Tryz.func75 facts75 rfl fun hw ho => ?_
  have hm2:m ≤ 9223372036854775807:=(wf_I hw.2.1).2
  refine qN s q37 hb rfl rfl fun kd s1 g1 _ => ?_
  have b1:=Nat.le_trans g1.le hb
  refine qN s1 q37 b1 rfl rfl fun id s2 g2 _ => ?_
  have b2:=Nat.le_trans g2.le b1
  refine qL s2 (q34 400) b2 rfl rfl fun n s3 g3 => ?_
  have b3:=Nat.le_trans g3.le b2
  have hn:=LInv.n400 g3 (by omega)
  have hpos:PosE (typE d):=by
   cases d with
   | zero => exact fun y h => by cases h
   | succ d => exact pos_and (a:=fun t => numsE [t.kind,t.id]) (b:=fun t => listE (typE d) t.args) (pos_and (a:=fun t:Ty => numE t.kind) (b:=fun t => numsE [t.id]) (pos_on (f:=Ty.kind) pos_num) fun _ => rfl) fun _ => rfl
  have hI:=linv0 (g:=Ty.g) hpos g3
  have hend:∀ (k:Nat) (a:List Ty) (t:WS),LInv (typE d) Ty.g s2 n k a t → (¬ k < n ∨ t.2 = true) → Got (typE (d + 1)) (fun x => x.g.bulk) s (.mk kd id a) t:=fun k a t hinv hk => by
   have:=(g1.pair (g2.pair (linv_end (sz:=3) hinv hk))).map (e':=typE (d + 1)) (b':=fun x => x.g.bulk) (fun p => Ty.mk p.1 p.2.1 p.2.2) (fun t => (t.kind,t.id,t.args)) (fun y => by
    simp only [typE,eachE,andE_assoc,andE_nil]) (fun y => by cases y; rfl) (by simp only [Ty.g,Ty.gs_map,G.bulk,G.bulkAll]; omega)
   exact this
  have hm1:decide (m < 1) = false:=decide_eq_false (by omega)
  have hloop:∀ b4:Bool,b4 = s3.2 → LInv (typE d) Ty.g s2 n 0 [] (s3.1,b4):=fun b4 h => by rw [bool_pair s3 h]; exact hI
  refine brn_split (fun h4 => ?_) (fun h4 => ?_)
  ·have hL:=hloop true h4.symm
   refine loopN n 7 [] (([],(s3.1,true)):List Ty × WS) (fun _ => []) (fun q => QT kd id q) (fun k q => LInv (typE d) Ty.g s2 n k q.1 q.2) hL (same_keys rfl) trivial
    ⟨.inr ⟨rfl,51,3,rfl⟩,.inl ⟨_,rfl,.inl ⟨rfl,rfl⟩⟩,.inl ⟨_,rfl,.inr ⟨51,_,_,rfl,rfl,_,_,rfl,same_keys rfl,_,_,rfl,same_keys rfl,_,_,rfl,nil_rw rfl rfl,rfl⟩⟩,.inl ⟨_,rfl,.inl ⟨rfl,rfl⟩⟩,trivial⟩ (fun _ => rfl) (fun _ => rfl) ?_
   rintro k ⟨a,t⟩ hk hinv _ _ _
   simp only at hinv
   have hak:=hinv.ak
   refine brn_p (fun hlt => ?_) (fun hge => ?_)
   ·have hlt:k < n:=by omega
    refine brn_split (fun ok => ?_) (fun bad => ?_)
    ·refine Fit.in64 (by omega) (by omega) ?_
     refine qX t ih (Nat.le_trans hinv.le b2) rfl rfl rfl fun x t' hx _ => ?_
     refine app1r k rfl (by simpa using hak) (by omega) (by omega) ?_
     refine Fit.in64 (by omega) (by omega) ?_
     refine ⟨(k + 1,(a ++ [x],t')),⟨by omega,linv1 hinv hlt hx⟩,⟨nextI,trivial⟩,⟨.inl ⟨_,rfl,.inl ⟨?_,rfl⟩⟩,.inl ⟨_,rfl,.inl ⟨rfl,rfl⟩⟩,.inl ⟨_,rfl,.inl ⟨rfl,rfl⟩⟩,.inl ⟨_,rfl,.inl ⟨rfl,rfl⟩⟩,trivial⟩,nextM hlt⟩
     exact congrArg (TO.row 51 3) (by rw [List.map_append,List.map_singleton,tyC_eq]; rfl)
    ·refine retRF [45] [1000] ⟨_,_,rfl,rfl,rfl,?_⟩
     exact ⟨.mk kd id a,t,rfl,rfl,hend k a t hinv (.inr (by simpa using bad))⟩
   ·refine retRF [45] [1000] ⟨_,_,rfl,rfl,rfl,?_⟩
    exact ⟨.mk kd id a,t,rfl,rfl,hend k a t hinv (.inl (by omega))⟩
  ·have hL:=hloop (decide (m < 1)) (hm1.trans h4.symm)
   refine loopN n 7 [] (([],(s3.1,decide (m < 1))):List Ty × WS) (fun _ => []) (fun q => QT kd id q) (fun k q => LInv (typE d) Ty.g s2 n k q.1 q.2) hL (same_keys rfl) trivial
    ⟨.inr ⟨rfl,51,3,rfl⟩,.inl ⟨_,rfl,.inl ⟨rfl,rfl⟩⟩,.inl ⟨_,rfl,.inr ⟨51,_,_,rfl,rfl,_,_,rfl,same_keys rfl,_,_,rfl,same_keys rfl,_,_,rfl,nil_rw rfl rfl,rfl⟩⟩,.inl ⟨_,rfl,.inl ⟨rfl,rfl⟩⟩,trivial⟩ (fun _ => rfl) (fun _ => rfl) ?_
   rintro k ⟨a,t⟩ hk hinv _ _ _
   simp only at hinv
   have hak:=hinv.ak
   refine brn_p (fun hlt => ?_) (fun hge => ?_)
   ·have hlt:k < n:=by omega
    refine brn_split (fun ok => ?_) (fun bad => ?_)
    ·refine Fit.in64 (by omega) (by omega) ?_
     refine qX t ih (Nat.le_trans hinv.le b2) rfl rfl rfl fun x t' hx _ => ?_
     refine app1r k rfl (by simpa using hak) (by omega) (by omega) ?_
     refine Fit.in64 (by omega) (by omega) ?_
     refine ⟨(k + 1,(a ++ [x],t')),⟨by omega,linv1 hinv hlt hx⟩,⟨nextI,trivial⟩,⟨.inl ⟨_,rfl,.inl ⟨?_,rfl⟩⟩,.inl ⟨_,rfl,.inl ⟨rfl,rfl⟩⟩,.inl ⟨_,rfl,.inl ⟨rfl,rfl⟩⟩,.inl ⟨_,rfl,.inl ⟨rfl,rfl⟩⟩,trivial⟩,nextM hlt⟩
     exact congrArg (TO.row 51 3) (by rw [List.map_append,List.map_singleton,tyC_eq]; rfl)
    ·refine retRF [45] [1000] ⟨_,_,rfl,rfl,rfl,?_⟩
     exact ⟨.mk kd id a,t,rfl,rfl,hend k a t hinv (.inr (by simpa using bad))⟩
   ·refine retRF [45] [1000] ⟨_,_,rfl,rfl,rfl,?_⟩
    exact ⟨.mk kd id a,t,rfl,rfl,hend k a t hinv (.inl (by omega))⟩
theorem q75f:RrdR 75 [.own 1000 0,IC 8] fullE (fun x => x.g.bulk) tyA:=q75 8 8 rfl
theorem q74:RrdR 74 [.own 1000 0] typesE (fun l => (G.sl 3 (l.map Ty.g)).bulk) (fun l => .sl (l.map tyC)):=q74w q75f
theorem pos_name:PosE nameE:=pos_chk (b:=fun s:ByteArray => andE (numsE [(s.size:Int)]) (s.data.toList,true)) (c:=fun s => decide (s.size ≤ 200)) (pos_and (a:=fun s:ByteArray => numsE [(s.size:Int)]) (b:=fun s => (s.data.toList,true)) (pos_on (f:=fun s:ByteArray => (s.size:Int)) (pos_and (a:=numE) (b:=fun _ => okE) pos_num fun _ => rfl)) fun _ => rfl) fun _ => rfl
theorem pos_var:PosE varE:=pos_and (a:=fun v:Variant => nameE v.name) (b:=fun v => typesE v.fields) (pos_on (f:=Variant.name) pos_name) fun _ => rfl
theorem pos_ins:PosE insE:=fun y h => by
 have q:=(andE_t.1 (andE_t.1 h).1).1
 have:=pos_num y.op q
 have q2:=(andE_t.1 h).1
 have e:(insE y).1 = (numsE [y.op,y.dst,y.a,y.b,y.n]).1 ++ (andE (intsE y.args) (typesE y.types)).1:=andE_1 q2
 have e2:(numsE [y.op,y.dst,y.a,y.b,y.n]).1 = (numE y.op).1 ++ (numsE [y.dst,y.a,y.b,y.n]).1:=andE_1 q
 rw [e,List.length_append,e2,List.length_append]; omega
theorem var_got {s s1 s2:WS} {x:ByteArray} {l:List Ty} (h:Got nameE (fun x => x.size + 1) s x s1) (k:Got typesE (fun l => (G.sl 3 (l.map Ty.g)).bulk) s1 l s2):Got varE (fun v => v.g.bulk) s ⟨x,l⟩ s2 :=
 (h.pair k).map (e':=varE) (b':=fun v:Variant => v.g.bulk) (fun p => (⟨p.1,p.2⟩:Variant)) (fun v => (v.name,v.fields)) (fun _ => rfl) (fun _ => rfl) (by simp only [Variant.g,G.bulk,G.bulkAll]; omega)
theorem ins_got {s s1 s2 s3 s4 s5 s6 s7:WS} {a b c d f:Int} {l:List Int} {m:List Ty} (g1:Got numE (fun _ => 1) s a s1) (g2:Got numE (fun _ => 1) s1 b s2) (g3:Got numE (fun _ => 1) s2 c s3) (g4:Got numE (fun _ => 1) s3 d s4) (g5:Got numE (fun _ => 1) s4 f s5)
  (g6:Got intsE (fun l => (G.sl 1 (l.map I)).bulk) s5 l s6) (g7:Got typesE (fun l => (G.sl 3 (l.map Ty.g)).bulk) s6 m s7):Got insE (fun x => x.g.bulk) s ⟨a,b,c,d,f,l,m⟩ s7 :=
 (g1.pair (g2.pair (g3.pair (g4.pair (g5.pair (g6.pair g7)))))).map (e':=insE) (b':=fun x:Ins => x.g.bulk) (fun p => (⟨p.1,p.2.1,p.2.2.1,p.2.2.2.1,p.2.2.2.2.1,p.2.2.2.2.2.1,p.2.2.2.2.2.2⟩:Ins)) (fun x => (x.op,x.dst,x.a,x.b,x.n,x.args,x.types))
  (fun y => by simp only [insE,numsE,eachE,andE_assoc,andE_nil]) (fun _ => rfl) (by simp only [Ins.g,G.bulk,G.bulkAll]; omega)
def QD (nm:ByteArray) (m p d:Int) (q:List Variant × WS):TL:=[(43,.row 48 2 (q.1.map variantC)),(1000,.box 71 [.sl (bcells q.2.1),.bool q.2.2]),(3,.box 44 [.str nm,IC m,IC p,.rw 43,IC d]),(2,.box 44 [.str ⟨#[]⟩,IC 0,IC 0,.nils,IC 0])]
theorem q35:RrdR 35 [.own 1000 0] dataE (fun x => x.g.bulk) (fun x => .agg (dataC x)):=by
 intro s hb
 refine callsT_facts Tryz.func35 facts35 rfl fun hw ho => ?_
 refine qN s q73 hb rfl rfl fun nm s1 g1 _ => ?_
 have b1:=Nat.le_trans g1.le hb
 refine qN s1 q37 b1 rfl rfl fun m s2 g2 _ => ?_
 have b2:=Nat.le_trans g2.le b1
 refine qN s2 q37 b2 rfl rfl fun p s3 g3 _ => ?_
 have b3:=Nat.le_trans g3.le b2
 refine qN s3 q37 b3 rfl rfl fun d s4 g4 _ => ?_
 have b4:=Nat.le_trans g4.le b3
 refine qL s4 (q34 400) b4 rfl rfl fun n s5 g5 => ?_
 have hn:=LInv.n400 g5 (by omega)
 have hend:∀ (k:Nat) (a:List Variant) (t:WS),LInv varE Variant.g s4 n k a t → (¬ k < n ∨ t.2 = true) → Got dataE (fun x => x.g.bulk) s ⟨nm,m,p,a,d⟩ t:=fun k a t hinv hk =>
  (g1.pair (g2.pair (g3.pair (g4.pair (linv_end (sz:=2) hinv hk))))).map (e':=dataE) (b':=fun x:Api.Data => x.g.bulk) (fun q => (⟨q.1,q.2.1,q.2.2.1,q.2.2.2.2,q.2.2.2.1⟩:Api.Data)) (fun x => (x.name,x.module,x.params,x.drop,x.variants))
   (fun y => by simp only [dataE,numsE,eachE,andE_assoc,andE_nil]) (fun _ => rfl) (by simp only [Data.g,G.bulk,G.bulkAll]; omega)
 refine loopN n 5 [] (([],s5):List Variant × WS) (fun _ => []) (fun q => QD nm m p d q) (fun k q => LInv varE Variant.g s4 n k q.1 q.2) (linv0 pos_var g5) (same_keys rfl) trivial
  ⟨.inr ⟨rfl,48,2,rfl⟩,.inl ⟨_,rfl,.inl ⟨rfl,rfl⟩⟩,.inl ⟨_,rfl,.inr ⟨44,_,_,rfl,rfl,_,_,rfl,same_keys rfl,_,_,rfl,same_keys rfl,_,_,rfl,same_keys rfl,_,_,rfl,nil_rw rfl rfl,_,_,rfl,same_keys rfl,rfl⟩⟩,.inl ⟨_,rfl,.inl ⟨rfl,rfl⟩⟩,trivial⟩ (fun _ => rfl) (fun _ => rfl) ?_
 rintro k ⟨a,t⟩ hk hinv _ _ _
 simp only at hinv
 have hak:=hinv.ak
 have bt:=Nat.le_trans hinv.le b4
 refine brn_p (fun hlt => ?_) (fun hge => ?_)
 ·have hlt:k < n:=by omega
  refine brn_split (fun ok => ?_) (fun bad => ?_)
  ·refine qN t q73 bt rfl rfl fun x t1 h1 _ => ?_
   refine qN t1 q74 (Nat.le_trans h1.le bt) rfl rfl fun l t2 h2 _ => ?_
   refine app1r k rfl (by simpa using hak) (by omega) (by omega) ?_
   refine Fit.in64 (by omega) (by omega) ?_
   refine ⟨(k + 1,(a ++ [⟨x,l⟩],t2)),⟨by omega,linv1 hinv hlt (var_got h1 h2)⟩,⟨nextI,trivial⟩,⟨.inl ⟨_,rfl,.inl ⟨?_,rfl⟩⟩,.inl ⟨_,rfl,.inl ⟨rfl,rfl⟩⟩,.inl ⟨_,rfl,.inl ⟨rfl,rfl⟩⟩,.inl ⟨_,rfl,.inl ⟨rfl,rfl⟩⟩,trivial⟩,nextM hlt⟩
   exact congrArg (TO.row 48 2) (List.map_append (f:=variantC) (l₁:=a) (l₂:=[⟨x,l⟩])).symm
  ·refine retRF [43] [1000] ⟨_,_,rfl,rfl,rfl,?_⟩
   exact ⟨⟨nm,m,p,a,d⟩,t,rfl,rfl,hend k a t hinv (.inr (by simpa using bad))⟩
 ·refine retRF [43] [1000] ⟨_,_,rfl,rfl,rfl,?_⟩
  exact ⟨⟨nm,m,p,a,d⟩,t,rfl,rfl,hend k a t hinv (.inl (by omega))⟩
def QB (q:List Ins × WS):TL:=[(46,.row 100 7 (q.1.map insC)),(1000,.box 71 [.sl (bcells q.2.1),.bool q.2.2]),(3,.box 105 [.rw 46,IC 0,IC 0,.nils]),(2,.box 105 [.nils,IC 0,IC 0,.nils])]
theorem q77:RrdR 77 [.own 1000 0] blockE (fun x => x.g.bulk) (fun x => .agg (blockC x)):=by
 intro s hb
 refine callsT_facts Tryz.func77 facts77 rfl fun hw ho => ?_
 refine qL s (q34 400) hb rfl rfl fun n s1 g1 => ?_
 have hn:=LInv.n400 g1 (by omega)
 have hend:∀ (k:Nat) (a:List Ins) (t t1 t2 t3:WS) (x y:Int) (l:List Int),LInv insE Ins.g s n k a t → (¬ k < n ∨ t.2 = true) → Got numE (fun _ => 1) t x t1 → Got numE (fun _ => 1) t1 y t2 → Got intsE (fun l => (G.sl 1 (l.map I)).bulk) t2 l t3 → Got blockE (fun x => x.g.bulk) s ⟨a,⟨x,y,l⟩⟩ t3:=fun k a t t1 t2 t3 x y l hinv hk h1 h2 h3 =>
  ((linv_end (sz:=7) hinv hk).pair (h1.pair (h2.pair h3))).map (e':=blockE) (b':=fun x:Block => x.g.bulk) (fun q => (⟨q.1,⟨q.2.1,q.2.2.1,q.2.2.2⟩⟩:Block)) (fun x => (x.code,x.fin.kind,x.fin.a,x.fin.targets))
   (fun y => by simp only [blockE,numsE,eachE,andE_assoc,andE_nil]) (fun _ => rfl) (by simp only [Block.g,Term.g,G.bulk,G.bulkAll]; omega)
 refine loopN n 5 [] (([],s1):List Ins × WS) (fun _ => []) (fun q => QB q) (fun k q => LInv insE Ins.g s n k q.1 q.2) (linv0 pos_ins g1) (same_keys rfl) trivial
  ⟨.inr ⟨rfl,100,7,rfl⟩,.inl ⟨_,rfl,.inl ⟨rfl,rfl⟩⟩,.inl ⟨_,rfl,.inr ⟨105,_,_,rfl,rfl,_,_,rfl,nil_rw rfl rfl,_,_,rfl,same_keys rfl,_,_,rfl,same_keys rfl,_,_,rfl,same_keys rfl,rfl⟩⟩,.inl ⟨_,rfl,.inl ⟨rfl,rfl⟩⟩,trivial⟩ (fun _ => rfl) (fun _ => rfl) ?_
 rintro k ⟨a,t⟩ hk hinv _ _ _
 simp only at hinv
 have hak:=hinv.ak
 have bt:=Nat.le_trans hinv.le hb
 refine brn_p (fun hlt => ?_) (fun hge => ?_)
 ·have hlt:k < n:=by omega
  refine brn_split (fun ok => ?_) (fun bad => ?_)
  ·refine qN t q37 bt rfl rfl fun x1 t1 h1 _ => ?_
   have c1:=Nat.le_trans h1.le bt
   refine qN t1 q37 c1 rfl rfl fun x2 t2 h2 _ => ?_
   have c2:=Nat.le_trans h2.le c1
   refine qN t2 q37 c2 rfl rfl fun x3 t3 h3 _ => ?_
   have c3:=Nat.le_trans h3.le c2
   refine qN t3 q37 c3 rfl rfl fun x4 t4 h4 _ => ?_
   have c4:=Nat.le_trans h4.le c3
   refine qN t4 q37 c4 rfl rfl fun x5 t5 h5 _ => ?_
   have c5:=Nat.le_trans h5.le c4
   refine qN t5 q76 c5 rfl rfl fun x6 t6 h6 _ => ?_
   refine qN t6 q74 (Nat.le_trans h6.le c5) rfl rfl fun x7 t7 h7 _ => ?_
   refine app1r k rfl (by simpa using hak) (by omega) (by omega) ?_
   refine Fit.in64 (by omega) (by omega) ?_
   refine ⟨(k + 1,(a ++ [⟨x1,x2,x3,x4,x5,x6,x7⟩],t7)),⟨by omega,linv1 hinv hlt (ins_got h1 h2 h3 h4 h5 h6 h7)⟩,⟨nextI,trivial⟩,⟨.inl ⟨_,rfl,.inl ⟨?_,rfl⟩⟩,.inl ⟨_,rfl,.inl ⟨rfl,rfl⟩⟩,.inl ⟨_,rfl,.inl ⟨rfl,rfl⟩⟩,.inl ⟨_,rfl,.inl ⟨rfl,rfl⟩⟩,trivial⟩,nextM hlt⟩
   exact congrArg (TO.row 100 7) (List.map_append (f:=insC) (l₁:=a) (l₂:=[⟨x1,x2,x3,x4,x5,x6,x7⟩])).symm
  ·refine qN t q37 bt rfl rfl fun x t1 h1 _ => ?_
   refine qN t1 q37 (Nat.le_trans h1.le bt) rfl rfl fun y t2 h2 _ => ?_
   refine qN t2 q76 (Nat.le_trans h2.le (Nat.le_trans h1.le bt)) rfl rfl fun l t3 h3 _ => ?_
   refine retRF [46] [1000] ⟨_,_,rfl,rfl,rfl,?_⟩
   exact ⟨⟨a,⟨x,y,l⟩⟩,t3,rfl,rfl,hend k a t t1 t2 t3 x y l hinv (.inr (by simpa using bad)) h1 h2 h3⟩
 ·skip
  ·refine qN t q37 bt rfl rfl fun x t1 h1 _ => ?_
   refine qN t1 q37 (Nat.le_trans h1.le bt) rfl rfl fun y t2 h2 _ => ?_
   refine qN t2 q76 (Nat.le_trans h2.le (Nat.le_trans h1.le bt)) rfl rfl fun l t3 h3 _ => ?_
   refine retRF [46] [1000] ⟨_,_,rfl,rfl,rfl,?_⟩
   exact ⟨⟨a,⟨x,y,l⟩⟩,t3,rfl,rfl,hend k a t t1 t2 t3 x y l hinv (.inl (by omega)) h1 h2 h3⟩
theorem bit_got {s s1:WS} {n:Int} (h:Got numE (fun _ => 1) s n s1):Got (fun b => numE (bitI b)) (fun _ => 1) s (decide (n = 1)) s1 :=
 h.map (e':=fun b => numE (bitI b)) (b':=fun _ => 1) (fun n => decide (n = 1)) bitI (fun _ => rfl) (fun b => by cases b <;> rfl) (Nat.le_refl _)
theorem lent_got {s s1 s2 s3:WS} {a b c:Int} (g1:Got numE (fun _ => 1) s a s1) (g2:Got numE (fun _ => 1) s1 b s2) (g3:Got numE (fun _ => 1) s2 c s3):Got lentE (fun x => (lentG x).bulk) s ⟨a,decide (b = 1),decide (c = 1)⟩ s3 :=
 (g1.pair ((bit_got g2).pair (bit_got g3))).map (e':=lentE) (b':=fun x => (lentG x).bulk) (fun p => (⟨p.1,p.2.1,p.2.2⟩:Lent)) (fun x => (x.slot,x.excl,x.re)) (fun y => by simp only [lentE,numsE,eachE,andE_assoc,andE_nil]) (fun _ => rfl) (by simp only [lentG,G.bulk,G.bulkAll]; omega)
theorem slot_got {s s1 s2 s3 s4 s5:WS} {a c d:Int} {t:Ty} {l:List Lent} (g1:Got numE (fun _ => 1) s a s1) (g2:Got fullE (fun x => x.g.bulk) s1 t s2) (g3:Got numE (fun _ => 1) s2 c s3) (g4:Got numE (fun _ => 1) s3 d s4)
  (g5:Got (listE lentE) (fun l => (G.sl 3 (l.map lentG)).bulk) s4 l s5):Got slotE (fun x => (slotG x).bulk) s ⟨a,t,c,d,l⟩ s5 :=
 (g1.pair (g2.pair (g3.pair (g4.pair g5)))).map (e':=slotE) (b':=fun x => (slotG x).bulk) (fun p => (⟨p.1,p.2.1,p.2.2.1,p.2.2.2.1,p.2.2.2.2⟩:Slot)) (fun x => (x.state,x.type,x.var,x.flag,x.lent)) (fun y => by simp only [slotE,numsE,eachE,andE_assoc,andE_nil]) (fun _ => rfl) (by simp only [slotG,G.bulk,G.bulkAll]; omega)
theorem pos_lent:PosE lentE:=pos_and (a:=fun x:Lent => numE x.slot) (b:=fun x => numsE [bitI x.excl,bitI x.re]) (pos_on (f:=Lent.slot) pos_num) fun _ => rfl
theorem pos_slot:PosE slotE:=pos_and (a:=fun x:Slot => numsE [x.state]) (b:=fun s => andE (fullE s.type) (andE (numsE [s.var,s.flag]) (listE lentE s.lent))) (pos_and (a:=fun x:Slot => numE x.state) (b:=fun _ => okE) (pos_on (f:=Slot.state) pos_num) fun _ => rfl) fun _ => rfl
theorem pos_block:PosE blockE:=pos_and (a:=fun b:Block => listE insE b.code) (b:=fun b => andE (numsE [b.fin.kind,b.fin.a]) (intsE b.fin.targets)) (pos_on (f:=Block.code) pos_list) fun _ => rfl
theorem pos_rout:PosE routE:=pos_and (a:=fun r:Rout => nameE r.name) (b:=fun r => andE (typesE r.params) (andE (fullE r.result) (andE (intsE r.ties) (andE (numsE [r.slots]) (andE (listE blockE r.blocks) (listE slotsE r.entry)))))) (pos_on (f:=Rout.name) pos_name) fun _ => rfl
def QI (z:List Slot) (a:Int) (t:Ty) (c d:Int) (q:List Lent × WS):TL:=[(65,.row 158 3 (q.1.map lentC)),(1000,.box 71 [.sl (bcells q.2.1),.bool q.2.2]),(6,.box 108 [IC a,IC t.kind,IC t.id,.sl (t.args.map tyC),IC c,IC d,.rw 65]),(70,.row 108 7 (z.map slotC))]
theorem q78:RrdR 78 [.own 1000 0] slotsE (fun l => (slotsG l).bulk) (fun l => .sl (l.map slotC)):=by
 intro s hb
 refine callsT_facts Tryz.func78 facts78 rfl fun hw ho => ?_
 refine qL s (q34 400) hb rfl rfl fun n s1 hg => ?_
 have hn:=LInv.n400 hg (by omega)
 refine loopN n 5 [3] (([],s1):List Slot × WS) (fun _ => [.rw 70]) (fun q => QL 70 108 7 slotC q) (fun k q => LInv slotE slotG s n k q.1 q.2) (linv0 pos_slot hg) (same_keys rfl) ⟨nil_rw rfl rfl,trivial⟩
  ⟨.inr ⟨rfl,108,7,rfl⟩,.inl ⟨_,rfl,.inl ⟨rfl,rfl⟩⟩,trivial⟩ (fun _ => rfl) (fun _ => rfl) ?_
 rintro k ⟨a,t⟩ hk hinv _ _ _
 simp only at hinv
 have hak:=hinv.ak
 have bt:=Nat.le_trans hinv.le hb
 refine brn_p (fun hlt => ?_) (fun hge => ?_)
 ·have hlt:k < n:=by omega
  refine brn_split (fun ok => ?_) (fun bad => ?_)
  ·refine qN t q37 bt rfl rfl fun x1 t1 h1 _ => ?_
   have c1:=Nat.le_trans h1.le bt
   refine qN t1 q75f c1 rfl rfl fun x2 t2 h2 _ => ?_
   have c2:=Nat.le_trans h2.le c1
   refine qN t2 q37 c2 rfl rfl fun x3 t3 h3 _ => ?_
   have c3:=Nat.le_trans h3.le c2
   refine qN t3 q37 c3 rfl rfl fun x4 t4 h4 _ => ?_
   have c4:=Nat.le_trans h4.le c3
   refine qL t4 (q34 400) c4 rfl rfl fun m t5 h5 => ?_
   have hm:=LInv.n400 h5 (by omega)
   refine loopN m 8 [3] (([],t5):List Lent × WS) (fun _ => [.rw 70]) (fun q => QI a x1 x2 x3 x4 q) (fun j q => LInv lentE lentG t4 m j q.1 q.2) (linv0 pos_lent h5) (same_keys rfl) ⟨same_keys rfl,trivial⟩
    ⟨.inr ⟨rfl,158,3,rfl⟩,.inl ⟨_,rfl,.inl ⟨rfl,rfl⟩⟩,.inl ⟨_,rfl,.inr ⟨108,_,_,rfl,rfl,_,_,rfl,same_keys rfl,_,_,rfl,same_keys rfl,_,_,rfl,same_keys rfl,_,_,rfl,same_keys rfl,_,_,rfl,same_keys rfl,_,_,rfl,same_keys rfl,_,_,rfl,nil_rw rfl rfl,rfl⟩⟩,.inl ⟨_,rfl,.inl ⟨rfl,rfl⟩⟩,trivial⟩ (fun _ => rfl) (fun _ => rfl) ?_
   rintro j ⟨b,u⟩ hj jinv _ _ _
   simp only at jinv
   have hbk:=jinv.ak
   have bu:=Nat.le_trans jinv.le c4
   refine brn_p (fun jlt => ?_) (fun jge => ?_)
   ·have jlt:j < m:=by omega
    refine brn_split (fun ok2 => ?_) (fun bad2 => ?_)
    ·refine qN u q37 bu rfl rfl fun y1 u1 i1 _ => ?_
     have d1:=Nat.le_trans i1.le bu
     refine qN u1 q37 d1 rfl rfl fun y2 u2 i2 _ => ?_
     refine qN u2 q37 (Nat.le_trans i2.le d1) rfl rfl fun y3 u3 i3 _ => ?_
     refine app1r j rfl (by simpa using hbk) (by omega) (by omega) ?_
     refine Fit.in64 (by omega) (by omega) ?_
     refine ⟨(j + 1,(b ++ [⟨y1,decide (y2 = 1),decide (y3 = 1)⟩],u3)),⟨by omega,linv1 jinv jlt (lent_got i1 i2 i3)⟩,⟨nextI,⟨same_keys rfl,trivial⟩⟩,⟨.inl ⟨_,rfl,.inl ⟨?_,rfl⟩⟩,.inl ⟨_,rfl,.inl ⟨rfl,rfl⟩⟩,.inl ⟨_,rfl,.inl ⟨rfl,rfl⟩⟩,.inl ⟨_,rfl,.inl ⟨rfl,rfl⟩⟩,trivial⟩,nextM jlt⟩
     exact congrArg (TO.row 158 3) (List.map_append (f:=lentC) (l₁:=b) (l₂:=[⟨y1,decide (y2 = 1),decide (y3 = 1)⟩])).symm
    ·skip
     refine app1r k rfl (by simpa using hak) (by omega) (by omega) ?_
     refine Fit.in64 (by omega) (by omega) ?_
     refine ⟨(k + 1,(a ++ [⟨x1,x2,x3,x4,b⟩],u)),⟨by omega,linv1 hinv hlt (slot_got h1 h2 h3 h4 (linv_end jinv (.inr (by simpa using bad2))))⟩,⟨nextI,⟨same_keys rfl,trivial⟩⟩,⟨.inl ⟨_,rfl,.inl ⟨?_,rfl⟩⟩,.inl ⟨_,rfl,.inl ⟨rfl,rfl⟩⟩,trivial⟩,nextM hlt⟩
     exact congrArg (TO.row 108 7) (List.map_append (f:=slotC) (l₁:=a) (l₂:=[⟨x1,x2,x3,x4,b⟩])).symm
   ·skip
    refine app1r k rfl (by simpa using hak) (by omega) (by omega) ?_
    refine Fit.in64 (by omega) (by omega) ?_
    refine ⟨(k + 1,(a ++ [⟨x1,x2,x3,x4,b⟩],u)),⟨by omega,linv1 hinv hlt (slot_got h1 h2 h3 h4 (linv_end jinv (.inl (by omega))))⟩,⟨nextI,⟨same_keys rfl,trivial⟩⟩,⟨.inl ⟨_,rfl,.inl ⟨?_,rfl⟩⟩,.inl ⟨_,rfl,.inl ⟨rfl,rfl⟩⟩,trivial⟩,nextM hlt⟩
    exact congrArg (TO.row 108 7) (List.map_append (f:=slotC) (l₁:=a) (l₂:=[⟨x1,x2,x3,x4,b⟩])).symm
  ·refine retRF [70] [1000] ⟨_,_,rfl,rfl,rfl,?_⟩
   exact ⟨a,t,rfl,rfl,linv_end hinv (.inr (by simpa using bad))⟩
 ·refine retRF [70] [1000] ⟨_,_,rfl,rfl,rfl,?_⟩
  exact ⟨a,t,rfl,rfl,linv_end hinv (.inl (by omega))⟩
def QR1 (nm:ByteArray) (ps:List Ty) (r:Ty) (ti:List Int) (sl:Int) (q:List Block × WS):TL:=[(41,.row 105 4 (q.1.map blockC)),(1000,.box 71 [.sl (bcells q.2.1),.bool q.2.2]),(3,.box 56 [.str nm,.sl (ps.map tyC),IC r.kind,IC r.id,.sl (r.args.map tyC),.sl (ics ti),IC sl,.rw 41,.nils]),(2,.box 56 [.str ⟨#[]⟩,.nils,IC 0,IC 0,.nils,.nils,IC 0,.nils,.nils])]
def QR2 (nm:ByteArray) (ps:List Ty) (r:Ty) (ti:List Int) (sl:Int) (bs:List Block) (q:List (List Slot) × WS):TL:=[(62,.row 109 1 (q.1.map slotsC)),(41,.row 105 4 (bs.map blockC)),(1000,.box 71 [.sl (bcells q.2.1),.bool q.2.2]),(3,.box 56 [.str nm,.sl (ps.map tyC),IC r.kind,IC r.id,.sl (r.args.map tyC),.sl (ics ti),IC sl,.rw 41,.rw 62]),(2,.box 56 [.str ⟨#[]⟩,.nils,IC 0,IC 0,.nils,.nils,IC 0,.nils,.nils])]
theorem q36:RrdR 36 [.own 1000 0] routE (fun x => (routG x).bulk) (fun x => .agg (routC x)):=by
 intro s hb
 refine callsT_facts Tryz.func36 facts36 rfl fun hw ho => ?_
 refine qN s q73 hb rfl rfl fun nm s1 g1 _ => ?_
 have b1:=Nat.le_trans g1.le hb
 refine qN s1 q74 b1 rfl rfl fun ps s2 g2 _ => ?_
 have b2:=Nat.le_trans g2.le b1
 refine qN s2 q75f b2 rfl rfl fun r s3 g3 _ => ?_
 have b3:=Nat.le_trans g3.le b2
 refine qN s3 q76 b3 rfl rfl fun ti s4 g4 _ => ?_
 have b4:=Nat.le_trans g4.le b3
 refine qN s4 q37 b4 rfl rfl fun sl s5 g5 _ => ?_
 have b5:=Nat.le_trans g5.le b4
 refine qL s5 (q34 400) b5 rfl rfl fun n s6 g6 => ?_
 have hn:=LInv.n400 g6 (by omega)
 have hend:∀ (k j:Nat) (a:List Block) (t:WS) (m:Nat) (t1:WS) (b:List (List Slot)) (u:WS),LInv blockE Block.g s5 n k a t → (¬ k < n ∨ t.2 = true) → GotN 400 t m t1 → LInv slotsE slotsG t m j b u → (¬ j < m ∨ u.2 = true) → Got routE (fun x => (routG x).bulk) s ⟨nm,ps,r,ti,sl,a,b⟩ u:=fun k j a t m t1 b u i1 e1 _ i2 e2 =>
  (g1.pair (g2.pair (g3.pair (g4.pair (g5.pair ((linv_end (sz:=4) i1 e1).pair (linv_end (sz:=1) i2 e2))))))).map (e':=routE) (b':=fun x => (routG x).bulk) (fun q => (⟨q.1,q.2.1,q.2.2.1,q.2.2.2.1,q.2.2.2.2.1,q.2.2.2.2.2.1,q.2.2.2.2.2.2⟩:Rout)) (fun x => (x.name,x.params,x.result,x.ties,x.slots,x.blocks,x.entry))
   (fun y => by simp only [routE,numsE,eachE,andE_assoc,andE_nil]) (fun _ => rfl) (by simp only [routG,G.bulk,G.bulkAll]; omega)
 refine loopN n 5 [] (([],s6):List Block × WS) (fun _ => []) (fun q => QR1 nm ps r ti sl q) (fun k q => LInv blockE Block.g s5 n k q.1 q.2) (linv0 pos_block g6) (same_keys rfl) trivial
  ⟨.inr ⟨rfl,105,4,rfl⟩,.inl ⟨_,rfl,.inl ⟨rfl,rfl⟩⟩,.inl ⟨_,rfl,.inr ⟨56,_,_,rfl,rfl,_,_,rfl,same_keys rfl,_,_,rfl,same_keys rfl,_,_,rfl,same_keys rfl,_,_,rfl,same_keys rfl,_,_,rfl,same_keys rfl,_,_,rfl,same_keys rfl,_,_,rfl,same_keys rfl,_,_,rfl,nil_rw rfl rfl,_,_,rfl,same_keys rfl,rfl⟩⟩,.inl ⟨_,rfl,.inl ⟨rfl,rfl⟩⟩,trivial⟩ (fun _ => rfl) (fun _ => rfl) ?_
 rintro k ⟨a,t⟩ hk hinv _ _ _
 simp only at hinv
 have hak:=hinv.ak
 have bt:=Nat.le_trans hinv.le b5
 refine brn_p (fun hlt => ?_) (fun hge => ?_)
 ·have hlt:k < n:=by omega
  refine brn_split (fun ok => ?_) (fun bad => ?_)
  ·refine qX t q77 bt rfl rfl rfl fun x t1 h1 _ => ?_
   refine app1r k rfl (by simpa using hak) (by omega) (by omega) ?_
   refine Fit.in64 (by omega) (by omega) ?_
   refine ⟨(k + 1,(a ++ [x],t1)),⟨by omega,linv1 hinv hlt h1⟩,⟨nextI,trivial⟩,⟨.inl ⟨_,rfl,.inl ⟨?_,rfl⟩⟩,.inl ⟨_,rfl,.inl ⟨rfl,rfl⟩⟩,.inl ⟨_,rfl,.inl ⟨rfl,rfl⟩⟩,.inl ⟨_,rfl,.inl ⟨rfl,rfl⟩⟩,trivial⟩,nextM hlt⟩
   exact congrArg (TO.row 105 4) (List.map_append (f:=blockC) (l₁:=a) (l₂:=[x])).symm
  ·skip
   refine qL t (q34 400) bt rfl rfl fun m t1 g => ?_
   have hm:=LInv.n400 g (by omega)
   refine loopN m 6 [] (([],t1):List (List Slot) × WS) (fun _ => []) (fun q => QR2 nm ps r ti sl a q) (fun j q => LInv slotsE slotsG t m j q.1 q.2) (linv0 pos_list g) (same_keys rfl) trivial
    ⟨.inr ⟨rfl,109,1,rfl⟩,.inl ⟨_,rfl,.inl ⟨rfl,rfl⟩⟩,.inl ⟨_,rfl,.inl ⟨rfl,rfl⟩⟩,.inl ⟨_,rfl,.inr ⟨56,_,_,rfl,rfl,_,_,rfl,same_keys rfl,_,_,rfl,same_keys rfl,_,_,rfl,same_keys rfl,_,_,rfl,same_keys rfl,_,_,rfl,same_keys rfl,_,_,rfl,same_keys rfl,_,_,rfl,same_keys rfl,_,_,rfl,same_keys rfl,_,_,rfl,nil_rw rfl rfl,rfl⟩⟩,.inl ⟨_,rfl,.inl ⟨rfl,rfl⟩⟩,trivial⟩ (fun _ => rfl) (fun _ => rfl) ?_
   rintro j ⟨b,u⟩ hj jinv _ _ _
   simp only at jinv
   have hbk:=jinv.ak
   have bu:=Nat.le_trans jinv.le bt
   refine brn_p (fun jlt => ?_) (fun jge => ?_)
   ·have jlt:j < m:=by omega
    refine brn_split (fun ok2 => ?_) (fun bad2 => ?_)
    ·refine qX u q78 bu rfl rfl rfl fun x u1 i1 _ => ?_
     refine app1r j rfl (by simpa using hbk) (by omega) (by omega) ?_
     refine Fit.in64 (by omega) (by omega) ?_
     refine ⟨(j + 1,(b ++ [x],u1)),⟨by omega,linv1 jinv jlt i1⟩,⟨nextI,trivial⟩,⟨.inl ⟨_,rfl,.inl ⟨?_,rfl⟩⟩,.inl ⟨_,rfl,.inl ⟨rfl,rfl⟩⟩,.inl ⟨_,rfl,.inl ⟨rfl,rfl⟩⟩,.inl ⟨_,rfl,.inl ⟨rfl,rfl⟩⟩,.inl ⟨_,rfl,.inl ⟨rfl,rfl⟩⟩,trivial⟩,nextM jlt⟩
     exact congrArg (TO.row 109 1) (List.map_append (f:=slotsC) (l₁:=b) (l₂:=[x])).symm
    ·skip
     refine retRF [41,62] [1000] ⟨_,_,rfl,rfl,rfl,?_⟩
     exact ⟨⟨nm,ps,r,ti,sl,a,b⟩,u,rfl,rfl,hend k j a t m t1 b u hinv (.inr (by simpa using bad)) g jinv (.inr (by simpa using bad2))⟩
   ·skip
    refine retRF [41,62] [1000] ⟨_,_,rfl,rfl,rfl,?_⟩
    exact ⟨⟨nm,ps,r,ti,sl,a,b⟩,u,rfl,rfl,hend k j a t m t1 b u hinv (.inr (by simpa using bad)) g jinv (.inl (by omega))⟩
 ·skip
  refine qL t (q34 400) bt rfl rfl fun m t1 g => ?_
  have hm:=LInv.n400 g (by omega)
  refine loopN m 6 [] (([],t1):List (List Slot) × WS) (fun _ => []) (fun q => QR2 nm ps r ti sl a q) (fun j q => LInv slotsE slotsG t m j q.1 q.2) (linv0 pos_list g) (same_keys rfl) trivial
   ⟨.inr ⟨rfl,109,1,rfl⟩,.inl ⟨_,rfl,.inl ⟨rfl,rfl⟩⟩,.inl ⟨_,rfl,.inl ⟨rfl,rfl⟩⟩,.inl ⟨_,rfl,.inr ⟨56,_,_,rfl,rfl,_,_,rfl,same_keys rfl,_,_,rfl,same_keys rfl,_,_,rfl,same_keys rfl,_,_,rfl,same_keys rfl,_,_,rfl,same_keys rfl,_,_,rfl,same_keys rfl,_,_,rfl,same_keys rfl,_,_,rfl,same_keys rfl,_,_,rfl,nil_rw rfl rfl,rfl⟩⟩,.inl ⟨_,rfl,.inl ⟨rfl,rfl⟩⟩,trivial⟩ (fun _ => rfl) (fun _ => rfl) ?_
  rintro j ⟨b,u⟩ hj jinv _ _ _
  simp only at jinv
  have hbk:=jinv.ak
  have bu:=Nat.le_trans jinv.le bt
  refine brn_p (fun jlt => ?_) (fun jge => ?_)
  ·have jlt:j < m:=by omega
   refine brn_split (fun ok2 => ?_) (fun bad2 => ?_)
   ·refine qX u q78 bu rfl rfl rfl fun x u1 i1 _ => ?_
    refine app1r j rfl (by simpa using hbk) (by omega) (by omega) ?_
    refine Fit.in64 (by omega) (by omega) ?_
    refine ⟨(j + 1,(b ++ [x],u1)),⟨by omega,linv1 jinv jlt i1⟩,⟨nextI,trivial⟩,⟨.inl ⟨_,rfl,.inl ⟨?_,rfl⟩⟩,.inl ⟨_,rfl,.inl ⟨rfl,rfl⟩⟩,.inl ⟨_,rfl,.inl ⟨rfl,rfl⟩⟩,.inl ⟨_,rfl,.inl ⟨rfl,rfl⟩⟩,.inl ⟨_,rfl,.inl ⟨rfl,rfl⟩⟩,trivial⟩,nextM jlt⟩
    exact congrArg (TO.row 109 1) (List.map_append (f:=slotsC) (l₁:=b) (l₂:=[x])).symm
   ·skip
    refine retRF [41,62] [1000] ⟨_,_,rfl,rfl,rfl,?_⟩
    exact ⟨⟨nm,ps,r,ti,sl,a,b⟩,u,rfl,rfl,hend k j a t m t1 b u hinv (.inl (by omega)) g jinv (.inr (by simpa using bad2))⟩
  ·skip
   refine retRF [41,62] [1000] ⟨_,_,rfl,rfl,rfl,?_⟩
   exact ⟨⟨nm,ps,r,ti,sl,a,b⟩,u,rfl,rfl,hend k j a t m t1 b u hinv (.inl (by omega)) g jinv (.inl (by omega))⟩
def BR (a:Option Addr) (c:Nat) (bs:List UInt8):Own:=.row (.slice a bs.length c) 5 1 bs.length (bvals bs)
def RI (o:Own) (n:Int):Frz → List Own → Value → Prop:=fun F Lo v => Lo = [o] ∧ v = .int .i64 n
theorem lit4 {F:Frz} {g:Nat} {cs:List Value} {t:TypeId} {fr:Nat × Nat} (h:F g = some (.cells cs.toArray t fr)):FCells F (some ⟨g,0,none⟩) 0 cs :=
 ⟨_,_,_,_,rfl,h,rfl,fun i v hv => by simpa using hv⟩
theorem a58 (F:Frz) (a:Option Addr) (c:Nat) (bs:List UInt8) (ha:a = none → bs.length = 0) (hm:bs.length ≤ maxLen) :
  CallsA PZ 58 #[.slice a bs.length c] F [BR a c bs] (RI (BR a c bs) (dig bs)):=by
 unfold maxLen at hm
 refine callsA2_facts (svs:=[.v (.slice a bs.length c)]) rfl facts58 rfl rfl (vals_own [.slice a bs.length c]) (fun _ _ _ _ _ h => h) ?_
 refine LoopPt2.mk ⟨Nat × Int,(0,7),fun y F => y.1 ≤ bs.length ∧ (bytesN (bs.drop y.1)).foldl stepN y.2 = dig bs ∧ 0 ≤ y.2 ∧ y.2 < 2147483647,[4,3],fun y => [.int .i64 (y.1:Nat),.int .i64 y.2],fun y => inp [BR a c bs],fun y => bs.length - y.1,
  ⟨Nat.zero_le _,rfl,by omega,by omega⟩,⟨rfl,rfl,trivial⟩,givesR_of ⟨.inl rfl,trivial⟩,fun _ => trivial,?_⟩
 rintro ⟨k,h⟩ F1 jk hle ⟨hk,hinv,h0,h1⟩ hre
 simp only at hk hinv h0 h1
 refine brn_p (fun hlt => ?_) (fun hge => ?_)
 ·have hlt:k < bs.length:=by omega
  refine withDrop hlt fun x hx hxm hd => ?_
  rw [hd] at hinv
  have hxb:=x.toNat_lt
  refine Fit.in64 (by omega) (by omega) ?_
  refine IdxPt.mk (fun e => by have:=ha e; omega) (by omega) (by omega) ?_
  obtain ⟨ad,rfl⟩:=Option.ne_none_iff_exists'.1 (fun e => by have:=ha e; omega:a ≠ none)
  refine LoadPt.mk ⟨[bval x],rfl,.inr (.inl ⟨1000,_,_,_,_,_,ad,c,rfl,rfl,rfl,fun i u hu => ?_⟩),?_⟩
  ·cases i with
   | zero =>
    injection hu with hu
    subst hu
    simp only [bvals,List.getElem?_map]
    have:(k:Int).toNat * 1 + 0 = k:=by omega
    rw [this,hx]; rfl
   | succ i => cases hu
  refine Fit.in64 (by omega) (by omega) ?_
  refine Fit.in64 (by omega) (by omega) ?_
  refine Fit.in64 (by omega) (by omega) ?_
  refine NonZ.mk (by omega) ?_
  have hs:=stepN_bd (x:=x.toNat) h0 (by omega)
  refine Fit.in64 (by omega) (by omega) ?_
  exact ⟨(k + 1,stepN h x.toNat),⟨by show k + 1 ≤ _; omega,hinv,hs.1,hs.2⟩,⟨by rfl,by rfl,trivial⟩,givesR_of ⟨.inl rfl,trivial⟩,by show bs.length - (k + 1) < bs.length - k; omega⟩
 ·have hge:¬ k < bs.length:=by omega
  rw [drop_end hge] at hinv
  exact ⟨[1000],_,rfl,by decide,rfl,congrArg (Value.int .i64) hinv⟩
theorem a19 (F:Frz) (a:Option Addr) (c:Nat) (bs:List UInt8) (ha:a = none → bs.length = 0) (hm:bs.length ≤ maxLen) :
  CallsA PZ 19 #[.slice a bs.length c] F [BR a c bs] (fun F' Lo v => Lo = [BR a c bs] ∧ Rel F' (inp []) (.sl (bcells (dig4 bs))) v):=by
 obtain ⟨h0,h1⟩:=dig_bd bs
 refine callsA2_facts (svs:=[.v (.slice a bs.length c)]) rfl facts19 rfl rfl (vals_own [.slice a bs.length c]) (fun F G Lo v hle h => ⟨h.1,h.2.mono hle⟩) ?_
 refine CallPt.mk ⟨[1000],[1000],[BR a c bs],_,rfl,by decide,by decide,fun k hk => .inl hk,a58 F a c bs ha hm,?_⟩
 rintro v F1 Lo hle ⟨rfl,rfl⟩
 refine ⟨rfl,fun k g t cs hk e => ?_,?_⟩
 ·rw [List.mem_singleton.1 hk] at e
  cases e
 refine ⟨by omega,?_⟩
 refine Fit.to' (wrap_by8 (m:=dig bs / 16777216) (by omega) (Int.fdiv_eq_ediv_of_nonneg (b:=16777216) _ (by omega))) ?_
 refine ⟨by omega,?_⟩
 refine Fit.to' (wrap_by8 (m:=dig bs / 65536) (by omega) (Int.fdiv_eq_ediv_of_nonneg (b:=65536) _ (by omega))) ?_
 refine ⟨by omega,?_⟩
 refine Fit.to' (wrap_by8 (m:=dig bs / 256) (by omega) (Int.fdiv_eq_ediv_of_nonneg (b:=256) _ (by omega))) ?_
 refine Fit.to' (wrap_by8 (m:=dig bs) (by omega) rfl) ?_
 intro g F2 hle2 hF
 exact ⟨[1000],_,rfl,by decide,rfl,bytes_sl (p:=dig4 bs) (lit4 (cs:=bvals (dig4 bs)) hF) (Nat.le_refl _) (by rw [dig4_len]; simp [maxLen])⟩
theorem lent19 (bs:List UInt8):LendT PZ 19 [.rw 1000] 5 1 (bcells bs) (.sl (bcells (dig4 bs))):=by
 refine ⟨fun F rv xs vs hr hv => ?_⟩
 obtain ⟨_,_,_,⟨hm,a,c,rfl,ha⟩,hrow⟩:=hr
 have hx:=RelRow_bvals hrow
 subst hx
 simp only [Rels,Rel] at hv
 obtain ⟨v,vs',rfl,⟨a',c',t,sz,n,xs,rfl,e⟩,rfl⟩:=hv
 rw [bcells_len] at e hm ha ⊢
 injection e with e
 injection e with e1 e2 e3 e4 e5
 rw [← e1]
 exact a19 F a c bs ha hm
theorem callDL (kr:Nat) {f:Nat} {args args':List C} {L:TL} {ρ:TEnv} {d:Option Nat} {K:TL → TEnv → C → Prop} {t sz:Nat} {els:List (List C)} {x:C} (h:LendT PZ f args' t sz els x) (hk:L.get kr = some (.row t sz els))
  (ha:(args.map fun c => c.canA.ren (toIn [kr] 1000)) = args') (k:Wf x → K L ρ x.slt):CallDT PZ f args L ρ d K:=by
 subst ha
 exact .lent kr t sz els x hk h k
def EL (s:WS):TL:=[(8,.box 91 [.rw 6,.bool s.2]),(6,.row 5 1 (bcells s.1))]
theorem encR_bad {i:Img} {s:WS} (h:s = imgR i ([76,72,1],false)) (hb:s.2 = true):encR i = []:=by rw [encR,← h,hb]
theorem encR_ok {i:Img} {s:WS} (h:s = imgR i ([76,72,1],false)) (hb:s.2 = false):encR i = s.1 ++ dig4 s.1:=by rw [encR,← h,hb]; rfl
theorem t14r (i:Img) (hb:(imgR i ([76,72,1],false)).1.length ≤ 70368744177660):CallsT PZ 14 [.agg (imgC i)] [] (Ret [] (.sl (bcells (encR i)))):=by
 have b4:(imgR i ([76,72,1],false)).1.length ≤ mxR:=Nat.le_trans hb (by decide)
 have b3:(listR routR i.routs (listR dataR i.datas ([76,72,1],false))).1.length ≤ mxR:=lo_le (numR_g i.main) b4
 have b2:(lenR i.routs.length (listR dataR i.datas ([76,72,1],false))).1.length ≤ mxR:=Nat.le_trans (eachR_lo (fun x s => (routR_g x).lo s) i.routs _) b3
 have b1:(listR dataR i.datas ([76,72,1],false)).1.length ≤ mxR:=lo_le (lenR_g _) b2
 have b0:(lenR i.datas.length ([76,72,1],false)).1.length ≤ mxR:=Nat.le_trans (eachR_lo (fun x s => (dataR_g x).lo s) i.datas _) b1
 refine callsT_facts Tryz.func14 facts14 rfl fun hw ho => ?_
 have hw1:i.datas.length ≤ 9223372036854775807:=by have h:=hw.1; simp only [imgC,Wf,WfS] at h; exact wf_lenM h.1
 have hw2:i.routs.length ≤ 9223372036854775807:=by have h:=hw.1; simp only [imgC,Wf,WfS] at h; exact wf_lenM h.2.1
 refine callO [8,6] [8,6] (r46 i.datas.length ([76,72,1],false) b0) rfl rfl (congrArg (fun q:Nat => [C.own 1000 0,IC q]) lenM) rfl rfl fun _ _ => ?_
 refine loopN (i.datas).length 4 [] (lenR i.datas.length ([76,72,1],false)) (fun _ => []) (fun q => EL q) (fun k q => eachR dataR ((i.datas).drop k) q = listR dataR i.datas ([76,72,1],false)) rfl (same_keys rfl) trivial ⟨.inl ⟨_,rfl,.inl ⟨rfl,rfl⟩⟩,.inl ⟨_,rfl,.inl ⟨rfl,rfl⟩⟩,trivial⟩ (fun _ => rfl) (fun _ => rfl) ?_
 rintro kA sA hkA invA _ _ _
 refine brn_p (fun ltA => ?_) (fun geA => ?_)
 ·have ltA:kA < (i.datas).length:=by rw [lenM] at ltA; omega
  obtain ⟨xA,hxA,hdA⟩:=drop_cons ltA
  refine brn_split (fun okA => ?_) (fun badA => ?_)
  ·have nxA:=each_step hdA okA invA
   have nbA:(dataR xA sA).1.length ≤ mxR:=Nat.le_trans (eachR_lo (fun x s => (dataR_g x).lo s) _ _) (by rw [nxA]; exact b1)
   refine idxT hxA rfl rfl ?_
   refine callO [8,6] [8,6] (r47 xA sA nbA) rfl rfl rfl rfl rfl fun _ _ => ?_
   refine Fit.in64 (by omega) (by omega) ?_
   exact ⟨(kA + 1,dataR xA sA),⟨ltA,nxA⟩,⟨nextI,trivial⟩,⟨.inl ⟨_,rfl,.inl ⟨rfl,rfl⟩⟩,.inl ⟨_,rfl,.inl ⟨rfl,rfl⟩⟩,trivial⟩,nextM ltA⟩
  ·have eA:sA = _:=each_bad badA invA
   subst eA
   refine callO [8,6] [8,6] (r46 i.routs.length (listR dataR i.datas ([76,72,1],false)) b2) rfl rfl (congrArg (fun q:Nat => [C.own 1000 0,IC q]) lenM) rfl rfl fun _ _ => ?_
   refine loopN (i.routs).length 5 [] (lenR i.routs.length (listR dataR i.datas ([76,72,1],false))) (fun _ => []) (fun q => EL q) (fun k q => eachR routR ((i.routs).drop k) q = listR routR i.routs (listR dataR i.datas ([76,72,1],false))) rfl (same_keys rfl) trivial ⟨.inl ⟨_,rfl,.inl ⟨rfl,rfl⟩⟩,.inl ⟨_,rfl,.inl ⟨rfl,rfl⟩⟩,trivial⟩ (fun _ => rfl) (fun _ => rfl) ?_
   rintro kB sB hkB invB _ _ _
   refine brn_p (fun ltB => ?_) (fun geB => ?_)
   ·have ltB:kB < (i.routs).length:=by rw [lenM] at ltB; omega
    obtain ⟨xB,hxB,hdB⟩:=drop_cons ltB
    refine brn_split (fun okB => ?_) (fun badB => ?_)
    ·have nxB:=each_step hdB okB invB
     have nbB:(routR xB sB).1.length ≤ mxR:=Nat.le_trans (eachR_lo (fun x s => (routR_g x).lo s) _ _) (by rw [nxB]; exact b3)
     refine idxT hxB rfl rfl ?_
     refine callO [8,6] [8,6] (r48 xB sB nbB) rfl rfl rfl rfl rfl fun _ _ => ?_
     refine Fit.in64 (by omega) (by omega) ?_
     exact ⟨(kB + 1,routR xB sB),⟨ltB,nxB⟩,⟨nextI,trivial⟩,⟨.inl ⟨_,rfl,.inl ⟨rfl,rfl⟩⟩,.inl ⟨_,rfl,.inl ⟨rfl,rfl⟩⟩,trivial⟩,nextM ltB⟩
    ·have eB:sB = _:=each_bad badB invB
     refine callO [8,6] [8,6] (r49 i.main sB (by rw [eB]; exact b4)) rfl rfl rfl rfl rfl fun _ _ => ?_
     refine brn_split (fun bad => ?_) (fun ok => ?_)
     ·refine retP rfl (congrArg (fun q => C.sl (bcells q)) (?_:[] = encR i))
      exact (encR_bad (by rw [eB]; rfl) bad).symm
     ·skip
      refine callDL 6 (lent19 (numR i.main sB).1) rfl rfl fun _ => ?_
      refine appR (bs:=dig4 (numR i.main sB).1) _ bcells_len (by rw [eB]; simp only [dig4_len,mxR]; exact Nat.add_le_add_right hb 4) ?_
      refine retF [6] [] ⟨_,_,rfl,rfl,rfl,rfl,?_⟩
      refine congrArg C.sl (?_:bcells _ ++ bcells (dig4 _) = _)
      rw [encR_ok (by rw [eB]; rfl) ok,bcells_app]
   ·have geB:¬ kB < (i.routs).length:=by rw [lenM] at geB; omega
    have eB:sB = _:=each_end geB invB
    refine callO [8,6] [8,6] (r49 i.main sB (by rw [eB]; exact b4)) rfl rfl rfl rfl rfl fun _ _ => ?_
    refine brn_split (fun bad => ?_) (fun ok => ?_)
    ·refine retP rfl (congrArg (fun q => C.sl (bcells q)) (?_:[] = encR i))
     exact (encR_bad (by rw [eB]; rfl) bad).symm
    ·skip
     refine callDL 6 (lent19 (numR i.main sB).1) rfl rfl fun _ => ?_
     refine appR (bs:=dig4 (numR i.main sB).1) _ bcells_len (by rw [eB]; simp only [dig4_len,mxR]; exact Nat.add_le_add_right hb 4) ?_
     refine retF [6] [] ⟨_,_,rfl,rfl,rfl,rfl,?_⟩
     refine congrArg C.sl (?_:bcells _ ++ bcells (dig4 _) = _)
     rw [encR_ok (by rw [eB]; rfl) ok,bcells_app]
 ·have geA:¬ kA < (i.datas).length:=by rw [lenM] at geA; omega
  have eA:sA = _:=each_end geA invA
  subst eA
  refine callO [8,6] [8,6] (r46 i.routs.length (listR dataR i.datas ([76,72,1],false)) b2) rfl rfl (congrArg (fun q:Nat => [C.own 1000 0,IC q]) lenM) rfl rfl fun _ _ => ?_
  refine loopN (i.routs).length 5 [] (lenR i.routs.length (listR dataR i.datas ([76,72,1],false))) (fun _ => []) (fun q => EL q) (fun k q => eachR routR ((i.routs).drop k) q = listR routR i.routs (listR dataR i.datas ([76,72,1],false))) rfl (same_keys rfl) trivial ⟨.inl ⟨_,rfl,.inl ⟨rfl,rfl⟩⟩,.inl ⟨_,rfl,.inl ⟨rfl,rfl⟩⟩,trivial⟩ (fun _ => rfl) (fun _ => rfl) ?_
  rintro kB sB hkB invB _ _ _
  refine brn_p (fun ltB => ?_) (fun geB => ?_)
  ·have ltB:kB < (i.routs).length:=by rw [lenM] at ltB; omega
   obtain ⟨xB,hxB,hdB⟩:=drop_cons ltB
   refine brn_split (fun okB => ?_) (fun badB => ?_)
   ·have nxB:=each_step hdB okB invB
    have nbB:(routR xB sB).1.length ≤ mxR:=Nat.le_trans (eachR_lo (fun x s => (routR_g x).lo s) _ _) (by rw [nxB]; exact b3)
    refine idxT hxB rfl rfl ?_
    refine callO [8,6] [8,6] (r48 xB sB nbB) rfl rfl rfl rfl rfl fun _ _ => ?_
    refine Fit.in64 (by omega) (by omega) ?_
    exact ⟨(kB + 1,routR xB sB),⟨ltB,nxB⟩,⟨nextI,trivial⟩,⟨.inl ⟨_,rfl,.inl ⟨rfl,rfl⟩⟩,.inl ⟨_,rfl,.inl ⟨rfl,rfl⟩⟩,trivial⟩,nextM ltB⟩
   ·have eB:sB = _:=each_bad badB invB
    refine callO [8,6] [8,6] (r49 i.main sB (by rw [eB]; exact b4)) rfl rfl rfl rfl rfl fun _ _ => ?_
    refine brn_split (fun bad => ?_) (fun ok => ?_)
    ·refine retP rfl (congrArg (fun q => C.sl (bcells q)) (?_:[] = encR i))
     exact (encR_bad (by rw [eB]; rfl) bad).symm
    ·skip
     refine callDL 6 (lent19 (numR i.main sB).1) rfl rfl fun _ => ?_
     refine appR (bs:=dig4 (numR i.main sB).1) _ bcells_len (by rw [eB]; simp only [dig4_len,mxR]; exact Nat.add_le_add_right hb 4) ?_
     refine retF [6] [] ⟨_,_,rfl,rfl,rfl,rfl,?_⟩
     refine congrArg C.sl (?_:bcells _ ++ bcells (dig4 _) = _)
     rw [encR_ok (by rw [eB]; rfl) ok,bcells_app]
  ·have geB:¬ kB < (i.routs).length:=by rw [lenM] at geB; omega
   have eB:sB = _:=each_end geB invB
   refine callO [8,6] [8,6] (r49 i.main sB (by rw [eB]; exact b4)) rfl rfl rfl rfl rfl fun _ _ => ?_
   refine brn_split (fun bad => ?_) (fun ok => ?_)
   ·refine retP rfl (congrArg (fun q => C.sl (bcells q)) (?_:[] = encR i))
    exact (encR_bad (by rw [eB]; rfl) bad).symm
   ·skip
    refine callDL 6 (lent19 (numR i.main sB).1) rfl rfl fun _ => ?_
    refine appR (bs:=dig4 (numR i.main sB).1) _ bcells_len (by rw [eB]; simp only [dig4_len,mxR]; exact Nat.add_le_add_right hb 4) ?_
    refine retF [6] [] ⟨_,_,rfl,rfl,rfl,rfl,?_⟩
    refine congrArg C.sl (?_:bcells _ ++ bcells (dig4 _) = _)
    rw [encR_ok (by rw [eB]; rfl) ok,bcells_app]
theorem t14 (i:Img) (hb:(imgG i).bulk ≤ 11000000000000):CallsT PZ 14 [.agg (imgC i)] [] (Ret [] (.sl (bcells (encB i)))):=by
 rw [← encR_eq]
 refine t14r i ?_
 have:=(imgR_g i).hi ([76,72,1],false)
 simp only [List.length_cons,List.length_nil] at this
 omega
theorem rowsK {L:TL} {kk:Nat} {s:WS} (hs:L.sub [kk] = some (RR s)):rowsOf L [kk] = []:=by
 simp only [TL.sub] at hs
 cases hg:L.get kk with
 | none => rw [hg] at hs; cases hs
 | some o =>
  rw [hg] at hs
  injection hs with hs
  injection hs with h1 h2
  simp only [rowsOf,hg,h1]
theorem kN (kk:Nat) {α:Type} {f:Nat} {args args':List C} {e:α → Enc} {bulk:α → Nat} {cell:α → C} {L:TL} {ρ:TEnv} {K:TL → TEnv → C → Prop} (s:WS) (h:RrdR f args' e bulk cell) (hb:s.1.length ≤ mxR) (hs:L.sub [kk] = some (RR s))
  (hc:(koOk L [kk] [kk] && boxesAt (RR s) [kk] [kk]) = true) (ha:(args.map fun c => c.canA.ren (toIn [kk] 1000)) = args')
  (k:∀ x s',Got e bulk s x s' → Wf (cell x) → K ((L.dels [kk]).puts [kk] (RR s')) ρ ((cell x).ren (fromIn [kk])).slt):CallT PZ f args L ρ K:=by
 subst ha
 simp only [Bool.and_eq_true] at hc
 refine ⟨[],[kk],[kk],L,_,_,.inl rfl,hs,rfl,rfl,hc.1,hc.2,h s hb,?_⟩
 rintro v Mo ⟨x,s',rfl,rfl,hg⟩ hw hwo
 refine ⟨rfl,?_⟩
 rw [rowsK hs]
 exact k x s' hg hw
theorem kL (kk:Nat) {f:Nat} {args args':List C} {most:Int} {L:TL} {ρ:TEnv} {K:TL → TEnv → C → Prop} (s:WS) (h:∀ s:WS,s.1.length ≤ mxR → CallsT PZ f args' (RR s) (GotNR most s)) (hb:s.1.length ≤ mxR) (hs:L.sub [kk] = some (RR s))
  (hc:(koOk L [kk] [kk] && boxesAt (RR s) [kk] [kk]) = true) (ha:(args.map fun c => c.canA.ren (toIn [kk] 1000)) = args')
  (k:∀ (n:Nat) (s':WS),GotN most s n s' → K ((L.dels [kk]).puts [kk] (RR s')) ρ (IC n)):CallT PZ f args L ρ K:=by
 subst ha
 simp only [Bool.and_eq_true] at hc
 refine ⟨[],[kk],[kk],L,_,_,.inl rfl,hs,rfl,rfl,hc.1,hc.2,h s hb,?_⟩
 rintro v Mo ⟨x,s',rfl,rfl,hg⟩ hw hwo
 refine ⟨rfl,?_⟩
 rw [rowsK hs]
 exact k x s' hg
theorem kX (kk:Nat) {α:Type} {PS:Value → Prop} {fb:List Nat} {f:Nat} {args args':List C} {e:α → Enc} {bulk:α → Nat} {cell:α → C} {L:TL} {ρ:TEnv} {K:TL → TEnv → C → Prop} (s:WS) (h:RrdR f args' e bulk cell) (hb:s.1.length ≤ mxR) (hs:L.sub [kk] = some (RR s))
  (hc:boxesAt (RR s) [kk] [kk] = true) (hfb:disjB [kk] fb = true) (ha:(args.map fun c => c.canA.ren (toIn [kk] 1000)) = args')
  (k:∀ x s',Got e bulk s x s' → Wf (cell x) → K ((L.dels [kk]).puts [kk] (RR s')) ρ ((cell x).ren (fromIn [kk])).slt):CallXDT PZ PS fb f args L ρ K:=by
 subst ha
 refine ⟨[kk],_,_,fun _ => False,hs,rfl,hfb,hc,(h s hb).toX,fun v h => h.elim,?_⟩
 rintro v Mo ⟨x,s',rfl,rfl,hg⟩ hw hwo
 refine ⟨rfl,?_⟩
 rw [rowsK hs]
 exact k x s' hg hw
abbrev GotI (bs:List UInt8) (i:Img) (s':WS):Prop:=Got imgE (fun i => (imgG i).bulk) ((bs.take (bs.length - 4)).drop 3,false) i s'
theorem dec_short {bs:List UInt8} (h:bs.length < 7):dec bs = (img0,16):=by rw [dec,if_pos h]
theorem dec_pre {bs:List UInt8} (h:hasP bs [76,72,1] = false):dec bs = (img0,16):=by
 by_cases h7:bs.length < 7
 ·exact dec_short h7
 ·rw [dec,if_neg h7,if_pos h]
theorem dec_sum {bs:List UInt8} (h7:¬ bs.length < 7) (hp:hasP bs [76,72,1] = true) (h:dig4 (bs.take (bs.length - 4)) ≠ bs.drop (bs.length - 4)):dec bs = (img0,17):=by
 rw [dec,if_neg h7,hp,if_neg (fun q => Bool.noConfusion q),if_pos]
 intro e
 apply h
 rw [sealB] at e
 have e2:=List.take_append_drop (bs.length - 4) bs
 exact List.append_cancel_left (e.trans e2.symm)
theorem dec_sound {bs:List UInt8} (h7:¬ bs.length < 7) (hp:hasP bs [76,72,1] = true) (h:dig4 (bs.take (bs.length - 4)) = bs.drop (bs.length - 4)):dec bs ≠ (img0,17):=by
 have e:sealB (bs.take (bs.length - 4)) = bs:=by rw [sealB,h,List.take_append_drop]
 rw [dec,if_neg h7,hp,if_neg (fun q => Bool.noConfusion q),if_neg (fun q => q e)]
 split
 ·intro q
  injection q with _ q
  cases q
 ·intro q
  injection q with _ q
  cases q
theorem dec_got {bs:List UInt8} (h7:¬ bs.length < 7) (hp:hasP bs [76,72,1] = true) (h:dig4 (bs.take (bs.length - 4)) = bs.drop (bs.length - 4)) {i:Img} {s':WS} (hg:GotI bs i s') (hb:s'.2 = true ∨ encB i ≠ bs):dec bs = (img0,16):=by
 rcases dec_cases bs with ⟨j,h1,h2,h3,_,_⟩ | h1 | h1
 ·exfalso
  have hl:(encB j).length ≠ 0:=by rw [h3]; omega
  have hbody:(bs.take (bs.length - 4)).drop 3 = (imgE j).1:=by
   have e:=enc_parts hl
   rw [h3] at e
   have hlen:bs.length - 4 = ([76,72,1] ++ (imgE j).1).length:=by rw [e,List.length_append,dig4_len]; omega
   rw [hlen,e,List.take_left]
   rfl
  obtain ⟨rfl,e⟩:=hg.code j [] (by rw [hbody,List.append_nil]) h2
  rcases hb with hb | hb
  ·rw [e] at hb; cases hb
  ·exact hb h3
 ·exact h1
 ·exact absurd h1 (dec_sound h7 hp h)
theorem dec_same {bs:List UInt8} (h7:¬ bs.length < 7) {i:Img} (h:encB i = bs):dec bs = (i,0):=by
 have:=dec_enc (i:=i) (enc_ne (by rw [h]; omega))
 rwa [h] at this
theorem got_bulk {bs:List UInt8} {i:Img} {s':WS} (h:GotI bs i s') (hs:s'.2 = false):(imgG i).bulk ≤ 2 * bs.length:=by
 have:=(h.ok hs).2
 simp only [List.length_drop,List.length_take] at this
 omega
theorem img_got {bs:List UInt8} {s1 s2 s3:WS} {d:List Api.Data} {r:List Rout} {m:Int} (g1:Got (listE dataE) (fun l => (G.sl 5 (l.map Data.g)).bulk) ((bs.take (bs.length - 4)).drop 3,false) d s1) (g2:Got (listE routE) (fun l => (G.sl 9 (l.map routG)).bulk) s1 r s2) (g3:Got numE (fun _ => 1) s2 m s3):GotI bs ⟨d,r,m⟩ s3 :=
 (g1.pair (g2.pair g3)).map (e':=imgE) (b':=fun i => (imgG i).bulk) (fun p => (⟨p.1,p.2.1,p.2.2⟩:Img)) (fun i => (i.datas,i.routs,i.main)) (fun y => by simp only [imgE,numsE,eachE,andE_nil]) (fun _ => rfl) (by simp only [imgG,G.bulk,G.bulkAll]; omega)
end Go.Fr.Tryz
