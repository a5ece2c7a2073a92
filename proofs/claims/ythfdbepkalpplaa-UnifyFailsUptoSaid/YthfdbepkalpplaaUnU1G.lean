/- Part of the proofs of the statements of this seat. -/
import Derived.Test.YthfdbepkalpplaaUnE1G
set_option maxRecDepth 10000
set_option linter.unusedVariables false
set_option linter.unusedSimpArgs false
namespace Go.Fr.Try
open Go Go.RowKit Go.Proofs Go.Fr Go.Fr.T Go.Fr.Api
theorem front_var {s:List Ty}:∀ {n:Nat} {t r:Ty},frontF s n t = some r → r.kind = 9 → ∃ x,0 ≤ r.id ∧ s[r.id.toNat]? = some x ∧ x.kind = 0
 | 0,t,r,h,_ => by cases h
 | n + 1,t,r,h,h9 => by
  obtain ⟨m,e,h⟩:=front_step h
  injection e with e
  subst e
  rcases h with ⟨h1,rfl⟩ | ⟨h1,x,h2,h3,h4⟩
  ·exact absurd h9 h1
  ·rcases h4 with ⟨h5,rfl⟩ | ⟨h5,h6⟩
   ·exact ⟨x,h2,h3,h5⟩
   ·exact front_var h6 h9
theorem eqToR {s:List Ty} {a b:Ty} {s':List Ty} (h:Eq63 s a b (Ret (SU0 s') (.tup [])) (fun _ => False)):Eq63 s a b (RE (some s')) (PE (some s')) :=
 CallsTX.imp h (fun Mo v ⟨e1,e2⟩ => ⟨s',rfl,e1,e2⟩) fun v q => q.elim
theorem eqToN {s:List Ty} {a b:Ty} (h:Eq63 s a b (fun _ _ => False) (PE none)):Eq63 s a b (RE none) (PE none) :=
 CallsTX.imp h (fun Mo v q => q.elim) fun v q => q
theorem t63:∀ (n:Nat) (s:List Ty) (a b:Ty) (r:Option (List Ty)),eqF n s a b = some r → Eq63 s a b (RE r) (PE r)
 | 0,s,a,b,r,h => by cases h
 | n + 1,s,a,b,r,h => by
  rw [eqF] at h
  cases ha:frontF s n a with
  | none => simp only [ha] at h; cases h
  | some a' =>
   cases hb:frontF s n b with
   | none => simp only [ha,hb] at h; cases h
   | some b' =>
    simp only [ha,hb] at h
    have fa:=t96_U s n a a' ha
    have fb:=t96_U s n b b' hb
    by_cases h1:a'.kind = 9
    ·by_cases h2:b'.kind = 9
     ·rw [if_pos ⟨h1,h2⟩] at h
      by_cases h3:a'.id = b'.id
      ·rw [if_pos h3] at h
       injection h with h
       subst h
       exact eqToR (t63_same s a b a' b' fa fb h1 h2 h3)
      ·rw [if_neg h3] at h
       injection h with h
       subst h
       obtain ⟨x,hx0,hx,_⟩:=front_var ha h1
       obtain ⟨y,hy0,hy,_⟩:=front_var hb h2
       refine eqToR ?_
       rcases Int.le_total a'.id b'.id with hle | hle
       ·have e:max a'.id b'.id = b'.id:=by omega
        exact t63_bind2 s a b a' b' y fa fb h1 h2 h3 (by omega) (by rw [e]; exact hy)
       ·have e:max a'.id b'.id = a'.id:=by omega
        exact t63_bind2 s a b a' b' x fa fb h1 h2 h3 (by omega) (by rw [e]; exact hx)
     ·rw [if_neg (fun q => h2 q.2),if_pos h1] at h
      obtain ⟨x,hx0,hx,_⟩:=front_var ha h1
      cases ho:occF s a'.id n b' with
      | none => simp only [ho] at h; cases h
      | some o =>
       have fo:=t97 s a'.id n b' o ho
       cases o
       ·simp only [ho] at h
        injection h with h
        subst h
        exact eqToR (t63_bind s a b a' b' x fa fb h1 h2 fo hx0 hx)
       ·simp only [ho] at h
        injection h with h
        subst h
        exact eqToN (t63_occ s a b a' b' fa fb h1 h2 fo)
    ·rw [if_neg (fun q => h1 q.1),if_neg h1] at h
     by_cases h2:b'.kind = 9
     ·rw [if_pos h2] at h
      exact t63_swap s a b a' b' r fa fb h1 h2 (t63 n s b' a' r h)
     ·rw [if_neg h2] at h
      by_cases h3:a'.kind ≠ b'.kind ∨ a'.id ≠ b'.id ∨ a'.args.length ≠ b'.args.length
      ·rw [if_pos h3] at h
       injection h with h
       subst h
       exact eqToN (t63_diff s a b a' b' fa fb h1 h2 h3)
      ·rw [if_neg h3] at h
       exact t63_loop s a b a' b' fa fb h1 h2 h3 (eqF n) (fun s x y r q => t63 n s x y r q) r h
theorem sz3 (l:List Ty):∀ es ∈ l.map tyC,es.length = 3:=by
 intro es h
 obtain ⟨t,_,rfl⟩:=List.mem_map.1 h
 rw [tyC_eq]; rfl
theorem t61 (l:List Ty) (hl:l.length ≤ 2 ^ 30):CallsT P 61 [.sl (l.map tyC)] [] (Ret [.row 32 3 (l.map tyC)] (.rw 1000)):=by
 cases l with
 | nil =>
  refine callsT_facts Try.func61 facts61 rfl fun hw _ => ?_
  intro b hb
  refine brn_split (fun h => ?_) (fun h => ?_)
  ·exact retN 5 32 3 rfl rfl
  ·refine AppT.mk (fun es he => by cases he) (show 0 + 0 ≤ maxLen from Nat.zero_le _) (show (0 + 0) * 40 ≤ _ from Nat.zero_le _) ?_
   exact retO [5] rfl rfl rfl rfl
 | cons x l =>
  have hne:(x :: l).map tyC ≠ []:=by simp
  have hsz:=sz3 (x :: l)
  have hlm:((x :: l).map tyC).length ≤ 2 ^ 30:=by rw [List.length_map]; exact hl
  generalize (x :: l).map tyC = els at hne hsz hlm ⊢
  refine callsT_facts Try.func61 facts61 rfl fun hw _ => ?_
  intro b hb
  refine brn_split (fun h => absurd (hb hne) (fun q => by rw [show b = true from h] at q; cases q)) (fun h => ?_)
  refine AppT.mk hsz ?_ ?_ ?_
  ·show 0 + els.length ≤ maxLen
   simp only [maxLen]; omega
  ·show (0 + els.length) * 40 ≤ _
   omega
  ·exact retO [5] rfl rfl rfl rfl
theorem fitTo {k:IntKind} {n m:Int} {K:Int → Prop} (h:k.wrap n = m) (hK:K m):Fit k n K:=⟨by rw [h]; exact hK⟩
theorem lookB {i:Int} {o:OM} {Y:C → Prop} {N:Prop} (h:mget o i = none ∨ mget o i = some false) (k1:Y (.bool false)) (k2:N):MLookT false (mcs C.bool o) (IC i) Y N:=by
 rcases h with h | h
 ·exact lookN h k2
 ·exact lookY h k1
def PD (r:Option (Int × DM × OM)):Value → Prop:=fun v => r = none ∧ v = failV 1
theorem deepL_step {f:Ty → DM → OM → Option (Option (Int × DM × OM))} {x:Ty} {l:List Ty} {k:Int} {d:DM} {o:OM} {r:Option (Int × DM × OM)} (h:deepL f (x :: l) k d o = some r) :
  ∃ r1,f x d o = some r1 ∧ (r1 = none → r = none) ∧ ∀ k' d' o',r1 = some (k',d',o') → deepL f l (if k' > k then k' else k) d' o' = some r:=by
 rw [deepL] at h
 cases hf:f x d o with
 | none => simp only [hf] at h; cases h
 | some r1 =>
  refine ⟨r1,rfl,?_,?_⟩
  ·rintro rfl
   simp only [hf] at h
   injection h with h; exact h.symm
  ·rintro k' d' o' rfl
   simp only [hf] at h
   exact h
theorem deep_step {s:List Ty} {n:Nat} {t:Ty} {d:DM} {o:OM} {r:Option (Int × DM × OM)} (h:deepF s (n + 1) t d o = some r) :
  ∃ x,(if t.kind = 9 then elemT s t else some (.mk 0 0 [])) = some x ∧
   (¬ x.kind = 0 → (∃ k,mget d t.id = some k ∧ r = some (k,d,o)) ∨ (mget d t.id = none ∧ mget o t.id = some true ∧ r = none) ∨
    (mget d t.id = none ∧ (mget o t.id = none ∨ mget o t.id = some false) ∧ ∃ r1,deepF s n x d (mset o t.id true) = some r1 ∧ (r1 = none → r = none) ∧ ∀ k d' o',r1 = some (k,d',o') → r = some (k,mset d' t.id k,o'))) ∧
   (x.kind = 0 → ∃ r1,deepL (deepF s n) t.args 0 d o = some r1 ∧ (r1 = none → r = none) ∧ ∀ k d' o',r1 = some (k,d',o') → r = some (w64 (k + 1),d',o')):=by
 rw [deepF] at h
 split at h
 ·cases h
 rename_i x he
 refine ⟨x,he,fun hk => ?_,fun hk => ?_⟩
 ·rw [if_pos hk] at h
  split at h
  ·rename_i k hd
   injection h with h
   exact .inl ⟨k,hd,h.symm⟩
  ·rename_i hd
   split at h
   ·rename_i ho
    injection h with h
    exact .inr (.inl ⟨hd,ho,h.symm⟩)
   ·rename_i ho
    have ho':mget o t.id = none ∨ mget o t.id = some false:=by
     cases e:mget o t.id with
     | none => exact .inl rfl
     | some b => cases b with
      | true => exact absurd e ho
      | false => exact .inr rfl
    refine .inr (.inr ⟨hd,ho',?_⟩)
    cases h1:deepF s n x d (mset o t.id true) with
    | none => simp only [h1] at h; cases h
    | some r1 =>
     refine ⟨r1,rfl,?_,?_⟩
     ·rintro rfl
      simp only [h1] at h
      injection h with h; exact h.symm
     ·rintro k d' o' rfl
      simp only [h1] at h
      injection h with h; exact h.symm
 ·rw [if_neg (fun q => q hk)] at h
  cases h1:deepL (deepF s n) t.args 0 d o with
  | none => simp only [h1] at h; cases h
  | some r1 =>
   refine ⟨r1,rfl,?_,?_⟩
   ·rintro rfl
    simp only [h1] at h
    injection h with h; exact h.symm
   ·rintro k d' o' rfl
    simp only [h1] at h
    injection h with h; exact h.symm
abbrev SUd (s:List Ty) (d:DM) (o:OM):List TO:=SU s (mcs IC d) (mcs C.bool o)
def RDU (s:List Ty) (r:Option (Int × DM × OM)):List TO → C → Prop:=fun Mo v => ∃ k d o,r = some (k,d,o) ∧ Mo = SUd s d o ∧ v = IC k
abbrev DpU (s:List Ty) (t:Ty) (d:DM) (o:OM) (R:List TO → C → Prop) (Pp:Value → Prop):Prop:=CallsTX P 64 [.own 1000 0,tyA t] (SUd s d o) R Pp
section
variable {L:TL} {ρ:TEnv}
theorem callDU (ks:List Nat) {PS:Pan} {args args':List C} {K:TL → TEnv → C → Prop} {s:List Ty} {d:DM} {o:OM} {r:Option (Int × DM × OM)} {Lin:List TO} (h:CallsTX P 64 args' (SUd s d o) (RDU s r) (PD r)) (hs:L.sub ks = some Lin)
  (hc:(T.nodup? ks && T.koOk L ks ks && boxesAt Lin ks ks && hbOk L ks PS.hb) = true) (ha:(args.map fun c => c.canA.ren (toIn ks 1000)) = args') (hl:Lin.map (TO.mapC (C.ren (toIn ks 1000))) = SUd s d o) (hn:ks.length = 4) (hp:∀ v,PD r v → PS.ps v)
  (k:∀ k' d' o',r = some (k',d',o') → Wf (IC k') → K (((L.dels ks).kills (rowsOf L ks)).puts ks ((SUd s d' o').map (TO.mapC (C.ren (fromIn ks))))) (killsE (rowsOf L ks) ρ) (IC k')):CallXT P PS 64 args L ρ K:=by
 subst ha
 simp only [Bool.and_eq_true] at hc
 obtain ⟨⟨⟨c1,c2⟩,c3⟩,c4⟩:=hc
 refine ⟨[],ks,ks,L,Lin,_,_,.inl rfl,hs,c1,c1,c2,c3,c4,by rw [hl]; exact h,hp,?_⟩
 rintro v Mo ⟨k',d',o',e1,rfl,rfl⟩ hw hwo
 exact ⟨hn,k k' d' o' e1 hw⟩
theorem callDUD (ks:List Nat) {PS:Pan} {fb:List Nat} {args args':List C} {K:TL → TEnv → C → Prop} {s:List Ty} {d:DM} {o:OM} {r:Option (Int × DM × OM)} {Lin:List TO} (h:CallsTX P 64 args' (SUd s d o) (RDU s r) (PD r)) (hs:L.sub ks = some Lin)
  (hc:(T.nodup? ks && disjB ks fb && boxesAt Lin ks ks && hbOk L ks PS.hb) = true) (ha:(args.map fun c => c.canA.ren (toIn ks 1000)) = args') (hl:Lin.map (TO.mapC (C.ren (toIn ks 1000))) = SUd s d o) (hn:ks.length = 4) (hp:∀ v,PD r v → PS.ps v)
  (k:∀ k' d' o',r = some (k',d',o') → Wf (IC k') → K (((L.dels ks).kills (rowsOf L ks)).puts ks ((SUd s d' o').map (TO.mapC (C.ren (fromIn ks))))) (killsE (rowsOf L ks) ρ) (IC k')):CallXDT P PS fb 64 args L ρ K:=by
 subst ha
 simp only [Bool.and_eq_true] at hc
 obtain ⟨⟨⟨c1,c2⟩,c3⟩,c4⟩:=hc
 refine ⟨ks,Lin,_,_,hs,c1,c2,c3,c4,by rw [hl]; exact h,hp,?_⟩
 rintro v Mo ⟨k',d',o',e1,rfl,rfl⟩ hw hwo
 exact ⟨hn,k k' d' o' e1 hw⟩
end
theorem t64_Umemo (s:List Ty) (t x:Ty) (d:DM) (o:OM) (k:Int) (h9:t.kind = 9) (h0:0 ≤ t.id) (hx:s[t.id.toNat]? = some x) (hk:¬ x.kind = 0) (hd:mget d t.id = some k):DpU s t d o (RDU s (some (k,d,o))) (PD (some (k,d,o))):=by
 refine callsTX_facts Try.func64 facts64 rfl fun hw _ => ?_
 refine brn_p (fun _ => ?_) (fun q => absurd h9 q)
 refine InB.mk h0 (lenZ h0 hx) ?_
 refine rowK hx ?_
 refine brn_n (fun _ => ?_) (fun q => absurd q hk)
 refine lookY hd ?_
 exact retR [1000,1001,1002,1003] rfl rfl rfl rfl ⟨k,d,o,rfl,rfl,rfl⟩
theorem t64_Uopen (s:List Ty) (t x:Ty) (d:DM) (o:OM) (h9:t.kind = 9) (h0:0 ≤ t.id) (hx:s[t.id.toNat]? = some x) (hk:¬ x.kind = 0) (hd:mget d t.id = none) (ho:mget o t.id = some true):DpU s t d o (RDU s none) (PD none):=by
 refine callsTX_facts Try.func64 facts64 rfl fun hw _ => ?_
 refine brn_p (fun _ => ?_) (fun q => absurd h9 q)
 refine InB.mk h0 (lenZ h0 hx) ?_
 refine rowK hx ?_
 refine brn_n (fun _ => ?_) (fun q => absurd q hk)
 refine lookN hd ?_
 refine lookY ho ?_
 exact panT rfl ⟨rfl,rfl⟩
theorem t64_Uexp (s:List Ty) (t x:Ty) (d:DM) (o:OM) (h9:t.kind = 9) (h0:0 ≤ t.id) (hx:s[t.id.toNat]? = some x) (hk:¬ x.kind = 0) (hd:mget d t.id = none) (ho:mget o t.id = none ∨ mget o t.id = some false)
  (r r1:Option (Int × DM × OM)) (h:DpU s x d (mset o t.id true) (RDU s r1) (PD r1)) (hr0:r1 = none → r = none) (hr:∀ k d' o',r1 = some (k,d',o') → r = some (k,mset d' t.id k,o')):DpU s t d o (RDU s r) (PD r):=by
 refine callsTX_facts Try.func64 facts64 rfl fun hw _ => ?_
 refine brn_p (fun _ => ?_) (fun q => absurd h9 q)
 refine InB.mk h0 (lenZ h0 hx) ?_
 refine rowK hx ?_
 refine brn_n (fun _ => ?_) (fun q => absurd q hk)
 refine lookN hd ?_
 refine lookB ho ?_ ?_
 all_goals
  refine updM (f:=C.bool) (x:=true) rfl ?_
  refine InB.mk h0 (lenZ h0 hx) ?_
  refine rowA hx ?_
  refine callDUD [1000,1001,1002,1003] h rfl rfl rfl rfl rfl (fun v q => ⟨hr0 q.1,q.2⟩) fun k d' o' e _ => ?_
  refine updM (f:=IC) (x:=k) rfl ?_
  exact retR [1000,1001,1002,1003] rfl rfl rfl rfl ⟨k,_,_,hr k d' o' e,rfl,rfl⟩
theorem t64_Uargs (s:List Ty) (t:Ty) (d:DM) (o:OM) (h9:t.kind = 9 → ∃ x,0 ≤ t.id ∧ s[t.id.toNat]? = some x ∧ x.kind = 0)
  (f:Ty → DM → OM → Option (Option (Int × DM × OM))) (ih:∀ x d o r,f x d o = some r → DpU s x d o (RDU s r) (PD r)) (r:Option (Int × DM × OM)) (r1:Option (Int × DM × OM)) (h:deepL f t.args 0 d o = some r1) (hr0:r1 = none → r = none) (hr:∀ k d' o',r1 = some (k,d',o') → r = some (w64 (k + 1),d',o')):DpU s t d o (RDU s r) (PD r):=by
 have hlm:(t.args.map tyC).length = t.args.length:=List.length_map _
 refine callsTX_facts Try.func64 facts64 rfl fun hw _ => ?_
 have hlen:t.args.length ≤ 9223372036854775807:=wf_lenT hw.2.1.2.2.1
 refine brn_p (fun h9' => exE (h9 h9') fun x hh => ?_) (fun _ => ?_)
 ·have h0:=hh.1
  have hx:=hh.2.1
  have hk:=hh.2.2
  refine InB.mk h0 (lenZ h0 hx) ?_
  refine rowK hx ?_
  refine brn_n (fun q => absurd hk q) (fun _ => ?_)
  refine loopN t.args.length 74 [8] ((0:Int),d,o) (fun x => [IC x.1]) (fun x => [(1000,.box 93 [.rw 1001,.mpr 1002,.mpr 1003]),(1001,.row 32 3 (s.map tyC)),(1002,.map (mcs IC x.2.1)),(1003,.map (mcs C.bool x.2.2))]) (fun k x => deepL f (t.args.drop k) x.1 x.2.1 x.2.2 = some r1) h (same_keys rfl) ⟨same_keys rfl,trivial⟩
   ⟨.inl ⟨_,rfl,.inl ⟨rfl,rfl⟩⟩,.inl ⟨_,rfl,.inl ⟨rfl,rfl⟩⟩,.inl ⟨_,rfl,.inl ⟨rfl,rfl⟩⟩,.inl ⟨_,rfl,.inl ⟨rfl,rfl⟩⟩,trivial⟩ (fun _ => rfl) (fun _ => rfl) ?_
  rintro k ⟨m,d,o⟩ hk' hinv hwm _ _
  refine brn_p (fun hlt => ?_) (fun hge => ?_)
  ·have hlt:k < t.args.length:=by rw [hlm] at hlt; omega
   refine withDrop hlt fun x hx' hxm hda => ?_
   have hinv:=hinv
   rw [hda] at hinv
   refine exE (deepL_step hinv) fun r2 h2 => ?_
   refine idxTy hx' ?_
   refine callDU [1000,1001,1002,1003] (ih x d o r2 h2.1) rfl rfl rfl rfl rfl (fun v q => ⟨hr0 (h2.2.1 q.1 ▸ rfl),q.2⟩) fun k' d' o' e hwk => ?_
   refine ⟨?_,?_⟩
   ·exact mmW2 (a:=m) (b:=k') hwm.1 hwk
   refine Fit.in64 (by omega) (by omega) ?_
   exact ⟨(k + 1,((if k' > m then k' else m),d',o')),⟨hlt,h2.2.2 k' d' o' e⟩,⟨nextI,.inr (.inl ⟨rfl,rfl⟩),trivial⟩,⟨.inl ⟨_,rfl,.inl ⟨rfl,rfl⟩⟩,.inl ⟨_,rfl,.inl ⟨rfl,rfl⟩⟩,.inl ⟨_,rfl,.inl ⟨rfl,rfl⟩⟩,.inl ⟨_,rfl,.inl ⟨rfl,rfl⟩⟩,trivial⟩,nextM hlt⟩
  ·have hge:¬ k < t.args.length:=by rw [hlm] at hge; omega
   have hinv:=hinv
   rw [drop_end hge,deepL] at hinv
   refine fitTo (m:=w64 (m + 1)) rfl ?_
   exact retR [1000,1001,1002,1003] rfl rfl rfl rfl ⟨w64 (m + 1),d,o,hr m d o (Option.some.inj hinv).symm,rfl,rfl⟩
 ·skip
  refine loopN t.args.length 74 [8] ((0:Int),d,o) (fun x => [IC x.1]) (fun x => [(1000,.box 93 [.rw 1001,.mpr 1002,.mpr 1003]),(1001,.row 32 3 (s.map tyC)),(1002,.map (mcs IC x.2.1)),(1003,.map (mcs C.bool x.2.2))]) (fun k x => deepL f (t.args.drop k) x.1 x.2.1 x.2.2 = some r1) h (same_keys rfl) ⟨same_keys rfl,trivial⟩
   ⟨.inl ⟨_,rfl,.inl ⟨rfl,rfl⟩⟩,.inl ⟨_,rfl,.inl ⟨rfl,rfl⟩⟩,.inl ⟨_,rfl,.inl ⟨rfl,rfl⟩⟩,.inl ⟨_,rfl,.inl ⟨rfl,rfl⟩⟩,trivial⟩ (fun _ => rfl) (fun _ => rfl) ?_
  rintro k ⟨m,d,o⟩ hk' hinv hwm _ _
  refine brn_p (fun hlt => ?_) (fun hge => ?_)
  ·have hlt:k < t.args.length:=by rw [hlm] at hlt; omega
   refine withDrop hlt fun x hx' hxm hda => ?_
   have hinv:=hinv
   rw [hda] at hinv
   refine exE (deepL_step hinv) fun r2 h2 => ?_
   refine idxTy hx' ?_
   refine callDU [1000,1001,1002,1003] (ih x d o r2 h2.1) rfl rfl rfl rfl rfl (fun v q => ⟨hr0 (h2.2.1 q.1 ▸ rfl),q.2⟩) fun k' d' o' e hwk => ?_
   refine ⟨?_,?_⟩
   ·exact mmW2 (a:=m) (b:=k') hwm.1 hwk
   refine Fit.in64 (by omega) (by omega) ?_
   exact ⟨(k + 1,((if k' > m then k' else m),d',o')),⟨hlt,h2.2.2 k' d' o' e⟩,⟨nextI,.inr (.inl ⟨rfl,rfl⟩),trivial⟩,⟨.inl ⟨_,rfl,.inl ⟨rfl,rfl⟩⟩,.inl ⟨_,rfl,.inl ⟨rfl,rfl⟩⟩,.inl ⟨_,rfl,.inl ⟨rfl,rfl⟩⟩,.inl ⟨_,rfl,.inl ⟨rfl,rfl⟩⟩,trivial⟩,nextM hlt⟩
  ·have hge:¬ k < t.args.length:=by rw [hlm] at hge; omega
   have hinv:=hinv
   rw [drop_end hge,deepL] at hinv
   refine fitTo (m:=w64 (m + 1)) rfl ?_
   exact retR [1000,1001,1002,1003] rfl rfl rfl rfl ⟨w64 (m + 1),d,o,hr m d o (Option.some.inj hinv).symm,rfl,rfl⟩
theorem t64_U (s:List Ty):∀ (n:Nat) (t:Ty) (d:DM) (o:OM) (r:Option (Int × DM × OM)),deepF s n t d o = some r → DpU s t d o (RDU s r) (PD r)
 | 0,t,d,o,r,h => by cases h
 | n + 1,t,d,o,r,h => by
  obtain ⟨x,he,h⟩:=deep_step h
  by_cases hk:x.kind = 0
  ·have h:=h.2 hk
   obtain ⟨r1,h1,h2,h3⟩:=h
   refine t64_Uargs s t d o (fun h9 => ?_) (deepF s n) (fun x d o r q => t64_U s n x d o r q) r r1 h1 h2 h3
   rw [if_pos h9] at he
   obtain ⟨e1,e2,_⟩:=elemT_some he
   exact ⟨x,e1,e2,hk⟩
  ·have h9:t.kind = 9:=by
    by_cases h9:t.kind = 9
    ·exact h9
    ·rw [if_neg h9] at he
     injection he with he
     rw [← he] at hk
     exact absurd rfl hk
   rw [if_pos h9] at he
   obtain ⟨e1,e2,_⟩:=elemT_some he
   rcases h.1 hk with ⟨k,hd,rfl⟩ | ⟨hd,ho,rfl⟩ | ⟨hd,ho,r1,h1,h2,h3⟩
   ·exact t64_Umemo s t x d o k h9 e1 e2 hk hd
   ·exact t64_Uopen s t x d o h9 e1 e2 hk hd ho
   ·exact t64_Uexp s t x d o h9 e1 e2 hk hd ho r r1 (t64_U s n x d _ r1 h1) h2 h3
abbrev SFd (s:List Ty) (d:DM) (o:OM):List TO:=SF s (mcs IC d) (mcs C.bool o)
def RDF (s:List Ty) (r:Option (Int × DM × OM)):List TO → C → Prop:=fun Mo v => ∃ k d o,r = some (k,d,o) ∧ Mo = SFd s d o ∧ v = IC k
abbrev DpF (s:List Ty) (t:Ty) (d:DM) (o:OM) (R:List TO → C → Prop) (Pp:Value → Prop):Prop:=CallsTX P 64 [.own 1000 0,tyA t] (SFd s d o) R Pp
section
variable {L:TL} {ρ:TEnv}
theorem callDF (ks:List Nat) {PS:Pan} {args args':List C} {K:TL → TEnv → C → Prop} {s:List Ty} {d:DM} {o:OM} {r:Option (Int × DM × OM)} {Lin:List TO} (h:CallsTX P 64 args' (SFd s d o) (RDF s r) (PD r)) (hs:L.sub ks = some Lin)
  (hc:(T.nodup? ks && T.koOk L ks ks && boxesAt Lin ks ks && hbOk L ks PS.hb) = true) (ha:(args.map fun c => c.canA.ren (toIn ks 1000)) = args') (hl:Lin.map (TO.mapC (C.ren (toIn ks 1000))) = SFd s d o) (hn:ks.length = 3) (hp:∀ v,PD r v → PS.ps v)
  (k:∀ k' d' o',r = some (k',d',o') → Wf (IC k') → K (((L.dels ks).kills (rowsOf L ks)).puts ks ((SFd s d' o').map (TO.mapC (C.ren (fromIn ks))))) (killsE (rowsOf L ks) ρ) (IC k')):CallXT P PS 64 args L ρ K:=by
 subst ha
 simp only [Bool.and_eq_true] at hc
 obtain ⟨⟨⟨c1,c2⟩,c3⟩,c4⟩:=hc
 refine ⟨[],ks,ks,L,Lin,_,_,.inl rfl,hs,c1,c1,c2,c3,c4,by rw [hl]; exact h,hp,?_⟩
 rintro v Mo ⟨k',d',o',e1,rfl,rfl⟩ hw hwo
 exact ⟨hn,k k' d' o' e1 hw⟩
theorem callDFD (ks:List Nat) {PS:Pan} {fb:List Nat} {args args':List C} {K:TL → TEnv → C → Prop} {s:List Ty} {d:DM} {o:OM} {r:Option (Int × DM × OM)} {Lin:List TO} (h:CallsTX P 64 args' (SFd s d o) (RDF s r) (PD r)) (hs:L.sub ks = some Lin)
  (hc:(T.nodup? ks && disjB ks fb && boxesAt Lin ks ks && hbOk L ks PS.hb) = true) (ha:(args.map fun c => c.canA.ren (toIn ks 1000)) = args') (hl:Lin.map (TO.mapC (C.ren (toIn ks 1000))) = SFd s d o) (hn:ks.length = 3) (hp:∀ v,PD r v → PS.ps v)
  (k:∀ k' d' o',r = some (k',d',o') → Wf (IC k') → K (((L.dels ks).kills (rowsOf L ks)).puts ks ((SFd s d' o').map (TO.mapC (C.ren (fromIn ks))))) (killsE (rowsOf L ks) ρ) (IC k')):CallXDT P PS fb 64 args L ρ K:=by
 subst ha
 simp only [Bool.and_eq_true] at hc
 obtain ⟨⟨⟨c1,c2⟩,c3⟩,c4⟩:=hc
 refine ⟨ks,Lin,_,_,hs,c1,c2,c3,c4,by rw [hl]; exact h,hp,?_⟩
 rintro v Mo ⟨k',d',o',e1,rfl,rfl⟩ hw hwo
 exact ⟨hn,k k' d' o' e1 hw⟩
end
theorem t64_Fmemo (s:List Ty) (t x:Ty) (d:DM) (o:OM) (k:Int) (h9:t.kind = 9) (h0:0 ≤ t.id) (hx:s[t.id.toNat]? = some x) (hk:¬ x.kind = 0) (hd:mget d t.id = some k):DpF s t d o (RDF s (some (k,d,o))) (PD (some (k,d,o))):=by
 refine callsTX_facts Try.func64 facts64 rfl fun hw _ => ?_
 refine brn_p (fun _ => ?_) (fun q => absurd h9 q)
 refine idxZ h0 hx ?_
 refine brn_n (fun _ => ?_) (fun q => absurd q hk)
 refine lookY hd ?_
 exact retR [1000,1001,1002] rfl rfl rfl rfl ⟨k,d,o,rfl,rfl,rfl⟩
theorem t64_Fopen (s:List Ty) (t x:Ty) (d:DM) (o:OM) (h9:t.kind = 9) (h0:0 ≤ t.id) (hx:s[t.id.toNat]? = some x) (hk:¬ x.kind = 0) (hd:mget d t.id = none) (ho:mget o t.id = some true):DpF s t d o (RDF s none) (PD none):=by
 refine callsTX_facts Try.func64 facts64 rfl fun hw _ => ?_
 refine brn_p (fun _ => ?_) (fun q => absurd h9 q)
 refine idxZ h0 hx ?_
 refine brn_n (fun _ => ?_) (fun q => absurd q hk)
 refine lookN hd ?_
 refine lookY ho ?_
 exact panT rfl ⟨rfl,rfl⟩
theorem t64_Fexp (s:List Ty) (t x:Ty) (d:DM) (o:OM) (h9:t.kind = 9) (h0:0 ≤ t.id) (hx:s[t.id.toNat]? = some x) (hk:¬ x.kind = 0) (hd:mget d t.id = none) (ho:mget o t.id = none ∨ mget o t.id = some false)
  (r r1:Option (Int × DM × OM)) (h:DpF s x d (mset o t.id true) (RDF s r1) (PD r1)) (hr0:r1 = none → r = none) (hr:∀ k d' o',r1 = some (k,d',o') → r = some (k,mset d' t.id k,o')):DpF s t d o (RDF s r) (PD r):=by
 refine callsTX_facts Try.func64 facts64 rfl fun hw _ => ?_
 refine brn_p (fun _ => ?_) (fun q => absurd h9 q)
 refine idxZ h0 hx ?_
 refine brn_n (fun _ => ?_) (fun q => absurd q hk)
 refine lookN hd ?_
 refine lookB ho ?_ ?_
 all_goals
  refine updM (f:=C.bool) (x:=true) rfl ?_
  refine idxZ h0 hx ?_
  refine callDFD [1000,1001,1002] h rfl rfl rfl rfl rfl (fun v q => ⟨hr0 q.1,q.2⟩) fun k d' o' e _ => ?_
  refine updM (f:=IC) (x:=k) rfl ?_
  exact retR [1000,1001,1002] rfl rfl rfl rfl ⟨k,_,_,hr k d' o' e,rfl,rfl⟩
theorem t64_Fargs (s:List Ty) (t:Ty) (d:DM) (o:OM) (h9:t.kind = 9 → ∃ x,0 ≤ t.id ∧ s[t.id.toNat]? = some x ∧ x.kind = 0)
  (f:Ty → DM → OM → Option (Option (Int × DM × OM))) (ih:∀ x d o r,f x d o = some r → DpF s x d o (RDF s r) (PD r)) (r:Option (Int × DM × OM)) (r1:Option (Int × DM × OM)) (h:deepL f t.args 0 d o = some r1) (hr0:r1 = none → r = none) (hr:∀ k d' o',r1 = some (k,d',o') → r = some (w64 (k + 1),d',o')):DpF s t d o (RDF s r) (PD r):=by
 have hlm:(t.args.map tyC).length = t.args.length:=List.length_map _
 refine callsTX_facts Try.func64 facts64 rfl fun hw _ => ?_
 have hlen:t.args.length ≤ 9223372036854775807:=wf_lenT hw.2.1.2.2.1
 refine brn_p (fun h9' => exE (h9 h9') fun x hh => ?_) (fun _ => ?_)
 ·have h0:=hh.1
  have hx:=hh.2.1
  have hk:=hh.2.2
  refine idxZ h0 hx ?_
  refine brn_n (fun q => absurd hk q) (fun _ => ?_)
  refine loopN t.args.length 74 [8] ((0:Int),d,o) (fun x => [IC x.1]) (fun x => [(1000,.box 93 [.sl (s.map tyC),.mpr 1001,.mpr 1002]),(1001,.map (mcs IC x.2.1)),(1002,.map (mcs C.bool x.2.2))]) (fun k x => deepL f (t.args.drop k) x.1 x.2.1 x.2.2 = some r1) h (same_keys rfl) ⟨same_keys rfl,trivial⟩
   ⟨.inl ⟨_,rfl,.inl ⟨rfl,rfl⟩⟩,.inl ⟨_,rfl,.inl ⟨rfl,rfl⟩⟩,.inl ⟨_,rfl,.inl ⟨rfl,rfl⟩⟩,trivial⟩ (fun _ => rfl) (fun _ => rfl) ?_
  rintro k ⟨m,d,o⟩ hk' hinv hwm _ _
  refine brn_p (fun hlt => ?_) (fun hge => ?_)
  ·have hlt:k < t.args.length:=by rw [hlm] at hlt; omega
   refine withDrop hlt fun x hx' hxm hda => ?_
   have hinv:=hinv
   rw [hda] at hinv
   refine exE (deepL_step hinv) fun r2 h2 => ?_
   refine idxTy hx' ?_
   refine callDF [1000,1001,1002] (ih x d o r2 h2.1) rfl rfl rfl rfl rfl (fun v q => ⟨hr0 (h2.2.1 q.1 ▸ rfl),q.2⟩) fun k' d' o' e hwk => ?_
   refine ⟨?_,?_⟩
   ·exact mmW2 (a:=m) (b:=k') hwm.1 hwk
   refine Fit.in64 (by omega) (by omega) ?_
   exact ⟨(k + 1,((if k' > m then k' else m),d',o')),⟨hlt,h2.2.2 k' d' o' e⟩,⟨nextI,.inr (.inl ⟨rfl,rfl⟩),trivial⟩,⟨.inl ⟨_,rfl,.inl ⟨rfl,rfl⟩⟩,.inl ⟨_,rfl,.inl ⟨rfl,rfl⟩⟩,.inl ⟨_,rfl,.inl ⟨rfl,rfl⟩⟩,trivial⟩,nextM hlt⟩
  ·have hge:¬ k < t.args.length:=by rw [hlm] at hge; omega
   have hinv:=hinv
   rw [drop_end hge,deepL] at hinv
   refine fitTo (m:=w64 (m + 1)) rfl ?_
   exact retR [1000,1001,1002] rfl rfl rfl rfl ⟨w64 (m + 1),d,o,hr m d o (Option.some.inj hinv).symm,rfl,rfl⟩
 ·skip
  refine loopN t.args.length 74 [8] ((0:Int),d,o) (fun x => [IC x.1]) (fun x => [(1000,.box 93 [.sl (s.map tyC),.mpr 1001,.mpr 1002]),(1001,.map (mcs IC x.2.1)),(1002,.map (mcs C.bool x.2.2))]) (fun k x => deepL f (t.args.drop k) x.1 x.2.1 x.2.2 = some r1) h (same_keys rfl) ⟨same_keys rfl,trivial⟩
   ⟨.inl ⟨_,rfl,.inl ⟨rfl,rfl⟩⟩,.inl ⟨_,rfl,.inl ⟨rfl,rfl⟩⟩,.inl ⟨_,rfl,.inl ⟨rfl,rfl⟩⟩,trivial⟩ (fun _ => rfl) (fun _ => rfl) ?_
  rintro k ⟨m,d,o⟩ hk' hinv hwm _ _
  refine brn_p (fun hlt => ?_) (fun hge => ?_)
  ·have hlt:k < t.args.length:=by rw [hlm] at hlt; omega
   refine withDrop hlt fun x hx' hxm hda => ?_
   have hinv:=hinv
   rw [hda] at hinv
   refine exE (deepL_step hinv) fun r2 h2 => ?_
   refine idxTy hx' ?_
   refine callDF [1000,1001,1002] (ih x d o r2 h2.1) rfl rfl rfl rfl rfl (fun v q => ⟨hr0 (h2.2.1 q.1 ▸ rfl),q.2⟩) fun k' d' o' e hwk => ?_
   refine ⟨?_,?_⟩
   ·exact mmW2 (a:=m) (b:=k') hwm.1 hwk
   refine Fit.in64 (by omega) (by omega) ?_
   exact ⟨(k + 1,((if k' > m then k' else m),d',o')),⟨hlt,h2.2.2 k' d' o' e⟩,⟨nextI,.inr (.inl ⟨rfl,rfl⟩),trivial⟩,⟨.inl ⟨_,rfl,.inl ⟨rfl,rfl⟩⟩,.inl ⟨_,rfl,.inl ⟨rfl,rfl⟩⟩,.inl ⟨_,rfl,.inl ⟨rfl,rfl⟩⟩,trivial⟩,nextM hlt⟩
  ·have hge:¬ k < t.args.length:=by rw [hlm] at hge; omega
   have hinv:=hinv
   rw [drop_end hge,deepL] at hinv
   refine fitTo (m:=w64 (m + 1)) rfl ?_
   exact retR [1000,1001,1002] rfl rfl rfl rfl ⟨w64 (m + 1),d,o,hr m d o (Option.some.inj hinv).symm,rfl,rfl⟩
theorem t64_F (s:List Ty):∀ (n:Nat) (t:Ty) (d:DM) (o:OM) (r:Option (Int × DM × OM)),deepF s n t d o = some r → DpF s t d o (RDF s r) (PD r)
 | 0,t,d,o,r,h => by cases h
 | n + 1,t,d,o,r,h => by
  obtain ⟨x,he,h⟩:=deep_step h
  by_cases hk:x.kind = 0
  ·have h:=h.2 hk
   obtain ⟨r1,h1,h2,h3⟩:=h
   refine t64_Fargs s t d o (fun h9 => ?_) (deepF s n) (fun x d o r q => t64_F s n x d o r q) r r1 h1 h2 h3
   rw [if_pos h9] at he
   obtain ⟨e1,e2,_⟩:=elemT_some he
   exact ⟨x,e1,e2,hk⟩
  ·have h9:t.kind = 9:=by
    by_cases h9:t.kind = 9
    ·exact h9
    ·rw [if_neg h9] at he
     injection he with he
     rw [← he] at hk
     exact absurd rfl hk
   rw [if_pos h9] at he
   obtain ⟨e1,e2,_⟩:=elemT_some he
   rcases h.1 hk with ⟨k,hd,rfl⟩ | ⟨hd,ho,rfl⟩ | ⟨hd,ho,r1,h1,h2,h3⟩
   ·exact t64_Fmemo s t x d o k h9 e1 e2 hk hd
   ·exact t64_Fopen s t x d o h9 e1 e2 hk hd ho
   ·exact t64_Fexp s t x d o h9 e1 e2 hk hd ho r r1 (t64_F s n x d _ r1 h1) h2 h3
theorem t52By (s:List Ty) (t x:Ty) (h:CallsT P 95 [tyA t,.own 1000 0] [.box 89 [.own 1001 0],.box 93 [.sl (s.map tyC),.any,.any]] (Ret [.box 89 [.own 1001 0],.box 93 [.sl (s.map tyC),.any,.any]] (.tup [tyA x,.bool true]))):CallsT P 52 [tyA t,.fn 95 [] [.own 1000 0]] [.box 89 [.own 1001 0],.box 93 [.sl (s.map tyC),.any,.any]] (Ret [.box 89 [.own 1001 0],.box 93 [.sl (s.map tyC),.any,.any]] (tyA x)):=by
 refine callsT_facts Try.func52 facts52b rfl fun hw _ => ?_
 refine callO [1000,1001] [1000,1001] h rfl rfl rfl rfl rfl fun _ _ => ?_
 exact retO [1000,1001] rfl rfl rfl rfl
theorem t52Bn (s:List Ty) (t:Ty) (f:Ty → Ty) (hb:t.args.length ≤ 2 ^ 30) (h:CallsT P 95 [tyA t,.own 1000 0] [.box 89 [.own 1001 0],.box 93 [.sl (s.map tyC),.any,.any]] (Ret [.box 89 [.own 1001 0],.box 93 [.sl (s.map tyC),.any,.any]] (.tup [tyA t,.bool false])))
  (ih:∀ x ∈ t.args,CallsT P 52 [tyA x,.fn 95 [] [.own 1000 0]] [.box 89 [.own 1001 0],.box 93 [.sl (s.map tyC),.any,.any]] (Ret [.box 89 [.own 1001 0],.box 93 [.sl (s.map tyC),.any,.any]] (tyA (f x)))):CallsT P 52 [tyA t,.fn 95 [] [.own 1000 0]] [.box 89 [.own 1001 0],.box 93 [.sl (s.map tyC),.any,.any]] (Ret [.box 89 [.own 1001 0],.box 93 [.sl (s.map tyC),.any,.any]] (tyA (.mk t.kind t.id (t.args.map f)))):=by
 have hlm:(t.args.map tyC).length = t.args.length:=List.length_map _
 refine callsT_facts Try.func52 facts52b rfl fun hw _ => ?_
 refine callO [1000,1001] [1000,1001] h rfl rfl rfl rfl rfl fun _ _ => ?_
 refine loopN t.args.length 26 [] ([]:List Ty) (fun _ => []) (fun s' => [(4,.box 32 [IC 0,IC 0,.nils]),(5,.box 32 [IC t.kind,IC t.id,.sl (t.args.map tyC)]),(7,.box 32 [IC t.kind,IC t.id,.rw 36]),(36,.row 32 3 (s'.map tyC)),(1000,.box 89 [.own 1001 0]),(1001,.box 93 [.sl (s.map tyC),.any,.any])]) (fun j s' => s' = (t.args.take j).map f) (by simp) (same_keys rfl) trivial
  ⟨.inl ⟨_,rfl,.inl ⟨rfl,rfl⟩⟩,.inl ⟨_,rfl,.inl ⟨rfl,rfl⟩⟩,.inl ⟨_,rfl,.inr ⟨32,_,_,rfl,rfl,_,_,rfl,same_keys rfl,_,_,rfl,same_keys rfl,_,_,rfl,nil_rw rfl rfl,rfl⟩⟩,.inr ⟨rfl,32,3,rfl⟩,.inl ⟨_,rfl,.inl ⟨rfl,rfl⟩⟩,.inl ⟨_,rfl,.inl ⟨rfl,rfl⟩⟩,trivial⟩ (fun _ => rfl) (fun _ => rfl) ?_
 rintro j s' hj hinv _ _ _
 refine brn_p (fun hlt => ?_) (fun hge => ?_)
 ·have hlt:j < t.args.length:=by rw [hlm] at hlt; omega
  refine withGet hlt fun x hx hxm => ?_
  have hs:(s'.map tyC).length = j:=by rw [hinv,List.length_map,List.length_map,List.length_take]; omega
  refine idxTy hx ?_
  refine callXD (Pp:=fun _ => False) [1000,1001] (ih x hxm).toX rfl rfl rfl rfl rfl (fun _ h => False.elim h) fun _ _ => ?_
  refine app1' j rfl hs (by decide) (by omega) ?_
  refine Fit.in64 (by omega) (by omega) ?_
  refine ⟨(j + 1,s' ++ [f x]),⟨hlt,?_⟩,⟨nextI,trivial⟩,⟨.inl ⟨_,rfl,.inl ⟨rfl,rfl⟩⟩,.inl ⟨_,rfl,.inl ⟨rfl,rfl⟩⟩,.inl ⟨_,rfl,.inl ⟨rfl,rfl⟩⟩,.inl ⟨_,rfl,.inl ⟨rowG rowT,rfl⟩⟩,.inl ⟨_,rfl,.inl ⟨rfl,rfl⟩⟩,.inl ⟨_,rfl,.inl ⟨rfl,rfl⟩⟩,trivial⟩,nextM hlt⟩
  show s' ++ [f x] = (t.args.take (j + 1)).map f
  rw [take_snoc hx,hinv,List.map_append]; rfl
 ·have hge:¬ j < t.args.length:=by rw [hlm] at hge; omega
  have e:C.agg [IC t.kind,IC t.id,.sl (s'.map tyC)] = tyA (.mk t.kind t.id (t.args.map f)):=by
   rw [hinv,List.take_of_length_le (by omega)]; rfl
  exact retF [36] [1000,1001] ⟨_,_,rfl,rfl,rfl,rfl,e⟩
theorem t52Cy (m:DM) (t x:Ty) (h:CallsT P 98 [tyA t,.own 1000 0] [.box 90 [.mpr 1001],.map (mcs IC m)] (Ret [.box 90 [.mpr 1001],.map (mcs IC m)] (.tup [tyA x,.bool true]))):CallsT P 52 [tyA t,.fn 98 [] [.own 1000 0]] [.box 90 [.mpr 1001],.map (mcs IC m)] (Ret [.box 90 [.mpr 1001],.map (mcs IC m)] (tyA x)):=by
 refine callsT_facts Try.func52 facts52b rfl fun hw _ => ?_
 refine callO [1000,1001] [1000,1001] h rfl rfl rfl rfl rfl fun _ _ => ?_
 exact retO [1000,1001] rfl rfl rfl rfl
theorem t52Cn (m:DM) (t:Ty) (f:Ty → Ty) (hb:t.args.length ≤ 2 ^ 30) (h:CallsT P 98 [tyA t,.own 1000 0] [.box 90 [.mpr 1001],.map (mcs IC m)] (Ret [.box 90 [.mpr 1001],.map (mcs IC m)] (.tup [tyA t,.bool false])))
  (ih:∀ x ∈ t.args,CallsT P 52 [tyA x,.fn 98 [] [.own 1000 0]] [.box 90 [.mpr 1001],.map (mcs IC m)] (Ret [.box 90 [.mpr 1001],.map (mcs IC m)] (tyA (f x)))):CallsT P 52 [tyA t,.fn 98 [] [.own 1000 0]] [.box 90 [.mpr 1001],.map (mcs IC m)] (Ret [.box 90 [.mpr 1001],.map (mcs IC m)] (tyA (.mk t.kind t.id (t.args.map f)))):=by
 have hlm:(t.args.map tyC).length = t.args.length:=List.length_map _
 refine callsT_facts Try.func52 facts52b rfl fun hw _ => ?_
 refine callO [1000,1001] [1000,1001] h rfl rfl rfl rfl rfl fun _ _ => ?_
 refine loopN t.args.length 26 [] ([]:List Ty) (fun _ => []) (fun s' => [(4,.box 32 [IC 0,IC 0,.nils]),(5,.box 32 [IC t.kind,IC t.id,.sl (t.args.map tyC)]),(7,.box 32 [IC t.kind,IC t.id,.rw 36]),(36,.row 32 3 (s'.map tyC)),(1000,.box 90 [.mpr 1001]),(1001,.map (mcs IC m))]) (fun j s' => s' = (t.args.take j).map f) (by simp) (same_keys rfl) trivial
  ⟨.inl ⟨_,rfl,.inl ⟨rfl,rfl⟩⟩,.inl ⟨_,rfl,.inl ⟨rfl,rfl⟩⟩,.inl ⟨_,rfl,.inr ⟨32,_,_,rfl,rfl,_,_,rfl,same_keys rfl,_,_,rfl,same_keys rfl,_,_,rfl,nil_rw rfl rfl,rfl⟩⟩,.inr ⟨rfl,32,3,rfl⟩,.inl ⟨_,rfl,.inl ⟨rfl,rfl⟩⟩,.inl ⟨_,rfl,.inl ⟨rfl,rfl⟩⟩,trivial⟩ (fun _ => rfl) (fun _ => rfl) ?_
 rintro j s' hj hinv _ _ _
 refine brn_p (fun hlt => ?_) (fun hge => ?_)
 ·have hlt:j < t.args.length:=by rw [hlm] at hlt; omega
  refine withGet hlt fun x hx hxm => ?_
  have hs:(s'.map tyC).length = j:=by rw [hinv,List.length_map,List.length_map,List.length_take]; omega
  refine idxTy hx ?_
  refine callXD (Pp:=fun _ => False) [1000,1001] (ih x hxm).toX rfl rfl rfl rfl rfl (fun _ h => False.elim h) fun _ _ => ?_
  refine app1' j rfl hs (by decide) (by omega) ?_
  refine Fit.in64 (by omega) (by omega) ?_
  refine ⟨(j + 1,s' ++ [f x]),⟨hlt,?_⟩,⟨nextI,trivial⟩,⟨.inl ⟨_,rfl,.inl ⟨rfl,rfl⟩⟩,.inl ⟨_,rfl,.inl ⟨rfl,rfl⟩⟩,.inl ⟨_,rfl,.inl ⟨rfl,rfl⟩⟩,.inl ⟨_,rfl,.inl ⟨rowG rowT,rfl⟩⟩,.inl ⟨_,rfl,.inl ⟨rfl,rfl⟩⟩,.inl ⟨_,rfl,.inl ⟨rfl,rfl⟩⟩,trivial⟩,nextM hlt⟩
  show s' ++ [f x] = (t.args.take (j + 1)).map f
  rw [take_snoc hx,hinv,List.map_append]; rfl
 ·have hge:¬ j < t.args.length:=by rw [hlm] at hge; omega
  have e:C.agg [IC t.kind,IC t.id,.sl (s'.map tyC)] = tyA (.mk t.kind t.id (t.args.map f)):=by
   rw [hinv,List.take_of_length_le (by omega)]; rfl
  exact retF [36] [1000,1001] ⟨_,_,rfl,rfl,rfl,rfl,e⟩
theorem t95y (s:List Ty) (t x r:Ty) (h9:t.kind = 9) (h0:0 ≤ t.id) (hx:s[t.id.toNat]? = some x) (hk:¬ x.kind = 0) (h:CallsT P 60 [.own 1000 0,tyA x] (SF0 s) (Ret (SF0 s) (tyA r))) :
  CallsT P 95 [tyA t,.own 1000 0] [.box 89 [.own 1001 0],.box 93 [.sl (s.map tyC),.any,.any]] (Ret [.box 89 [.own 1001 0],.box 93 [.sl (s.map tyC),.any,.any]] (.tup [tyA r,.bool true])):=by
 refine callsT_facts Try.func95 facts95 rfl fun hw _ => ?_
 refine brn_p (fun _ => ?_) (fun q => absurd h9 q)
 refine idxZ h0 hx ?_
 refine brn_n (fun _ => ?_) (fun q => absurd q hk)
 refine idxZ h0 hx ?_
 refine callOD [1001] [1001] h rfl rfl rfl rfl rfl fun _ _ => ?_
 exact retO [1000,1001] rfl rfl rfl rfl
theorem t95n (s:List Ty) (t:Ty) (h9:t.kind = 9 → ∃ x,0 ≤ t.id ∧ s[t.id.toNat]? = some x ∧ x.kind = 0) :
  CallsT P 95 [tyA t,.own 1000 0] [.box 89 [.own 1001 0],.box 93 [.sl (s.map tyC),.any,.any]] (Ret [.box 89 [.own 1001 0],.box 93 [.sl (s.map tyC),.any,.any]] (.tup [tyA t,.bool false])):=by
 refine callsT_facts Try.func95 facts95 rfl fun hw _ => ?_
 refine brn_p (fun h => exE (h9 h) fun x hh => ?_) (fun _ => ?_)
 ·have h0:=hh.1
  have hx:=hh.2.1
  refine idxZ h0 hx ?_
  refine brn_n (fun q => absurd hh.2.2 q) (fun _ => ?_)
  exact retO [1000,1001] rfl rfl rfl rfl
 ·exact retO [1000,1001] rfl rfl rfl rfl
theorem t60o (s:List Ty) (t r:Ty) (h:CallsT P 52 [tyA t,.fn 95 [] [.own 1000 0]] [.box 89 [.own 1001 0],.box 93 [.sl (s.map tyC),.any,.any]] (Ret [.box 89 [.own 1001 0],.box 93 [.sl (s.map tyC),.any,.any]] (tyA r))):CallsT P 60 [.own 1000 0,tyA t] (SF0 s) (Ret (SF0 s) (tyA r)):=by
 refine callsT_facts Try.func60 facts60 rfl fun hw _ => ?_
 refine callO [2,1000] [2,1000] h rfl rfl rfl rfl rfl fun _ _ => ?_
 exact retO [1000] rfl rfl rfl rfl
theorem mapO_some {f:Ty → Option Ty}:∀ {l r:List Ty},mapO f l = some r → (∀ x ∈ l,f x = some ((f x).getD x)) ∧ r = l.map fun x => (f x).getD x
 | [],r,h => by
  rw [mapO] at h
  injection h with h
  exact ⟨by simp,by rw [← h]; rfl⟩
 | x :: l,r,h => by
  rw [mapO] at h
  cases hx:f x with
  | none => simp only [hx] at h; cases h
  | some a =>
   cases hl:mapO f l with
   | none => simp only [hx,hl] at h; cases h
   | some b =>
    simp only [hx,hl] at h
    injection h with h
    obtain ⟨i1,i2⟩:=mapO_some hl
    refine ⟨fun y hy => ?_,?_⟩
    ·rcases List.mem_cons.1 hy with rfl | hy
     ·rw [hx]; rfl
     ·exact i1 y hy
    ·rw [List.map_cons,hx,← i2,← h]; rfl
theorem t52B (s:List Ty) (hs:∀ x ∈ s,TyB x):∀ (n:Nat) (t r:Ty),TyB t → apF s n t = some r → CallsT P 52 [tyA t,.fn 95 [] [.own 1000 0]] [.box 89 [.own 1001 0],.box 93 [.sl (s.map tyC),.any,.any]] (Ret [.box 89 [.own 1001 0],.box 93 [.sl (s.map tyC),.any,.any]] (tyA r))
 | 0,t,r,hb,h => by cases h
 | n + 1,t,r,hb,h => by
  rw [apF] at h
  split at h
  ·cases h
  rename_i x he
  by_cases hk:x.kind = 0
  ·rw [if_neg (fun q => q hk)] at h
   have hn:=t95n s t fun h9 => by
    rw [if_pos h9] at he
    obtain ⟨e1,e2,_⟩:=elemT_some he
    exact ⟨x,e1,e2,hk⟩
   cases hl:mapO (apF s n) t.args with
   | none => simp only [hl] at h; cases h
   | some l =>
    simp only [hl] at h
    injection h with h
    obtain ⟨h1,h2⟩:=mapO_some hl
    have hb:=(tyB_eq t).1 hb
    rw [← h,h2]
    exact t52Bn s t (fun x => (apF s n x).getD x) hb.1 hn fun x hx => t52B s hs n x _ (hb.2 x hx) (h1 x hx)
  ·rw [if_pos hk] at h
   have h9:t.kind = 9:=by
    by_cases h9:t.kind = 9
    ·exact h9
    ·rw [if_neg h9] at he
     injection he with he
     rw [← he] at hk
     exact absurd rfl hk
   rw [if_pos h9] at he
   obtain ⟨e1,e2,_⟩:=elemT_some he
   exact t52By s t r (t95y s t x r h9 e1 e2 hk (t60o s x r (t52B s hs n x r (hs x (List.mem_of_getElem? e2)) h)))
theorem t60 (s:List Ty) (hs:∀ x ∈ s,TyB x) (n:Nat) (t r:Ty) (hb:TyB t) (h:apF s n t = some r):CallsT P 60 [.own 1000 0,tyA t] (SF0 s) (Ret (SF0 s) (tyA r)):=t60o s t r (t52B s hs n t r hb h)
mutual
def rnT (m:DM):Ty → Ty
 | .mk k i l => if k = 9 then .mk 9 ((mget m i).getD 0) [] else .mk k i (rnL m l)
def rnL (m:DM):List Ty → List Ty
 | [] => []
 | t :: l => rnT m t :: rnL m l
end
theorem rnL_map (m:DM):∀ l:List Ty,rnL m l = l.map (rnT m)
 | [] => rfl
 | t :: l => by rw [rnL,rnL_map m l]; rfl
theorem rnT_eq (m:DM) (t:Ty):rnT m t = if t.kind = 9 then .mk 9 ((mget m t.id).getD 0) [] else .mk t.kind t.id (t.args.map (rnT m)):=by
 cases t
 rw [rnT,rnL_map]
 rfl
theorem lookD {i:Int} {m:DM} {Y:C → Prop} {N:Prop} (k1:Y (IC ((mget m i).getD 0))) (k2:mget m i = none → N):MLookT false (mcs IC m) (IC i) Y N:=by
 cases h:mget m i with
 | none => exact lookN h (k2 h)
 | some x => rw [h] at k1; exact lookY h k1
theorem t98y (m:DM) (t:Ty) (h9:t.kind = 9):CallsT P 98 [tyA t,.own 1000 0] [.box 90 [.mpr 1001],.map (mcs IC m)] (Ret [.box 90 [.mpr 1001],.map (mcs IC m)] (.tup [tyA (.mk 9 ((mget m t.id).getD 0) []),.bool true])):=by
 refine callsT_facts Try.func98 facts98 rfl fun hw _ => ?_
 refine brn_p (fun _ => ?_) (fun q => absurd h9 q)
 refine lookD ?_ (fun hn => ?_)
 ·exact retO [1000,1001] rfl rfl rfl rfl
 ·exact retO [1000,1001] rfl rfl rfl (by rw [hn]; rfl)
theorem t98n (m:DM) (t:Ty) (h9:¬ t.kind = 9):CallsT P 98 [tyA t,.own 1000 0] [.box 90 [.mpr 1001],.map (mcs IC m)] (Ret [.box 90 [.mpr 1001],.map (mcs IC m)] (.tup [tyA t,.bool false])):=by
 refine callsT_facts Try.func98 facts98 rfl fun hw _ => ?_
 refine brn_p (fun q => absurd q h9) (fun _ => ?_)
 exact retO [1000,1001] rfl rfl rfl rfl
theorem t52C (m:DM):∀ t:Ty,TyB t → CallsT P 52 [tyA t,.fn 98 [] [.own 1000 0]] [.box 90 [.mpr 1001],.map (mcs IC m)] (Ret [.box 90 [.mpr 1001],.map (mcs IC m)] (tyA (rnT m t))):=tyInd fun t ih hb => by
 have hb:=(tyB_eq t).1 hb
 rw [rnT_eq]
 by_cases h9:t.kind = 9
 ·rw [if_pos h9]; exact t52Cy m t _ (t98y m t h9)
 ·rw [if_neg h9]; exact t52Cn m t _ hb.1 (t98n m t h9) fun x hx => ih x hx (hb.2 x hx)
def vr (i:Nat):Ty:=.mk 9 i []
def leastF (s:List Ty) (n:Nat):Nat → DM → Option DM
 | 0,m => some m
 | i + 1,m => match frontF s n (vr i) with
  | none => none
  | some t => leastF s n i (if t.kind = 9 then mset m t.id i else m)
def canE (m:DM) (i:Nat) (t:Ty):Ty:=if (rnT m t).kind = 9 ∧ (rnT m t).id = i then .mk 0 0 [] else rnT m t
def canL (s:List Ty) (n:Nat) (m:DM):Nat → Option (List Ty)
 | 0 => some []
 | i + 1 => match canL s n m i,apF s n (vr i) with
  | some l,some t => some (l ++ [canE m i t])
  | _,_ => none
def canonF (s:List Ty) (n:Nat):Option (List Ty):=match leastF s n s.length [] with
 | none => none
 | some m => canL s n m s.length
theorem apF_TyB {s:List Ty} (hs:∀ x ∈ s,TyB x):∀ (n:Nat) (t r:Ty),TyB t → apF s n t = some r → TyB r
 | 0,t,r,hb,h => by cases h
 | n + 1,t,r,hb,h => by
  rw [apF] at h
  split at h
  ·cases h
  rename_i x he
  by_cases hk:x.kind = 0
  ·rw [if_neg (fun q => q hk)] at h
   cases hl:mapO (apF s n) t.args with
   | none => simp only [hl] at h; cases h
   | some l =>
    simp only [hl] at h
    injection h with h
    obtain ⟨h1,h2⟩:=mapO_some hl
    have hb:=(tyB_eq t).1 hb
    rw [tyB_eq,← h]
    refine ⟨by show l.length ≤ _; rw [h2,List.length_map]; exact hb.1,?_⟩
    intro y hy
    have hy:y ∈ l:=hy
    rw [h2] at hy
    obtain ⟨z,hz,rfl⟩:=List.mem_map.1 hy
    exact apF_TyB hs n z _ (hb.2 z hz) (h1 z hz)
  ·rw [if_pos hk] at h
   have h9:t.kind = 9:=by
    by_cases h9:t.kind = 9
    ·exact h9
    ·rw [if_neg h9] at he
     injection he with he
     rw [← he] at hk
     exact absurd rfl hk
   rw [if_pos h9] at he
   obtain ⟨e1,e2,_⟩:=elemT_some he
   exact apF_TyB hs n x r (hs x (List.mem_of_getElem? e2)) h
theorem vr_TyB (i:Nat):TyB (vr i):=(tyB_eq _).2 ⟨Nat.zero_le _,fun x h => by cases h⟩
theorem canL_step {s:List Ty} {n:Nat} {m:DM}:∀ {N:Nat} {l:List Ty},canL s n m N = some l → ∀ i < N,∃ l' t,canL s n m i = some l' ∧ apF s n (vr i) = some t ∧ canL s n m (i + 1) = some (l' ++ [canE m i t])
 | 0,l,h,i,hi => absurd hi (Nat.not_lt_zero _)
 | N + 1,l,h,i,hi => by
  have h':=h
  rw [canL] at h'
  cases h1:canL s n m N with
  | none => simp only [h1] at h'; cases h'
  | some l1 =>
   cases h2:apF s n (vr N) with
   | none => simp only [h1,h2] at h'; cases h'
   | some t =>
    by_cases e:i = N
    ·subst e
     refine ⟨l1,t,h1,h2,?_⟩
     rw [canL]
     simp only [h1,h2]
    ·exact canL_step h1 i (by omega)
theorem canL_len {s:List Ty} {n:Nat} {m:DM}:∀ {N:Nat} {l:List Ty},canL s n m N = some l → l.length = N
 | 0,l,h => by rw [canL] at h; injection h with h; rw [← h]; rfl
 | N + 1,l,h => by
  obtain ⟨l',t,h1,h2,h3⟩:=canL_step h N (Nat.lt_succ_self _)
  rw [h] at h3
  injection h3 with h3
  rw [h3,List.length_append,canL_len h1]; rfl
theorem least_step {s:List Ty} {n j:Nat} {m M:DM} (h:leastF s n (j + 1) m = some M):∃ t,frontF s n (vr j) = some t ∧ leastF s n j (if t.kind = 9 then mset m t.id j else m) = some M:=by
 rw [leastF] at h
 cases hf:frontF s n (vr j) with
 | none => simp only [hf] at h; cases h
 | some t => simp only [hf] at h; exact ⟨t,rfl,h⟩
theorem t65o (s:List Ty) (n:Nat) (M:DM) (r:List Ty) (hn:s.length ≤ 2 ^ 30) (hs:∀ x ∈ s,TyB x) (hm:leastF s n s.length [] = some M) (hr:canL s n M s.length = some r)
  (h96:∀ t r,frontF s n t = some r → CallsT P 96 [.own 1000 0,tyA t] (SF0 s) (Ret (SF0 s) (tyA r)))
  (h60:∀ i r,apF s n (vr i) = some r → CallsT P 60 [.own 1000 0,tyA (vr i)] (SF0 s) (Ret (SF0 s) (tyA r)) ∧ CallsT P 52 [tyA r,.fn 98 [] [.own 1000 0]] [.box 90 [.mpr 1001],.map (mcs IC M)] (Ret [.box 90 [.mpr 1001],.map (mcs IC M)] (tyA (rnT M r)))) :
  CallsT P 65 [.own 1000 0] (SF0 s) (Ret (SF0 s) (.sl (r.map tyC))):=by
 have hsm:(s.map tyC).length = s.length:=List.length_map _
 refine callsT_facts Try.func65 facts65 rfl fun hw _ => ?_
 refine Fit.in64 (by omega) (by omega) ?_
 refine LoopT.mk ⟨Nat × DM,(s.length,[]),fun x => x.1 ≤ s.length ∧ leastF s n x.1 x.2 = some M,[4],fun x => [IC ((x.1:Int) - 1)],fun x => [(3,.box 90 [.mpr 9]),(9,.map (mcs IC x.2)),(1000,.box 93 [.sl (s.map tyC),.any,.any])],fun x => x.1,⟨Nat.le_refl _,hm⟩,⟨.inr (.inl ⟨congrArg IC (by rw [hsm]),rfl⟩),trivial⟩,
  ⟨.inl ⟨_,rfl,.inl ⟨rfl,rfl⟩⟩,.inl ⟨_,rfl,.inl ⟨rfl,rfl⟩⟩,.inl ⟨_,rfl,.inl ⟨rfl,rfl⟩⟩,trivial⟩,fun _ => rfl,fun _ => rfl,?_⟩
 rintro ⟨j,m⟩ ⟨hj,hinv⟩ _ _
 refine brn_p (fun hge => ?_) (fun hlt => ?_)
 ·have hj1:∃ i,j = i + 1:=⟨j - 1,by have:((j:Int) - 1) ≥ 0:=hge; omega⟩
  refine exE hj1 fun i hi => ?_
  have hvr:(C.agg [IC 9,IC ((j:Int) - 1),.sl []]) = tyA (vr i):=by rw [hi]; show C.agg _ = C.agg [IC 9,IC (i:Int),.sl []]; congr 3; congr 1; omega
  have hinv:leastF s n (i + 1) m = some M:=by rw [← hi]; exact hinv
  refine exE (least_step hinv) fun t ht => ?_
  refine callO [1000] [1000] (h96 (vr i) t ht.1) rfl rfl (by rw [← hvr]; rfl) rfl rfl fun _ _ => ?_
  refine brn_p (fun h9 => ?_) (fun h9 => ?_)
  ·refine updM (f:=IC) (x:=(j:Int) - 1) rfl ?_
   refine Fit.in64 (by omega) (by omega) ?_
   refine ⟨(i,mset m t.id i),⟨by omega,by have:=ht.2; rw [if_pos h9] at this; exact this⟩,⟨.inr (.inl ⟨congrArg IC (by show (j:Int) - 1 - 1 = (i:Int) - 1; omega),rfl⟩),trivial⟩,⟨.inl ⟨_,rfl,.inl ⟨rfl,rfl⟩⟩,.inl ⟨_,rfl,.inl ⟨?_,rfl⟩⟩,.inl ⟨_,rfl,.inl ⟨rfl,rfl⟩⟩,trivial⟩,by show i < j; omega⟩
   exact congrArg (fun q => TO.map (mcs IC (mset m t.id q))) (show (j:Int) - 1 = (i:Int) by omega)
  ·refine Fit.in64 (by omega) (by omega) ?_
   exact ⟨(i,m),⟨by omega,by have:=ht.2; rw [if_neg h9] at this; exact this⟩,⟨.inr (.inl ⟨congrArg IC (by show (j:Int) - 1 - 1 = (i:Int) - 1; omega),rfl⟩),trivial⟩,⟨.inl ⟨_,rfl,.inl ⟨rfl,rfl⟩⟩,.inl ⟨_,rfl,.inl ⟨rfl,rfl⟩⟩,.inl ⟨_,rfl,.inl ⟨rfl,rfl⟩⟩,trivial⟩,by show i < j; omega⟩
 ·have hj0:j = 0:=by have:¬ ((j:Int) - 1) ≥ 0:=hlt; omega
  have hmM:m = M:=by rw [hj0,leastF] at hinv; exact Option.some.inj hinv
  refine loopN s.length 36 [6] ([]:List Ty) (fun _ => [.rw 58]) (fun l => [(3,.box 90 [.mpr 9]),(9,.map (mcs IC M)),(58,.row 32 3 (l.map tyC)),(1000,.box 93 [.sl (s.map tyC),.any,.any])]) (fun k l => canL s n M k = some l) rfl (same_keys rfl) ⟨.inr (.inr (.inr (.inl ⟨rfl,58,32,3,rfl,rfl,rfl⟩))),trivial⟩
   ⟨.inl ⟨_,rfl,.inl ⟨rfl,rfl⟩⟩,.inl ⟨_,rfl,.inl ⟨congrArg (fun q => TO.map (mcs IC q)) hmM,rfl⟩⟩,.inr ⟨rfl,32,3,rfl⟩,.inl ⟨_,rfl,.inl ⟨rfl,rfl⟩⟩,trivial⟩ (fun _ => rfl) (fun _ => rfl) ?_
  rintro k l hk hinv2 _ _ _
  refine brn_p (fun hlt => ?_) (fun hge => ?_)
  ·have hlt:k < s.length:=by rw [hsm] at hlt; omega
   refine exE (canL_step hr k hlt) fun l' hl => exE hl fun t ht => ?_
   have hll:l = l':=by rw [hinv2] at ht; exact Option.some.inj ht.1
   have hlen:(l.map tyC).length = k:=by rw [List.length_map]; exact canL_len hinv2
   refine callO [1000] [1000] (h60 k t ht.2.1).1 rfl rfl rfl rfl rfl fun _ _ => ?_
   refine callO [3,9] [3,9] (h60 k t ht.2.1).2 rfl rfl rfl rfl rfl fun _ _ => ?_
   refine brn_p (fun h1 => brn_p (fun h2 => ?_) (fun h2 => ?_)) (fun h1 => ?_)
   ·have e:canE M k t = .mk 0 0 []:=if_pos ⟨h1,h2⟩
    refine app1' k rfl hlen (by decide) (by omega) ?_
    refine Fit.in64 (by omega) (by omega) ?_
    exact ⟨(k + 1,l ++ [.mk 0 0 []]),⟨hlt,by rw [ht.2.2,e,hll]⟩,⟨nextI,same_keys rfl,trivial⟩,⟨.inl ⟨_,rfl,.inl ⟨rfl,rfl⟩⟩,.inl ⟨_,rfl,.inl ⟨rfl,rfl⟩⟩,.inl ⟨_,rfl,.inl ⟨rowG (rowT (f:=.mk 0 0 [])),rfl⟩⟩,.inl ⟨_,rfl,.inl ⟨rfl,rfl⟩⟩,trivial⟩,nextM hlt⟩
   all_goals
    have e:canE M k t = rnT M t:=if_neg (fun q => by first | exact h2 q.2 | exact h1 q.1)
    refine app1' k rfl hlen (by decide) (by omega) ?_
    refine Fit.in64 (by omega) (by omega) ?_
    exact ⟨(k + 1,l ++ [rnT M t]),⟨hlt,by rw [ht.2.2,e,hll]⟩,⟨nextI,same_keys rfl,trivial⟩,⟨.inl ⟨_,rfl,.inl ⟨rfl,rfl⟩⟩,.inl ⟨_,rfl,.inl ⟨rfl,rfl⟩⟩,.inl ⟨_,rfl,.inl ⟨rowG (rowT (f:=rnT M t)),rfl⟩⟩,.inl ⟨_,rfl,.inl ⟨rfl,rfl⟩⟩,trivial⟩,nextM hlt⟩
  ·have hge:¬ k < s.length:=by rw [hsm] at hge; omega
   have hk2:k = s.length:=by omega
   have e:l = r:=by rw [hk2,hr] at hinv2; exact (Option.some.inj hinv2).symm
   exact retF [58] [1000] ⟨_,_,rfl,rfl,rfl,rfl,rowF (by rw [e])⟩
theorem t65 (s:List Ty) (n:Nat) (r:List Ty) (hn:s.length ≤ 2 ^ 30) (hs:∀ x ∈ s,TyB x) (h:canonF s n = some r):CallsT P 65 [.own 1000 0] (SF0 s) (Ret (SF0 s) (.sl (r.map tyC))):=by
 unfold canonF at h
 cases hm:leastF s n s.length [] with
 | none => simp only [hm] at h; cases h
 | some M =>
  simp only [hm] at h
  exact t65o s n M r hn hs hm h (fun t r q => t96_F s n t r q) fun i r q => ⟨t60 s hs n (vr i) r (vr_TyB i) q,t52C M r (apF_TyB hs n (vr i) r (vr_TyB i) q)⟩
def elemOk (n:Int) (t:Ty):Bool:=if t.kind = 0 then decide (t.id = 0) && decide (t.args.length = 0) else ins n t
def formL (s:List Ty) (n:Nat):Nat → Option (Option (Bool × DM × OM))
 | 0 => some (some (false,[],[]))
 | i + 1 => match formL s n i with
  | some (some (b,d,o)) => match deepF s n (vr i) d o with
   | some (some (k,d',o')) => some (some (b || decide (k > 8),d',o'))
   | some none => some none
   | none => none
  | some none => some none
  | none => none
def formR (s:List Ty) (n:Nat):Option (Option (DM × OM)) :=
 if s.all (elemOk s.length) then (match formL s n s.length with
  | some (some (b,d,o)) => if b then some none else some (some (d,o))
  | some none => some none
  | none => none) else some none
def RF (s:List Ty) (r:Option (DM × OM)):List TO → C → Prop:=fun Mo v => ∃ d o,r = some (d,o) ∧ Mo = SUd s d o ∧ v = .tup []
def PF (e:Int) (r:Option (DM × OM)):Value → Prop:=fun v => r = none ∧ ∃ e',(e' = 1 ∨ e' = e) ∧ v = failV e'
def Fm58 (s:List Ty) (e:Int) (r:Option (DM × OM)):Prop:=CallsTX P 58 [.own 1000 0,IC e] (SU0 s) (RF s r) (PF e r)
section
variable {L:TL} {ρ:TEnv}
theorem callFm (ks ko:List Nat) {PS:Pan} {args:List C} {K:TL → TEnv → C → Prop} {s:List Ty} {e:Int} {r:Option (DM × OM)} {Lin:List TO} (h:Fm58 s e r) (hs:L.sub ks = some Lin)
  (hc:(T.nodup? ks && T.nodup? ko && T.koOk L ks ko && boxesAt Lin ks ko && hbOk L ks PS.hb) = true) (ha:(args.map fun c => c.canA.ren (toIn ks 1000)) = [.own 1000 0,IC e]) (hl:Lin.map (TO.mapC (C.ren (toIn ks 1000))) = SU0 s) (hn:ko.length = 4) (hp:∀ v,PF e r v → PS.ps v)
  (k:∀ d o,r = some (d,o) → K (((L.dels ks).kills (rowsOf L ks)).puts ko ((SUd s d o).map (TO.mapC (C.ren (fromIn ko))))) (killsE (rowsOf L ks) ρ) (.tup [])):CallXT P PS 58 args L ρ K:=by
 simp only [Bool.and_eq_true] at hc
 obtain ⟨⟨⟨⟨c1,c2⟩,c3⟩,c4⟩,c5⟩:=hc
 refine ⟨[],ks,ko,L,Lin,_,_,.inl rfl,hs,c1,c2,c3,c4,c5,by rw [hl,ha]; exact h,hp,?_⟩
 rintro v Mo ⟨d,o,e1,rfl,rfl⟩ hw hwo
 exact ⟨hn,k d o e1⟩
end
abbrev tyB' (t:Ty):List C:=[IC t.kind,IC t.id,.sl (t.args.map tyC)]
abbrev LU (s:List Ty):List TO:=[.box 89 [.own 1001 0],.box 93 [.rw 1002,.any,.any],.row 32 3 (s.map tyC)]
def preU (s:List Ty) (a b:Ty):Bool:=ins s.length a && ins s.length b && !decide (max (dpt a) (dpt b) > 8)
def U1G (n:Nat) (s:List Ty) (a b:Ty) (s':List Ty):Prop :=
 (∃ d o,formR s n = some (some (d,o))) ∧ preU s a b = true ∧ eqF n s a b = some (some s') ∧ ∃ d o k d' o',formR s' n = some (some (d,o)) ∧ deepF s' n a d o = some (some (k,d',o')) ∧ k ≤ 8
def U1B (n:Nat) (s:List Ty) (a b:Ty) (e:Int):Prop :=
 (formR s n = some none ∧ e = 1) ∨ ((∃ d o,formR s n = some (some (d,o))) ∧ ((preU s a b = false ∧ e = 1) ∨ (preU s a b = true ∧ ((eqF n s a b = some none ∧ e = 8) ∨
  ∃ s',eqF n s a b = some (some s') ∧ (e = 1 ∨ e = 2) ∧ (formR s' n = some none ∨ ∃ d o,formR s' n = some (some (d,o)) ∧ (deepF s' n a d o = some none ∨ ∃ k d' o',deepF s' n a d o = some (some (k,d',o')) ∧ k > 8))))))
structure Fuel (n:Nat) (s:List Ty) (a b:Ty):Prop where
 form:∃ r,formR s n = some r
 eq:(∃ d o,formR s n = some (some (d,o))) → preU s a b = true → ∃ r,eqF n s a b = some r
 form':(∃ d o,formR s n = some (some (d,o))) → preU s a b = true → ∀ s',eqF n s a b = some (some s') → ∃ r,formR s' n = some r
 deep:(∃ d o,formR s n = some (some (d,o))) → preU s a b = true → ∀ s',eqF n s a b = some (some s') → ∀ d o,formR s' n = some (some (d,o)) → ∃ r,deepF s' n a d o = some r
def RU (n:Nat) (s:List Ty) (a b:Ty):List TO → C → Prop:=fun Mo v => ∃ s',U1G n s a b s' ∧ Mo = LU s' ∧ v = .tup []
def PU (n:Nat) (s:List Ty) (a b:Ty):Value → Prop:=fun v => ∃ e,U1B n s a b e ∧ v = failV e
abbrev Un62 (s:List Ty) (a b:Ty) (R:List TO → C → Prop) (Pp:Value → Prop):Prop:=CallsTX P 62 [.own 1000 0,.pt (tyB' a) 0,.pt (tyB' b) 0] (LU s) R Pp
theorem t62_bad (n:Nat) (s:List Ty) (a b:Ty) (h1:formR s n = some none) (hf:∀ s e r,formR s n = some r → Fm58 s e r):Un62 s a b (RU n s a b) (PU n s a b):=by
 refine callsTX_facts Try.func62 facts62 rfl fun hw _ => ?_
 refine callFm [1001,1002] [1001,1002,2003,2004] (hf s 1 none h1) rfl rfl rfl rfl rfl (fun v q => ?_) fun d o e => by cases e
 exact q.2.elim fun e' he => ⟨e',.inl ⟨h1,by omega⟩,he.2⟩
theorem t62_pre (n:Nat) (s:List Ty) (a b:Ty) (d:DM) (o:OM) (h1:formR s n = some (some (d,o))) (hf:∀ s e r,formR s n = some r → Fm58 s e r) (hp:preU s a b = false) (hda:dpt a ≤ 2 ^ 40) (hdb:dpt b ≤ 2 ^ 40):Un62 s a b (RU n s a b) (PU n s a b):=by
 have h47a:=t47 a hda
 have h47b:=t47 b hdb
 have h59:=fun D O t => t59_U s D O t
 have hbad:PU n s a b (failV 1):=⟨1,.inr ⟨⟨d,o,h1⟩,.inl ⟨hp,rfl⟩⟩,rfl⟩
 have hpp:preU s a b = (ins s.length a && ins s.length b && !decide (max (dpt a) (dpt b) > 8)):=rfl
 rw [hpp] at hp
 generalize PU n s a b = Q at hbad ⊢
 generalize RU n s a b = R
 have h58:=hf s 1 _ h1
 generalize dpt a = da at *
 generalize dpt b = db at *
 refine callsTX_facts Try.func62 facts62 rfl fun hw _ => ?_
 refine callFm [1001,1002] [1001,1002,2003,2004] h58 rfl rfl rfl rfl rfl (fun v q => by cases q.1) fun d o e => ?_
 refine callOD [1001,1002,2003,2004] [1001,1002,2003,2004] (h59 _ _ a) rfl rfl rfl rfl rfl fun _ _ => ?_
 refine brn_split (fun ha => ?_) (fun ha => ?_)
 ·exact panT rfl hbad
 refine callOD [1001,1002,2003,2004] [1001,1002,2003,2004] (h59 _ _ b) rfl rfl rfl rfl rfl fun _ _ => ?_
 refine brn_split (fun hb => ?_) (fun hb => ?_)
 ·exact panT rfl hbad
 refine callPD h47a rfl fun _ => ?_
 refine callPD h47b rfl fun _ => ?_
 refine ⟨?_,?_⟩
 ·exact mmW (a:=da) (b:=db) hda hdb
 refine brn_p (fun hgt => ?_) (fun hle => ?_)
 ·exact panT rfl hbad
 ·have hle:¬ (if (db:Int) > (da:Int) then (db:Int) else (da:Int)) > 8:=hle
  have ha:(!ins s.length a) = false:=ha
  have hb:(!ins s.length b) = false:=hb
  rw [Bool.not_eq_false'] at ha hb
  rw [ha,hb,Bool.true_and,Bool.true_and,Bool.not_eq_false',decide_eq_true_eq] at hp
  exact absurd hp (by split at hle <;> omega)
theorem t62_go (n:Nat) (s:List Ty) (a b:Ty) (d:DM) (o:OM) (h1:formR s n = some (some (d,o))) (hf:∀ s e r,formR s n = some r → Fm58 s e r) (hp:preU s a b = true) (hda:dpt a ≤ 2 ^ 40) (hdb:dpt b ≤ 2 ^ 40)
  (r:Option (List Ty)) (hr:eqF n s a b = some r) (h63:Eq63 s a b (RE r) (PE r)) (hf2:∀ s',r = some s' → ∃ r',formR s' n = some r' ∧ Fm58 s' 2 r') (hd2:∀ s',r = some s' → ∀ d o,formR s' n = some (some (d,o)) → ∃ r',deepF s' n a d o = some r' ∧ DpU s' a d o (RDU s' r') (PD r')):Un62 s a b (RU n s a b) (PU n s a b):=by
 have h47a:=t47 a hda
 have h47b:=t47 b hdb
 have h59:=fun D O t => t59_U s D O t
 have h0:∃ d o,formR s n = some (some (d,o)):=⟨d,o,h1⟩
 have hb8:r = none → PU n s a b (failV 8):=fun e => ⟨8,.inr ⟨h0,.inr ⟨hp,.inl ⟨by rw [hr,e],rfl⟩⟩⟩,rfl⟩
 have hbf:∀ s',r = some s' → formR s' n = some none → ∀ e,(e = 1 ∨ e = 2) → PU n s a b (failV e):=fun s' e hn k hk => ⟨k,.inr ⟨h0,.inr ⟨hp,.inr ⟨s',by rw [hr,e],hk,.inl hn⟩⟩⟩,rfl⟩
 have hbd:∀ s',r = some s' → ∀ d o,formR s' n = some (some (d,o)) → deepF s' n a d o = some none → PU n s a b (failV 1):=fun s' e d o hn hk => ⟨1,.inr ⟨h0,.inr ⟨hp,.inr ⟨s',by rw [hr,e],.inl rfl,.inr ⟨d,o,hn,.inl hk⟩⟩⟩⟩,rfl⟩
 have hbg:∀ s',r = some s' → ∀ d o,formR s' n = some (some (d,o)) → ∀ k d' o',deepF s' n a d o = some (some (k,d',o')) → k > 8 → PU n s a b (failV 2):=fun s' e d o hn k d' o' hk hk8 => ⟨2,.inr ⟨h0,.inr ⟨hp,.inr ⟨s',by rw [hr,e],.inr rfl,.inr ⟨d,o,hn,.inr ⟨k,d',o',hk,hk8⟩⟩⟩⟩⟩,rfl⟩
 have hok:∀ s',r = some s' → ∀ d o,formR s' n = some (some (d,o)) → ∀ k d' o',deepF s' n a d o = some (some (k,d',o')) → ¬ k > 8 → RU n s a b (LU s') (.tup []):=fun s' e d o hn k d' o' hk hk8 => ⟨s',⟨h0,hp,by rw [hr,e],d,o,k,d',o',hn,hk,by omega⟩,rfl,rfl⟩
 have hpp:preU s a b = (ins s.length a && ins s.length b && !decide (max (dpt a) (dpt b) > 8)):=rfl
 rw [hpp] at hp
 generalize PU n s a b = Q at hb8 hbf hbd hbg ⊢
 generalize RU n s a b = R at hok ⊢
 have h58:=hf s 1 _ h1
 generalize dpt a = da at *
 generalize dpt b = db at *
 simp only [Bool.and_eq_true,Bool.not_eq_true',decide_eq_false_iff_not] at hp
 refine callsTX_facts Try.func62 facts62 rfl fun hw _ => ?_
 refine callFm [1001,1002] [1001,1002,2003,2004] h58 rfl rfl rfl rfl rfl (fun v q => by cases q.1) fun d o e => ?_
 refine callOD [1001,1002,2003,2004] [1001,1002,2003,2004] (h59 _ _ a) rfl rfl rfl rfl rfl fun _ _ => ?_
 refine brn_split (fun ha => absurd (show (!ins s.length a) = true from ha) (by rw [hp.1.1]; exact Bool.false_ne_true)) (fun ha => ?_)
 refine callOD [1001,1002,2003,2004] [1001,1002,2003,2004] (h59 _ _ b) rfl rfl rfl rfl rfl fun _ _ => ?_
 refine brn_split (fun ha => absurd (show (!ins s.length b) = true from ha) (by rw [hp.1.2]; exact Bool.false_ne_true)) (fun hb => ?_)
 refine callPD h47a rfl fun _ => ?_
 refine callPD h47b rfl fun _ => ?_
 refine ⟨?_,?_⟩
 ·exact mmW (a:=da) (b:=db) hda hdb
 refine brn_p (fun hgt => ?_) (fun hle => ?_)
 ·have hgt:(if (db:Int) > (da:Int) then (db:Int) else (da:Int)) > 8:=hgt
  have h8:=hp.2
  exact absurd hgt (by split <;> omega)
 refine callE [1001,1002] h63 rfl rfl rfl rfl rfl (fun v q => ?_) fun s' e => ?_
 ·exact q.2 ▸ hb8 q.1
 refine exE (hf2 s' e) fun r' hr' => ?_
 refine callFm [1001,1002] [1001,1002,2005,2006] hr'.2 rfl rfl rfl rfl rfl (fun v q => ?_) fun d o e2 => ?_
 ·exact q.2.elim fun e' he => he.2 ▸ hbf s' e (by rw [hr'.1,q.1]) e' he.1
 have hn:formR s' n = some (some (d,o)):=by rw [hr'.1,e2]
 refine exE (hd2 s' e d o hn) fun rd hrd => ?_
 refine callDU [1001,1002,2005,2006] hrd.2 rfl rfl rfl rfl rfl (fun v q => ?_) fun k d' o' e3 _ => ?_
 ·exact q.2 ▸ hbd s' e d o hn (by rw [hrd.1,q.1])
 refine brn_p (fun hk => ?_) (fun hk => ?_)
 ·exact panT rfl (hbg s' e d o hn k d' o' (by rw [hrd.1,e3]) hk)
 ·exact retR [1000,1001,1002] rfl rfl rfl rfl (hok s' e d o hn k d' o' (by rw [hrd.1,e3]) hk)
theorem t62 (n:Nat) (s:List Ty) (a b:Ty) (F:Fuel n s a b) (hf:∀ s e r,formR s n = some r → Fm58 s e r) (hda:dpt a ≤ 2 ^ 40) (hdb:dpt b ≤ 2 ^ 40):Un62 s a b (RU n s a b) (PU n s a b):=by
 obtain ⟨r,h1⟩:=F.form
 cases r with
 | none => exact t62_bad n s a b h1 hf
 | some r =>
  obtain ⟨d,o⟩:=r
  have h0:∃ d o,formR s n = some (some (d,o)):=⟨d,o,h1⟩
  cases hp:preU s a b with
  | false => exact t62_pre n s a b d o h1 hf hp hda hdb
  | true =>
   obtain ⟨r,hr⟩:=F.eq h0 hp
   refine t62_go n s a b d o h1 hf hp hda hdb r hr (t63 n s a b r hr) (fun s' e => ?_) fun s' e d o hn => ?_
   ·obtain ⟨r',h⟩:=F.form' h0 hp s' (by rw [hr,e])
    exact ⟨r',h,hf s' 2 r' h⟩
   ·obtain ⟨r',h⟩:=F.deep h0 hp s' (by rw [hr,e]) d o hn
    exact ⟨r',h,t64_U s' n a d o r' h⟩
end Go.Fr.Try
