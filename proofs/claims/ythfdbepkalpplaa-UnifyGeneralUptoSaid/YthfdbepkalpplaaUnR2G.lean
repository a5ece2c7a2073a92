/- Part of the proofs of the statements of this seat. -/
import Derived.Test.YthfdbepkalpplaaUnM3G
set_option maxRecDepth 10000
set_option linter.unusedVariables false
set_option linter.unusedSimpArgs false
namespace Go.Fr.Try
open Go Go.RowKit Go.Proofs Go.Fr Go.Fr.T Go.Fr.Api
def zTy:Ty:=.mk 0 0 []
def outM (n:Nat) (m:TM):List Ty:=(List.range n).map fun (i:Nat) => (mget m (i:Int)).getD zTy
theorem relE_at {F:Frz}:∀ {m:TM} {cs:List Value} {j:Nat} {e:Value},RelE F (mcs tyA m) cs → cs[j]? = some e → ∃ k t v,m[j]? = some (k,t) ∧ e = .agg #[.int .i64 k,v] ∧ Rel F [] (tyA t) v ∧ (Lit.int .i64 k).wf = true
 | [],cs,j,e,h,hj => by
  simp only [mcs,List.map_nil,RelE] at h
  subst h; simp at hj
 | (k,t) :: m,cs,j,e,h,hj => by
  simp only [mcs,List.map_cons,RelE] at h
  obtain ⟨kv,v,vs',rfl,h1,h2,h3⟩:=h
  rw [Rel] at h1
  obtain ⟨rfl,hw⟩:=h1
  cases j with
  | zero =>
   rw [List.getElem?_cons_zero] at hj
   injection hj with hj
   exact ⟨k,t,v,rfl,hj.symm,h2,hw⟩
  | succ j =>
   rw [List.getElem?_cons_succ] at hj
   exact relE_at (m:=m) h3 hj
theorem relE_len {F:Frz}:∀ {m:TM} {cs:List Value},RelE F (mcs tyA m) cs → cs.length = m.length
 | [],cs,h => by simp only [mcs,List.map_nil,RelE] at h; subst h; rfl
 | (k,t) :: m,cs,h => by
  simp only [mcs,List.map_cons,RelE] at h
  obtain ⟨kv,v,vs',rfl,h1,h2,h3⟩:=h
  rw [List.length_cons,List.length_cons,relE_len (m:=m) h3]
theorem relE_map {F:Frz} {m:TM} {cs:List Value} (h:RelE F (mcs tyA m) cs):isMapCs cs = true:=by
 cases m with
 | nil => simp only [mcs,List.map_nil,RelE] at h; subst h; rfl
 | cons p m =>
  simp only [mcs,List.map_cons,RelE] at h
  obtain ⟨kv,v,vs',rfl,_⟩:=h
  rfl
abbrev RL (g8 g19 gi:Nat) (cs:List Value) (v:Value) (n:Nat) (seen:List Nat) (xs:List Value):Loc :=
 [(8,.box g8 101 [.map (some g19)]),(19,.box g19 0 cs),(27,.row v 32 3 n xs),(29,.box gi 0 (.tuple #[.map (some g19),.int .i64 cs.length] :: seen.map fun (j:Nat) => .int .i64 (j:Int)))]
def RInv (n:Nat) (m:TM) (seen:List Nat) (out:List Ty):Prop :=
 out.length = n ∧ seen.Nodup ∧ (∀ j ∈ seen,j < m.length) ∧ ∀ i < n,out[i]? = some (if ∃ j ∈ seen,(m[j]?).map (·.1) = some (i:Int) then (mget m i).getD zTy else zTy)
theorem nodup_le:∀ (N:Nat) (l:List Nat),l.Nodup → (∀ x ∈ l,x < N) → l.length ≤ N
 | 0,l,_,h => by
  cases l with
  | nil => exact Nat.le_refl _
  | cons x l => exact absurd (h x (by simp)) (Nat.not_lt_zero _)
 | N + 1,l,hn,h => by
  by_cases hN:N ∈ l
  ·have h1:=nodup_le N (l.erase N) (hn.erase N) fun x hx => by
    have hx':=(hn.mem_erase_iff).1 hx
    have:=h x hx'.2
    omega
   rw [List.length_erase_of_mem hN] at h1
   omega
  ·have:=nodup_le N l hn fun x hx => by
    have h1:=h x hx
    have:x ≠ N:=fun e => hN (e ▸ hx)
    omega
   omega
theorem seen_map (seen:List Nat):(seen.map fun (j:Nat) => Value.int .i64 (j:Int)).map seenOf = seen:=by
 rw [List.map_map]
 exact (List.map_congr_left fun j _ => (by show (j:Int).toNat = j; omega)).trans (List.map_id _)
theorem RInv.all {n:Nat} {m:TM} {seen:List Nat} {out:List Ty} (h:RInv n m seen out) (hk:KeysIn n m) (ha:∀ j < m.length,j ∈ seen):out = outM n m:=by
 obtain ⟨h1,h2,h3,h4⟩:=h
 refine lists_eq h1 (by simp [outM]) fun i hi => ?_
 rw [h4 i hi,outM,List.getElem?_map,List.getElem?_range hi]
 simp only [Option.map_some,Option.some.injEq]
 split
 ·rfl
 ·rename_i hno
  cases hg:mget m (i:Int) with
  | none => rfl
  | some x =>
   obtain ⟨j,hj,he⟩:=List.mem_iff_getElem.1 (mget_mem hg)
   exact absurd ⟨j,ha j hj,by rw [List.getElem?_eq_getElem hj,he]; rfl⟩ hno
theorem RInv.next {n:Nat} {m:TM} {seen:List Nat} {out:List Ty} {j:Nat} {k:Int} {t:Ty} (h:RInv n m seen out) (hk:KeysIn n m) (hj:m[j]? = some (k,t)) (hn:j ∉ seen):RInv n m (seen ++ [j]) (out.set k.toNat t):=by
 obtain ⟨h1,h2,h3,h4⟩:=h
 have hmem:=List.mem_of_getElem? hj
 have hkk:=hk.1 _ hmem
 have hg:=mget_of hk.2 hmem
 refine ⟨by rw [List.length_set]; exact h1,List.nodup_append.2 ⟨h2,by simp,fun a ha b hb => by rw [List.mem_singleton.1 hb]; exact fun e => hn (e ▸ ha)⟩,fun i hi => ?_,fun i hi => ?_⟩
 ·rcases List.mem_append.1 hi with hi | hi
  ·exact h3 i hi
  ·rw [List.mem_singleton.1 hi]; exact (List.getElem?_eq_some_iff.1 hj).1
 ·rw [List.getElem?_set]
  by_cases e:k.toNat = i
  ·have hki:k = (i:Int):=by omega
   rw [if_pos e,if_pos (by omega),if_pos ⟨j,by simp,by rw [hj,hki]; rfl⟩,← hki,hg]
   rfl
  ·rw [if_neg e,h4 i hi]
   have hiff:(∃ j' ∈ seen ++ [j],(m[j']?).map (·.1) = some (i:Int)) ↔ ∃ j' ∈ seen,(m[j']?).map (·.1) = some (i:Int):=by
    refine ⟨fun ⟨j',hj',hq⟩ => ?_,fun ⟨j',hj',hq⟩ => ⟨j',List.mem_append_left _ hj',hq⟩⟩
    rcases List.mem_append.1 hj' with hj' | hj'
    ·exact ⟨j',hj',hq⟩
    ·rw [List.mem_singleton.1 hj',hj] at hq
     injection hq with hq
     exact absurd (by have:k = (i:Int):=hq; omega) e
   by_cases hq:∃ j' ∈ seen,(m[j']?).map (·.1) = some (i:Int)
   ·rw [if_pos hq,if_pos (hiff.2 hq)]
   ·rw [if_neg hq,if_neg (fun q => hq (hiff.1 q))]
theorem range7 (F:Frz) (g8 g19:Nat) (cs:List Value) (v:Value) (n:Nat) (m:TM) (xs:List Value) (jk:Nat → Value) (ad:Option Addr) (c:Nat) (hv:v = .slice ad n c) (hm:RelE F (mcs tyA m) cs) (hk:KeysIn n m) (hx:RelRow F 3 ((List.replicate n zTy).map tyC) xs) (had:0 < n → ad ≠ none)
  (N:Kont) (hN:∀ F' gi seen xs' ρ',F.le F' → RelRow F' 3 ((outM n m).map tyC) xs' → ρ' 10 = .v v → N F' (RL g8 g19 gi cs v n seen xs') ρ') :
  evalC P y7 (fun _ _ _ _ => False) (fun _ _ _ => False) N F [(8,.box g8 101 [.map (some g19)]),(19,.box g19 0 cs),(27,.row v 32 3 n xs)] (Fr.put (some 8) (.own 8 0) (Fr.put (some 10) (.v v) fun j => .v (jk j))):=by
 refine MapPt.mk ⟨19,cs,rfl,relE_map hm,?_⟩
 intro gi
 refine LoopPt.mk ⟨List Nat × List Value,([],xs),fun x F' => F.le F' ∧ ∃ out,RelRow F' 3 (out.map tyC) x.2 ∧ RInv n m x.1 out,[],fun _ => [],fun x => RL g8 g19 gi cs v n x.1 x.2,fun x => m.length - x.1.length,?_,trivial,?_,fun x => ?_,?_⟩
 ·refine ⟨Frz.le_refl F,List.replicate n zTy,hx,List.length_replicate,List.nodup_nil,(fun j h => by cases h),fun i hi => ?_⟩
  rw [if_neg (fun ⟨j,hj,_⟩ => by cases hj),List.getElem?_replicate,if_pos hi]
 ·exact ⟨.inl rfl,.inl rfl,.inl rfl,.inl rfl,trivial⟩
 ·exact ⟨⟨_,rfl⟩,⟨_,rfl⟩,⟨_,rfl⟩,trivial⟩
 rintro ⟨seen,xs⟩ F' jk' hle ⟨hle',out,hr,hi1,hi2,hi3,hi4⟩
 refine NextPt.mk ⟨19,cs,rfl,relE_map hm,rfl,fun j en hj hns => ?_,fun hall => ?_⟩
 ·obtain ⟨k,t,v',e1,rfl,e3,e4⟩:=relE_at hm hj
  have hkk:=hk.1 _ (List.mem_of_getElem? e1)
  simp only [Rels,Rel] at e3
  obtain ⟨w3,rfl,w1,_,rfl,⟨rfl,hw1⟩,w2,_,rfl,⟨rfl,hw2⟩,w3,_,rfl,⟨a3,c3,rfl,hs1,hs2,hs3,hs4⟩,rfl⟩:=e3
  rw [seen_map] at hns
  refine EntryPt.mk ⟨19,cs,j,_,rfl,relE_map hm,rfl,List.getLast?_concat,hj,?_⟩
  intro g12
  subst hv
  have hn0:0 < n:=by omega
  obtain ⟨a0,ha0⟩:=Option.ne_none_iff_exists'.1 (had hn0)
  have hxl:xs.length = n * 3:=by
   have:=RelRow_len hr
   rwa [List.length_map,hi1] at this
  refine IdxPt.mk (had hn0) hkk.1 hkk.2 ?_
  refine StorePt.mk ⟨27,_,_,_,_,_,a0,c,rfl,ha0,by rw [ha0],?_,?_,?_⟩
  ·show k.toNat * 3 + 0 + 3 ≤ xs.length
   rw [hxl]; omega
  ·intro u hu
   rcases List.mem_cons.1 hu with rfl | hu
   ·rfl
   rcases List.mem_cons.1 hu with rfl | hu
   ·rfl
   rcases List.mem_cons.1 hu with rfl | hu
   ·rfl
   cases hu
  ·refine ⟨(seen ++ [j],splice xs (k.toNat * 3 + 0) [.int .i64 t.kind,.int .i64 t.id,.slice a3 (t.args.map tyC).length c3]),⟨hle',out.set k.toNat t,?_,RInv.next ⟨hi1,hi2,hi3,hi4⟩ hk e1 hns⟩,trivial,⟨.inl rfl,.inl rfl,.inl rfl,.inl ?_,trivial⟩,?_⟩
   ·obtain ⟨o,ho⟩:=get_of (l:=out) (k:=k.toNat) (by omega)
    have hset:=hr.set (j:=k.toNat) (es:=tyC o) (ds:=[IC t.kind,IC t.id,.sl (t.args.map tyC)]) (us:=[.int .i64 t.kind,.int .i64 t.id,.slice a3 (t.args.map tyC).length c3]) (off:=0) (by rw [List.getElem?_map,ho]; rfl) (by simp) (by
     simp only [Rels,Rel]
     refine ⟨_,_,rfl,⟨rfl,hw1⟩,_,_,rfl,⟨rfl,hw2⟩,_,_,rfl,⟨a3,c3,rfl,hs1,hs2,hs3,?_⟩,rfl⟩
     obtain ⟨sz,hs4⟩:=hs4
     exact ⟨sz,RelS.mono hle' hs4⟩) rfl
    have e:spliceC (tyC o) 0 [IC t.kind,IC t.id,.sl (t.args.map tyC)] = tyC t:=by
     rw [tyC_eq o,tyC_eq t]; rfl
    rw [e,← List.map_set] at hset
    exact hset
   ·rw [List.map_append]; rfl
   ·show m.length - (seen ++ [j]).length < m.length - seen.length
    have h1:=(List.getElem?_eq_some_iff.1 e1).1
    have hnx:=RInv.next ⟨hi1,hi2,hi3,hi4⟩ hk e1 hns
    have h2:(seen ++ [j]).length ≤ m.length:=nodup_le _ _ hnx.2.1 hnx.2.2.1
    rw [List.length_append] at h2 ⊢
    simp only [List.length_cons,List.length_nil] at h2 ⊢
    omega
 ·have ha:∀ j < m.length,j ∈ seen:=fun j hj => by
   have:=hall j (by rw [relE_len hm]; exact hj)
   rwa [seen_map] at this
  have e:=RInv.all ⟨hi1,hi2,hi3,hi4⟩ hk ha
  rw [e] at hr
  exact hN F' gi seen xs _ hle' hr rfl
def MQ (nn:Nat) (G:Nat → Option (Nat × TypeId)) (F0:Frz) (Li:List Own) (w0:World) (K:TK) (a:Act) (w:World):Prop :=
 ∃ F L ρ M τ,St F L w ∧ EnvOk L ρ a ∧ TS G F L ρ M τ ∧ a.tmps.size = nn ∧ Step F0 (inp Li) w0 F L w ∧ K M τ
section
variable {G:Nat → Option (Nat × TypeId)} {F0:Frz} {Li:List Own} {w0:World}
theorem MQ.seq {A:Ann} {c rest:Code} {sc sc2:SCode} (hl:low Try.prog A c = some sc) (hfz:frzKeys sc = []) {N K:TK} {a:Act} {w:World} (h:MQ A.n G F0 Li w0 K a w)
  (hK:∀ M τ,K M τ → evalTC P ⟨fun _ => False,[]⟩ (.seq sc sc2) (fun _ _ _ => False) (fun _ _ => False) N M τ) {Q:Exit → Act → World → Prop}
  (hN:∀ a' w',a'.defers = a.defers → MQ A.n G F0 Li w0 (fun M τ => evalTC P ⟨fun _ => False,[]⟩ sc2 (fun _ _ _ => False) (fun _ _ => False) N M τ) a' w' → rest.wp P Q a' w'):(c.seq rest).wp P Q a w:=by
 obtain ⟨F,L,ρ,M,τ,g1,g2,g3,g4,g5,hk⟩:=h
 refine wp_seq (wp_mono (evalTC_sound c hl (fun k hk => by rw [hfz] at hk; cases hk) g1 g2 g3 g4 (hK M τ hk)) ?_)
 intro e a' w' hq
 cases e with
 | normal =>
  obtain ⟨F',L',ρ',k1,k2,k3,k4,k5,k6,M',τ',k7,k8⟩:=hq
  exact hN a' w' k4 ⟨F',L',ρ',M',τ',k1,k2,k7,k3,g5.trans k5,k8⟩
 | exit j => obtain ⟨F',L',ρ',_,_,_,_,_,_,M',τ',_,h⟩:=hq; exact h.elim
 | ret => obtain ⟨F',L',ρ',_,_,_,_,_,_,M',τ',_,h⟩:=hq; exact h.elim
 | goto l => exact hq.elim
 | panic ch => obtain ⟨v,hch,F',L',k1,k2,k3,k4,k5,kp,hp,_⟩:=hq; exact hp.elim
 | outgrown => exact hq.elim
theorem MQ.one {A:Ann} {c rest:Code} {sc:SCode} (hl:low Try.prog A c = some sc) (hfz:frzKeys sc = []) {N K:TK} {a:Act} {w:World} (h:MQ A.n G F0 Li w0 K a w)
  (hK:∀ M τ,K M τ → evalTC P ⟨fun _ => False,[]⟩ sc (fun _ _ _ => False) (fun _ _ => False) N M τ) {Q:Exit → Act → World → Prop}
  (hN:∀ a' w',a'.defers = a.defers → MQ A.n G F0 Li w0 N a' w' → rest.wp P Q a' w'):(c.seq rest).wp P Q a w :=
 MQ.seq (sc2:=.skip) hl hfz h (fun M τ q => hK M τ q) fun a' w' hd hm => hN a' w' hd hm
theorem Step.cut {F F':Frz} {L L' L2:Loc} {w w':World} (h:Step F L w F' L' w') (hp:L'.part L2):Step F L w F' L2 w' :=
 ⟨h.le,h.os,h.tape,h.output,h.size,h.same,h.frz,fun b ⟨k,o,e,hb⟩ => h.own b ⟨k,o,hp k o e,hb⟩⟩
theorem part_of {L L2:Loc} (h:∀ p ∈ L2,L.get p.1 = some p.2):L.part L2:=by
 intro k o e
 induction L2 with
 | nil => cases e
 | cons p L2 ih =>
  obtain ⟨j,q⟩:=p
  simp only [Loc.get] at e
  cases hb:Nat.beq j k with
  | true =>
   rw [hb] at e
   injection e with e
   have:=h (j,q) (by simp)
   rw [← e,← Nat.eq_of_beq_eq_true hb]
   exact this
  | false =>
   rw [hb] at e
   exact ih (fun p hp => h p (by simp [hp])) e
theorem m7_wp (hG:∀ k,G k = none) {n:Nat} {m:TM} {K:TK} {a:Act} {w:World} (hk:KeysIn n m) (h:MQ 40 G F0 Li w0 K a w) (hK:∀ M τ,K M τ → M = ML n m (List.replicate n (.mk 0 0 [])) ∧ τ 8 = .own 8 0 ∧ τ 10 = .rw 27) {Q:Exit → Act → World → Prop}
  (hN:∀ a' w',a'.defers = a.defers → MQ 40 G F0 Li w0 (fun M τ => M = [(27,.row 32 3 ((outM n m).map tyC))] ∧ τ = tput (some 10) (.rw 27) fun _ => .any) a' w' → Q .normal a' w'):m7.wp P Q a w:=by
 obtain ⟨F,L,ρ,M,τ,g1,g2,g3,g4,g5,hk0⟩:=h
 obtain ⟨rfl,h8,h10⟩:=hK M τ hk0
 have q8:=g3.tl 8
 have q19:=g3.tl 19
 have q27:=g3.tl 27
 have q8:RelK F L (some (.box 101 [.mpr 19])) (L.get 8):=q8
 have q19:RelK F L (some (.map (mcs tyA m))) (L.get 19):=q19
 have q27:RelK F L (some (.row 32 3 ((List.replicate n (Ty.mk 0 0 [])).map tyC))) (L.get 27):=q27
 have s8:=g3.env 8
 have s10:=g3.env 10
 rw [h8] at s8
 rw [h10] at s10
 cases e8:L.get 8 with
 | none => rw [e8] at q8; exact q8.elim
 | some o8 =>
 cases e19:L.get 19 with
 | none => rw [e19] at q19; exact q19.elim
 | some o19 =>
 cases e27:L.get 27 with
 | none => rw [e27] at q27; exact q27.elim
 | some o27 =>
 rw [e8] at q8
 rw [e19] at q19
 rw [e27] at q27
 cases o8 with
 | row => exact q8.elim
 | box g8 t8 c8 =>
 cases o19 with
 | row => exact q19.elim
 | box g19 t19 cs =>
 cases o27 with
 | box => exact q27.elim
 | row v t27 z27 n27 xs =>
 obtain ⟨hty,hcs⟩:=q8
 obtain ⟨rfl,hE⟩:=q19
 obtain ⟨rfl,rfl,hn27,⟨hmx,av,cv,hv,hav⟩,hrow⟩:=q27
 have hn27:n27 = n:=by rw [hn27,List.length_map,List.length_replicate]
 subst hn27
 simp only [Rels,Rel] at hcs
 obtain ⟨w0,_,rfl,⟨gm,cm,e19',rfl⟩,rfl⟩:=hcs
 rw [e19] at e19'
 injection e19' with e19'
 injection e19' with i1 _ i2
 subst i1 i2
 have ht8:t8 = 101:=by
  rcases hty.2.1 with q | q
  ·exact q.symm
  ·have q':(101:Nat) = (g8 + 1) * 1048576 + (t8:Nat):=q
   omega
 subst ht8
 have hρ8:ρ 8 = .own 8 0:=s8.1
 have hρ10:ρ 10 = .v v:=by
  obtain ⟨u,q1,q2⟩:=s10
  rw [q1]
  rw [Rel] at q2
  obtain ⟨_,_,_,_,_,_,_,q3⟩:=q2
  rw [e27] at q3
  injection q3 with q3
  injection q3 with q3
  rw [q3]
 have hpart:L.part [(8,.box g8 101 [.map (some g19)]),(19,.box g19 0 cs),(27,.row v 32 3 n27 xs)]:=part_of fun p hp => by
  rcases List.mem_cons.1 hp with rfl | hp
  ·exact e8
  rcases List.mem_cons.1 hp with rfl | hp
  ·exact e19
  rcases List.mem_cons.1 hp with rfl | hp
  ·exact e27
  cases hp
 have st0:=g1.part hpart
 have a8:a.tmps.getD 8 undef = .pointer (some ⟨g8,0,none⟩):=by rw [g2.eq 8,hρ8]; simp only [conc,e8]
 have a10:a.tmps.getD 10 undef = v:=by rw [g2.eq 10,hρ10]; rfl
 have env0:EnvOk [(8,.box g8 101 [.map (some g19)]),(19,.box g19 0 cs),(27,.row v 32 3 n27 xs)] (Fr.put (some 8) (.own 8 0) (Fr.put (some 10) (.v v) fun j => .v (a.tmps.getD j undef))) a:=by
  refine ⟨fun t => ?_,fun t k off e => ?_,fun t ad j e => ?_⟩
  ·by_cases h1:t = 8
   ·subst h1; exact a8
   by_cases h2:t = 10
   ·subst h2; exact a10
   have b1:Nat.beq t 8 = false:=beqF h1
   have b2:Nat.beq t 10 = false:=beqF h2
   simp only [Fr.put,b1,b2,conc]
  ·by_cases h1:t = 8
   ·subst h1
    have e:SV.own 8 0 = SV.own k off:=e
    injection e with e1 e2
    subst e1
    exact ⟨_,_,_,rfl⟩
   ·have b1:Nat.beq t 8 = false:=beqF h1
    simp only [Fr.put,b1] at e
    split at e <;> cases e
  ·by_cases h1:t = 8
   ·subst h1; cases e
   ·have b1:Nat.beq t 8 = false:=beqF h1
    simp only [Fr.put,b1] at e
    split at e <;> cases e
 refine wp_mono (evalC_sound m7 lowm7 st0 env0 g4 (range7 F g8 g19 cs v n27 m xs _ av cv hv hE hk hrow (fun h0 e => by have:=hav e; omega) (fun F' L' ρ' => ∃ gi seen xs',L' = RL g8 g19 gi cs v n27 seen xs' ∧ RelRow F' 3 ((outM n27 m).map tyC) xs' ∧ ρ' 10 = .v v) (fun F' gi seen xs' ρ' _ hx h10 => ⟨gi,seen,xs',rfl,hx,h10⟩))) ?_
 intro e a' w' hq
 cases e with
 | normal =>
  obtain ⟨F',L',ρ',k1,k2,k3,k4,k5,k6,gi,seen,xs',rfl,hx,hr10⟩:=hq
  have hpart':(RL g8 g19 gi cs v n27 seen xs').part [(27,.row v 32 3 n27 xs')]:=part_of fun p hp => by
   rcases List.mem_cons.1 hp with rfl | hp
   ·rfl
   cases hp
  have hlen:n27 = ((outM n27 m).map tyC).length:=by simp [outM]
  have a10':a'.tmps.getD 10 undef = v:=by rw [k2.eq 10,hr10]; rfl
  refine hN a' w' k4 ⟨F',[(27,.row v 32 3 n27 xs')],fun j => .v (a'.tmps.getD j undef),_,_,k1.part hpart',⟨fun t => rfl,(fun t k off e => by cases e),(fun t ad j e => by cases e)⟩,⟨fun k => ?_,fun j => ?_,(fun k g t e => by rw [hG k] at e; cases e),k1.glob⟩,k3,?_,rfl,rfl⟩
  ·by_cases hkk:k = 27
   ·subst hkk; exact ⟨rfl,rfl,hlen,⟨hmx,av,cv,hv,hav⟩,hx⟩
   ·have b:Nat.beq 27 k = false:=beqF fun e => hkk e.symm
    simp only [TL.get,Loc.get,b]
    trivial
  ·by_cases hj:j = 10
   ·subst hj
    show RelV F' _ (.rw 27) (.v (a'.tmps.getD 10 undef))
    rw [a10',hv]
    exact relV_rw (by rw [← hv]; rfl)
   ·have b:Nat.beq j 10 = false:=beqF hj
    simp only [tput,b]
    trivial
  ·exact Step.cut ((Step.cut g5 hpart).trans k5) hpart'
 | exit j => obtain ⟨F',L',ρ',_,_,_,_,_,_,h⟩:=hq; exact h.elim
 | ret => obtain ⟨F',L',ρ',_,_,_,_,_,_,h⟩:=hq; exact h.elim
 | goto l => exact hq.elim
 | panic ch => obtain ⟨v,hch,F',L',_,_,_,_,_,hp⟩:=hq; exact hp.elim
 | outgrown => exact hq.elim
end
theorem low8r:low Try.prog A24 (m8.seq .ret) = some (.seq y8 .ret):=by kernel_rfl
theorem mend (n:Nat) (m:TM) (R:List TO → C → Prop) (h:R [] (.tup [.sl ((outM n m).map tyC),.bool true])) :
  evalTC P ⟨fun _ => False,[]⟩ (.seq y8 .ret) (fun _ _ _ => False) (fun L ρ => retT L ρ [(6,none),(7,none)] fun vs => RetT [] L (resT vs) R) (fun _ _ => False) [(27,.row 32 3 ((outM n m).map tyC))] (tput (some 10) (.rw 27) fun _ => .any):=by
 have hr:RetT [] [(27,.row 32 3 ((outM n m).map tyC))] (.tup [.rw 27,.bool true]) (Ret [] (.tup [.sl ((outM n m).map tyC),.bool true])):=retF [27] [] ⟨_,[],rfl,rfl,rfl,rfl,rfl⟩
 obtain ⟨fz,ko,hr⟩:=hr.out
 refine RetT.mk ⟨fz,ko,callF.frzK_imp hr ?_⟩
 rintro L ρ vs ⟨L1,c,c1,Mo,h1,h2,h3,h4,h5,h6⟩
 exact ⟨L1,c,c1,Mo,h1,h2,h3,h4,h5,fun hw => by rw [(h6 hw).1,(h6 hw).2]; exact h⟩
theorem t24ok (p t:Ty) (n:Nat) (hn:n ≤ 4) (m:TM) (hm:fitM n p t [] = (m,true)):CallsT P 24 [tyA p,tyA t,IC n] [] (Ret [] (.tup [.sl ((outM n m).map tyC),.bool true])):=by
 have hk:KeysIn n m:=by
  have:=fit_keys n p t [] ⟨by simp,by simp⟩
  rwa [hm] at this
 refine CallsTX.noPan ⟨fun F Li vs hl htl ha => ⟨⟨Try.f24,Try.func24,by rw [mBody_eq]; rfl,by kernel_rfl⟩,ResA.mono',fun w hs => ?_⟩⟩
 have hLi:Li = []:=List.length_eq_zero_iff.1 hl
 subst hLi
 have hnt:Try.f24.ntmps = 40:=by kernel_rfl
 have hvl:vs.length = 3:=by have:=ha.len; simpa using this
 obtain ⟨G0,ρ0,he,ht,_⟩:=enterT (40 - vs.toArray.size) hl htl ha hs
 let G:Nat → Option (Nat × TypeId):=fun _ => none
 refine calls_of_wp Try.func24 mBody_eq ?_
 rw [hnt]
 have M0:MQ A24.n G F [] w (fun M τ => M = [] ∧ τ = argT 0 [tyA p,tyA t,IC n]) { tmps:=vs.toArray ++ Array.replicate (40 - vs.toArray.size) undef,defers:=[] } w :=
  ⟨F,inp [],ρ0,_,_,hs,he,⟨ht.tl,ht.env,(fun k g t e => by cases e),ht.glob⟩,by simp [hvl,A24],Step.refl _ _ _,rfl,rfl⟩
 generalize ha0:({ tmps:=vs.toArray ++ Array.replicate (40 - vs.toArray.size) undef,defers:=[] }:Act) = a0 at M0
 have hd0:a0.defers = []:=by rw [← ha0]
 have hpre:=mpre p t n hn m hm
 refine MQ.seq lowm0 rfl M0 (sc2:=.seq y1 (.seq y2 (.seq y3 (.seq y4 (.seq y5 y6))))) (fun M τ q => by rw [q.1,q.2]; exact hpre) fun a1 w1 hd1 M1 => ?_
 refine MQ.seq lowm1 rfl M1 (sc2:=.seq y2 (.seq y3 (.seq y4 (.seq y5 y6)))) (fun M τ q => q) fun a2 w2 hd2 M2 => ?_
 refine MQ.seq lowm2 rfl M2 (sc2:=.seq y3 (.seq y4 (.seq y5 y6))) (fun M τ q => q) fun a3 w3 hd3 M3 => ?_
 refine MQ.seq lowm3 rfl M3 (sc2:=.seq y4 (.seq y5 y6)) (fun M τ q => q) fun a4 w4 hd4 M4 => ?_
 refine MQ.seq lowm4 rfl M4 (sc2:=.seq y5 y6) (fun M τ q => q) fun a5 w5 hd5 M5 => ?_
 refine MQ.seq lowm5 rfl M5 (sc2:=y6) (fun M τ q => q) fun a6 w6 hd6 M6 => ?_
 refine MQ.one lowm6 rfl M6 (fun M τ q => q) fun a7 w7 hd7 M7 => ?_
 have hd7:a7.defers = []:=by rw [hd7,hd6,hd5,hd4,hd3,hd2,hd1,hd0]
 refine wp_seq (m7_wp (fun _ => rfl) hk M7 (fun M τ q => q) fun a8 w8 hd8 M8 => ?_)
 obtain ⟨F8,L8,ρ8,M,τ,g1,g2,g3,g4,g5,rfl,rfl⟩:=M8
 show (m8.seq .ret).wp P _ a8 w8
 refine wp_mono (evalTC_sound (m8.seq .ret) low8r (fun k _ hne => absurd rfl hne) g1 g2 g3 g4 (mend n m (Ret [] (.tup [.sl ((outM n m).map tyC),.bool true])) ⟨rfl,rfl⟩)) ?_
 intro e a' w' hq
 cases e with
 | normal => obtain ⟨F',L',ρ',_,_,_,_,_,_,M',τ',_,h⟩:=hq; exact h.elim
 | exit j => obtain ⟨F',L',ρ',_,_,_,_,_,_,M',τ',_,h⟩:=hq; exact h.elim
 | ret =>
  obtain ⟨F',L',ρ',k1,k2,k3,k4,k5,k6,M',τ',k7,k8⟩:=hq
  have hf:=fin_T (P:=P) (fn:=Try.f24) (rs:=[(6,none),(7,none)]) (n:=40) (asg:=[]) (a0:=a') (a':=a') (w':=w') (Li:=[]) (Lin:=[]) (w:=w) (F:=F) (G:=G) (R:=Ret [] (.tup [.sl ((outM n m).map tyC),.bool true])) (by kernel_rfl) rfl htl (fun k g t cs e => by cases e)
   ⟨F',L',ρ',k1,k2,k3,rfl,g5.trans k5,fun _ _ => rfl,M',τ',k7,k8⟩
  obtain ⟨_,v,q2,F2,Lo,q3,q4,q5⟩:=hf
  exact ⟨by rw [k4,hd8,hd7],v,q2,.inl ⟨v,F2,Lo,rfl,q3,q4,q5⟩⟩
 | goto l => exact hq.elim
 | panic ch => obtain ⟨v,hch,F',L',k1,k2,k3,k4,k5,kp,hp,_⟩:=hq; exact hp.elim
 | outgrown => exact hq.elim
theorem CallsT.imp {P:Program} {f:Nat} {args:List C} {Lin:List TO} {R R':List TO → C → Prop} (h:CallsT P f args Lin R) (hk:∀ Mo c,R Mo c → R' Mo c):CallsT P f args Lin R' :=
 CallsTX.noPan (CallsTX.imp (Pp:=fun _ => False) h.toX hk fun v q => q)
mutual
def cnt:Ty → Nat
 | .mk _ _ l => cntL l + 1
def cntL:List Ty → Nat
 | [] => 0
 | t :: l => cnt t + cntL l
end
theorem cnt_eq (t:Ty):cnt t = cntL t.args + 1:=by cases t; rfl
theorem fewL_ge:∀ (l:List Ty) (m n:Int),0 ≤ m → n ≤ fewL l m n
 | [],m,n,_ => by rw [fewL]; exact Int.le_refl _
 | x :: l,m,n,h0 => by
  rw [fewL]
  split
  ·rename_i h
   have:=(few_bd x (m - n) (by omega)).1
   have:=fewL_ge l m (n + few x (m - n)) h0
   omega
  ·exact Int.le_refl _
mutual
theorem few_cnt:∀ (t:Ty) (m:Int),0 ≤ m → few t m ≤ m → (cnt t:Int) = few t m
 | .mk _ _ l,m,h0,h => by
  rw [few] at h ⊢
  rw [cnt,← fewL_cnt l m 1 h0 h]
  omega
theorem fewL_cnt:∀ (l:List Ty) (m n:Int),0 ≤ m → fewL l m n ≤ m → n + (cntL l:Int) = fewL l m n
 | [],m,n,_,_ => by rw [fewL,cntL]; omega
 | x :: l,m,n,h0,h => by
  rw [fewL] at h ⊢
  split at h
  ·rename_i hn
   rw [if_pos hn]
   have hge:=fewL_ge l m (n + few x (m - n)) h0
   have h1:=few_cnt x (m - n) (by omega) (by omega)
   have h2:=fewL_cnt l m (n + few x (m - n)) h0 h
   rw [cntL]
   omega
  ·omega
end
theorem cnt_mem:∀ {l:List Ty} {x:Ty},x ∈ l → cnt x ≤ cntL l
 | t :: l,x,h => by
  rw [cntL]
  rcases List.mem_cons.1 h with rfl | h
  ·omega
  ·have:=cnt_mem h; omega
theorem cntL_len:∀ l:List Ty,l.length ≤ cntL l
 | [] => Nat.le_refl _
 | t :: l => by have:=cntL_len l; have:=cnt_eq t; rw [cntL,List.length_cons]; omega
theorem cnt_TyB:∀ t:Ty,cnt t ≤ 2 ^ 30 → TyB t:=tyInd fun t ih h => by
 rw [cnt_eq] at h
 rw [tyB_eq]
 exact ⟨by have:=cntL_len t.args; omega,fun x hx => ih x hx (by have:=cnt_mem hx; omega)⟩
theorem cnt_dpt:∀ t:Ty,dpt t ≤ cnt t:=tyInd fun t ih => by
 rw [cnt_eq,dpt_eq]
 have:dpts t.args ≤ cntL t.args:=dpts_le fun x hx => Nat.le_trans (ih x hx) (cnt_mem hx)
 omega
theorem small_all {l:List Ty} (h:smallL l = true):l.length ≤ 8 ∧ ∀ x ∈ l,TyB x ∧ dpt x ≤ 30:=by
 unfold smallL at h
 rw [Bool.and_eq_true,List.all_eq_true,decide_eq_true_eq] at h
 refine ⟨by omega,fun x hx => ?_⟩
 have h1:=of_decide_eq_true (h.1 x hx)
 have h2:=few_cnt x 30 (by omega) h1
 exact ⟨cnt_TyB x (by omega),by have:=cnt_dpt x; omega⟩
theorem small_two {a b:Ty} (h:smallL [a,b] = true):(TyB a ∧ dpt a ≤ 30) ∧ TyB b ∧ dpt b ≤ 30:=⟨(small_all h).2 a (by simp),(small_all h).2 b (by simp)⟩
theorem t24no (p t:Ty) (n:Nat) (hn:n ≤ 4) (m:TM) (hm:fitM n p t [] = (m,false)):CallsT P 24 [tyA p,tyA t,IC n] [] (Ret [] (.tup [.sl [],.bool false])):=by
 have h66:=t66 n p t []
 rw [hm] at h66
 refine callsT_facts Try.func24 facts24 rfl fun hw _ => ?_
 refine brn_p (fun h => absurd h (by omega)) (fun _ => ?_)
 refine callO [9,8,19] [9,8,19] h66 rfl rfl rfl rfl rfl fun _ _ => ?_
 exact retP rfl rfl
def matchR (n:Nat) (p t:Ty):List Ty × Bool:=if (fitM n p t []).2 then (outM n (fitM n p t []).1,true) else ([],false)
theorem t24 (p t:Ty) (n:Nat) (hn:n ≤ 4):CallsT P 24 [tyA p,tyA t,IC n] [] (Ret [] (.tup [.sl ((matchR n p t).1.map tyC),.bool (matchR n p t).2])):=by
 unfold matchR
 cases h:fitM n p t [] with
 | mk m b =>
  cases b with
  | true => exact t24ok p t n hn m h
  | false => exact t24no p t n hn m h
theorem U1B.no {n:Nat} {s:List Ty} {a b:Ty} {e:Int} (h1:∃ d o,formR s n = some (some (d,o))) (hp:preU s a b = true) (h2:eqF n s a b = some none) (h:U1B n s a b e):e = 8:=by
 obtain ⟨d,o,h1⟩:=h1
 rcases h with ⟨q,_⟩ | ⟨_,⟨q,_⟩ | ⟨_,⟨_,q⟩ | ⟨s',q,_⟩⟩⟩
 ·rw [h1] at q; cases q
 ·rw [hp] at q; cases q
 ·exact q
 ·rw [h2] at q; cases q
theorem eqF_TyB:∀ (n:Nat) (s:List Ty) (a b:Ty) (s':List Ty),(∀ x ∈ s,TyB x) → TyB a → TyB b → eqF n s a b = some (some s') → ∀ x ∈ s',TyB x:=by
 intro n
 induction n with
 | zero => intro s a b s' _ _ _ h; cases h
 | succ n ih =>
  intro s a b s' hs ha hb h
  have hfr:∀ {t r:Ty},frontF s n t = some r → TyB t → TyB r:=fun hf ht => front_inv (p:=TyB) (fun t x _ _ he _ => hs x (elem_mem he)) hf ht
  have hset:∀ {i:Nat} {b:Ty},TyB b → ∀ x ∈ s.set i b,TyB x:=fun hb x hx => by
   rcases List.mem_or_eq_of_mem_set hx with hx | rfl
   ·exact hs x hx
   ·exact hb
  cases fa:frontF s n a with
  | none => rw [eqF,fa] at h; cases h
  | some a' =>
  cases fb:frontF s n b with
  | none => rw [eqF,fa,fb] at h; cases h
  | some b' =>
  rw [eqF_at fa fb] at h
  have ha':=hfr fa ha
  have hb':=hfr fb hb
  split at h
  ·split at h
   ·injection h with h; injection h with h; exact h ▸ hs
   ·injection h with h; injection h with h; rw [← h]
    exact hset ((tyB_eq _).2 ⟨Nat.zero_le _,fun x h => by cases h⟩)
  ·split at h
   ·cases ho:occF s a'.id n b' with
    | none => rw [ho] at h; cases h
    | some o =>
     rw [ho] at h
     cases o with
     | true => cases h
     | false => injection h with h; injection h with h; rw [← h]; exact hset hb'
   ·split at h
    ·exact ih s b' a' s' hs hb' ha' h
    ·split at h
     ·cases h
     ·have hL:∀ (l l':List Ty) (s:List Ty),(∀ x ∈ l,TyB x) → (∀ x ∈ l',TyB x) → (∀ x ∈ s,TyB x) → eqLF (eqF n) s l l' = some (some s') → ∀ x ∈ s',TyB x:=by
       intro l
       induction l with
       | nil => intro l' s _ _ hs h; rw [eqLF] at h; injection h with h; injection h with h; exact h ▸ hs
       | cons x l ihl =>
        intro l' s h1 h2 hs h
        cases l' with
        | nil => cases h
        | cons y l' =>
         rw [eqLF] at h
         cases hx:eqF n s x y with
         | none => rw [hx] at h; cases h
         | some r =>
          rw [hx] at h
          cases r with
          | none => cases h
          | some s1 => exact ihl l' s1 (fun z hz => h1 z (by simp [hz])) (fun z hz => h2 z (by simp [hz])) (ih s x y s1 hs (h1 x (by simp)) (h2 y (by simp)) hx) h
      exact hL a'.args b'.args s ((tyB_eq a').1 ha').2 ((tyB_eq b').1 hb').2 hs h
theorem unifyN {s:List Ty} {a b:Ty} (hl:s.length ≤ 2 ^ 30) (hs:∀ x ∈ s,TyB x) (ha:TyB a) (hb:TyB b) (hda:dpt a ≤ 2 ^ 40) (hdb:dpt b ≤ 2 ^ 40):∃ n,CallsT P 23 [.sl (s.map tyC),tyA a,tyA b] [] (RN n s a b) ∧ (∀ s',U1G n s a b s' → Nxt s s') ∧ ∃ r,formR s n = some r:=by
 obtain ⟨n,F,hc,hx⟩:=fuelU s a b
 refine ⟨n,unify n s a b hl F hda hdb fun s' h => ⟨by rw [(hx s' h).len]; exact hl,?_,hc s' h⟩,hx,F.form⟩
 exact eqF_TyB n s a b s' hs ha hb h.2.2.1
theorem formR_one {s:List Ty} {n m:Nat} {r q:Option (DM × OM)} (h:formR s n = some r) (k:formR s m = some q):r = q:=by
 have h1:=formR_mono (Nat.le_max_left n m) h
 have h2:=formR_mono (Nat.le_max_right n m) k
 rw [h1] at h2; exact Option.some.inj h2
theorem eqF_one {s:List Ty} {a b:Ty} {n m:Nat} {r q:Option (List Ty)} (h:eqF n s a b = some r) (k:eqF m s a b = some q):r = q:=by
 have h1:=eq_mono (Nat.le_max_left n m) h
 have h2:=eq_mono (Nat.le_max_right n m) k
 rw [h1] at h2; exact Option.some.inj h2
theorem deep_one {s:List Ty} {t:Ty} {d:DM} {o:OM} {n m:Nat} {r q:Option (Int × DM × OM)} (h:deepF s n t d o = some r) (k:deepF s m t d o = some q):r = q:=by
 have h1:=deep_mono (Nat.le_max_left n m) h
 have h2:=deep_mono (Nat.le_max_right n m) k
 rw [h1] at h2; exact Option.some.inj h2
theorem canon_one {s:List Ty} {n m:Nat} {r q:List Ty} (h:canonF s n = some r) (k:canonF s m = some q):r = q:=by
 have h1:=canon_mono (Nat.le_max_left n m) h
 have h2:=canon_mono (Nat.le_max_right n m) k
 rw [h1] at h2; exact Option.some.inj h2
section
variable {s:List Ty} {a b:Ty} (hl:s.length ≤ 2 ^ 30) (hs:∀ x ∈ s,TyB x) (ha:TyB a) (hb:TyB b) (hda:dpt a ≤ 2 ^ 40) (hdb:dpt b ≤ 2 ^ 40)
include hl hs ha hb hda hdb
theorem unify_no {m:Nat} (h1:∃ d o,formR s m = some (some (d,o))) (hp:preU s a b = true) (h2:eqF m s a b = some none):CallsT P 23 [.sl (s.map tyC),tyA a,tyA b] [] (Ret [] (.tup [.sl [],IC 8])):=by
 obtain ⟨n,h,hx,r,hr⟩:=unifyN hl hs ha hb hda hdb
 obtain ⟨d,o,h1⟩:=h1
 refine CallsT.imp h ?_
 rintro Mo c ⟨rfl,r,e,hu,rfl⟩
 rcases hu with ⟨s',g,_⟩ | ⟨g,rfl⟩
 ·have:=eqF_one h2 g.2.2.1; cases this
 ·rcases g with ⟨q,_⟩ | ⟨_,⟨q,_⟩ | ⟨_,⟨_,q⟩ | ⟨s',q,_⟩⟩⟩
  ·have:=formR_one h1 q; cases this
  ·rw [hp] at q; cases q
  ·subst q; exact ⟨rfl,rfl⟩
  ·have:=eqF_one h2 q; cases this
theorem unify_arg {m:Nat} (h1:∃ d o,formR s m = some (some (d,o))) (hp:preU s a b = false):CallsT P 23 [.sl (s.map tyC),tyA a,tyA b] [] (Ret [] (.tup [.sl [],IC 1])):=by
 obtain ⟨n,h,hx,r,hr⟩:=unifyN hl hs ha hb hda hdb
 obtain ⟨d,o,h1⟩:=h1
 refine CallsT.imp h ?_
 rintro Mo c ⟨rfl,r,e,hu,rfl⟩
 rcases hu with ⟨s',g,_⟩ | ⟨g,rfl⟩
 ·rw [g.2.1] at hp; cases hp
 ·rcases g with ⟨q,_⟩ | ⟨_,⟨_,q⟩ | ⟨q,_⟩⟩
  ·have:=formR_one h1 q; cases this
  ·subst q; exact ⟨rfl,rfl⟩
  ·rw [q] at hp; cases hp
theorem unify_ok {m:Nat} (s' r:List Ty) (d:DM) (o:OM) (k:Int) (h1:∃ d o,formR s m = some (some (d,o))) (hp:preU s a b = true) (h2:eqF m s a b = some (some s')) (h3:formR s' m = some (some (d,o))) (h4:∃ d' o',deepF s' m a d o = some (some (k,d',o'))) (hk:k ≤ 8) (h5:canonF s' m = some r) :
  CallsT P 23 [.sl (s.map tyC),tyA a,tyA b] [] (Ret [] (.tup [.sl (r.map tyC),IC 0])):=by
 obtain ⟨n,h,hx,r',hr⟩:=unifyN hl hs ha hb hda hdb
 obtain ⟨d1,o1,h1⟩:=h1
 obtain ⟨d2,o2,h4⟩:=h4
 refine CallsT.imp h ?_
 rintro Mo c ⟨rfl,r'',e,hu,rfl⟩
 rcases hu with ⟨s'',g,hc,rfl⟩ | ⟨g,rfl⟩
 ·have e1:=eqF_one h2 g.2.2.1
  injection e1 with e1
  subst e1
  rw [canon_one hc h5]
  exact ⟨rfl,rfl⟩
 ·rcases g with ⟨q,_⟩ | ⟨_,⟨q,_⟩ | ⟨_,⟨q,_⟩ | ⟨s'',q,_,q2⟩⟩⟩
  ·have:=formR_one h1 q; cases this
  ·rw [hp] at q; cases q
  ·have:=eqF_one h2 q; cases this
  ·have e1:=eqF_one h2 q
   injection e1 with e1
   subst e1
   rcases q2 with q2 | ⟨d',o',q2,q3⟩
   ·have:=formR_one h3 q2; cases this
   ·have e2:=formR_one h3 q2
    injection e2 with e2
    injection e2 with e2 e3
    subst e2 e3
    rcases q3 with q3 | ⟨k',d'',o'',q3,q4⟩
    ·have:=deep_one h4 q3; cases this
    ·have e4:=deep_one h4 q3
     injection e4 with e4
     injection e4 with e4
     omega
end
def zT:Ty:=.mk 0 0 []
def iT:Ty:=.mk 1 0 []
def bx (t:Ty):Ty:=.mk 3 0 [t]
def two:List Ty:=[zT,zT]
theorem tb_small {t:Ty} (h:decide (cnt t ≤ 100) = true):TyB t:=cnt_TyB t (by have:=of_decide_eq_true h; omega)
theorem dp_small {t:Ty} (h:decide (dpt t ≤ 100) = true):dpt t ≤ 2 ^ 40:=by have:=of_decide_eq_true h; omega
theorem two_B:∀ x ∈ two,TyB x:=fun x hx => by
 rcases List.mem_cons.1 hx with rfl | hx
 ·exact tb_small rfl
 ·rw [List.mem_singleton.1 hx]; exact tb_small rfl
theorem two_F:∃ d o,formR two 10 = some (some (d,o)):=⟨_,_,rfl⟩
theorem u1:CallsT P 23 [.sl (two.map tyC),tyA (bx (vr 0)),tyA (bx iT)] [] (Ret [] (.tup [.sl ([iT,zT].map tyC),IC 0])) :=
 unify_ok (by decide) two_B (tb_small rfl) (tb_small rfl) (dp_small rfl) (dp_small rfl) (m:=10) [iT,zT] [iT,zT] [(0,1)] [(0,true)] 2 two_F rfl rfl rfl ⟨_,_,rfl⟩ (by decide) rfl
theorem u2:CallsT P 23 [.sl (two.map tyC),tyA (vr 0),tyA (vr 1)] [] (Ret [] (.tup [.sl ([zT,vr 0].map tyC),IC 0])) :=
 unify_ok (by decide) two_B (tb_small rfl) (tb_small rfl) (dp_small rfl) (dp_small rfl) (m:=10) [zT,vr 0] [zT,vr 0] [(1,1)] [(1,true)] 1 two_F rfl rfl rfl ⟨_,_,rfl⟩ (by decide) rfl
theorem u3:CallsT P 23 [.sl (two.map tyC),tyA (bx (vr 0)),tyA (.mk 4 0 [vr 0])] [] (Ret [] (.tup [.sl [],IC 8])) :=
 unify_no (by decide) two_B (tb_small rfl) (tb_small rfl) (dp_small rfl) (dp_small rfl) (m:=10) two_F rfl rfl
theorem u4:CallsT P 23 [.sl (two.map tyC),tyA (vr 0),tyA (bx (vr 0))] [] (Ret [] (.tup [.sl [],IC 8])) :=
 unify_no (by decide) two_B (tb_small rfl) (tb_small rfl) (dp_small rfl) (dp_small rfl) (m:=10) two_F rfl rfl
theorem u5:CallsT P 23 [.sl (two.map tyC),tyA (vr 2),tyA iT] [] (Ret [] (.tup [.sl [],IC 1])) :=
 unify_arg (by decide) two_B (tb_small rfl) (tb_small rfl) (dp_small rfl) (dp_small rfl) (m:=10) two_F rfl
theorem a1:CallsT P 22 [.sl ([iT,zT].map tyC),tyA (bx (vr 0))] [] (Ret [] (tyA (bx iT))) :=
 apply [iT,zT] 10 (bx (vr 0)) (bx iT) [(0,1)] [(0,true)] rfl (fun x hx => by
  rcases List.mem_cons.1 hx with rfl | hx
  ·exact tb_small rfl
  ·rw [List.mem_singleton.1 hx]; exact tb_small rfl) (tb_small rfl) rfl
theorem m1h:CallsT P 24 [tyA (bx (.mk 5 0 [])),tyA (bx (bx iT)),IC 1] [] (Ret [] (.tup [.sl ([bx iT].map tyC),.bool true])):=t24 (bx (.mk 5 0 [])) (bx (bx iT)) 1 (by decide)
theorem m2h:CallsT P 24 [tyA (bx (.mk 5 0 [])),tyA iT,IC 1] [] (Ret [] (.tup [.sl [],.bool false])):=t24 (bx (.mk 5 0 [])) iT 1 (by decide)
theorem same45 (a:List Ty):CallsT P 45 [.sl (a.map tyC),.sl (a.map tyC)] [] (Ret [] (.bool true)):=by
 have:=t45 a a
 rw [EqOk,← tru_yes (rfl:a = a)] at this
 exact this
theorem same15 (a:Ty):CallsT P 15 [tyA a,tyA a] [] (Ret [] (.bool true)):=by
 have:=t15 a a
 rw [EqOk,← tru_yes (rfl:a = a)] at this
 exact this
def dP:Prog:=⟨[],[],[⟨⟨#[]⟩,0,1,[],0⟩],[],[],[],[],0⟩
theorem v14 {pa:Int} {t:Ty} {b:Bool} (hd:decide (dpt t ≤ 100) = true) (h:validB dP pa t = b):CallsT P 14 [.agg (progC dP),IC pa,tyA t] [] (Ret [] (.bool b)):=by
 have:=t14 pa dP t (dp_small hd)
 rw [h] at this
 exact this
set_option maxRecDepth 100000 in
theorem t11:CallsT P 11 [] [] (Ret [] (.bool true)):=by
 refine callsT_facts Try.func11 facts11 rfl fun hw _ => ?_
 refine callP t42 rfl fun _ => ?_
 refine MakePt.mk (by decide) (by decide) (by decide) (by decide) ?_
 refine callPD (t27 0) rfl fun _ => ?_
 refine callPD (t43 (vr 0)) rfl fun _ => ?_
 refine callPD (t43 iT) rfl fun _ => ?_
 refine callPD u1 rfl fun _ => ?_
 refine callP (t27 0) rfl fun _ => ?_
 refine callP (t27 1) rfl fun _ => ?_
 refine callP u2 rfl fun _ => ?_
 refine callP (t27 0) rfl fun _ => ?_
 refine callP (t43 (vr 0)) rfl fun _ => ?_
 refine callP (t27 0) rfl fun _ => ?_
 refine callP (t44 4 (vr 0)) rfl fun _ => ?_
 refine callP u3 rfl fun _ => ?_
 refine callP (t27 0) rfl fun _ => ?_
 refine callP (t27 0) rfl fun _ => ?_
 refine callP (t43 (vr 0)) rfl fun _ => ?_
 refine callP u4 rfl fun _ => ?_
 refine callPD (t27 2) rfl fun _ => ?_
 refine callPD u5 rfl fun _ => ?_
 refine callPD (t13 0) rfl fun _ => ?_
 refine callPD (t43 (.mk 5 0 [])) rfl fun _ => ?_
 refine callPD (t43 iT) rfl fun _ => ?_
 refine callPD (t43 (bx iT)) rfl fun _ => ?_
 refine callPD m1h rfl fun _ => ?_
 refine callPD (t13 0) rfl fun _ => ?_
 refine callPD (t43 (.mk 5 0 [])) rfl fun _ => ?_
 refine callPD m2h rfl fun _ => ?_
 refine callP (same45 [iT,zT]) rfl fun _ => ?_
 refine callP (t27 0) rfl fun _ => ?_
 refine callP (same45 [zT,vr 0]) rfl fun _ => ?_
 refine callP (t43 iT) rfl fun _ => ?_
 refine callP (same45 [bx iT]) rfl fun _ => ?_
 refine callPD (v14 (pa:=0) (t:=.mk 2 0 [iT]) (b:=true) rfl rfl) rfl fun _ => ?_
 refine callPD (t13 0) rfl fun _ => ?_
 refine callPD (v14 (pa:=0) (t:=.mk 5 0 []) (b:=false) rfl rfl) rfl fun _ => ?_
 refine callPD (t13 0) rfl fun _ => ?_
 refine callPD (t44 7 (.mk 5 0 [])) rfl fun _ => ?_
 refine callPD (v14 (pa:=1) (t:=.mk 7 0 [.mk 5 0 []]) (b:=true) rfl rfl) rfl fun _ => ?_
 refine callPD (t13 0) rfl fun _ => ?_
 refine callPD (t44 7 (.mk 5 0 [])) rfl fun _ => ?_
 refine callPD (t43 (.mk 7 0 [.mk 5 0 []])) rfl fun _ => ?_
 refine callPD (v14 (pa:=1) (t:=bx (.mk 7 0 [.mk 5 0 []])) (b:=false) rfl rfl) rfl fun _ => ?_
 refine callPD (t13 0) rfl fun _ => ?_
 refine callPD (t43 (.mk 5 0 [])) rfl fun _ => ?_
 refine callPD (t16 [iT] (bx (.mk 5 0 [])) (tb_small rfl)) rfl fun _ => ?_
 refine callPD (t43 iT) rfl fun _ => ?_
 refine callPD (same15 (bx iT)) rfl fun _ => ?_
 refine callPD (t27 0) rfl fun _ => ?_
 refine callPD (t43 (vr 0)) rfl fun _ => ?_
 refine callPD a1 rfl fun _ => ?_
 refine callPD (t43 iT) rfl fun _ => ?_
 refine callPD (same15 (bx iT)) rfl fun _ => ?_
 exact retP rfl rfl
theorem subst_B {a:List Ty} (ha:∀ x ∈ a,TyB x ∧ dpt x ≤ 30):∀ t:Ty,TyB t → TyB (subst a t) ∧ dpt (subst a t) ≤ dpt t + 30:=tyInd fun t ih hb => by
 rw [subst_eq]
 have hb:=(tyB_eq t).1 hb
 split
 ·rename_i h
  obtain ⟨x,hx⟩:=get_of (l:=a) (k:=t.id.toNat) (by omega)
  rw [hx]
  have:=ha x (List.mem_of_getElem? hx)
  exact ⟨this.1,by show dpt x ≤ _; omega⟩
 ·refine ⟨(tyB_eq _).2 ⟨by show (t.args.map _).length ≤ _; rw [List.length_map]; exact hb.1,fun y hy => ?_⟩,?_⟩
  ·obtain ⟨x,hx,rfl⟩:=List.mem_map.1 (show y ∈ t.args.map (subst a) from hy)
   exact (ih x hx (hb.2 x hx)).1
  ·rw [dpt_eq,dpt_eq t]
   have:dpts (t.args.map (subst a)) ≤ dpts t.args + 30:=dpts_le fun y hy => by
    obtain ⟨x,hx,rfl⟩:=List.mem_map.1 hy
    have:=(ih x hx (hb.2 x hx)).2
    have:=dpt_mem hx
    omega
   show dpts (t.args.map (subst a)) + 1 ≤ _
   omega
def four:List Ty:=[.mk 5 0 [],.mk 5 1 [],.mk 5 2 [],.mk 5 3 []]
structure PL (p:Prog) (one two:List Ty) (t:Ty) (pa:Int) (V:Int → Ty → Bool) (S:List Ty → Ty → Ty):Prop where
 h14:∀ pa t,dpt t ≤ 2 ^ 40 → CallsT P 14 [.agg (progC p),IC pa,tyA t] [] (Ret [] (.bool (V pa t)))
 h16:∀ a t,TyB t → CallsT P 16 [.sl (a.map tyC),tyA t] [] (Ret [] (tyA (S a t)))
 h1:V 4 t = true → S four t = t
 h2:V one.length t = true → S two (S one t) = S (one.map (S two)) t
 h3:V one.length t = true → one.all (fun x => stoB x && V pa x) = true → ¬ pa < 0 → ¬ pa > 4 → V pa (S one t) = decide ((dpt (S one t):Int) ≤ 8)
 h4:(∀ x ∈ one,TyB x ∧ dpt x ≤ 30) → TyB t → TyB (S one t) ∧ dpt (S one t) ≤ dpt t + 30
theorem same_yes {a b:Ty} (h:a = b):CallsT P 15 [tyA a,tyA b] [] (Ret [] (.bool true)):=by subst h; exact same15 a
theorem all_snoc {α:Type} {f:α → Bool} {l:List α} {k:Nat} {x:α} (hx:l[k]? = some x):(l.take (k + 1)).all f = ((l.take k).all f && f x):=by
 rw [take_snoc hx,List.all_append]; simp
theorem t12one (t:Ty):CallsT P 12 [.sl [tyB' t]] [] (Ret [] (.bool (smallL [t]))):=by
 have:=t12 [t]
 rw [List.map_cons,List.map_nil,tyC_eq] at this
 exact this
theorem t12two (a b:Ty):CallsT P 12 [.sl [tyB' a,tyB' b]] [] (Ret [] (.bool (smallL [a,b]))):=by
 have:=t12 [a,b]
 rw [List.map_cons,List.map_cons,List.map_nil,tyC_eq,tyC_eq] at this
 exact this
theorem map_snoc' {α β:Type} {f:α → β} {l:List α} {k:Nat} {x:α} (hx:l[k]? = some x):(l.take (k + 1)).map f = (l.take k).map f ++ [f x]:=by rw [take_snoc hx,List.map_append]; rfl
set_option maxRecDepth 100000 in
theorem t3o (p:Prog) (one two:List Ty) (t:Ty) (pa:Int) (V:Int → Ty → Bool) (S:List Ty → Ty → Ty) (X:PL p one two t pa V S):CallsT P 3 [.agg (progC p),.sl (one.map tyC),.sl (two.map tyC),tyA t,IC pa] [] (Ret [] (.bool true)):=by
 obtain ⟨h14,h16,h1,h2,h3,h4⟩:=X
 have s1:=t12 one
 have s2:=t12 two
 have s3:=t12one t
 have d1:=@small_all one
 have d3:=@small_all [t]
 have h17:=t17
 generalize hsm:smallL = sm at s1 s2 s3 d1 d3
 have h18:=t18
 generalize hdpt:dpt = D at h14 h3 h4 d1 d3 h18
 generalize hsto:stoB = sto at h3 h17
 refine callsT_facts Try.func3 facts3 rfl fun hw _ => ?_
 refine callP t11 rfl fun _ => ?_
 refine callP s1 rfl fun _ => ?_
 refine brn_split (fun q1 => ?_) (fun q1 => ?_)
 ·exact retP rfl rfl
 refine callP s2 rfl fun _ => ?_
 refine brn_split (fun q2 => ?_) (fun q2 => ?_)
 ·exact retP rfl rfl
 refine callP s3 rfl fun _ => ?_
 refine brn_split (fun q3 => ?_) (fun q3 => ?_)
 ·exact retP rfl rfl
 refine brn_p (fun _ => ?_) (fun _ => ?_)
 ·exact retP rfl rfl
 have e1:sm one = true:=by simpa using q1
 have e3:sm [t] = true:=by simpa using q3
 have f1:=d1 e1
 have f3:=(d3 e3).2 t (by simp)
 have hdt:D t ≤ 2 ^ 40:=by omega
 have g4:=h4 f1.2 f3.1
 have hdf:D (S one t) ≤ 2 ^ 40:=by omega
 refine callP (t13 0) rfl fun _ => ?_
 refine callP (t13 1) rfl fun _ => ?_
 refine callP (t13 2) rfl fun _ => ?_
 refine callP (t13 3) rfl fun _ => ?_
 refine callPD (h14 4 t hdt) rfl fun _ => ?_
 refine brn_split (fun q4 => callPD (h16 four t f3.1) rfl fun _ => callPD (same_yes (h1 q4)) rfl fun _ => ?_) (fun q4 => ?_)
 all_goals
  refine callP (h14 one.length t hdt) (by rw [List.length_map]; rfl) fun _ => ?_
  refine brn_split (fun q5 => ?_) (fun q5 => ?_)
  ·exact retP rfl rfl
  have e5:V one.length t = true:=by simpa using q5
  refine callP (h16 one t f3.1) rfl fun _ => ?_
  refine loopN one.length 17 [15,16] (([],true):List Ty × Bool) (fun x => [.rw 82,.bool x.2]) (fun x => [(14,.box 32 (tyB' (S one t))),(82,.row 32 3 (x.1.map tyC))]) (fun k x => x.1 = (one.take k).map (S two) ∧ x.2 = (one.take k).all (fun x => sto x && V pa x)) ⟨rfl,rfl⟩ (same_keys rfl) ⟨.inr (.inr (.inr (.inl ⟨rfl,82,32,3,rfl,rfl,rfl⟩))),same_keys rfl,trivial⟩
   ⟨.inl ⟨_,rfl,.inl ⟨rfl,rfl⟩⟩,.inr ⟨rfl,32,3,rfl⟩,trivial⟩ (fun _ => rfl) (fun _ => rfl) ?_
  rintro k ⟨l,b⟩ hk ⟨hl,hb⟩ _ _ hk2
  have hl:l = (one.take k).map (S two):=hl
  have hb:b = (one.take k).all (fun x => sto x && V pa x):=hb
  have hlk:l.length = k:=by rw [hl,List.length_map,List.length_take]; omega
  have hlc:(l.map tyC).length = k:=by rw [List.length_map]; exact hlk
  have hom:(one.map tyC).length = one.length:=List.length_map _
  refine brn_p (fun hlt => ?_) (fun hge => ?_)
  ·have hlt:k < one.length:=by rw [← hom]; omega
   refine withGet hlt fun x hx hxm => ?_
   have hxf:=f1.2 x hxm
   refine idxTy hx ?_
   refine callP (h16 two x hxf.1) rfl fun _ => ?_
   refine app1' k rfl hlc (by decide) (by omega) ?_
   refine brn_split (fun q6 => idxTy hx <| callPD (h17 x) rfl fun _ => brn_split (fun q7 => idxTy hx <| callPD (h14 pa x (by omega)) rfl fun _ => ?_) (fun q7 => ?_)) (fun q6 => ?_)
   all_goals refine Fit.in64 (by omega) (by omega) ?_
   ·exact ⟨(k + 1,(l ++ [S two x],V pa x)),⟨hlt,by rw [hl]; exact (map_snoc' hx).symm,by rw [all_snoc hx,← hb,show b = true from q6,q7]; rfl⟩,⟨nextI,same_keys rfl,same_keys rfl,trivial⟩,⟨.inl ⟨_,rfl,.inl ⟨rfl,rfl⟩⟩,.inl ⟨_,rfl,.inl ⟨rowG (rowT (f:=S two x)),rfl⟩⟩,trivial⟩,nextM hlt⟩
   ·exact ⟨(k + 1,(l ++ [S two x],false)),⟨hlt,by rw [hl]; exact (map_snoc' hx).symm,by rw [all_snoc hx,← hb,show b = true from q6,q7]; rfl⟩,⟨nextI,same_keys rfl,same_keys rfl,trivial⟩,⟨.inl ⟨_,rfl,.inl ⟨rfl,rfl⟩⟩,.inl ⟨_,rfl,.inl ⟨rowG (rowT (f:=S two x)),rfl⟩⟩,trivial⟩,nextM hlt⟩
   ·exact ⟨(k + 1,(l ++ [S two x],false)),⟨hlt,by rw [hl]; exact (map_snoc' hx).symm,by rw [all_snoc hx,← hb,show b = false from q6]; rfl⟩,⟨nextI,same_keys rfl,same_keys rfl,trivial⟩,⟨.inl ⟨_,rfl,.inl ⟨rfl,rfl⟩⟩,.inl ⟨_,rfl,.inl ⟨rowG (rowT (f:=S two x)),rfl⟩⟩,trivial⟩,nextM hlt⟩
  ·have hk3:k = one.length:=by rw [hom] at hge; omega
   have hl2:l = one.map (S two):=by rw [hl,hk3,List.take_length]
   have hb2:b = one.all (fun x => sto x && V pa x):=by rw [hb,hk3,List.take_length]
   refine callPD (h16 two (S one t) g4.1) rfl fun _ => ?_
   refine callPD (h16 l t f3.1) rfl fun _ => ?_
   refine callPD (same_yes (by rw [hl2]; exact h2 e5)) rfl fun _ => ?_
   refine brn_split (fun q6 => ?_) (fun q6 => ?_)
   ·exact retP rfl rfl
   have hb3:b = true:=by simpa using q6
   refine brn_p (fun q7 => ?_) (fun q7 => ?_)
   ·exact retP rfl rfl
   refine brn_p (fun q8 => ?_) (fun q8 => ?_)
   ·exact retP rfl rfl
   refine callPD (h14 pa (S one t) hdf) rfl fun _ => ?_
   refine callPD (h18 (S one t) hdf) rfl fun _ => ?_
   have e:=h3 e5 (by rw [← hb2]; exact hb3) q7 q8
   exact retP rfl (congrArg C.bool (decide_eq_true (show V pa (S one t) = decide ((D (S one t):Int) ≤ 8) from e)))
theorem t3 (p:Prog) (one two:List Ty) (t:Ty) (pa:Int):CallsT P 3 [.agg (progC p),.sl (one.map tyC),.sl (two.map tyC),tyA t,IC pa] [] (Ret [] (.bool true)):=by
 have hv:∀ {pa:Int} {t:Ty},validB p pa t = true → ¬ (pa < 0 ∨ pa > 4 ∨ dpt t > 8) ∧ fmB p.datas pa t = true:=fun {pa t} h => by
  unfold validB at h
  split at h
  ·cases h
  ·rename_i q; exact ⟨q,h⟩
 refine t3o p one two t pa (validB p) subst ⟨fun pa t h => t14 pa p t h,fun a t h => t16 a t h,fun h => ?_,fun h => ?_,fun h ha h0 h4 => ?_,fun h hb => subst_B h t hb⟩
 ·exact subst_self p.datas t (hv h).2
 ·exact subst_subst p.datas one two t (hv h).2
 ·have h1:=(hv h).2
  have h2:∀ x ∈ one,stoB x = true ∧ fmB p.datas pa x = true:=fun x hx => by
   have:=(List.all_eq_true.1 ha) x hx
   rw [Bool.and_eq_true] at this
   exact ⟨this.1,(hv this.2).2⟩
  have h3:=(fm_subst p.datas pa one h2 t h1).1
  unfold validB
  by_cases hd:dpt (subst one t) > 8
  ·rw [if_pos (.inr (.inr hd)),decide_eq_false (by omega)]
  ·rw [if_neg (by omega),decide_eq_true (by omega),h3]
section
variable {L:TL} {ρ:TEnv}
theorem callRN {n:Nat} {s:List Ty} {a b:Ty} {args args':List C} {K:TL → TEnv → C → Prop} (h:CallsT P 23 args' [] (RN n s a b)) (ha:(args.map fun c => c.canA.ren (toIn [] 1000)) = args')
  (k:∀ r e,UR n s a b r e → Wf (.tup [.sl (r.map tyC),IC e]) → K L ρ (C.tup [.sl (r.map tyC),IC e])):CallT P 23 args L ρ K:=by
 subst ha
 exact .mk ⟨[],[],[],L,[],_,.inl rfl,rfl,rfl,rfl,rfl,rfl,h,fun v Mo ⟨e1,r,e,hu,e2⟩ hw _ => by subst e1 e2; exact ⟨rfl,k r e hu hw⟩⟩
end
theorem UR.no {n m:Nat} {s:List Ty} {a b:Ty} {r:List Ty} {e:Int} (hu:UR n s a b r e) (h1:∃ d o,formR s m = some (some (d,o))) (hp:preU s a b = true) (h2:eqF m s a b = some none):e = 8:=by
 obtain ⟨d,o,h1⟩:=h1
 rcases hu with ⟨s',g,_⟩ | ⟨g,rfl⟩
 ·have:=eqF_one h2 g.2.2.1; cases this
 ·rcases g with ⟨q,_⟩ | ⟨_,⟨q,_⟩ | ⟨_,⟨_,q⟩ | ⟨s',q,_⟩⟩⟩
  ·have:=formR_one h1 q; cases this
  ·rw [hp] at q; cases q
  ·exact q
  ·have:=eqF_one h2 q; cases this
theorem rnT_TyB {m:DM}:∀ t:Ty,TyB t → TyB (rnT m t):=tyInd fun t ih h => by
 have h:=(tyB_eq t).1 h
 rw [rnT_eq]
 split
 ·exact (tyB_eq _).2 ⟨Nat.zero_le _,fun x h => by cases h⟩
 ·refine (tyB_eq _).2 ⟨by show (t.args.map _).length ≤ _; rw [List.length_map]; exact h.1,fun y hy => ?_⟩
  obtain ⟨x,hx,rfl⟩:=List.mem_map.1 (show y ∈ t.args.map (rnT m) from hy)
  exact ih x hx (h.2 x hx)
theorem canon_TyB {s r:List Ty} {n:Nat} (hs:∀ x ∈ s,TyB x) (h:canonF s n = some r):∀ x ∈ r,TyB x:=by
 unfold canonF at h
 cases hl:leastF s n s.length [] with
 | none => simp only [hl] at h; cases h
 | some m =>
  simp only [hl] at h
  intro x hx
  obtain ⟨i,hi,e⟩:=List.mem_iff_getElem.1 hx
  obtain ⟨t,h1,h2⟩:=canL_get h i (by rw [← canL_len h]; exact hi)
  rw [List.getElem?_eq_getElem hi,e] at h2
  injection h2 with h2
  rw [h2]
  unfold canE
  split
  ·exact (tyB_eq _).2 ⟨Nat.zero_le _,fun x h => by cases h⟩
  ·exact rnT_TyB t (apF_TyB hs n _ _ (vr_TyB i) h1)
theorem general {n:Nat} {u s:List Ty} {a b:Ty} {r:List Ty} {e:Int} (hS:Sat u s) (hs:∀ x ∈ s,TyB x) (ha:TyB a) (hb:TyB b) (hab:gs u a = gs u b) (hu:UR n s a b r e) :
  e ≠ 8 ∧ (e = 0 → r.length = u.length ∧ ∀ (i:Nat) (x:Ty),r[i]? = some x → TyB x ∧ (¬ x.kind = 0 → ins u.length x = true ∧ u[i]? = some (gs u x))):=by
 rcases hu with ⟨s',g,hc,rfl⟩ | ⟨g,rfl⟩
 ·refine ⟨by decide,fun _ => ?_⟩
  obtain ⟨s'',e1,hS'⟩:=hS.eqs hab g.2.2.1
  injection e1 with e1
  subst e1
  obtain ⟨_,_,_,d,o,k,d',o',hf,_⟩:=g
  obtain ⟨g1,g2⟩:=canon_gs (formR_good hf) hS' hc
  have hB:=canon_TyB (eqF_TyB n s a b s' hs ha hb (by assumption)) hc
  refine ⟨by rw [g1,hS'.len],fun i x hx => ⟨hB x (List.mem_of_getElem? hx),fun hk => ?_⟩⟩
  have:=g2 i x hx hk
  rw [hS'.len]
  exact this
 ·have h3:e ≠ 8:=fun q => by
   subst q
   rcases g with ⟨_,q⟩ | ⟨_,⟨_,q⟩ | ⟨_,⟨q,_⟩ | ⟨s',_,q,_⟩⟩⟩
   ·omega
   ·omega
   ·obtain ⟨s',e1,_⟩:=hS.eqs hab q; cases e1
   ·omega
  refine ⟨h3,fun q => ?_⟩
  have:=g.three
  omega
def Nb (lo hi:Int):List TO → C → Prop:=fun Mo v => Mo = [] ∧ ∃ n:Int,v = IC n ∧ lo ≤ n ∧ n ≤ hi
section
variable {L:TL} {ρ:TEnv}
theorem callNb {lo hi:Int} {f:Nat} {args args':List C} {K:TL → TEnv → C → Prop} (h:CallsT P f args' [] (Nb lo hi)) (ha:(args.map fun c => c.canA.ren (toIn [] 1000)) = args') (k:∀ n:Int,lo ≤ n → n ≤ hi → K L ρ (IC n)):CallT P f args L ρ K:=by
 subst ha
 exact .mk ⟨[],[],[],L,[],_,.inl rfl,rfl,rfl,rfl,rfl,rfl,h,fun v Mo ⟨e1,n,e2,hp1,hp2⟩ hw _ => by subst e1 e2; exact ⟨rfl,k n hp1 hp2⟩⟩
theorem retNb {Lin:List TO} {v:C} {lo hi:Int} (n:Int) (hb:boxesAt Lin (List.range' 1000 Lin.length) [] = true) (e:v.canR.ren (toIn [] 1000) = IC n) (h1:lo ≤ n) (h2:n ≤ hi):RetT Lin L v (Nb lo hi) :=
 retR [] rfl (by simp only [Bool.and_eq_true]; exact ⟨rfl,hb⟩) rfl e ⟨rfl,n,rfl,h1,h2⟩
end
theorem t54 (s:List Ty):∀ (m:Nat) (left:Int) (t:Ty),left ≤ m → 1 ≤ left → left ≤ 101 → CallsT P 54 [.sl (s.map tyC),tyA t,IC left] [] (Nb 0 (left - 1))
 | 0,left,t,h0,h1,h2 => absurd h1 (by omega)
 | m + 1,left,t,h0,h1,h2 => by
  have ih:=fun left' t' (a:left' ≤ (m:Int)) (b:1 ≤ left') => t54 s m left' t' a b
  have h55:=t55 t
  have hsm:(s.map tyC).length = s.length:=List.length_map _
  have hlm:(t.args.map tyC).length = t.args.length:=List.length_map _
  refine callsT_facts Try.func54 facts54 rfl fun hw _ => ?_
  have hlen:t.args.length ≤ 9223372036854775807:=wf_lenT hw.2.1.2.2.1
  refine Fit.in64 (by omega) (by omega) ?_
  refine callP h55 rfl fun _ => ?_
  refine brn_p (fun h3 => brn_p (fun h4 => brn_p (fun h5 => exE (substHit (a:=s) h4 h5) fun x hx => idxZ h4 hx.1 (brn_n (fun h6 => brn_p (fun h7 => ?_) (fun h7 => ?_)) (fun h6 => ?_))) (fun h5 => ?_)) (fun h4 => ?_)) (fun h3 => ?_)
  ·refine idxZ h4 hx.1 ?_
   refine callNb (ih (left - 1) x (by omega) (by omega) (by omega)) rfl fun n hn1 hn2 => ?_
   exact retNb n rfl rfl hn1 (by omega)
  all_goals
   refine loopN t.args.length 7 [2] (left - 1) (fun n => [IC n]) (fun _ => []) (fun _ n => 0 ≤ n ∧ n ≤ left - 1) ⟨by omega,Int.le_refl _⟩ (same_keys rfl) ⟨same_keys rfl,trivial⟩ trivial (fun _ => rfl) (fun _ => rfl) ?_
   rintro k n hk ⟨hn1,hn2⟩ _ _ _
   refine brn_p (fun hlt => ?_) (fun hge => ?_)
   ·have hlt:k < t.args.length:=by rw [hlm] at hlt; omega
    refine withGet hlt fun y hy hym => ?_
    refine brn_p (fun h8 => ?_) (fun h8 => ?_)
    ·refine idxTy hy ?_
     refine callNb (ih n y (by omega) (by omega) (by omega)) rfl fun n' hn1' hn2' => ?_
     refine Fit.in64 (by omega) (by omega) ?_
     exact ⟨(k + 1,n'),⟨hlt,hn1',by omega⟩,⟨nextI,same_keys rfl,trivial⟩,trivial,nextM hlt⟩
    ·exact retNb n rfl rfl hn1 hn2
   ·exact retNb n rfl rfl hn1 hn2
theorem t19 (s l:List Ty):CallsT P 19 [.sl (s.map tyC),.sl (l.map tyC)] [] (Such True):=by
 have h54:=fun t => t54 s 101 101 t (by omega) (by omega) (by omega)
 have hsm:(s.map tyC).length = s.length:=List.length_map _
 have hlm:(l.map tyC).length = l.length:=List.length_map _
 refine callsT_facts Try.func19 facts19 rfl fun hw _ => ?_
 have hl1:s.length ≤ 9223372036854775807:=wf_lenT hw.1
 have hl2:l.length ≤ 9223372036854775807:=wf_lenT hw.2.1
 refine loopN l.length 5 [] () (fun _ => []) (fun _ => []) (fun _ _ => True) trivial (same_keys rfl) trivial trivial (fun _ => rfl) (fun _ => rfl) ?_
 rintro k _ hk _ _ _ _
 refine brn_p (fun hlt => ?_) (fun hge => ?_)
 ·have hlt:k < l.length:=by rw [hlm] at hlt; omega
  refine withGet hlt fun y hy hym => ?_
  refine idxTy hy ?_
  refine callNb (h54 y) rfl fun n hn1 hn2 => ?_
  refine brn_p (fun _ => ?_) (fun _ => ?_)
  ·exact retB false rfl rfl fun _ => trivial
  ·refine Fit.in64 (by omega) (by omega) ?_
   exact ⟨(k + 1,()),⟨hlt,trivial⟩,⟨nextI,trivial⟩,trivial,nextM hlt⟩
 ·refine loopN s.length 6 [] () (fun _ => []) (fun _ => []) (fun _ _ => True) trivial (same_keys rfl) trivial trivial (fun _ => rfl) (fun _ => rfl) ?_
  rintro k _ hk _ _ _ _
  refine brn_p (fun hlt => ?_) (fun hge => ?_)
  ·have hlt:k < s.length:=by rw [hsm] at hlt; omega
   refine callNb (h54 (vr k)) rfl fun n hn1 hn2 => ?_
   refine brn_p (fun _ => ?_) (fun _ => ?_)
   ·exact retB false rfl rfl fun _ => trivial
   ·refine Fit.in64 (by omega) (by omega) ?_
    exact ⟨(k + 1,()),⟨hlt,trivial⟩,⟨nextI,trivial⟩,trivial,nextM hlt⟩
  ·exact retB true rfl rfl fun _ => trivial
end Go.Fr.Try
