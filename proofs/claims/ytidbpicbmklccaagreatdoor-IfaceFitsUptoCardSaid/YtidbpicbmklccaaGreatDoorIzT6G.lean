/- Part of the proofs of the statements of this seat. -/
import Derived.Test.YtidbpicbmklccaaGreatDoorIzW1G
import Derived.Test.YtidbpicbmklccaaGreatDoorFW3
import Derived.Test.YtidbpicbmklccaaGreatDoorIzM3G
set_option maxRecDepth 10000
set_option linter.unusedVariables false
set_option linter.unusedSimpArgs false
namespace Go.Fr.Tryz
open Go Go.RowKit Go.Proofs Go.Fr Go.Fr.T Go.Fr.Api Go.Fr.Dm
theorem foldN_bd:∀ (l:List Int) (h:Int),(∀ x ∈ l,0 ≤ x) → 0 ≤ h ∧ h < 2147483647 → 0 ≤ l.foldl stepN h ∧ l.foldl stepN h < 2147483647
 | [],h,_,hb => hb
 | x :: l,h,hl,hb => foldN_bd l _ (fun y hy => hl y (by simp [hy])) (stepN_bd hb.1 (hl x (by simp)))
def dig (bs:List UInt8):Int:=foldN (bytesN bs)
theorem dig_bd (bs:List UInt8):0 ≤ dig bs ∧ dig bs < 2147483647:=foldN_bd _ _ (fun x hx => by
 simp only [bytesN,List.mem_map] at hx
 obtain ⟨b,_,rfl⟩:=hx
 omega) (by omega)
theorem t69 (b:UInt8):CallsT PZ 69 [bcell b] [] (Ret [] (.int .i64 b.toNat)):=by
 refine callsT_facts Tryz.func69 facts69 rfl fun hw _ => ?_
 refine Fit.in64 (by omega) (by have:=b.toNat_lt; omega) ?_
 exact retP rfl rfl
theorem t68 (bs:List UInt8):CallsT PZ 68 [.sl (bcells bs),.fn 69 [] []] [] (Ret [] (IC (dig bs))):=by
 refine callsT_facts Tryz.func68 facts68 rfl fun hw _ => ?_
 have hn:=wf_lenB hw.1
 refine loopN bs.length 10 [5] 7 (fun h => [.int .i64 h]) (fun _ => []) (fun k h => 0 ≤ h ∧ h < 2147483647 ∧ (bytesN (bs.drop k)).foldl stepN h = dig bs) ⟨by omega,by omega,rfl⟩
  (same_keys rfl) ⟨same_keys rfl,trivial⟩ trivial (fun _ => rfl) (fun _ => rfl) ?_
 rintro k h hk ⟨h0,h1,hf⟩ hw1 _ hk64
 refine brn_p (fun hlt => ?_) (fun hge => ?_)
 ·have hlt:k < bs.length:=by simpa [bcells] using hlt
  obtain ⟨b,hb,hd⟩:=drop_cons hlt
  rw [hd] at hf
  obtain ⟨g1,g2⟩:=stepN_bd (x:=b.toNat) h0 (by omega)
  have hbl:=b.toNat_lt
  refine idxB hb ?_
  refine Fit.in64 (by omega) (by omega) ?_
  refine callP (t69 b) rfl fun _ => ?_
  refine Fit.in64 (by omega) (by omega) ?_
  refine Fit.in64 (by omega) (by omega) ?_
  refine NonZ.mk (by omega) ?_
  refine Fit.in64 (by omega) (by omega) ?_
  exact ⟨(k + 1,stepN h b.toNat),⟨hlt,g1,g2,hf⟩,⟨nextI,same_keys rfl,trivial⟩,trivial,nextM hlt⟩
 ·have hge:¬ k < bs.length:=by simpa [bcells] using hge
  rw [drop_end hge] at hf
  exact retP rfl (congrArg (C.int .i64) hf)
theorem t15 (bs:List UInt8):CallsT PZ 15 [.sl (bcells bs)] [] (Ret [] (IC (dig bs))):=by
 refine callsT_facts Tryz.func15 facts15 rfl fun hw _ => ?_
 refine callP (t68 bs) rfl fun _ => ?_
 exact retP rfl rfl
theorem streq_bytes (a b:List UInt8):streq ⟨a.toArray⟩ ⟨b.toArray⟩ = decide (a = b):=by simp [streq]
theorem t71 (a b:List UInt8):CallsT PZ 71 [.sl (bcells a),.sl (bcells b)] [] (Ret [] (.bool (decide (a = b)))):=by
 refine callsT_facts Tryz.func71 facts71 rfl fun hw _ => ?_
 refine BytesT.mk ⟨a,rfl,?_⟩
 refine BytesT.mk ⟨b,rfl,?_⟩
 exact retP rfl (congrArg C.bool (streq_bytes a b))
theorem t96A (F:Frz) (a:Option Addr) (n c:Nat) (hn:n ≤ c) (hm:n ≤ maxLen) (ha:a = none → c = 0):CallsA PZ 96 #[.slice a n c] F [] (fun _ Lo v => Lo = [] ∧ v = .slice a n n):=by
 refine ⟨⟨_,Tryz.func96,by kernel_rfl,by kernel_rfl⟩,fun _ _ _ _ _ h => h,fun w hs => ?_⟩
 have hnt:Tryz.f96.ntmps = 9:=by kernel_rfl
 refine calls_of_wp Tryz.func96 rfl ?_
 rw [hnt]
 apply wp_seq
 apply wp_region
 simp [wpOps,go_sem,Exit.then]
 refine .inl (wp_seq (wp_region ?_))
 simp [wpOps,go_sem,Exit.then,Act.eval,Array.replicate,hn]
 refine .inl (.inl (.inl (.inl (.inl (.inl (.inl (wp_ret ?_)))))))
 have hr:Tryz.f96.results = #[.tmp 2]:=by kernel_rfl
 simp [bodyPost,results,hr]
 exact ⟨F,hs,Step.refl _ _ _⟩
def by8 (n:Int):UInt8:=UInt8.ofNat n.toNat
def dig4 (bs:List UInt8):List UInt8:=[by8 (dig bs / 16777216),by8 (dig bs / 65536),by8 (dig bs / 256),by8 (dig bs)]
def sealB (b:List UInt8):List UInt8:=b ++ dig4 b
theorem wrap_by8 {n m:Int} (h:0 ≤ m) (e:n = m):IntKind.wrap .u8 n = ((by8 m).toNat:Int):=by
 subst e
 simp only [IntKind.wrap,IntKind.bits,IntKind.signed,by8,UInt8.toNat_ofNat']
 simp
 omega
theorem t67r (bs:List UInt8) (hb:bs.length ≤ 70368744177664):CallsT PZ 67 [.sl (bcells bs)] [] (Ret [.row 5 1 (bcells (sealB bs))] (.rw 1000)):=by
 refine ⟨fun F Li vs hl htl hr => ?_⟩
 obtain rfl:Li = []:=List.eq_nil_of_length_eq_zero hl
 obtain ⟨h0,h1⟩:=dig_bd bs
 have hr0:=hr
 simp only [Rels] at hr
 obtain ⟨v,_,rfl,hv,rfl⟩:=hr
 obtain ⟨a,c,rfl,hc,hm,hF⟩:=sl_bytes hv
 have ha:a = none → bs.length = 0 ∧ c = 0:=by
  simp only [Rel] at hv
  obtain ⟨a',c',e,_,_,hn,_⟩:=hv
  injection e with e1 e2 e3
  subst e1 e3
  intro h
  obtain ⟨q1,q2⟩:=hn h
  exact ⟨by simpa [bcells] using q1,q2⟩
 refine callsA2_facts (svs:=[.v (.slice a bs.length c)]) rfl facts67 rfl rfl (vals_own [.slice a bs.length c]) ResA.mono' ?_
 refine callTInt (t15 bs) hr0 fun F1 hF1 => ?_
 refine ⟨[],[],[],_,rfl,List.nodup_nil,List.nodup_nil,fun k hk => (by cases hk),t96A F1 a bs.length c hc (by simp only [maxLen]; omega) (fun h => (ha h).2),fun v F2 Lo hF2 hR => ?_⟩
 obtain ⟨rfl,rfl⟩:=hR
 refine ⟨rfl,fun k g t cs hk => (by cases hk),?_⟩
 refine ⟨by decide,?_⟩
 refine Fit.to (wrap_by8 (m:=dig bs / 16777216) (by omega) (Int.fdiv_eq_ediv_of_nonneg (b:=16777216) _ (by omega))) ?_
 refine ⟨by decide,?_⟩
 refine Fit.to (wrap_by8 (m:=dig bs / 65536) (by omega) (Int.fdiv_eq_ediv_of_nonneg (b:=65536) _ (by omega))) ?_
 refine ⟨by decide,?_⟩
 refine Fit.to (wrap_by8 (m:=dig bs / 256) (by omega) (Int.fdiv_eq_ediv_of_nonneg (b:=256) _ (by omega))) ?_
 refine Fit.to (wrap_by8 (m:=dig bs) (by omega) rfl) ?_
 intro g F3 hF3 hg
 have hg:F3 g = some (.cells (bvals (dig4 bs)).toArray 5 (0,0)):=hg
 refine AppPt.mk ⟨20,bs.length,bvals bs,4,bvals (dig4 bs),?_,⟨_,_,rfl,rfl,.inl ?_⟩,bvals_ones _,by simp only [maxLen]; omega,by omega,fun v hv => ?_⟩
 ·cases a with
  | none => exact .inr (.inl ⟨rfl,(ha rfl).1,by rw [List.eq_nil_of_length_eq_zero (ha rfl).1]; rfl,by rw [(ha rfl).1]⟩)
  | some ad => exact .inr (.inr ⟨rfl,ad,rfl,by decide,by rw [bvals_len,Nat.mul_one],hF.imp (fun h => ((h.mono hF1).mono hF2).mono hF3) id⟩)
 ·exact ⟨⟨g,0,none⟩,_,_,_,rfl,hg,rfl,fun i u hu => by simpa using hu⟩
 ·refine ⟨[20],_,rfl,by simp,?_⟩
  obtain ⟨a',c',rfl,hn⟩:=hv
  rw [← bvals_app]
  have hl4:(sealB bs).length = bs.length + 4:=by simp [sealB,dig4]
  refine resRow rfl (RelRow_of_bvals (sealB bs)) (by rw [bcells_len,hl4]) (by simp only [maxLen]; omega) ⟨a',c',rfl,hn⟩
theorem t67 (bs:List UInt8) (hb:bs.length ≤ 70368744177664):CallsT PZ 67 [.sl (bcells bs)] [] (Ret [] (.sl (bcells (sealB bs)))):=(t67r bs hb).give
end Go.Fr.Tryz
namespace Go.Fr.Tryz
open Go Go.RowKit Go.Proofs Go.Fr Go.Fr.T Go.Fr.Api
theorem CallsT.pinRes {P:Program} {f:Nat} {args:List C} {t:Nat} {cs:List C} (ht:t < 1048576) (h:CallsT P f args [] (Ret [.box t cs] (.own 1000 0))) :
  CallsT P f args [] (fun Mo c => ∃ g,Mo = [.box (pin g t) cs] ∧ c = adr g 0):=by
 refine ⟨fun F Li vs h1 h2 h3 => ?_⟩
 have hA:=h.out F Li vs h1 h2 h3
 refine ⟨hA.ent,ResA.mono',fun w hs => (hA.run w hs).mono ?_⟩
 rintro e w' ⟨v,F',Lo,rfl,k1,k2,Mo,c,q1,q2,q3,q4,rfl,rfl⟩
 refine ⟨v,F',Lo,rfl,k1,k2,?_⟩
 simp only [Rel] at q3
 obtain ⟨g,t',us,e0,rfl⟩:=q3
 have hk:=q2 1000
 have e1:(tinp [TO.box t cs]).get 1000 = some (.box t cs):=rfl
 rw [e1,e0] at hk
 obtain ⟨hty,hr⟩:=hk
 have htt:t = t':=by
  obtain ⟨h4,h5⟩:=hty
  rcases h5 with h5 | h5
  ·exact h5
  ·omega
 subst htt
 refine ⟨[.box (pin g t) cs],adr g 0,q1,fun k => ?_,(adr_rel (by omega)).2 rfl,q4,g,rfl,rfl⟩
 have hk:=q2 k
 simp only [tinp,tinpFrom,TL.get] at hk ⊢
 cases hb:Nat.beq 1000 k with
 | false => rw [hb] at hk; exact hk
 | true =>
  have:=Nat.eq_of_beq_eq_true hb
  subst this
  rw [e0]
  exact ⟨⟨ht,.inr rfl⟩,hr⟩
theorem t72 (s:List UInt8):CallsT PZ 72 [.sl (bcells s)] [] (Ret [RB 159 s s] (.own 1000 0)):=by
 refine callsT_facts Tryz.func72 facts72 rfl fun hw ho => ?_
 refine retO [5] rfl rfl (congrArg (fun q => [TO.box 159 [.sl (bcells s),IC q,IC (-1)]]) ?_) rfl
 simp
theorem suf_len {r s:List UInt8} (h:r <:+ s):r.length ≤ s.length:=h.length_le
theorem suf_drop {r s:List UInt8} (h:r <:+ s):s.drop (s.length - r.length) = r:=by
 obtain ⟨p,rfl⟩:=h
 simp
theorem suf_head {c:UInt8} {r s:List UInt8} (h:(c :: r) <:+ s):s[s.length - (c :: r).length]? = some c:=by
 obtain ⟨p,rfl⟩:=h
 simp
theorem wf_box_len {t:Nat} {s r:List UInt8} (h:(RB t s r).Wf):s.length ≤ 9223372036854775807:=wf_lenB h.1
theorem t78o (s r:List UInt8) (hr:r <:+ s):CallsT PZ 78 [.own 1000 0] [RB 159 s r] (Ret [RB 159 s r] (IC r.length)):=by
 refine callsT_facts Tryz.func78 facts78 rfl fun hw ho => ?_
 have hl:=wf_box_len (ho _ (List.mem_singleton.2 rfl))
 have h1:=suf_len hr
 have e:(decide (((bcells s).length:Int) ≤ ((s.length - r.length:Nat):Int))) = decide (r.length = 0):=by
  rw [bcells_len]; exact decide_eq_decide.2 (by omega)
 refine brn_split (fun h => ?_) (fun h => ?_)
 ·have h:r.length = 0:=of_decide_eq_true (e.symm.trans h)
  exact retO [1000] rfl rfl rfl (congrArg (fun q:Nat => IC (q:Int)) h.symm)
 ·have h:¬ r.length = 0:=of_decide_eq_false (e.symm.trans h)
  refine Fit.to (m:=(r.length:Int)) (by rw [bcells_len,wrap64_id (by omega) (by omega)]; omega) ?_
  exact retO [1000] rfl rfl rfl rfl
theorem t98n (s:List UInt8):CallsT PZ 98 [.own 1000 0] [RB 159 s []] (Ret [RB 159 s []] (.tup [.int .u8 0,.opq 1])):=by
 refine callsT_facts Tryz.func98 facts98 rfl fun hw ho => ?_
 have e:(decide (((bcells s).length:Int) ≤ ((s.length - ([]:List UInt8).length:Nat):Int))) = true:=by
  rw [bcells_len]; exact decide_eq_true (by simp)
 refine brn_split (fun h => ?_) (fun h => ?_)
 ·exact retO [1000] rfl rfl rfl rfl
 ·have:=e.symm.trans h; cases this
theorem t98c (s:List UInt8) (c:UInt8) (r:List UInt8) (hr:(c :: r) <:+ s):CallsT PZ 98 [.own 1000 0] [RB 159 s (c :: r)] (Ret [RB 159 s r] (.tup [bcell c,.opq 0])):=by
 refine callsT_facts Tryz.func98 facts98 rfl fun hw ho => ?_
 have hl:=wf_box_len (ho _ (List.mem_singleton.2 rfl))
 have h1:=suf_len hr
 have e:(decide (((bcells s).length:Int) ≤ ((s.length - (c :: r).length:Nat):Int))) = false:=by
  rw [bcells_len]; exact decide_eq_false (by simp only [List.length_cons] at h1 ⊢; omega)
 simp only [List.length_cons] at h1
 refine brn_split (fun h => ?_) (fun h => ?_)
 ·have:=e.symm.trans h; cases this
 refine idxB (suf_head hr) ?_
 refine Fit.to (m:=((s.length - r.length:Nat):Int)) (by simp only [List.length_cons]; rw [wrap64_id (by omega) (by omega)]; omega) ?_
 exact retO [1000] rfl rfl rfl rfl
theorem GlPt.of {F:Frz} (h:Glob F) {K:Value → Prop} (k:∀ v,OpqRel 1 F v → K v):GlPt F 1 K:=by
 obtain ⟨v,t,fr,h1,h2⟩:=glob_get (g:=1) (k:=1) h rfl
 exact ⟨v,t,fr,h1,k v h2⟩
theorem splice_all {xs ys:List Value} (h:xs.length = ys.length):splice xs 0 ys = ys:=by
 simp [splice,h]
def RO (gb tb:Nat) (a:Option Addr) (l c:Nat) (i:Int) (rv:Value) (n:Nat) (xs:List Value):List Own:=[.box gb tb [.slice a l c,.int .i64 i,.int .i64 (-1)],.row rv 5 1 n xs]
theorem t97A (F:Frz) (hgl:Glob F) (gb tb:Nat) (a:Option Addr) (c:Nat) (s:List UInt8) (i n cr:Nat) (rv:Value) (xs:List Value) (hs:Rel F [] (.sl (bcells s)) (.slice a s.length c)) (hi:i + n ≤ s.length) (hrv:RowV rv n cr) (hx:xs.length = n) :
  CallsA PZ 97 #[.pointer (some ⟨gb,0,none⟩),rv] F (RO gb tb a s.length c i rv n xs) (fun _ Lo _ => Lo = RO gb tb a s.length c ((i + n:Nat):Int) rv n (bvals ((s.drop i).take n))):=by
 have hl:s.length ≤ 9223372036854775807:=by
  obtain ⟨_,_,_,_,h,_⟩:=sl_bytes hs
  simp only [maxLen] at h
  omega
 have hcap:=sl_cap hs
 obtain ⟨ra,rfl,hnc,hcm,hra⟩:=hrv.form
 refine callsA2_facts (svs:=[.own 1000 0,.v (.slice ra n cr)]) rfl facts97 rfl rfl (fun v hv => ?_) (fun _ _ _ _ _ h => h) ?_
 ·rcases List.mem_cons.1 hv with rfl | hv
  ·exact ⟨fun k off e => by injection e with e1 e2; subst e1; exact ⟨_,_,_,rfl⟩,fun _ _ e => by cases e⟩
  ·rw [List.mem_singleton.1 hv]
   exact ⟨fun _ _ e => (by cases e),fun _ _ e => (by cases e)⟩
 refine brn_p (fun h => ?_) (fun h => ?_)
 ·have h0:n = 0:=by omega
  subst h0
  obtain rfl:xs = []:=List.eq_nil_of_length_eq_zero hx
  refine GlPt.of hgl fun ev hev => ?_
  refine ⟨[1000,1001],_,rfl,by decide,?_⟩
  show _ = RO gb tb a s.length c ((i + 0:Nat):Int) (.slice ra 0 cr) 0 (bvals ((s.drop i).take 0))
  simp only [Nat.add_zero,List.take_zero]
  rfl
 ·have hlt:i < s.length:=by omega
  refine SlcPt.mk (by omega) (by omega) (by omega) ?_
  have hr2:Rel F [] (.sl (bcells ((s.drop i).take (s.length - i)))) (slcVal a c i s.length 1):=rel_slc hs (by omega) (Nat.le_refl _)
  rw [List.take_of_length_le (by simp)] at hr2
  obtain ⟨a2,c2,e2,_,_,hF2⟩:=sl_bytes hr2
  have hd:(s.drop i).length = s.length - i:=by simp
  rw [hd] at e2 hF2
  have hm:min (s.length - i) n = n:=by omega
  have hbl:(bvals ((s.drop i).take n)).length = n:=by rw [bvals_len,List.length_take,hd]; omega
  have e3:slcVal a c ((i:Int).toNat) ((s.length:Int).toNat) 1 = .slice a2 (s.length - i) c2:=e2
  have tail:∀ (K:Loc → Nat → Prop),K (inp (RO gb tb a s.length c i (.slice ra n cr) n (bvals ((s.drop i).take n)))) n → CopyPt F (inp (RO gb tb a s.length c i (.slice ra n cr) n xs)) 5 1 (.slice ra n cr) (slcVal a c ((i:Int).toNat) ((s.length:Int).toNat) 1) K:=by
   intro K hK
   rw [e3]
   cases ra with
   | none =>
    obtain ⟨h1,h2⟩:=hra rfl
    subst h1
    obtain rfl:xs = []:=List.eq_nil_of_length_eq_zero hx
    exact ⟨.inr ⟨none,0,cr,a2,s.length - i,c2,rfl,rfl,by omega,hK⟩⟩
   | some ad =>
    refine ⟨.inl ⟨1001,n,_,n,xs,ad,cr,cr,0,s.length - i,a2,c2,bvals ((s.drop i).take n),rfl,rfl,?_,by omega,rfl,by rw [hm,Nat.mul_one,hbl],?_,bvals_ones _,?_⟩⟩
    ·rcases hrv with ⟨e,_⟩ | ⟨g,e,_⟩
     ·cases e
     ·injection e with e _ _
      injection e with e
      subst e
      rfl
    ·rw [hm]
     rcases hF2 with h | ⟨h,_⟩
     ·have:=fcells_take (m:=n) h
      refine .inl ?_
      have e4:(bvals (s.drop i)).take n = bvals ((s.drop i).take n):=by simp [bvals]
      rw [← e4]; exact this
     ·omega
    ·rw [hm,Nat.zero_mul,splice_all (by rw [hx,hbl])]
     exact hK
  refine tail _ fun _ => ?_
  refine Fit.to (m:=((i + n:Nat):Int)) (by rw [wrap64_id (by omega) (by omega)]; omega) ?_
  exact ⟨[1000,1001],_,rfl,by decide,rfl⟩
theorem monoI {Li:List Own} {R:List TO → C → Prop}:∀ F G L v,F.le G → (ResA Li R F L v ∧ InPl Li L) → (ResA Li R G L v ∧ InPl Li L):=fun F G L v h ⟨h1,h2⟩ => ⟨ResA.mono' F G L v h h1,h2⟩
theorem ent97:∃ fn,Tryz.prog.funcs[97]? = some fn ∧ fn.body.isSome = true ∧ (fn.name == "runtime.NumGoroutine") = false:=⟨_,Tryz.func97,by kernel_rfl,by kernel_rfl⟩
theorem t97o (s r:List UInt8) (hr:r <:+ s) (n:Nat) (hn:n ≤ r.length) (els:List (List C)) (hl:els.length = n) :
  CallsTI PZ 97 [.own 1000 0,.rw 1001] [RB 159 s r,.row 5 1 els] (fun Mo c => Mo = [RB 159 s (r.drop n),.row 5 1 (bcells (r.take n))] ∧ c = .any):=by
 refine ⟨fun F Li vs h1 h2 h3 => ?_⟩
 match Li,h1 with
 | [o1,o2],_ =>
  have hb:RelO F (inp [o1,o2]) (RB 159 s r) o1:=h2 1000
  have hw:RelO F (inp [o1,o2]) (.row 5 1 els) o2:=h2 1001
  cases o1 with
  | row => exact hb.elim
  | box gb tb us =>
   cases o2 with
   | box => exact hw.elim
   | row v t' sz' n' xs =>
    obtain ⟨rfl,rfl,hn',⟨hm,av,cv,rfl,hc⟩,hrr⟩:=hw
    rw [hl] at hn'
    subst hn'
    obtain ⟨ht,hu⟩:=hb
    simp only [Rels] at hu
    obtain ⟨v1,_,rfl,hv1,v2,_,rfl,hv2,v3,_,rfl,hv3,rfl⟩:=hu
    simp only [Rel] at hv2 hv3
    obtain ⟨rfl,_⟩:=hv2
    obtain ⟨rfl,_⟩:=hv3
    have hv1':Rel F [] (.sl (bcells s)) v1:=hv1.lift
    obtain ⟨a,c,rfl,_,hsm,_⟩:=sl_bytes hv1'
    simp only [Rels] at h3
    obtain ⟨w1,_,rfl,hw1,w2,_,rfl,hw2,rfl⟩:=h3
    have e1:w1 = .pointer (some ⟨gb,0,none⟩):=by
     simp only [Rel] at hw1
     obtain ⟨g,t,cs,e,rfl⟩:=hw1
     have e':some (Own.box gb tb [.slice a s.length c,.int .i64 ((s.length - r.length:Nat):Int),.int .i64 (-1)]) = some (.box g t cs):=e
     injection e' with e'
     injection e' with e1
     rw [e1]
    have e2:w2 = .slice av n' cv:=by
     simp only [Rel] at hw2
     obtain ⟨a',c',t,sz,n,xs',rfl,e⟩:=hw2
     have e':some (Own.row (.slice av n' cv) 5 1 n' xs) = some (.row (.slice a' n c') t sz n xs'):=e
     injection e' with e'
     injection e' with e1
     exact e1.symm
    subst e1 e2
    have hsl:=suf_len hr
    have hdr:=suf_drop hr
    refine CallsA.ofSt ent97 monoI fun w hs => ?_
    obtain ⟨cr,hrv⟩:=rowV_of hs (k:=1001) rfl
    obtain ⟨ra,e,hnc,hcm,hra⟩:=hrv.form
    injection e with q1 q2 q3
    subst q1 q3
    have hxl:xs.length = n':=by
     have:=(hs.own 1001 _ rfl).1
     simpa using this
    have hA:=t97A F hs.glob gb tb a c s (s.length - r.length) n' cv (.slice av n' cv) xs hv1' (by omega) hrv hxl
    refine ⟨hA.ent,monoI,fun w hs => (hA.run w hs).mono ?_⟩
    rintro e w' ⟨v,F',Lo,h1,h2,h3,rfl⟩
    refine ⟨v,F',_,h1,h2,h3,?_,rfl,fun i o e => ?_⟩
    rotate_left
    ·match i with
     | 0 => injection e with e; subst e; exact ⟨_,rfl,rfl⟩
     | 1 => injection e with e; subst e; exact ⟨_,rfl,rfl,rfl,rfl⟩
     | i + 2 => cases e
    rw [hdr]
    have hd:(r.drop n').length = r.length - n':=by simp
    have htk:(r.take n').length = n':=by rw [List.length_take]; omega
    refine ⟨[RB 159 s (r.drop n'),.row 5 1 (bcells (r.take n'))],.any,rfl,fun k => ?_,trivial,fun i g t0 cs e => ?_,rfl,rfl⟩
    ·rw [tinp_get,inp_get]
     split
     case isFalse => trivial
     match hj:k - 1000 with
     | 0 =>
      refine ⟨ht,?_⟩
      simp only [Rels]
      refine ⟨_,_,rfl,(hv1'.mono h3.le).lift,_,_,rfl,?_,_,_,rfl,⟨rfl,by decide⟩,rfl⟩
      simp only [Rel]
      refine ⟨by rw [hd,show s.length - r.length + n' = s.length - (r.length - n') by omega],?_⟩
      have:=hsm
      simp only [maxLen] at this
      simp [Lit.wf,IntKind.min,IntKind.max,IntKind.signed,IntKind.bits]
      omega
     | 1 => exact ⟨rfl,rfl,by rw [bcells_len,htk],⟨hm,av,cv,rfl,hc⟩,RelRow_of_bvals _⟩
     | j + 2 => trivial
    ·match i with
     | 0 =>
      injection e with e
      injection e with e1 e2 e3
      subst e1 e2
      exact ⟨_,rfl⟩
     | 1 => injection e with e; cases e
     | i + 2 => cases e
theorem wrap64_small {n:Nat} (h:n < 9223372036854775808):IntKind.wrap .i64 (n:Int) = n:=wrap64_id (by omega) (by omega)
theorem wrapu_emod' (n:Int):IntKind.wrap .u64 n = n % 18446744073709551616:=by
 simp [IntKind.wrap,IntKind.bits,IntKind.signed]
theorem oru_eq {z c k:Nat} (hz:z < 128 ^ k) (hc:c < 128) (hk:k < 9):IntKind.wrap .u64 ((BitVec.ofInt 64 (z:Int) ||| BitVec.ofInt 64 (((c * 128 ^ k:Nat)):Int)).toNat:Int) = ((z + c * 128 ^ k:Nat):Int):=by
 have hp:128 ^ k = 2 ^ (7 * k):=by rw [Nat.pow_mul]
 have hb:128 ^ k ≤ 128 ^ 8:=Nat.pow_le_pow_right (by omega) (by omega)
 have hcb:c * 128 ^ k ≤ 127 * 128 ^ 8:=Nat.mul_le_mul (by omega) hb
 have e:(BitVec.ofInt 64 (z:Int) ||| BitVec.ofInt 64 ((c * 128 ^ k:Nat):Int)).toNat = z + c * 128 ^ k:=by
  rw [BitVec.toNat_or,BitVec.ofInt_natCast,BitVec.ofInt_natCast,BitVec.toNat_ofNat,BitVec.toNat_ofNat,Nat.mod_eq_of_lt (by omega),Nat.mod_eq_of_lt (by omega)]
  rw [hp] at hz ⊢
  rw [Nat.or_comm,Nat.mul_comm,← Nat.two_pow_add_eq_or_of_lt hz]
  omega
 rw [e,wrapu_emod']
 omega
theorem and8 (c:UInt8):IntKind.wrap .u8 ((BitVec.ofInt 8 (c.toNat:Int) &&& BitVec.ofInt 8 127).toNat:Int) = ((c.toNat % 128:Nat):Int):=by
 have hc:=c.toNat_lt
 have e1:BitVec.ofInt 8 127 = BitVec.ofNat 8 127:=by decide
 rw [e1,BitVec.ofInt_natCast,BitVec.toNat_and,BitVec.toNat_ofNat,BitVec.toNat_ofNat,Nat.mod_eq_of_lt (show c.toNat < 2 ^ 8 by omega),Nat.mod_eq_of_lt (by decide),show (127:Nat) = 2 ^ 7 - 1 from rfl,Nat.and_two_pow_sub_one_eq_mod]
 simp only [IntKind.wrap,IntKind.bits,IntKind.signed,Bool.false_and,Int.reducePow]
 simp
 omega
theorem and1 (z:Nat) (h:z < 18446744073709551616):IntKind.wrap .u64 ((BitVec.ofInt 64 (z:Int) &&& BitVec.ofInt 64 1).toNat:Int) = ((z % 2:Nat):Int):=by
 have e1:BitVec.ofInt 64 1 = BitVec.ofNat 64 1:=by decide
 rw [wrapu_emod',e1,BitVec.ofInt_natCast,BitVec.toNat_and,BitVec.toNat_ofNat,BitVec.toNat_ofNat,Nat.mod_eq_of_lt h,Nat.mod_eq_of_lt (by decide),show (1:Nat) = 2 ^ 1 - 1 from rfl,Nat.and_two_pow_sub_one_eq_mod]
 omega
theorem xor_eq {z:Nat} (hz:z < 9223372036854775808):IntKind.wrap .i64 ((BitVec.ofInt 64 ((z / 2:Nat):Int) ^^^ BitVec.ofInt 64 (0 - ((z % 2:Nat):Int))).toNat:Int) = unz z:=by
 unfold unz
 rcases Nat.mod_two_eq_zero_or_one z with h | h
 ·rw [h,if_pos rfl]
  have e:(BitVec.ofInt 64 ((z / 2:Nat):Int) ^^^ BitVec.ofInt 64 (0 - ((0:Nat):Int))).toNat = z / 2:=by
   rw [show (0 - ((0:Nat):Int)) = ((0:Nat):Int) from rfl,BitVec.ofInt_natCast,BitVec.ofInt_natCast]
   simp
   omega
  rw [e]
  exact wrap64_small (by omega)
 ·rw [h,if_neg (by omega)]
  have e:(BitVec.ofInt 64 ((z / 2:Nat):Int) ^^^ BitVec.ofInt 64 (0 - ((1:Nat):Int))).toNat = 18446744073709551615 - z / 2:=by
   have:BitVec.ofInt 64 (0 - ((1:Nat):Int)) = BitVec.allOnes 64:=by decide
   rw [this,BitVec.ofInt_natCast,BitVec.xor_allOnes,BitVec.toNat_not,BitVec.toNat_ofNat,Nat.mod_eq_of_lt (by omega)]
  rw [e]
  simp only [IntKind.wrap,IntKind.bits,IntKind.signed,Bool.true_and,decide_eq_true_eq,ge_iff_le,Nat.reduceSub,Int.reducePow]
  split <;> omega
def valB:List UInt8 → Nat
 | [] => 0
 | c :: l => c.toNat % 128 + 128 * valB l
theorem valB_app (c:UInt8):∀ p:List UInt8,valB (p ++ [c]) = valB p + c.toNat % 128 * 128 ^ p.length
 | [] => by simp [valB]
 | x :: p => by
  simp only [List.cons_append,valB,valB_app c p,List.length_cons,Nat.pow_succ]
  rw [Nat.mul_add,Nat.add_assoc,Nat.mul_comm 128 (c.toNat % 128 * 128 ^ p.length),Nat.mul_assoc]
theorem valB_lt:∀ p:List UInt8,valB p < 128 ^ p.length
 | [] => by simp [valB]
 | c :: p => by
  have h:=valB_lt p
  have hc:c.toNat % 128 < 128:=Nat.mod_lt _ (by omega)
  simp only [valB,List.length_cons,Nat.pow_succ]
  omega
def Byte1 (t:Nat) (s r:List UInt8):List TO → C → Prop:=fun Mo c => (r = [] ∧ Mo = [RB t s []] ∧ c = .tup [.int .u8 0,.opq 1]) ∨ ∃ x r',r = x :: r' ∧ Mo = [RB t s r'] ∧ c = .tup [bcell x,.opq 0]
theorem t98p (g:Nat) (s r:List UInt8) (hr:r <:+ s):CallsT PZ 98 [adr g 0] [RB (pin g 159) s r] (Byte1 (pin g 159) s r):=by
 have e:([adr g 0]:List C).map (C.toOwn1 g) = [.own 1000 0]:=by
  simp only [List.map_cons,List.map_nil,toOwn1_adr g 0 (by omega)]
 have h0:CallsTX PZ 98 [.own 1000 0] [RB 159 s r] (Byte1 159 s r) (fun _ => False):=by
  cases r with
  | nil => exact (t98n s).toX.imp (fun Mo c ⟨h1,h2⟩ => .inl ⟨rfl,h1,h2⟩) fun _ h => h
  | cons x r => exact (t98c s x r hr).toX.imp (fun Mo c ⟨h1,h2⟩ => .inr ⟨x,r,rfl,h1,h2⟩) fun _ h => h
 refine CallsTX.noPan ((CallsTX.pinned g (by omega) (by rw [e]; exact h0)).imp ?_ fun _ h => h)
 rintro Mo c ⟨Mo0,⟨h1,rfl,h2⟩ | ⟨x,r',h1,rfl,h2⟩,rfl⟩
 ·exact .inl ⟨h1,rfl,h2⟩
 ·exact .inr ⟨x,r',h1,rfl,h2⟩
section
variable {L:TL} {ρ:TEnv}
theorem byteE {args args':List C} {t:Nat} {s r:List UInt8} {K:TL → TEnv → C → Prop} (h:CallsT PZ 98 args' [RB t s r] (Byte1 t s r))
  (hs:L.sub [1000] = some [RB t s r]) (ha:(args.map fun c => c.canA.ren (toIn [1000] 1000)) = args')
  (k1:r = [] → K ((L.dels [1000]).puts [1000] [RB t s []]) ρ (.tup [.int .u8 0,.opq 1])) (k2:∀ x r',r = x :: r' → K ((L.dels [1000]).puts [1000] [RB t s r']) ρ (.tup [bcell x,.opq 0])):CallT PZ 98 args L ρ K:=by
 subst ha
 refine .mk ⟨[],[1000],[1000],L,_,_,.inl rfl,hs,rfl,rfl,rfl,rfl,h,?_⟩
 rintro v Mo (⟨e1,rfl,rfl⟩ | ⟨x,r',e1,rfl,rfl⟩) hw hwo
 ·refine ⟨rfl,?_⟩
  rw [rows1 hs]
  exact k1 e1
 ·refine ⟨rfl,?_⟩
  rw [rows1 hs]
  exact k2 x r' e1
end
def NL (g:Nat) (s p r:List UInt8):TL:=[(1,.box 132 [adr g 0]),(18,.row 5 1 (bcells p)),(1000,RB (pin g 159) s r)]
theorem numGo_end {k z:Nat} {l:List UInt8} (h:9 ≤ k):numGo (9 - k) k z l = none:=by
 rw [show 9 - k = 0 by omega]; rfl
theorem app_bcells (p:List UInt8) (x:UInt8):bcells p ++ [[bcell x]] = bcells (p ++ [x]):=by simp [bcells]
theorem t77 (g:Nat) (s r:List UInt8) (hr:r <:+ s):RdOk 77 [.agg [adr g 0]] (pin g 159) s r (numD r) IC:=by
 refine callsTX_facts Tryz.func77 facts77 rfl fun hw ho => ?_
 refine LoopT.mk ⟨List UInt8 × List UInt8,([],r),fun y => y.1.length ≤ 9 ∧ numGo (9 - y.1.length) y.1.length (valB y.1) y.2 = numD r ∧ y.2 <:+ r,[3],fun _ => [.rw 18],fun y => NL g s y.1 y.2,fun y => y.2.length + 1,⟨by simp,rfl,List.suffix_refl r⟩,⟨nil_rw rfl rfl,trivial⟩,
  ⟨.inl ⟨_,rfl,.inl ⟨rfl,rfl⟩⟩,.inr ⟨rfl,5,1,rfl⟩,.inl ⟨_,rfl,.inl ⟨rfl,rfl⟩⟩,trivial⟩,fun _ => rfl,fun _ => rfl,?_⟩
 rintro ⟨p,rest⟩ ⟨hp9,hinv,hsuf⟩ _ _
 simp only at hp9 hinv hsuf
 refine byteE (t98p g s rest (hsuf.trans hr)) rfl rfl (fun e => ?_) fun x r' e => ?_
 ·refine app1r p.length rfl bcells_len (by omega) (by omega) ?_
  subst e
  refine panT rfl ⟨rfl,?_⟩
  rw [← hinv]
  cases (9 - p.length) <;> rfl
 ·subst e
  refine app1r p.length rfl bcells_len (by omega) (by omega) ?_
  have hx:=x.toNat_lt
  have hlen:(bcells p ++ [[bcell x]]).length = p.length + 1:=by simp [bcells]
  have hsz:x.toNat % 128 < 128:=Nat.mod_lt _ (by omega)
  refine brn_p (fun h9 => ?_) (fun h9 => ?_)
  ·have h9:(9:Int) < ((bcells p ++ [[bcell x]]).length:Int):=h9
   rw [hlen] at h9
   refine panT rfl ⟨rfl,?_⟩
   rw [← hinv]
   exact numGo_end (by omega)
  have h9:¬ (9:Int) < ((bcells p ++ [[bcell x]]).length:Int):=h9
  rw [hlen] at h9
  have h9e:9 - p.length = (9 - (p.length + 1)) + 1:=by omega
  rw [h9e] at hinv
  simp only [numGo] at hinv
  have hvl:p.length + 1 = (p ++ [x]).length:=by simp
  have hva:=valB_app x p
  -- on with the next byte
  have on:¬ x.toNat < 128 → numGo (9 - (p ++ [x]).length) (p ++ [x]).length (valB (p ++ [x])) r' = numD r:=fun hhi => by
   rw [if_neg hhi] at hinv
   rw [← hvl,hva,show x.toNat % 128 = x.toNat - 128 by omega]
   exact hinv
  have fin:x.toNat < 128 → (0 < x.toNat ∨ p.length = 0) → numD r = some (unz (valB (p ++ [x])),r'):=fun hlo h0 => by
   rw [if_pos hlo,if_pos h0] at hinv
   rw [← hinv,hva,Nat.mod_eq_of_lt hlo]
  have hsf:r' <:+ r:=(List.suffix_cons x r').trans hsuf
  have heq:bcells p ++ [[bcell x]] = bcells (p ++ [x]):=app_bcells p x
  refine brn_p (fun h1 => ?_) (fun h1 => ?_)
  ·have h1:(1:Int) < ((bcells p ++ [[bcell x]]).length:Int):=h1
   rw [hlen] at h1
   refine brn_p (fun h0 => ?_) (fun h0 => ?_)
   ·have h0:x.toNat = 0:=by omega
    refine panT rfl ⟨rfl,?_⟩
    rw [← hinv,if_pos (by omega),if_neg (by omega)]
   have h0:0 < x.toNat:=by omega
   refine brn_p (fun hlow => ?_) (fun hhi => ?_)
   ·have hlow:x.toNat < 128:=by omega
    have hq9:(p ++ [x]).length ≤ 9:=by rw [← hvl]; omega
    have hvlt:=valB_lt (p ++ [x])
    have hp9':128 ^ (p ++ [x]).length ≤ 128 ^ 9:=Nat.pow_le_pow_right (by omega) hq9
    have hfin:=fin hlow (.inl h0)
    refine loopN (p ++ [x]).length 40 [6] (0:Nat) (fun z => [.int .u64 z]) (fun _ => [(1,.box 132 [adr g 0]),(1000,RB (pin g 159) s r')]) (fun k z => z = valB ((p ++ [x]).take k)) rfl (same_keys rfl) ⟨same_keys rfl,trivial⟩
     ⟨.inl ⟨_,rfl,.inl ⟨rfl,rfl⟩⟩,.inl ⟨_,rfl,.inl ⟨rfl,rfl⟩⟩,trivial⟩ (fun _ => rfl) (fun _ => rfl) fun k z hk hz _ _ _ => ?_
    refine brn_p (fun hlt => ?_) (fun hge => ?_)
    ·have hlt:(k:Int) < ((bcells p ++ [[bcell x]]).length:Int):=hlt
     rw [heq,bcells_len] at hlt
     have hlt:k < (p ++ [x]).length:=by omega
     refine withGet hlt fun y hy _ => ?_
     have hget:(bcells p ++ [[bcell x]])[((k:Nat):Int).toNat]? = some [bcell y]:=by
      rw [heq,Int.toNat_natCast,bcells,List.getElem?_map,hy]; rfl
     refine IdxT.mk ⟨[bcell y],by omega,hget,rfl,?_⟩
     have hyl:=y.toNat_lt
     have hk9:k < 9:=by omega
     have hpk:128 ^ k ≤ 128 ^ 8:=Nat.pow_le_pow_right (by omega) (by omega)
     have hc:y.toNat % 128 < 128:=Nat.mod_lt _ (by omega)
     have hcb:y.toNat % 128 * 128 ^ k ≤ 127 * 128 ^ 8:=Nat.mul_le_mul (by omega) hpk
     have hzl:z < 128 ^ k:=by
      rw [hz]
      have:=valB_lt ((p ++ [x]).take k)
      rwa [List.length_take,Nat.min_eq_left (by omega)] at this
     refine Fit.to (m:=((y.toNat % 128:Nat):Int)) ((congrArg (IntKind.wrap .u64) (and8 y)).trans (by rw [wrapu_emod']; omega)) ?_
     refine Fit.to (m:=((7 * k:Nat):Int)) (by rw [wrap64_id (by omega) (by omega)]; omega) ?_
     refine ⟨by omega,Fit.to (m:=((y.toNat % 128 * 128 ^ k:Nat):Int)) ?_ ?_⟩
     ·rw [wrapu_emod',show min (((7 * k:Nat):Int)).toNat IntKind.u64.bits = 7 * k by simp only [Int.toNat_natCast,IntKind.bits]; omega]
      have:((y.toNat % 128:Nat):Int) * 2 ^ (7 * k) = ((y.toNat % 128 * 128 ^ k:Nat):Int):=by
       rw [show (128:Nat) ^ k = 2 ^ (7 * k) by rw [Nat.pow_mul]]
       push_cast
       rfl
      rw [this]
      omega
     refine Fit.in64 (by omega) (by omega) ?_
     refine ⟨(k + 1,z + y.toNat % 128 * 128 ^ k),⟨by omega,?_⟩,⟨nextI,⟨.inr (.inl ⟨congrArg (C.int .u64) (oru_eq hzl hc hk9),rfl⟩),trivial⟩⟩,⟨.inl ⟨_,rfl,.inl ⟨rfl,rfl⟩⟩,.inl ⟨_,rfl,.inl ⟨rfl,rfl⟩⟩,trivial⟩,(by show (p ++ [x]).length - (k + 1) < (p ++ [x]).length - k; omega)⟩
     show _ = valB ((p ++ [x]).take (k + 1))
     rw [List.take_add_one,hy,hz]
     simp only [Option.toList]
     rw [valB_app,List.length_take,Nat.min_eq_left (by omega)]
    ·have hge:¬ (k:Int) < ((bcells p ++ [[bcell x]]).length:Int):=hge
     rw [heq,bcells_len] at hge
     have hge:(p ++ [x]).length ≤ k:=by omega
     have hz:z = valB (p ++ [x]):=by rw [hz,List.take_of_length_le hge]
     have hz63:z < 9223372036854775808:=by rw [hz]; omega
     refine ⟨by decide,?_⟩
     refine Fit.to (m:=((z / 2:Nat):Int)) (by
      show IntKind.wrap .i64 ((z:Int).fdiv 2) = _
      rw [Int.fdiv_eq_ediv_of_nonneg _ (by decide)]
      exact wrap64_id (by omega) (by omega)) ?_
     refine Fit.to (m:=((z % 2:Nat):Int)) ((congrArg (IntKind.wrap .i64) (and1 z (by omega))).trans (wrap64_id (by omega) (by omega))) ?_
     refine Fit.to (m:=0 - ((z % 2:Nat):Int)) (wrap64_id (by omega) (by omega)) ?_
     refine retR [1000] rfl rfl rfl (congrArg (C.int .i64) (xor_eq hz63)) ⟨_,r',?_,hsf,rfl,rfl⟩
     rw [hfin,hz]
   ·have hhi:¬ x.toNat < 128:=by omega
    exact ⟨(p ++ [x],r'),⟨by rw [← hvl]; omega,on hhi,hsf⟩,⟨same_keys rfl,trivial⟩,⟨.inl ⟨_,rfl,.inl ⟨rfl,rfl⟩⟩,.inl ⟨_,rfl,.inl ⟨congrArg (TO.row 5 1) heq,rfl⟩⟩,.inl ⟨_,rfl,.inl ⟨rfl,rfl⟩⟩,trivial⟩,Nat.lt_succ_self _⟩
  ·have h1:¬ (1:Int) < ((bcells p ++ [[bcell x]]).length:Int):=h1
   rw [hlen] at h1
   have h1:p.length = 0:=by omega
   refine brn_p (fun hlow => ?_) (fun hhi => ?_)
   ·have hlow:x.toNat < 128:=by omega
    have hq9:(p ++ [x]).length ≤ 9:=by rw [← hvl]; omega
    have hvlt:=valB_lt (p ++ [x])
    have hp9':128 ^ (p ++ [x]).length ≤ 128 ^ 9:=Nat.pow_le_pow_right (by omega) hq9
    have hfin:=fin hlow (.inr h1)
    refine loopN (p ++ [x]).length 40 [6] (0:Nat) (fun z => [.int .u64 z]) (fun _ => [(1,.box 132 [adr g 0]),(1000,RB (pin g 159) s r')]) (fun k z => z = valB ((p ++ [x]).take k)) rfl (same_keys rfl) ⟨same_keys rfl,trivial⟩
     ⟨.inl ⟨_,rfl,.inl ⟨rfl,rfl⟩⟩,.inl ⟨_,rfl,.inl ⟨rfl,rfl⟩⟩,trivial⟩ (fun _ => rfl) (fun _ => rfl) fun k z hk hz _ _ _ => ?_
    refine brn_p (fun hlt => ?_) (fun hge => ?_)
    ·have hlt:(k:Int) < ((bcells p ++ [[bcell x]]).length:Int):=hlt
     rw [heq,bcells_len] at hlt
     have hlt:k < (p ++ [x]).length:=by omega
     refine withGet hlt fun y hy _ => ?_
     have hget:(bcells p ++ [[bcell x]])[((k:Nat):Int).toNat]? = some [bcell y]:=by
      rw [heq,Int.toNat_natCast,bcells,List.getElem?_map,hy]; rfl
     refine IdxT.mk ⟨[bcell y],by omega,hget,rfl,?_⟩
     have hyl:=y.toNat_lt
     have hk9:k < 9:=by omega
     have hpk:128 ^ k ≤ 128 ^ 8:=Nat.pow_le_pow_right (by omega) (by omega)
     have hc:y.toNat % 128 < 128:=Nat.mod_lt _ (by omega)
     have hcb:y.toNat % 128 * 128 ^ k ≤ 127 * 128 ^ 8:=Nat.mul_le_mul (by omega) hpk
     have hzl:z < 128 ^ k:=by
      rw [hz]
      have:=valB_lt ((p ++ [x]).take k)
      rwa [List.length_take,Nat.min_eq_left (by omega)] at this
     refine Fit.to (m:=((y.toNat % 128:Nat):Int)) ((congrArg (IntKind.wrap .u64) (and8 y)).trans (by rw [wrapu_emod']; omega)) ?_
     refine Fit.to (m:=((7 * k:Nat):Int)) (by rw [wrap64_id (by omega) (by omega)]; omega) ?_
     refine ⟨by omega,Fit.to (m:=((y.toNat % 128 * 128 ^ k:Nat):Int)) ?_ ?_⟩
     ·rw [wrapu_emod',show min (((7 * k:Nat):Int)).toNat IntKind.u64.bits = 7 * k by simp only [Int.toNat_natCast,IntKind.bits]; omega]
      have:((y.toNat % 128:Nat):Int) * 2 ^ (7 * k) = ((y.toNat % 128 * 128 ^ k:Nat):Int):=by
       rw [show (128:Nat) ^ k = 2 ^ (7 * k) by rw [Nat.pow_mul]]
       push_cast
       rfl
      rw [this]
      omega
     refine Fit.in64 (by omega) (by omega) ?_
     refine ⟨(k + 1,z + y.toNat % 128 * 128 ^ k),⟨by omega,?_⟩,⟨nextI,⟨.inr (.inl ⟨congrArg (C.int .u64) (oru_eq hzl hc hk9),rfl⟩),trivial⟩⟩,⟨.inl ⟨_,rfl,.inl ⟨rfl,rfl⟩⟩,.inl ⟨_,rfl,.inl ⟨rfl,rfl⟩⟩,trivial⟩,(by show (p ++ [x]).length - (k + 1) < (p ++ [x]).length - k; omega)⟩
     show _ = valB ((p ++ [x]).take (k + 1))
     rw [List.take_add_one,hy,hz]
     simp only [Option.toList]
     rw [valB_app,List.length_take,Nat.min_eq_left (by omega)]
    ·have hge:¬ (k:Int) < ((bcells p ++ [[bcell x]]).length:Int):=hge
     rw [heq,bcells_len] at hge
     have hge:(p ++ [x]).length ≤ k:=by omega
     have hz:z = valB (p ++ [x]):=by rw [hz,List.take_of_length_le hge]
     have hz63:z < 9223372036854775808:=by rw [hz]; omega
     refine ⟨by decide,?_⟩
     refine Fit.to (m:=((z / 2:Nat):Int)) (by
      show IntKind.wrap .i64 ((z:Int).fdiv 2) = _
      rw [Int.fdiv_eq_ediv_of_nonneg _ (by decide)]
      exact wrap64_id (by omega) (by omega)) ?_
     refine Fit.to (m:=((z % 2:Nat):Int)) ((congrArg (IntKind.wrap .i64) (and1 z (by omega))).trans (wrap64_id (by omega) (by omega))) ?_
     refine Fit.to (m:=0 - ((z % 2:Nat):Int)) (wrap64_id (by omega) (by omega)) ?_
     refine retR [1000] rfl rfl rfl (congrArg (C.int .i64) (xor_eq hz63)) ⟨_,r',?_,hsf,rfl,rfl⟩
     rw [hfin,hz]
   ·have hhi:¬ x.toNat < 128:=by omega
    exact ⟨(p ++ [x],r'),⟨by rw [← hvl]; omega,on hhi,hsf⟩,⟨same_keys rfl,trivial⟩,⟨.inl ⟨_,rfl,.inl ⟨rfl,rfl⟩⟩,.inl ⟨_,rfl,.inl ⟨congrArg (TO.row 5 1) heq,rfl⟩⟩,.inl ⟨_,rfl,.inl ⟨rfl,rfl⟩⟩,trivial⟩,Nat.lt_succ_self _⟩
theorem t78p (g:Nat) (s r:List UInt8) (hr:r <:+ s):CallsT PZ 78 [adr g 0] [RB (pin g 159) s r] (Ret [RB (pin g 159) s r] (IC r.length)):=by
 have e:([adr g 0]:List C).map (C.toOwn1 g) = [.own 1000 0]:=by
  simp only [List.map_cons,List.map_nil,toOwn1_adr g 0 (by omega)]
 refine CallsTX.noPan ((CallsTX.pinned g (by omega) (by rw [e]; exact (t78o s r hr).toX)).imp ?_ fun _ h => h)
 rintro Mo c ⟨Mo0,⟨rfl,h2⟩,rfl⟩
 exact ⟨rfl,h2⟩
theorem CallsTI.pinned {P:Program} {f:Nat} {args:List C} {t:Nat} {cs:List C} {Ls:List TO} {R:List TO → C → Prop} (g:Nat) (ht:t < 1048576) (h:CallsTI P f (args.map (C.toOwn1 g)) (.box t cs :: Ls) R) :
  CallsTI P f args (.box (pin g t) cs :: Ls) (fun Mo c => ∃ Mo0,R Mo0 c ∧ Mo = retag (pin g t) Mo0):=by
 refine ⟨fun F Li vs h1 h2 h3 => ?_⟩
 obtain ⟨g',t',us,e0,hty⟩:=head_box h2
 obtain ⟨rfl,rfl⟩:=pin_inj ht hty
 have hget:(inp Li).get 1000 = some (.box g t us):=by rw [inp_get,if_pos (Nat.le_refl _)]; exact e0
 have h2':=tl_retag (t:=t) h2 e0 ⟨ht,.inl rfl⟩
 have hA:=h.out F Li vs h1 h2' (h3.map fun c _ v hv => Rel.mp (own_leaf hget) 3 hv)
 refine ⟨hA.ent,monoI,fun w hs => (hA.run w hs).mono ?_⟩
 rintro e w' ⟨v,F',Lo,k1,k2,k3,⟨Mo,c,q1,q2,q3,q4,q5⟩,hip⟩
 obtain ⟨cs',e1⟩:=q4 0 g t us e0
 refine ⟨v,F',Lo,k1,k2,k3,⟨retag (pin g t) Mo,c,?_,tl_retag q2 e1 ⟨ht,.inr rfl⟩,q3,q4,Mo,q5,rfl⟩,hip⟩
 rw [← q1]
 match Mo with
 | [] => rfl
 | .row .. :: l => rfl
 | .box .. :: l => rfl
theorem CallsTI.imp {P:Program} {f:Nat} {args:List C} {Lin:List TO} {R R':List TO → C → Prop} (h:CallsTI P f args Lin R) (hk:∀ Mo c,R Mo c → R' Mo c):CallsTI P f args Lin R':=by
 refine ⟨fun F Li vs h1 h2 h3 => ?_⟩
 have hA:=h.out F Li vs h1 h2 h3
 refine ⟨hA.ent,monoI,fun w hs => (hA.run w hs).mono ?_⟩
 rintro e w' ⟨v,F',Lo,k1,k2,k3,⟨Mo,c,q1,q2,q3,q4,q5⟩,hip⟩
 exact ⟨v,F',Lo,k1,k2,k3,⟨Mo,c,q1,q2,q3,q4,hk _ _ q5⟩,hip⟩
theorem t97p (g:Nat) (s r:List UInt8) (hr:r <:+ s) (n:Nat) (hn:n ≤ r.length) (els:List (List C)) (hl:els.length = n) :
  CallsTI PZ 97 [adr g 0,.rw 1001] [RB (pin g 159) s r,.row 5 1 els] (fun Mo c => Mo = [RB (pin g 159) s (r.drop n),.row 5 1 (bcells (r.take n))] ∧ c = .any):=by
 have e:([adr g 0,.rw 1001]:List C).map (C.toOwn1 g) = [.own 1000 0,.rw 1001]:=by
  simp only [List.map_cons,List.map_nil,toOwn1_adr g 0 (by omega)]
  rfl
 refine CallsTI.imp (CallsTI.pinned g (by omega) (by rw [e]; exact t97o s r hr n hn els hl)) ?_
 rintro Mo c ⟨Mo0,⟨rfl,h2⟩,rfl⟩
 exact ⟨rfl,h2⟩
section
variable {L:TL} {ρ:TEnv}
theorem readE (kr:Nat) {args args':List C} {t n:Nat} {s r:List UInt8} {els:List (List C)} {K:TL → TEnv → C → Prop} (h:CallsTI PZ 97 args' [RB t s r,.row 5 1 els] (fun Mo c => Mo = [RB t s (r.drop n),.row 5 1 (bcells (r.take n))] ∧ c = .any))
  (hs:L.sub [1000,kr] = some [RB t s r,.row 5 1 els]) (hc:T.nodup? [1000,kr] = true) (ha:(args.map fun c => c.canA.ren (toIn [1000,kr] 1000)) = args')
  (k:K ((L.dels [1000,kr]).puts [1000,kr] [RB t s (r.drop n),.row 5 1 (bcells (r.take n))]) ρ .any):CallT PZ 97 args L ρ K:=by
 subst ha
 refine .inpl [1000,kr] _ _ hs hc h ?_
 rintro v Mo ⟨rfl,rfl⟩ hw hwo
 exact ⟨rfl,k⟩
end
theorem len_ok {t:Nat} {s r:List UInt8} (hr:r <:+ s) (hs:s.length ≤ 1073741824):r.length ≤ 1073741824:=Nat.le_trans (suf_len hr) hs
theorem t74 (g:Nat) (s r:List UInt8) (hr:r <:+ s) (hs:s.length ≤ 1073741824):RdOk 74 [.agg [adr g 0]] (pin g 159) s r (bytesD r) (fun b => .sl (bcells b)):=by
 refine callsTX_facts Tryz.func74 facts74 rfl fun hw ho => ?_
 refine rdN 1000 (t77 g s r hr) rfl rfl rfl rfl (fun h => ⟨rfl,by simp only [bytesD,h]⟩) fun n r2 e hsf _ => ?_
 have hr2:=hsf.trans hr
 have hl2:=len_ok (t:=0) hr2 hs
 refine brn_p (fun h0 => ?_) (fun h0 => ?_)
 ·refine panT rfl ⟨rfl,?_⟩
  simp only [bytesD,e,takeD]
  rw [if_neg (by omega)]
 refine callO [1000] [1000] (t78p g s r2 hr2) rfl rfl rfl rfl rfl fun _ _ => ?_
 refine brn_p (fun h1 => ?_) (fun h1 => ?_)
 ·refine panT rfl ⟨rfl,?_⟩
  simp only [bytesD,e,takeD]
  rw [if_neg (by omega)]
 refine MakePt.mk (by omega) (Int.le_refl _) (by omega) (by simp only [maxLen]; omega) ?_
 refine readE 18 (t97p g s r2 hr2 n.toNat (by omega) _ (by simp)) rfl rfl rfl ?_
 have ht:bytesD r = some (r2.take n.toNat,r2.drop n.toNat):=by
  simp only [bytesD,e]
  exact takeD_pos (by omega) (by omega)
 refine retRF [18] [1000] ⟨_,_,rfl,rfl,rfl,?_⟩
 exact ⟨_,_,ht,(List.drop_suffix _ _).trans hsf,rfl,rfl⟩
theorem t73 (g:Nat) (s r:List UInt8) (hr:r <:+ s) (hs:s.length ≤ 1073741824):RdOk 73 [.pt [adr g 0] 0] (pin g 159) s r (textD r) C.str:=by
 refine callsTX_facts Tryz.func73 facts73 rfl fun hw ho => ?_
 refine rdN 1000 (t74 g s r hr hs) rfl rfl rfl rfl (fun h => ⟨rfl,by simp only [textD,h]⟩) fun b r2 e hsf _ => ?_
 refine BytesT.mk ⟨b,rfl,?_⟩
 refine retR [1000] rfl rfl rfl rfl ⟨_,r2,?_,hsf,rfl,rfl⟩
 simp only [textD,e]
def repO {α:Type} (a:List α):Option (List α × List UInt8) → Option (List α × List UInt8)
 | some (xs,r) => some (a ++ xs,r)
 | none => none
theorem repO_step {α:Type} {f:Dec α} {a:List α} {n:Nat} {l r:List UInt8} {x:α} (h:f l = some (x,r)):repO a (repD f (n + 1) l) = repO (a ++ [x]) (repD f n r):=by
 simp only [repD,h]
 cases repD f n r with
 | none => rfl
 | some p => simp [repO]
theorem repO_none {α:Type} {f:Dec α} {a:List α} {n:Nat} {l:List UInt8} (h:f l = none):repO a (repD f (n + 1) l) = none:=by simp only [repD,h]; rfl
theorem repO_nil {α:Type} (o:Option (List α × List UInt8)):repO [] o = o:=by cases o <;> simp [repO]
def RdR (g t:Nat) (cell:List (List C)) (s r:List UInt8):TL:=[(2,.box 132 [adr g 0]),(26,.row t 1 cell),(1000,RB (pin g 159) s r)]
theorem t75 (g:Nat) (s r:List UInt8) (hr:r <:+ s) (hs:s.length ≤ 1073741824):RdOk 75 [.agg [adr g 0],.fn 73 [] [.pt [adr g 0] 0]] (pin g 159) s r (listD textD r) (fun l => .sl (strs l)):=by
 refine callsTX_facts Tryz.func75 facts75 rfl fun hw ho => ?_
 refine rdN 1000 (t77 g s r hr) rfl rfl rfl rfl (fun h => ⟨rfl,by simp only [listD,h]⟩) fun n r2 e hsf _ => ?_
 have hr2:=hsf.trans hr
 have hl2:=len_ok (t:=0) hr2 hs
 refine brn_p (fun h0 => ?_) (fun h0 => ?_)
 ·refine panT rfl ⟨rfl,?_⟩
  simp only [listD,e]
  rw [if_neg (by omega)]
 refine callO [1000] [1000] (t78p g s r2 hr2) rfl rfl rfl rfl rfl fun _ _ => ?_
 refine brn_p (fun h1 => ?_) (fun h1 => ?_)
 ·refine panT rfl ⟨rfl,?_⟩
  simp only [listD,e]
  rw [if_neg (by omega)]
 have hl:listD textD r = repO [] (repD textD n.toNat r2):=by
  simp only [listD,e]
  rw [if_pos ⟨by omega,by omega⟩,repO_nil]
 refine loopN n.toNat 20 [6] (([],r2):List ByteArray × List UInt8) (fun _ => [.rw 26]) (fun y => RdR g 9 (strs y.1) s y.2) (fun k y => y.1.length = k ∧ repO y.1 (repD textD (n.toNat - k) y.2) = listD textD r ∧ y.2 <:+ r) ⟨rfl,hl.symm,hsf⟩ (same_keys rfl) ⟨nil_rw rfl rfl,trivial⟩
  ⟨.inl ⟨_,rfl,.inl ⟨rfl,rfl⟩⟩,.inr ⟨rfl,9,1,rfl⟩,.inl ⟨_,rfl,.inl ⟨rfl,rfl⟩⟩,trivial⟩ (fun _ => rfl) (fun _ => rfl) ?_
 rintro k ⟨a,l⟩ hk ⟨hak,hinv,hlr⟩ _ _ _
 simp only at hak hinv hlr
 refine brn_p (fun hlt => ?_) (fun hge => ?_)
 ·have hlt:k < n.toNat:=by omega
  have h6:n.toNat - k = (n.toNat - (k + 1)) + 1:=by omega
  refine rdN 1000 (t73 g s l (hlr.trans hr) hs) rfl rfl rfl rfl (fun h => ⟨rfl,?_⟩) fun x r3 e2 hs3 _ => ?_
  ·rw [← hinv,h6,repO_none h]
  refine app1r k rfl (by rw [strs_len']; exact hak) (by omega) (by omega) ?_
  refine Fit.in64 (by omega) (by omega) ?_
  refine ⟨(k + 1,(a ++ [x],r3)),⟨by omega,by simp [hak],?_,hs3.trans hlr⟩,⟨nextI,⟨same_keys rfl,trivial⟩⟩,⟨.inl ⟨_,rfl,.inl ⟨rfl,rfl⟩⟩,.inl ⟨_,rfl,.inl ⟨?_,rfl⟩⟩,.inl ⟨_,rfl,.inl ⟨rfl,rfl⟩⟩,trivial⟩,nextM hlt⟩
  ·rw [← hinv,h6,repO_step e2]
  ·exact congrArg (TO.row 9 1) (List.map_append (f:=fun n => [C.str n]) (l₁:=a) (l₂:=[x])).symm
 ·have:n.toNat - k = 0:=by omega
  rw [this] at hinv
  refine retRF [26] [1000] ⟨_,_,rfl,rfl,rfl,?_⟩
  exact ⟨a,l,by rw [← hinv]; simp [repD,repO],hlr,rfl,rfl⟩
theorem t76 (g:Nat) (s r:List UInt8) (hr:r <:+ s) (hs:s.length ≤ 1073741824):RdOk 76 [.agg [adr g 0],.fn 77 [.agg [adr g 0]] []] (pin g 159) s r (listD numD r) (fun l => .sl (ics l)):=by
 refine callsTX_facts Tryz.func76 facts76 rfl fun hw ho => ?_
 refine rdN 1000 (t77 g s r hr) rfl rfl rfl rfl (fun h => ⟨rfl,by simp only [listD,h]⟩) fun n r2 e hsf _ => ?_
 have hr2:=hsf.trans hr
 have hl2:=len_ok (t:=0) hr2 hs
 refine brn_p (fun h0 => ?_) (fun h0 => ?_)
 ·refine panT rfl ⟨rfl,?_⟩
  simp only [listD,e]
  rw [if_neg (by omega)]
 refine callO [1000] [1000] (t78p g s r2 hr2) rfl rfl rfl rfl rfl fun _ _ => ?_
 refine brn_p (fun h1 => ?_) (fun h1 => ?_)
 ·refine panT rfl ⟨rfl,?_⟩
  simp only [listD,e]
  rw [if_neg (by omega)]
 have hl:listD numD r = repO [] (repD numD n.toNat r2):=by
  simp only [listD,e]
  rw [if_pos ⟨by omega,by omega⟩,repO_nil]
 refine loopN n.toNat 20 [6] (([],r2):List Int × List UInt8) (fun _ => [.rw 26]) (fun y => RdR g 3 (ics y.1) s y.2) (fun k y => y.1.length = k ∧ repO y.1 (repD numD (n.toNat - k) y.2) = listD numD r ∧ y.2 <:+ r) ⟨rfl,hl.symm,hsf⟩ (same_keys rfl) ⟨nil_rw rfl rfl,trivial⟩
  ⟨.inl ⟨_,rfl,.inl ⟨rfl,rfl⟩⟩,.inr ⟨rfl,3,1,rfl⟩,.inl ⟨_,rfl,.inl ⟨rfl,rfl⟩⟩,trivial⟩ (fun _ => rfl) (fun _ => rfl) ?_
 rintro k ⟨a,l⟩ hk ⟨hak,hinv,hlr⟩ _ _ _
 simp only at hak hinv hlr
 refine brn_p (fun hlt => ?_) (fun hge => ?_)
 ·have hlt:k < n.toNat:=by omega
  have h6:n.toNat - k = (n.toNat - (k + 1)) + 1:=by omega
  refine rdN 1000 (t77 g s l (hlr.trans hr)) rfl rfl rfl rfl (fun h => ⟨rfl,?_⟩) fun x r3 e2 hs3 _ => ?_
  ·rw [← hinv,h6,repO_none h]
  refine app1r k rfl (by simpa [ics] using hak) (by omega) (by omega) ?_
  refine Fit.in64 (by omega) (by omega) ?_
  refine ⟨(k + 1,(a ++ [x],r3)),⟨by omega,by simp [hak],?_,hs3.trans hlr⟩,⟨nextI,⟨same_keys rfl,trivial⟩⟩,⟨.inl ⟨_,rfl,.inl ⟨rfl,rfl⟩⟩,.inl ⟨_,rfl,.inl ⟨?_,rfl⟩⟩,.inl ⟨_,rfl,.inl ⟨rfl,rfl⟩⟩,trivial⟩,nextM hlt⟩
  ·rw [← hinv,h6,repO_step e2]
  ·exact congrArg (TO.row 3 1) (List.map_append (f:=fun n => [IC n]) (l₁:=a) (l₂:=[x])).symm
 ·have:n.toNat - k = 0:=by omega
  rw [this] at hinv
  refine retRF [26] [1000] ⟨_,_,rfl,rfl,rfl,?_⟩
  exact ⟨a,l,by rw [← hinv]; simp [repD,repO],hlr,rfl,rfl⟩
theorem ub_le:∀ {bs:List Own} {n m:Nat},Bxs bs [n,m] → ∃ g t cs g' t' cs',bs = [.box g t cs,.box g' t' cs'] ∧ cs.length = n ∧ cs'.length = m
 | [],_,_,h => h.elim
 | [_],_,_,h => h.2.elim
 | [o,p],n,m,h => by
  cases o with
  | row => exact h.1.elim
  | box g t cs =>
   cases p with
   | row => exact h.2.1.elim
   | box g' t' cs' => exact ⟨g,t,cs,g',t',cs',rfl,h.1,h.2.1⟩
 | _ :: _ :: _ :: _,_,_,h => h.2.2.elim
def outI (v:Value):List (List Value):=match v with
 | .iface _ (.int _ n) => [[.string ⟨#[]⟩,.slice none 0 0,.slice none 0 0,.int .i64 0,.slice none 0 0],[.int .i64 n]]
 | _ => []
theorem idle70 (bs:List Own) (w:World) (hb:Bxs bs [5,1]):CallsD PZ 70 (bs.map ptrO).toArray .returning w fun e u' w' => e = .returned (.tuple #[]) ∧ u' = .returning ∧ w' = w:=by
 have hn:Tryz.f70.ntmps = 13:=by kernel_rfl
 have hr:Tryz.f70.results = #[]:=by kernel_rfl
 obtain ⟨g,t,cs,g',t',cs',rfl,_,_⟩:=ub_le hb
 refine callsD_of_wpS Tryz.func70 rfl fun c₀ cs hu => ?_
 apply wpS_seq
 apply wpS_region
 simp [wpOpsS,go_sem,recoverD,hu,hn,Exit.thenS,ptrO]
 refine wpS_of_wp (wp_block (wp_seq (wp_region ?_)))
 have u20:PZ.underlying 20 = some (.interface #[]):=by kernel_rfl
 have he:∀ w:World,(Op.equal 20 .nilIface .nilIface).run PZ w = .ok true w:=fun w => eqv_ii u20
 simp [wpOps,go_sem,Exit.then,he,Exit.inBlock]
 refine .inl ?_
 apply wp_cond_true
 ·simp [Act.eval,Array.replicate]
 apply wp_region
 cases c₀
 simp_all [wpOps,go_sem,bodyPostS,results,Exit.inBlock]
theorem catch70:Catch PZ 70 (fun v => ∃ n,v = errV n) [5,1] outI:=by
 refine catch_facts Tryz.func70 facts70 rfl idle70 ?_
 rintro F bs v ⟨n,rfl⟩ hb
 obtain ⟨g,t,cs,g',t',cs',rfl,h1,h2⟩:=ub_le hb
 match cs,h1 with
 | [a,b,c,d,e],_ =>
  match cs',h2 with
  | [x],_ => exact rfl
def validI (i:Ifc):Bool:=decide (i.uses.length = i.against.length ∧ i.digest = dig i.body)
theorem t60 (i:Ifc):CallsT PZ 60 [.agg (ifC i)] [] (Ret [] (.bool (validI i))):=by
 refine callsT_facts Tryz.func60 facts60 rfl fun hw _ => ?_
 have e:(decide (((strs i.uses).length:Int) = ((ics i.against).length:Int))) = decide (i.uses.length = i.against.length):=by
  rw [strs_len,ics_len]; exact decide_eq_decide.2 Int.ofNat_inj
 refine brn_split (fun h => ?_) (fun h => ?_)
 ·have h:i.uses.length = i.against.length:=of_decide_eq_true (e.symm.trans h)
  refine callPD (t15 i.body) rfl fun _ => ?_
  refine retP rfl (congrArg C.bool ?_)
  simp [validI,h]
 ·have h:¬ i.uses.length = i.against.length:=of_decide_eq_false (e.symm.trans h)
  refine retP rfl (congrArg C.bool ?_)
  simp [validI,h]
def exI:Ifc:=⟨⟨#[109]⟩,[],[],7000023,[1]⟩
theorem t14:CallsT PZ 14 [] [] (Ret [] (.agg (ifC exI))):=by
 refine callsT_facts Tryz.func14 facts14 rfl fun hw _ => ?_
 exact retP rfl rfl
def encF (i:Ifc):List UInt8:=textB i.module ++ (listB textB i.uses ++ (listB numB i.against ++ (numB i.digest ++ (numB i.body.length ++ i.body))))
def encB (i:Ifc):List UInt8:=match validI i with | true => sealB (encF i) | false => []
def p0:PC:=⟨[],[],[],[],[],[],[],0⟩
theorem t34T (p:PC) (t:Nat) (bs:List UInt8) (lr:Int):CallsT PZ 34 [.own 1000 0] [.box t (.sl (bcells bs) :: IC 0 :: .int .i8 lr :: p.cs)] (Ret [.box t (.sl (bcells bs) :: IC 0 :: .int .i8 lr :: p.cs)] (.sl (bcells bs))):=by
 refine callsT_facts Tryz.func34 facts34 rfl fun hw ho => ?_
 refine SlcT.mk (by omega) (by omega) (by omega) bcells_sz ?_
 refine retO [1000] rfl rfl rfl (congrArg C.sl (?_:((bcells bs).drop 0).take (((bcells bs).length:Int).toNat - 0) = bcells bs))
 rw [bcells_slice,bcells_len,List.take_of_length_le (by simp)]; rfl
theorem nil_sl {L L1:TL}:leC L L1 .nils (.sl []):=.inr (.inr (.inl ⟨rfl,rfl⟩))
theorem t13 (i:Ifc) (hb:(encF i).length ≤ 70368744177600):CallsT PZ 13 [.agg (ifC i)] [] (Ret [] (.sl (bcells (encB i)))):=by
 refine callsT_facts Tryz.func13 facts13 rfl fun hw _ => ?_
 refine callP (t60 i) rfl fun _ => ?_
 refine brn_split (fun h => ?_) (fun h => ?_)
 ·have h:validI i = false:=by simpa using h
  refine retP rfl ?_
  rw [encB,h]; rfl
 have h:validI i = true:=by simpa using h
 have hl:(encF i).length = (textB i.module).length + ((listB textB i.uses).length + ((listB numB i.against).length + ((numB i.digest).length + ((numB i.body.length).length + i.body.length)))):=by
  simp only [encF,List.length_append]
 refine callG [(3,.box 69 [.own 8 0]),(8,.box 75 (.rw 50 :: IC 0 :: .int .i8 0 :: p0.cs)),(50,.row 5 1 [])] [8,50] [8,50] (t21o p0 [] i.module (by simp only [List.length_nil]; omega))
  ⟨.inl ⟨_,rfl,.inl ⟨rfl,rfl⟩⟩,.inl ⟨_,rfl,.inr ⟨75,_,_,rfl,rfl,⟨_,_,rfl,nil_rw rfl rfl,⟨_,_,rfl,same_keys rfl,⟨_,_,rfl,same_keys rfl,⟨_,_,rfl,nil_sl,⟨_,_,rfl,nil_sl,⟨_,_,rfl,nil_sl,⟨_,_,rfl,nil_sl,⟨_,_,rfl,nil_sl,⟨_,_,rfl,nil_sl,⟨_,_,rfl,nil_sl,⟨_,_,rfl,same_keys rfl,rfl⟩⟩⟩⟩⟩⟩⟩⟩⟩⟩⟩⟩⟩,.inr ⟨rfl,5,1,rfl⟩,trivial⟩ rfl rfl rfl rfl rfl fun _ _ => ?_
 refine callO [8,50,3] [8,50,3] (t61 p0 ([] ++ textB i.module) i.uses (by simp only [List.length_nil,List.length_append]; omega)) rfl rfl rfl rfl rfl fun _ _ => ?_
 refine callO [8,50,3] [8,50,3] (t63 p0 _ i.against (by simp only [List.length_nil,List.length_append]; omega)) rfl rfl rfl rfl rfl fun _ _ => ?_
 have hn2:numsB [i.digest,(i.body.length:Int)] = numB i.digest ++ numB i.body.length:=by simp [numsB]
 refine callO [8,50] [8,50] (t65 p0 _ [i.digest,(i.body.length:Int)] (by rw [hn2]; simp only [List.length_nil,List.length_append]; omega)) rfl rfl (congrArg (fun q => [C.own 1000 0,.sl [[IC i.digest],[IC q]]]) (by rw [bcells_len])) rfl rfl fun _ _ => ?_
 refine callOD [8,50] [8,50] (t66T 75 p0.cs rfl _ i.body (by rw [hn2]; simp only [List.length_nil,List.length_append]; omega) (by rw [hn2]; have:=numB_pos i.digest; simp only [List.length_nil,List.length_append]; omega)) rfl rfl rfl rfl rfl fun _ _ => ?_
 have he:[] ++ textB i.module ++ listB textB i.uses ++ listB numB i.against ++ numsB [i.digest,(i.body.length:Int)] ++ i.body = encF i:=by
  rw [hn2]; simp only [encF,List.nil_append,List.append_assoc]
 refine callF [50] [8] [8] (t34T p0 75 (encF i) 0) ⟨_,rfl,rfl,rfl,congrArg (fun q => [TO.box 75 (.sl (bcells q) :: IC 0 :: .int .i8 0 :: p0.cs)]) he,rfl,fun _ _ => ?_⟩
 refine callP (t67 (encF i) (by omega)) rfl fun _ => ?_
 refine retP rfl ?_
 rw [encB,h]; rfl
theorem Catch.mono {P:Program} {H:Nat} {PS PS':Value → Prop} {ns:List Nat} {out:Value → List (List Value)} (h:Catch P H PS ns out) (hp:∀ v,PS' v → PS v):Catch P H PS' ns out :=
 ⟨h.inv,h.idle,fun F bs v older w hv => h.caught F bs v older w (hp v hv)⟩
def zI:Ifc:=⟨⟨#[]⟩,[],[],0,[]⟩
def decI (bs:List UInt8):Ifc × Int :=
 if bs.length < 4 then (zI,16)
 else if ¬ sealB (bs.take (bs.length - 4)) = bs then (zI,17)
 else match ifD (bs.take (bs.length - 4)) with
  | none => (zI,16)
  | some (i,r) => if r.length = 0 ∧ validI i = true then (i,0) else (zI,16)
theorem decI_1 {bs:List UInt8} (h:bs.length < 4):decI bs = (zI,16):=by simp only [decI]; rw [if_pos h]
theorem decI_2 {bs s:List UInt8} (h:4 ≤ bs.length) (hs:bs.take (bs.length - 4) = s) (k:¬ sealB s = bs):decI bs = (zI,17):=by simp only [decI,hs]; rw [if_neg (by omega),if_pos k]
theorem decI_3 {bs s:List UInt8} (h:4 ≤ bs.length) (hs:bs.take (bs.length - 4) = s) (k:sealB s = bs) (e:ifD s = none):decI bs = (zI,16):=by
 simp only [decI,hs,e]; rw [if_neg (by omega),if_neg (fun h => h k)]
theorem decI_4 {bs s r:List UInt8} {i:Ifc} (h:4 ≤ bs.length) (hs:bs.take (bs.length - 4) = s) (k:sealB s = bs) (e:ifD s = some (i,r)) (hr:¬ (r.length = 0 ∧ validI i = true)):decI bs = (zI,16):=by
 simp only [decI,hs,e]; rw [if_neg (by omega),if_neg (fun h => h k),if_neg hr]
theorem decI_5 {bs s r:List UInt8} {i:Ifc} (h:4 ≤ bs.length) (hs:bs.take (bs.length - 4) = s) (k:sealB s = bs) (e:ifD s = some (i,r)) (hr:r.length = 0 ∧ validI i = true):decI bs = (i,0):=by
 simp only [decI,hs,e]; rw [if_neg (by omega),if_neg (fun h => h k),if_pos hr]
theorem newRd (k:Nat) {L:TL} {ρ:TEnv} {K:TL → TEnv → C → Prop} {args:List C} {s:List UInt8} (ha:(args.map fun c => c.canA.ren (toIn [] 1000)) = [.sl (bcells s)]) (hk:T.koOk L [] [k] = true)
  (h:∀ g,K (L.puts [k] [RB (pin g 159) s s]) ρ (adr g 0)):CallT PZ 72 args L ρ K:=by
 refine .mk ⟨[],[],[k],L,[],_,.inl rfl,rfl,rfl,rfl,hk,rfl,by rw [ha]; exact CallsT.pinRes (by omega) (t72 s),?_⟩
 rintro v Mo ⟨g,rfl,rfl⟩ hw hwo
 exact ⟨rfl,h g⟩
set_option maxRecDepth 20000 in
theorem t16 (bs:List UInt8) (hb:bs.length ≤ 1073741824):CallsT PZ 16 [.sl (bcells bs)] [] (Ret [] (.tup [.agg (ifC (decI bs).1),IC (decI bs).2])):=by
 obtain ⟨s,hs⟩:∃ s,bs.take (bs.length - 4) = s:=⟨_,rfl⟩
 have hsl:s.length ≤ bs.length:=by rw [← hs,List.length_take]; omega
 refine callsT_facts_catch (PS:=fun v => ∃ n,v = errV n ∧ decI bs = (zI,n) ∧ 0 ≤ n ∧ n < 64) (ns:=[5,1]) (out:=outI) Tryz.func16 facts16 (Catch.mono catch70 fun v ⟨n,h,_⟩ => ⟨n,h⟩) (fun v ⟨n,h,_⟩ => by subst h; rfl) rfl ?_ fun hw ho => ?_
 ·rintro v ⟨n,rfl,hd,h0,h1⟩
  refine ⟨.tup [.agg (ifC zI),IC n],.tuple #[.agg #[.string ⟨#[]⟩,.slice none 0 0,.slice none 0 0,.int .i64 0,.slice none 0 0],.int .i64 n],?_,?_,?_⟩
  ·intro L ρ h
   obtain ⟨a1,g1,t1,a2⟩:=h 0 2 _ rfl rfl
   obtain ⟨b1,g2,t2,b2⟩:=h 1 3 _ rfl rfl
   simp only [retV,a1,a2,b1,b2]
   rfl
  ·intro F L
   have hz:Rel F L (.sl []) (.slice none 0 0):=by
    rw [Rel]
    exact ⟨none,0,rfl,Nat.le_refl _,by decide,fun _ => ⟨rfl,rfl⟩,1,by rw [RelS]; trivial⟩
   have hs:Rel F L (.str ⟨#[]⟩) (.string ⟨#[]⟩):=by
    rw [Rel]
    exact ⟨rfl,by decide⟩
   have hi:∀ m:Int,0 ≤ m → m < 64 → Rel F L (IC m) (.int .i64 m):=fun m h0 h1 => by
    rw [Rel]
    exact ⟨rfl,by rw [wf_iff]; simp only [IntKind.min,IntKind.max,IntKind.signed,IntKind.bits,if_true]; omega⟩
   have hn:Rels F L [] []:=by rw [Rels]
   have cons:∀ {c cs v vs},Rel F L c v → Rels F L cs vs → Rels F L (c :: cs) (v :: vs):=fun h1 h2 => by
    rw [Rels]
    exact ⟨_,_,rfl,h1,h2⟩
   rw [Rel]
   refine ⟨[.agg [.string ⟨#[]⟩,.slice none 0 0,.slice none 0 0,.int .i64 0,.slice none 0 0].toArray,.int .i64 n],rfl,cons ?_ (cons (hi n h0 h1) hn)⟩
   rw [Rel]
   exact ⟨[.string ⟨#[]⟩,.slice none 0 0,.slice none 0 0,.int .i64 0,.slice none 0 0],rfl,cons hs (cons hz (cons hz (cons (hi 0 (by omega) (by omega)) (cons hz hn))))⟩
  ·intro Mo hMo
   have hMo:Mo = []:=hMo
   subst hMo
   rw [hd]
   exact ⟨rfl,rfl⟩
 refine ⟨rfl,?_⟩
 have hlen:(bcells bs).length = bs.length:=bcells_len
 refine Fit.in64 (by omega) (by omega) ?_
 refine brn_p (fun h0 => ?_) (fun h0 => ?_)
 ·exact panT rfl ⟨16,rfl,decI_1 (by omega),by omega,by omega⟩
 have h4:4 ≤ bs.length:=by omega
 have hn:((bcells bs).drop 0).take (((bcells bs).length - 4:Int).toNat - 0) = bcells s:=by
  rw [bcells_slice,hlen,show ((bs.length:Int) - 4).toNat - 0 = bs.length - 4 by omega,← hs]; rfl
 refine SlcT.mk (by omega) (by omega) (by omega) bcells_sz ?_
 refine callP (t67 s (by omega)) (congrArg (fun q => [C.sl q]) hn) fun _ => ?_
 refine callP (t71 (sealB s) bs) rfl fun _ => ?_
 refine brn_split (fun hne => ?_) (fun heq => ?_)
 ·have hne:(!decide (sealB s = bs)) = true:=hne
  have hne:¬ sealB s = bs:=by simpa using hne
  exact panT rfl ⟨17,rfl,decI_2 h4 hs hne,by omega,by omega⟩
 have heq:(!decide (sealB s = bs)) = false:=heq
 have heq:sealB s = bs:=by simpa using heq
 refine SlcT.mk (by omega) (by omega) (by omega) bcells_sz ?_
 refine newRd 25 (congrArg (fun q => [C.sl q]) hn) rfl fun g => ?_
 have pan:ifD s = none → ∃ n,errV 16 = errV n ∧ decI bs = (zI,n) ∧ 0 ≤ n ∧ n < 64:=fun h => ⟨16,rfl,decI_3 h4 hs heq h,by omega,by omega⟩
 refine rdD 25 (t73 g s s (List.suffix_refl s) (by omega)) rfl rfl rfl rfl (fun e => pan (andD_none e)) fun m r1 e1 h1 _ => ?_
 have f1:ifD s = _:=andD_some e1
 refine rdD 25 (t75 g s r1 h1 (by omega)) rfl rfl rfl rfl (fun e => pan (f1.trans (andD_none e))) fun u r2 e2 h2 _ => ?_
 have f2:ifD s = _:=f1.trans (andD_some e2)
 refine rdD 25 (t76 g s r2 (h2.trans h1) (by omega)) rfl rfl rfl rfl (fun e => pan (f2.trans (andD_none e))) fun a r3 e3 h3 _ => ?_
 have f3:ifD s = _:=f2.trans (andD_some e3)
 refine rdD 25 (t77 g s r3 (h3.trans (h2.trans h1))) rfl rfl rfl rfl (fun e => pan (f3.trans (andD_none e))) fun d r4 e4 h4' _ => ?_
 have f4:ifD s = _:=f3.trans (andD_some e4)
 have h5:=h4'.trans (h3.trans (h2.trans h1))
 refine rdD 25 (t74 g s r4 h5 (by omega)) rfl rfl rfl rfl (fun e => pan (f4.trans (andD_none e))) fun b r5 e5 h6 _ => ?_
 have f5:ifD s = some (⟨m,u,a,d,b⟩,r5):=f4.trans (andD_some e5)
 refine callO [25] [25] (t78p g s r5 (h6.trans h5)) rfl rfl rfl rfl rfl fun _ _ => ?_
 refine brn_p (fun hr => ?_) (fun hr => ?_)
 ·exact panT rfl ⟨16,rfl,decI_4 h4 hs heq f5 (fun h => by omega),by omega,by omega⟩
 refine callP (t60 ⟨m,u,a,d,b⟩) rfl fun _ => ?_
 refine brn_split (fun hv => ?_) (fun hv => ?_)
 ·have hv:(!validI ⟨m,u,a,d,b⟩) = true:=hv
  exact panT rfl ⟨16,rfl,decI_4 h4 hs heq f5 (fun h => by rw [h.2] at hv; cases hv),by omega,by omega⟩
 have hv:(!validI ⟨m,u,a,d,b⟩) = false:=hv
 have hd:=decI_5 h4 hs heq f5 ⟨by omega,by simpa using hv⟩
 exact retP rfl (by rw [hd]; rfl)
end Go.Fr.Tryz
