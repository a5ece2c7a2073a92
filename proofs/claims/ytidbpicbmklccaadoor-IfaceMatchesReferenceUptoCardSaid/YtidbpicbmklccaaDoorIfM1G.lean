/- Part of the proofs of the statements of this seat. -/
import Derived.Test.YtidbpicbmklccaaDoorIfB4G
import Derived.Test.YtidbpicbmklccaaDoorFW3
import Derived.Test.YtidbpicbmklccaaDoorIfL5G
set_option maxRecDepth 10000
set_option linter.unusedVariables false
set_option linter.unusedSimpArgs false
namespace Go.Fr.Tryd
open Go Go.RowKit Go.Proofs Go.Fr Go.Fr.T Go.Fr.Api Go.Fr.Dm
abbrev Rb (f:Nat) (args:List C) (code:List UInt8):Prop:=CallsT PZ f args [] (Ret [.row 5 1 (bcells code)] (.rw 1000))
section
variable {L:TL} {ρ:TEnv}
theorem callDO {f:Nat} {args args':List C} {ρ:TEnv} {K:TL → TEnv → C → Prop} {t sz:Nat} {els:List (List C)} {k:Nat} (h:CallsT PZ f args' [] (Ret [.row t sz els] (.rw 1000))) (ha:(args.map fun c => c.canA.ren (toIn [] 1000)) = args') (hk:L.get k = none) (kk:K (L.set k (.row t sz els)) ρ (.rw k)):CallDT PZ f args L ρ (some k) K:=by
 subst ha
 exact .own _ k h rfl hk fun v Mo ⟨e1,e2⟩ _ _ => by subst e1 e2; exact ⟨_,rfl,kk⟩
end
theorem t62 (n:Int):Rb 62 [IC n] (encI n):=by
 refine callsT_facts Tryd.func62 facts62 rfl fun hw _ => ?_
 have hn:=wf_I hw.1
 have hzl:(encI n).length ≤ 10:=encI_le hw.1
 refine Fit.to (wrap_u64 _) ?_
 refine Fit.to (wrap_u64 _) ?_
 refine brn_p (fun hneg => ?_) (fun hpos => ?_)
 ·refine Fit.in64 (by omega) (by omega) ?_
  refine Fit.in64 (by omega) (by omega) ?_
  refine Fit.to (wrap_u64 _) ?_
  refine Fit.to (wrap_u64 _) ?_
  refine Fit.to (wrap_u64 _) ?_
  refine LoopT.mk ⟨Nat × List UInt8,(zig n,[]),fun y => y.1 < 18446744073709551616 ∧ y.2 ++ encN y.1 = encI n,[3,4],fun y => [.int .u64 y.1,.rw 24],fun y => [(24,.row 5 1 (bcells y.2))],fun y => y.1,⟨?_,rfl⟩,⟨.inr (.inl ⟨?_,rfl⟩),.inr (.inr (.inr (.inl ⟨rfl,24,5,1,rfl,rfl,rfl⟩))),trivial⟩,
   ⟨.inr ⟨rfl,5,1,rfl⟩,trivial⟩,fun _ => rfl,fun _ => rfl,?_⟩
  ·show zig n < _
   unfold zig; split <;> omega
  ·refine congrArg (C.int .u64) ?_
   unfold zig; rw [if_pos hneg]; omega
  ·rintro ⟨m,done⟩ ⟨hm64,hmi⟩ _ _
   simp only at hmi hm64
   have hdl:done.length + (encN m).length ≤ 10:=by
    have:=congrArg List.length hmi
    simp only [List.length_append] at this
    omega
   have h1:=encN_len m
   refine brn_p (fun hm => ?_) (fun hm => ?_)
   ·have hm:128 ≤ m:=by have:(128:Int) ≤ (m:Int):=hm; omega
    have hde:encN m = UInt8.ofNat (128 + m % 128) :: encN (m / 128):=by rw [encN,dif_neg (by omega)]
    refine NonZ.mk (by omega) ?_
    refine Fit.to (wrap_u64 _) ?_
    refine Fit.to (Dm.u8_hi m) ?_
    refine app1 (bs:=done) (by omega) ?_
    refine NonZ.mk (by omega) ?_
    refine Fit.to (wrap_u64 _) ?_
    refine ⟨(m / 128,done ++ [UInt8.ofNat (128 + m % 128)]),⟨?_,?_⟩,⟨.inr (.inl ⟨?_,rfl⟩),same_keys rfl,trivial⟩,⟨.inl ⟨_,rfl,.inl ⟨?_,rfl⟩⟩,trivial⟩,?_⟩
    ·show m / 128 < _; omega
    ·show done ++ [UInt8.ofNat (128 + m % 128)] ++ encN (m / 128) = encI n
     rw [← hmi,hde]; simp
    ·refine congrArg (C.int .u64) ?_
     show ((m / 128:Nat):Int) % _ = ((m / 128:Nat):Int)
     omega
    ·exact congrArg (TO.row 5 1) (bcells_snoc _ _).symm
    ·show m / 128 < m; omega
   ·have hm:m < 128:=by have:¬ (128:Int) ≤ (m:Int):=hm; omega
    have hde:encN m = [UInt8.ofNat m]:=by rw [encN,dif_pos hm]
    refine Fit.to (Dm.u8_lo m) ?_
    refine app1 (bs:=done) (by omega) ?_
    have e:bcells done ++ [[bcell (UInt8.ofNat m)]] = bcells (encI n):=by rw [← hmi,hde,bcells_snoc]
    exact retO [24] rfl rfl (congrArg (fun c => [TO.row 5 1 c]) e) rfl
 ·refine LoopT.mk ⟨Nat × List UInt8,(zig n,[]),fun y => y.1 < 18446744073709551616 ∧ y.2 ++ encN y.1 = encI n,[3,4],fun y => [.int .u64 y.1,.rw 24],fun y => [(24,.row 5 1 (bcells y.2))],fun y => y.1,⟨?_,rfl⟩,⟨.inr (.inl ⟨?_,rfl⟩),.inr (.inr (.inr (.inl ⟨rfl,24,5,1,rfl,rfl,rfl⟩))),trivial⟩,
   ⟨.inr ⟨rfl,5,1,rfl⟩,trivial⟩,fun _ => rfl,fun _ => rfl,?_⟩
  ·show zig n < _
   unfold zig; split <;> omega
  ·refine congrArg (C.int .u64) ?_
   unfold zig; rw [if_neg hpos]; omega
  ·rintro ⟨m,done⟩ ⟨hm64,hmi⟩ _ _
   simp only at hmi hm64
   have hdl:done.length + (encN m).length ≤ 10:=by
    have:=congrArg List.length hmi
    simp only [List.length_append] at this
    omega
   have h1:=encN_len m
   refine brn_p (fun hm => ?_) (fun hm => ?_)
   ·have hm:128 ≤ m:=by have:(128:Int) ≤ (m:Int):=hm; omega
    have hde:encN m = UInt8.ofNat (128 + m % 128) :: encN (m / 128):=by rw [encN,dif_neg (by omega)]
    refine NonZ.mk (by omega) ?_
    refine Fit.to (wrap_u64 _) ?_
    refine Fit.to (Dm.u8_hi m) ?_
    refine app1 (bs:=done) (by omega) ?_
    refine NonZ.mk (by omega) ?_
    refine Fit.to (wrap_u64 _) ?_
    refine ⟨(m / 128,done ++ [UInt8.ofNat (128 + m % 128)]),⟨?_,?_⟩,⟨.inr (.inl ⟨?_,rfl⟩),same_keys rfl,trivial⟩,⟨.inl ⟨_,rfl,.inl ⟨?_,rfl⟩⟩,trivial⟩,?_⟩
    ·show m / 128 < _; omega
    ·show done ++ [UInt8.ofNat (128 + m % 128)] ++ encN (m / 128) = encI n
     rw [← hmi,hde]; simp
    ·refine congrArg (C.int .u64) ?_
     show ((m / 128:Nat):Int) % _ = ((m / 128:Nat):Int)
     omega
    ·exact congrArg (TO.row 5 1) (bcells_snoc _ _).symm
    ·show m / 128 < m; omega
   ·have hm:m < 128:=by have:¬ (128:Int) ≤ (m:Int):=hm; omega
    have hde:encN m = [UInt8.ofNat m]:=by rw [encN,dif_pos hm]
    refine Fit.to (Dm.u8_lo m) ?_
    refine app1 (bs:=done) (by omega) ?_
    have e:bcells done ++ [[bcell (UInt8.ofNat m)]] = bcells (encI n):=by rw [← hmi,hde,bcells_snoc]
    exact retO [24] rfl rfl (congrArg (fun c => [TO.row 5 1 c]) e) rfl
theorem t64 (l:List Int) (hb:(encIs l).length ≤ 2 ^ 46):Rb 64 [.sl (ics l)] (encIs l):=by
 have h77:=fun n => (t62 n).give
 refine callsT_facts Tryd.func64 facts64 rfl fun hw _ => ?_
 have hlen:l.length ≤ 9223372036854775807:=wf_lenM hw.1
 refine loopN l.length 4 [3] ([]:List UInt8) (fun _ => [.rw 17]) (fun s => [(17,.row 5 1 (bcells s))]) (fun k s => s ++ encIs (l.drop k) = encIs l) rfl (same_keys rfl) ⟨.inr (.inr (.inr (.inl ⟨rfl,17,5,1,rfl,rfl,rfl⟩))),trivial⟩
  ⟨.inr ⟨rfl,5,1,rfl⟩,trivial⟩ (fun _ => rfl) (fun _ => rfl) ?_
 rintro k s hk hinv _ _ _
 refine brn_p (fun hlt => ?_) (fun hge => ?_)
 ·have hlt:k < l.length:=by simpa [ics] using hlt
  refine withDrop hlt fun x hx hxm hd => ?_
  rw [hd] at hinv
  have hsz:s.length + (encI x).length ≤ 2 ^ 46:=by
   have:=congrArg List.length hinv
   simp only [encIs,List.flatMap_cons,List.length_append] at this hb
   omega
  refine idxI hx ?_
  refine callP (h77 x) rfl fun _ => ?_
  refine Dm.appB (a:=s) (b:=encI x) (by omega) ?_
  refine Fit.in64 (by omega) (by omega) ?_
  refine ⟨(k + 1,s ++ encI x),⟨hlt,?_⟩,⟨nextI,same_keys rfl,trivial⟩,⟨.inl ⟨_,rfl,.inl ⟨?_,rfl⟩⟩,trivial⟩,nextM hlt⟩
  ·show s ++ encI x ++ encIs (l.drop (k + 1)) = encIs l
   rw [← hinv]; simp [encIs]
  ·exact congrArg (TO.row 5 1) (bcells_app _ _).symm
 ·have hge:¬ k < l.length:=by simpa [ics] using hge
  rw [drop_end hge] at hinv
  have e:s = encIs l:=by rw [← hinv]; simp [encIs]
  exact retO [17] rfl rfl (rowE (congrArg bcells e)) rfl
theorem t63 (l:List Int) (hb:(encL encI l).length ≤ 2 ^ 46):Rb 63 [.sl (ics l)] (encL encI l):=by
 have e:encL encI l = encI l.length ++ encIs l:=rfl
 have e2:bcells (encI l.length) ++ bcells (encIs l) = bcells (encL encI l):=by rw [e,bcells_app]
 have h46:=(t64 l (by rw [e] at hb; simp only [List.length_append] at hb; omega)).give
 have h77:=t62 l.length
 have hl:(ics l).length = l.length:=by simp [ics]
 rw [← hl] at h77
 rw [← hl] at e2
 have hsz:(encI (ics l).length).length + (encIs l).length ≤ 140737488355328:=by rw [hl]; rw [e] at hb; simp only [List.length_append] at hb; omega
 generalize encIs l = c2 at *
 generalize encL encI l = c3 at *
 refine callsT_facts Tryd.func63 facts63 rfl fun hw _ => ?_
 refine callO [] [5] h77 rfl rfl rfl rfl rfl fun _ _ => ?_
 refine callP h46 rfl fun _ => ?_
 refine Dm.appB hsz ?_
 exact retO [5] rfl rfl (rowE e2) rfl
theorem t61 (s:ByteArray) (hb:(encS s).length ≤ 2 ^ 46):Rb 61 [.str s] (encS s):=by
 have e:encS s = encI s.size ++ s.data.toList:=rfl
 have e2:bcells (encI s.size) ++ bcells s.data.toList = bcells (encS s):=by rw [e,bcells_app]
 have h77:=t62 s.size
 have hsz:(encI s.size).length + s.data.toList.length ≤ 140737488355328:=by rw [e] at hb; simp only [List.length_append] at hb; omega
 generalize encS s = c3 at *
 refine callsT_facts Tryd.func61 facts61 rfl fun hw _ => ?_
 refine callO [] [5] h77 rfl rfl rfl rfl rfl fun _ _ => ?_
 refine Dm.appB hsz ?_
 exact retO [5] rfl rfl (rowE e2) rfl
theorem t82 (l:List ByteArray) (i:Int):CallsT PZ 82 [.sl (scs l),IC i] [] (Ret [] (.str (nm l i))):=by
 have hl:(scs l).length = l.length:=by simp [scs]
 refine callsT_facts Tryd.func82 facts82 rfl fun hw _ => ?_
 refine brn_p (fun h1 => ?_) (fun h1 => ?_)
 ·have e:(⟨#[]⟩:ByteArray) = nm l i:=by simp [nm,elem,h1]
  exact retP rfl (congrArg C.str e)
 refine brn_p (fun h2 => ?_) (fun h2 => ?_)
 ·have e:(⟨#[]⟩:ByteArray) = nm l i:=by
   rw [hl] at h2
   simp [nm,elem,h1,List.getElem?_eq_none (show l.length ≤ i.toNat by omega)]
  exact retP rfl (congrArg C.str e)
 ·rw [hl] at h2
  have hlt:i.toNat < l.length:=by omega
  refine withGet hlt fun x hx _ => ?_
  have e:x = nm l i:=by simp [nm,elem,h1,hx]
  refine ⟨[.str x],by omega,by simp [scs,hx],rfl,?_⟩
  exact retP rfl (congrArg C.str e)
theorem t93 (f:Fun):CallsT PZ 93 [.agg (funC f)] [] (Ret [] (.sl ((argsOf f).map tyC))):=by
 refine callsT_facts Tryd.func93 facts93 rfl fun hw _ => ?_
 have hwa:(Lit.int .i64 f.arity).wf = true:=hw.1.2.2.2.2.1
 have hwl:Wf (.sl (f.locals.map tyC)):=hw.1.2.2.2.2.2.2.2.2.1
 have hn:=wf_lenM hwl
 have hn':(f.locals.map tyC).length ≤ 9223372036854775807:=by rw [List.length_map]; exact hn
 have hm1:=mn_wf hwa hn'
 have hm2:=mx0_wf hm1
 have hbd:=mx0_bd (n:=(f.locals.map tyC).length) (a:=f.arity)
 have hsl:((f.locals.map tyC).drop (Int.toNat 0)).take ((mx0 (mn (f.locals.map tyC).length f.arity)).toNat - Int.toNat 0) = (argsOf f).map tyC:=by
  show ((f.locals.map tyC).drop 0).take ((mx0 (mn (f.locals.map tyC).length f.arity)).toNat - 0) = _
  rw [mx0_eq,argsOf,List.map_take,List.length_map]
  rfl
 have hsz:∀ es ∈ f.locals.map tyC,es.length = 3:=by
  intro es he
  obtain ⟨t,_,rfl⟩:=List.mem_map.1 he
  exact tyC_len t
 refine ⟨hm1,?_⟩
 refine ⟨hm2,?_⟩
 refine SlcT.mk (Int.le_refl 0) hbd.1 hbd.2 hsz ?_
 exact retP rfl (congrArg C.sl hsl)
theorem t90 (q:Prog) (l:List Ty) (E:Ty → List UInt8) (ih:∀ x ∈ l,(E x).length ≤ 2 ^ 46 → Rb 92 [.agg (progC q),.agg [IC x.kind,IC x.id,.sl (x.args.map tyC)]] (E x)) (hb:(encL E l).length ≤ 2 ^ 46):Rb 90 [.agg (progC q),.sl (l.map tyC)] (encL E l):=by
 have h77:=t62 l.length
 have hlm:(l.map tyC).length = l.length:=List.length_map _
 have e0:encL E l = encI l.length ++ l.flatMap E:=rfl
 rw [← hlm] at h77
 rw [e0,← hlm] at hb
 have e1:encL E l = encI (l.map tyC).length ++ l.flatMap E:=by rw [hlm,e0]
 generalize encL E l = code at *
 generalize hpc:progC q = pc at *
 obtain ⟨a1,a2,a3,a4,a5,a6,a7,a8,rfl⟩:∃ a1 a2 a3 a4 a5 a6 a7 a8,pc = [.sl a1,.sl a2,.sl a3,.sl a4,.sl a5,.sl a6,.sl a7,IC a8]:=⟨_,_,_,_,_,_,_,_,hpc.symm⟩
 refine callsT_facts Tryd.func90 facts90 rfl fun hw _ => ?_
 have hlen:l.length ≤ 9223372036854775807:=wf_lenM hw.2.1
 refine callO [] [9] h77 rfl rfl rfl rfl rfl fun _ _ => ?_
 refine loopN l.length 6 [5] (encI (l.map tyC).length) (fun _ => [.rw 9]) (fun s => [(2,.box 29 [.sl a1,.sl a2,.sl a3,.sl a4,.sl a5,.sl a6,.sl a7,IC a8]),(9,.row 5 1 (bcells s))]) (fun k s => s ++ (l.drop k).flatMap E = code) (by rw [e1]; rfl) (same_keys rfl) ⟨same_keys rfl,trivial⟩
  ⟨.inl ⟨_,rfl,.inl ⟨rfl,rfl⟩⟩,.inl ⟨_,rfl,.inl ⟨rfl,rfl⟩⟩,trivial⟩ (fun _ => rfl) (fun _ => rfl) ?_
 rintro k s hk hinv _ _ _
 refine brn_p (fun hlt => ?_) (fun hge => ?_)
 ·have hlt:k < l.length:=by simpa using hlt
  refine withDrop hlt fun x hx hxm hd => ?_
  rw [hd] at hinv
  have hsz:s.length + (E x).length ≤ 2 ^ 46:=by
   have:=congrArg List.length (hinv.trans e1)
   simp only [List.flatMap_cons,List.length_append] at this hb
   omega
  refine idxTy hx ?_
  refine callPD (ih x hxm (by omega)).give rfl fun _ => ?_
  refine Dm.appB (a:=s) (b:=E x) (by omega) ?_
  refine Fit.in64 (by omega) (by omega) ?_
  refine ⟨(k + 1,s ++ E x),⟨hlt,?_⟩,⟨nextI,same_keys rfl,trivial⟩,⟨.inl ⟨_,rfl,.inl ⟨rfl,rfl⟩⟩,.inl ⟨_,rfl,.inl ⟨?_,rfl⟩⟩,trivial⟩,nextM hlt⟩
  ·show s ++ E x ++ (l.drop (k + 1)).flatMap E = code
   rw [← hinv]; simp
  ·exact congrArg (TO.row 5 1) (bcells_app _ _).symm
 ·have hge:¬ k < l.length:=by simpa using hge
  rw [drop_end hge] at hinv
  have e:s = code:=by rw [← hinv]; simp
  exact retO [9] rfl rfl (rowE (congrArg bcells e)) rfl
theorem t92' (q:Prog):∀ (t:Ty),(encTy (some q) t).length ≤ 2 ^ 46 → Rb 92 [.agg (progC q),.agg [IC t.kind,IC t.id,.sl (t.args.map tyC)]] (encTy (some q) t)
 | .mk k i l,hb => by
  have h90:=t90 q l (encTy (some q)) (fun x hx hs => t92' q x hs)
  have e:encTy (some q) (.mk k i l) = encI k ++ (encName (some q) k i).getD (encI i) ++ encL (encTy (some q)) l:=by
   rw [encTy_eq]
   simp only [Ty.kind,Ty.id,Ty.args,List.append_assoc]
  rw [e] at hb ⊢
  simp only [List.length_append] at hb
  have h90:=(h90 (by omega)).give
  have h77:=t62 k
  have h77i:=(t62 i).give
  have hlm:(q.datas.map dataC).length = q.datas.length:=List.length_map _
  generalize encL (encTy (some q)) l = c3 at *
  simp only [Ty.kind,Ty.id,Ty.args]
  by_cases hk:k = 2 ∧ (elem q.datas i).isSome = true
  ·obtain ⟨hk,hs⟩:=hk
   obtain ⟨d,hd⟩:=Option.isSome_iff_exists.1 hs
   have hel:=elem_some hd
   rw [two_of hk hd] at hb ⊢
   simp only [Option.getD_some,List.length_append] at hb ⊢
   have h86:=t82 q.modules d.module
   have h76:=(t61 (nm q.modules d.module) (by omega)).give
   have h76':=(t61 d.name (by omega)).give
   generalize nm q.modules d.module = mname at *
   generalize encS mname = e1 at *
   generalize encS d.name = e2 at *
   generalize encI k = e0 at *
   refine callsT_facts Tryd.func92 facts92 rfl fun hw _ => ?_
   refine callO [] [9] h77 rfl rfl rfl rfl rfl fun _ _ => ?_
   refine brn_p (fun _ => ?_) (fun h => (h hk).elim)
   refine brn_p (fun _ => ?_) (fun h => (by omega:False).elim)
   refine brn_p (fun _ => ?_) (fun h => (by omega:False).elim)
   refine idxE hel.1 hel.2.2 rfl rfl ?_
   refine callPD h86 rfl fun _ => ?_
   refine callPD h76 rfl fun _ => ?_
   refine appN _ (Dm.bcells_len e0) (by omega) ?_
   refine callPD h76' rfl fun _ => ?_
   refine appN _ (lenA (Dm.bcells_len e0) (Dm.bcells_len e1)) (by omega) ?_
   refine callP h90 rfl fun _ => ?_
   refine appN _ (lenA (lenA (Dm.bcells_len e0) (Dm.bcells_len e1)) (Dm.bcells_len e2)) (by omega) ?_
   have e9:bcells e0 ++ bcells e1 ++ bcells e2 ++ bcells c3 = bcells (e0 ++ (e1 ++ e2) ++ c3):=by simp only [bcells_app,List.append_assoc]
   exact retO [9] rfl rfl (rowE e9) rfl
  ·have hn:encName (some q) k i = none:=by
    unfold encName
    by_cases h2:k = 2
    ·have:elem q.datas i = none:=by
      cases h3:elem q.datas i with
      | none => rfl
      | some d => exact absurd ⟨h2,by rw [h3]; rfl⟩ hk
     simp [h2,this]
    ·simp [h2]
   have hno:k = 2 → 0 ≤ i → ¬ i < q.datas.length:=by
    intro h2 h0 h1
    refine hk ⟨h2,?_⟩
    unfold elem
    rw [if_neg (by omega),List.getElem?_eq_getElem (by omega)]
    rfl
   rw [hn] at hb ⊢
   simp only [Option.getD_none] at hb ⊢
   generalize encI k = e0 at *
   generalize encI i = e1 at *
   refine callsT_facts Tryd.func92 facts92 rfl fun hw _ => ?_
   refine callO [] [9] h77 rfl rfl rfl rfl rfl fun _ _ => ?_
   have e9:bcells e0 ++ bcells e1 ++ bcells c3 = bcells (e0 ++ e1 ++ c3):=by simp only [bcells_app]
   refine brn_p (fun h2 => ?_) (fun h2 => ?_)
   ·refine brn_p (fun h0 => ?_) (fun h0 => ?_)
    ·refine brn_p (fun h1 => ?_) (fun h1 => ?_)
     ·exact absurd (by have:i < ((q.datas.map dataC).length:Int):=h1; rw [hlm] at this; exact this) (hno h2 h0)
     ·refine callP h77i rfl fun _ => ?_
      refine appN _ (Dm.bcells_len e0) (by omega) ?_
      refine callP h90 rfl fun _ => ?_
      refine appN _ (lenA (Dm.bcells_len e0) (Dm.bcells_len e1)) (by omega) ?_
      exact retO [9] rfl rfl (rowE e9) rfl
    ·refine callP h77i rfl fun _ => ?_
     refine appN _ (Dm.bcells_len e0) (by omega) ?_
     refine callP h90 rfl fun _ => ?_
     refine appN _ (lenA (Dm.bcells_len e0) (Dm.bcells_len e1)) (by omega) ?_
     exact retO [9] rfl rfl (rowE e9) rfl
   ·refine callP h77i rfl fun _ => ?_
    refine appN _ (Dm.bcells_len e0) (by omega) ?_
    refine callP h90 rfl fun _ => ?_
    refine appN _ (lenA (Dm.bcells_len e0) (Dm.bcells_len e1)) (by omega) ?_
    exact retO [9] rfl rfl (rowE e9) rfl
termination_by t => SizeOf.sizeOf t
decreasing_by
 have:=List.sizeOf_lt_of_mem hx
 simp only [Ty.mk.sizeOf_spec]
 omega
theorem t91 (q:Prog) (l:List Bound) (hb:(encL (encBound (some q)) l).length ≤ 2 ^ 46):Rb 91 [.agg (progC q),.sl (l.map boundC)] (encL (encBound (some q)) l):=by
 have h77:=t62 l.length
 have h77':∀ n,CallsT PZ 62 [IC n] [] (Ret [] (.sl (bcells (encI n)))):=fun n => (t62 n).give
 have h76:∀ s,(encS s).length ≤ 2 ^ 46 → CallsT PZ 61 [.str s] [] (Ret [] (.sl (bcells (encS s)))):=fun s h => (t61 s h).give
 have h86:=t82 q.traits
 have eE:=encBound_q q
 have hlm:(l.map boundC).length = l.length:=List.length_map _
 have e0:encL (encBound (some q)) l = encI l.length ++ l.flatMap (encBound (some q)):=rfl
 rw [← hlm] at h77
 rw [e0,← hlm] at hb
 have e1:encL (encBound (some q)) l = encI (l.map boundC).length ++ l.flatMap (encBound (some q)):=by rw [hlm,e0]
 generalize encL (encBound (some q)) l = code at *
 generalize encBound (some q) = E at *
 generalize nm q.traits = nt at *
 refine callsT_facts Tryd.func91 facts91 rfl fun hw _ => ?_
 have hlen:l.length ≤ 9223372036854775807:=wf_lenM hw.2.1
 refine callO [] [9] h77 rfl rfl rfl rfl rfl fun _ _ => ?_
 refine loopN l.length 6 [5] (encI (l.map boundC).length) (fun _ => [.rw 9]) (fun s => [(2,.box 29 (progC q)),(9,.row 5 1 (bcells s))]) (fun k s => s ++ (l.drop k).flatMap E = code) (by rw [e1]; rfl) (same_keys rfl) ⟨same_keys rfl,trivial⟩
  ⟨.inl ⟨_,rfl,.inl ⟨rfl,rfl⟩⟩,.inl ⟨_,rfl,.inl ⟨rfl,rfl⟩⟩,trivial⟩ (fun _ => rfl) (fun _ => rfl) ?_
 rintro k s hk hinv _ _ _
 refine brn_p (fun hlt => ?_) (fun hge => ?_)
 ·have hlt:k < l.length:=by simpa using hlt
  refine withDrop hlt fun x hx hxm hd => ?_
  rw [hd] at hinv
  have hsz:s.length + (E x).length ≤ 2 ^ 46:=by
   have:=congrArg List.length (hinv.trans e1)
   simp only [List.flatMap_cons,List.length_append] at this hb
   omega
  rw [eE x] at hsz
  simp only [List.length_append] at hsz
  refine idxT hx rfl rfl ?_
  refine idxT hx rfl rfl ?_
  refine callPD (h77' x.param) rfl fun _ => ?_
  refine appN _ (Dm.bcells_len s) (by omega) ?_
  refine callPD (h86 x.trait) rfl fun _ => ?_
  refine callPD (h76 _ (by omega)) rfl fun _ => ?_
  refine appN _ (lenA (Dm.bcells_len s) (Dm.bcells_len _)) (by omega) ?_
  refine Fit.in64 (by omega) (by omega) ?_
  refine ⟨(k + 1,s ++ E x),⟨hlt,?_⟩,⟨nextI,same_keys rfl,trivial⟩,⟨.inl ⟨_,rfl,.inl ⟨rfl,rfl⟩⟩,.inl ⟨_,rfl,.inl ⟨?_,rfl⟩⟩,trivial⟩,nextM hlt⟩
  ·show s ++ E x ++ (l.drop (k + 1)).flatMap E = code
   rw [← hinv]; simp
  ·have e9:bcells s ++ bcells (encI x.param) ++ bcells (encS (nt x.trait)) = bcells (s ++ E x):=by rw [eE x]; simp only [bcells_app,List.append_assoc]
   exact congrArg (TO.row 5 1) e9
 ·have hge:¬ k < l.length:=by simpa using hge
  rw [drop_end hge] at hinv
  have e:s = code:=by rw [← hinv]; simp
  exact retO [9] rfl rfl (rowE (congrArg bcells e)) rfl
theorem t81 (q:Prog) (f:Fun) (hb:(encSig (some q) f).length ≤ 2 ^ 46):Rb 81 [.agg (progC q),.agg (funC f)] (encSig (some q) f):=by
 have h76:=t61 f.name
 have h77:∀ n,CallsT PZ 62 [IC n] [] (Ret [] (.sl (bcells (encI n)))):=fun n => (t62 n).give
 have h91:=t91 q f.bounds
 have h78:=t93 f
 have h90:=t90 q (argsOf f) (encTy (some q)) (fun x _ h => t92' q x h)
 have h92:=t92' q f.result
 have h79:=t63 f.ties
 have e:encSig (some q) f = encS f.name ++ encI f.params ++ encL (encBound (some q)) f.bounds ++ encI f.arity ++ encL (encTy (some q)) (argsOf f) ++ encTy (some q) f.result ++ encL encI f.ties:=by
  simp only [encSig,encSs,encIs,List.flatMap_cons,List.flatMap_nil,List.append_nil,List.append_assoc]
 rw [e] at hb ⊢
 simp only [List.length_append] at hb
 have h76:=h76 (by omega)
 have h91:=(h91 (by omega)).give
 have h90:=(h90 (by omega)).give
 have h92:=(h92 (by omega)).give
 have h79:=(h79 (by omega)).give
 have hp:=h77 f.params
 have ha:=h77 f.arity
 generalize encS f.name = c1 at *
 generalize encI f.params = c2 at *
 generalize encL (encBound (some q)) f.bounds = c3 at *
 generalize encI f.arity = c4 at *
 generalize encL (encTy (some q)) (argsOf f) = c5 at *
 generalize encTy (some q) f.result = c6 at *
 generalize encL encI f.ties = c7 at *
 generalize argsOf f = ao at *
 refine callsT_facts Tryd.func81 facts81 rfl fun hw _ => ?_
 refine callDO h76 rfl rfl ?_
 refine callPD hp rfl fun _ => ?_
 refine appN _ (Dm.bcells_len c1) (by omega) ?_
 refine callPD h91 rfl fun _ => ?_
 refine appN _ (lenA (Dm.bcells_len c1) (Dm.bcells_len c2)) (by omega) ?_
 refine callPD ha rfl fun _ => ?_
 refine appN _ (lenA (lenA (Dm.bcells_len c1) (Dm.bcells_len c2)) (Dm.bcells_len c3)) (by omega) ?_
 refine callPD h78 rfl fun _ => ?_
 refine callPD h90 rfl fun _ => ?_
 refine appN _ (lenA (lenA (lenA (Dm.bcells_len c1) (Dm.bcells_len c2)) (Dm.bcells_len c3)) (Dm.bcells_len c4)) (by omega) ?_
 refine callPD h92 rfl fun _ => ?_
 refine appN _ (lenA (lenA (lenA (lenA (Dm.bcells_len c1) (Dm.bcells_len c2)) (Dm.bcells_len c3)) (Dm.bcells_len c4)) (Dm.bcells_len c5)) (by omega) ?_
 refine callPD h79 rfl fun _ => ?_
 refine appN _ (lenA (lenA (lenA (lenA (lenA (Dm.bcells_len c1) (Dm.bcells_len c2)) (Dm.bcells_len c3)) (Dm.bcells_len c4)) (Dm.bcells_len c5)) (Dm.bcells_len c6)) (by omega) ?_
 have e9:bcells c1 ++ bcells c2 ++ bcells c3 ++ bcells c4 ++ bcells c5 ++ bcells c6 ++ bcells c7 = bcells (c1 ++ c2 ++ c3 ++ c4 ++ c5 ++ c6 ++ c7):=by simp only [bcells_app]
 exact retO [8] rfl rfl (rowE e9) rfl
theorem t79 (q:Prog) (d:Api.Data) (hb:(encData (some q) d).length ≤ 2 ^ 46):Rb 79 [.agg (progC q),.agg (dataC d)] (encData (some q) d):=by
 have h76':=t61 d.name
 have h76:∀ s,(encS s).length ≤ 2 ^ 46 → CallsT PZ 61 [.str s] [] (Ret [] (.sl (bcells (encS s)))):=fun s h => (t61 s h).give
 have h46:=t64 [d.params,d.drop,(d.variants.map variantC).length]
 have h90:∀ l:List Ty,(encL (encTy (some q)) l).length ≤ 2 ^ 46 → CallsT PZ 90 [.agg (progC q),.sl (l.map tyC)] [] (Ret [] (.sl (bcells (encL (encTy (some q)) l)))):=fun l h => (t90 q l (encTy (some q)) (fun x _ h => t92' q x h) h).give
 have eV:∀ v:Variant,encVariant (some q) v = encS v.name ++ encL (encTy (some q)) v.fields:=fun v => by
  simp only [encVariant,encSs,List.flatMap_cons,List.flatMap_nil,List.append_nil]
 have e:encData (some q) d = encS d.name ++ encIs [d.params,d.drop,(d.variants.map variantC).length] ++ d.variants.flatMap (encVariant (some q)):=by
  rw [List.length_map]
  simp only [encData,encL,encSs,encIs,List.flatMap_cons,List.flatMap_nil,List.append_nil,List.append_assoc]
 generalize encData (some q) d = code at *
 rw [e] at hb
 simp only [List.length_append] at hb
 have h76':=h76' (by omega)
 have h46:=(h46 (by omega)).give
 generalize encVariant (some q) = E at *
 generalize hLT:encL (encTy (some q)) = LT at *
 generalize encIs [d.params,d.drop,((d.variants.map variantC).length:Int)] = c2 at *
 generalize encS d.name = c1 at *
 refine callsT_facts Tryd.func79 facts79 rfl fun hw _ => ?_
 have hlen:d.variants.length ≤ 9223372036854775807:=wf_lenM hw.2.1.2.2.2.1
 refine callDO h76' rfl rfl ?_
 refine callPD h46 rfl fun _ => ?_
 refine appN _ (Dm.bcells_len c1) (by omega) ?_
 refine loopN d.variants.length 6 [5] (c1 ++ c2) (fun _ => [.rw 9]) (fun s => [(2,.box 29 (progC q)),(3,.box 64 (dataC d)),(9,.row 5 1 (bcells s))]) (fun k s => s ++ (d.variants.drop k).flatMap E = code) e.symm (same_keys rfl) ⟨same_keys rfl,trivial⟩
  ⟨.inl ⟨_,rfl,.inl ⟨rfl,rfl⟩⟩,.inl ⟨_,rfl,.inl ⟨rfl,rfl⟩⟩,.inl ⟨_,rfl,.inl ⟨congrArg (TO.row 5 1) (bcells_app _ _).symm,rfl⟩⟩,trivial⟩ (fun _ => rfl) (fun _ => rfl) ?_
 rintro k s hk hinv _ _ _
 refine brn_p (fun hlt => ?_) (fun hge => ?_)
 ·have hlt:k < d.variants.length:=by simpa using hlt
  refine withDrop hlt fun x hx hxm hd => ?_
  rw [hd] at hinv
  have hsz:s.length + (E x).length ≤ 2 ^ 46:=by
   have:=congrArg List.length (hinv.trans e)
   simp only [List.flatMap_cons,List.length_append] at this hb
   omega
  rw [eV x] at hsz
  simp only [List.length_append] at hsz
  refine idxT hx rfl rfl ?_
  refine idxT hx rfl rfl ?_
  refine callPD (h76 x.name (by omega)) rfl fun _ => ?_
  refine appN _ (Dm.bcells_len s) (by omega) ?_
  refine callPD (h90 x.fields (by omega)) rfl fun _ => ?_
  refine appN _ (lenA (Dm.bcells_len s) (Dm.bcells_len _)) (by omega) ?_
  refine Fit.in64 (by omega) (by omega) ?_
  refine ⟨(k + 1,s ++ E x),⟨hlt,?_⟩,⟨nextI,same_keys rfl,trivial⟩,⟨.inl ⟨_,rfl,.inl ⟨rfl,rfl⟩⟩,.inl ⟨_,rfl,.inl ⟨rfl,rfl⟩⟩,.inl ⟨_,rfl,.inl ⟨?_,rfl⟩⟩,trivial⟩,nextM hlt⟩
  ·show s ++ E x ++ (d.variants.drop (k + 1)).flatMap E = code
   rw [← hinv]; simp
  ·have e9:bcells s ++ bcells (encS x.name) ++ bcells (LT x.fields) = bcells (s ++ E x):=by rw [eV x]; simp only [bcells_app,List.append_assoc]
   exact congrArg (TO.row 5 1) e9
 ·have hge:¬ k < d.variants.length:=by simpa using hge
  rw [drop_end hge] at hinv
  have e:s = code:=by rw [← hinv]; simp
  exact retO [9] rfl rfl (rowE (congrArg bcells e)) rfl
theorem t80 (q:Prog) (x:Impl) (hb:(encImpl q x).length ≤ 2 ^ 46):Rb 80 [.agg (progC q),.agg (implC x)] (encImpl q x):=by
 have h86:=t82 q.traits x.trait
 have h76:=t61 (nm q.traits x.trait)
 have h77:=(t62 x.params).give
 have h91:=t91 q x.bounds
 have h92:=t92' q x.type
 have h76':=t61 (fnameOf q x.func)
 have hlm:(q.funcs.map funC).length = q.funcs.length:=List.length_map _
 have e:encImpl q x = encS (nm q.traits x.trait) ++ encI x.params ++ encL (encBound (some q)) x.bounds ++ encTy (some q) x.type ++ encS (fnameOf q x.func):=by
  simp only [encImpl,encTrait,encSs,encIs,List.flatMap_cons,List.flatMap_nil,List.append_nil,List.append_assoc]
 have hf:(0 ≤ x.func ∧ ∃ g:Fun,q.funcs[x.func.toNat]? = some g ∧ fnameOf q x.func = g.name) ∨ ((x.func < 0 ∨ (q.funcs.length:Int) ≤ x.func) ∧ fnameOf q x.func = ⟨#[]⟩):=by
  cases h:elem q.funcs x.func with
  | none =>
   refine .inr ⟨?_,by simp only [fnameOf,h]; rfl⟩
   rcases elem_none h with h | h
   ·exact .inl h
   ·exact .inr h.2
  | some g =>
   have:=elem_some h
   exact .inl ⟨by omega,g,this.2.2,by simp only [fnameOf,h]; rfl⟩
 rw [e] at hb ⊢
 simp only [List.length_append] at hb
 have h76:=h76 (by omega)
 have h91:=(h91 (by omega)).give
 have h92:=(h92 (by omega)).give
 have h76':=(h76' (by omega)).give
 generalize nm q.traits x.trait = nt at *
 generalize encI x.params = c2 at *
 generalize encL (encBound (some q)) x.bounds = c3 at *
 generalize encTy (some q) x.type = c4 at *
 generalize encS nt = c1 at *
 rcases hf with ⟨f0,g,hg,hn⟩ | ⟨f0,hn⟩
 ·rw [hn] at hb h76' ⊢
  have hlt:x.func.toNat < q.funcs.length:=(List.getElem?_eq_some_iff.1 hg).1
  generalize encS g.name = c5 at *
  refine callsT_facts Tryd.func80 facts80 rfl fun hw _ => ?_
  refine brn_p (fun _ => ?_) (fun h => (by omega:False).elim)
  refine brn_p (fun _ => ?_) (fun h => (by omega:False).elim)
  refine idxE (by omega) hg rfl rfl ?_
  refine callPD h86 rfl fun _ => ?_
  refine callDO h76 rfl rfl ?_
  refine callPD h77 rfl fun _ => ?_
  refine appN _ (Dm.bcells_len c1) (by omega) ?_
  refine callPD h91 rfl fun _ => ?_
  refine appN _ (lenA (Dm.bcells_len c1) (Dm.bcells_len c2)) (by omega) ?_
  refine callPD h92 rfl fun _ => ?_
  refine appN _ (lenA (lenA (Dm.bcells_len c1) (Dm.bcells_len c2)) (Dm.bcells_len c3)) (by omega) ?_
  refine callP h76' rfl fun _ => ?_
  refine appN _ (lenA (lenA (lenA (Dm.bcells_len c1) (Dm.bcells_len c2)) (Dm.bcells_len c3)) (Dm.bcells_len c4)) (by omega) ?_
  have e9:bcells c1 ++ bcells c2 ++ bcells c3 ++ bcells c4 ++ bcells c5 = bcells (c1 ++ c2 ++ c3 ++ c4 ++ c5):=by simp only [bcells_app]
  exact retO [30] rfl rfl (rowE e9) rfl
 ·rw [hn] at hb h76' ⊢
  generalize encS ⟨#[]⟩ = c5 at *
  have e9:bcells c1 ++ bcells c2 ++ bcells c3 ++ bcells c4 ++ bcells c5 = bcells (c1 ++ c2 ++ c3 ++ c4 ++ c5):=by simp only [bcells_app]
  refine callsT_facts Tryd.func80 facts80 rfl fun hw _ => ?_
  refine brn_p (fun _ => ?_) (fun h => ?_)
  ·refine brn_p (fun _ => (by omega:False).elim) (fun h => ?_)
   refine callPD h86 rfl fun _ => ?_
   refine callDO h76 rfl rfl ?_
   refine callPD h77 rfl fun _ => ?_
   refine appN _ (Dm.bcells_len c1) (by omega) ?_
   refine callPD h91 rfl fun _ => ?_
   refine appN _ (lenA (Dm.bcells_len c1) (Dm.bcells_len c2)) (by omega) ?_
   refine callPD h92 rfl fun _ => ?_
   refine appN _ (lenA (lenA (Dm.bcells_len c1) (Dm.bcells_len c2)) (Dm.bcells_len c3)) (by omega) ?_
   refine callP h76' rfl fun _ => ?_
   refine appN _ (lenA (lenA (lenA (Dm.bcells_len c1) (Dm.bcells_len c2)) (Dm.bcells_len c3)) (Dm.bcells_len c4)) (by omega) ?_
   exact retO [30] rfl rfl (rowE e9) rfl
  ·refine callPD h86 rfl fun _ => ?_
   refine callDO h76 rfl rfl ?_
   refine callPD h77 rfl fun _ => ?_
   refine appN _ (Dm.bcells_len c1) (by omega) ?_
   refine callPD h91 rfl fun _ => ?_
   refine appN _ (lenA (Dm.bcells_len c1) (Dm.bcells_len c2)) (by omega) ?_
   refine callPD h92 rfl fun _ => ?_
   refine appN _ (lenA (lenA (Dm.bcells_len c1) (Dm.bcells_len c2)) (Dm.bcells_len c3)) (by omega) ?_
   refine callP h76' rfl fun _ => ?_
   refine appN _ (lenA (lenA (lenA (Dm.bcells_len c1) (Dm.bcells_len c2)) (Dm.bcells_len c3)) (Dm.bcells_len c4)) (by omega) ?_
   exact retO [30] rfl rfl (rowE e9) rfl
theorem t39 (q:Prog) (m:Int) (hb:(encModule q (nm q.modules m) m).length ≤ 2 ^ 46):Rb 39 [.agg (progC q),IC m] (encModule q (nm q.modules m) m):=by
 have h83:=t79 q
 have h84:=t80 q
 have h85:=t81 q
 have h86:=t82 q.modules m
 have h76:=t61 (nm q.modules m)
 have h77:∀ n,CallsT PZ 62 [IC n] [] (Ret [] (.sl (bcells (encI n)))):=fun n => (t62 n).give
 rw [module_parts] at hb ⊢
 simp only [List.length_append] at hb
 have h76:=h76 (by omega)
 have n1:=of_len (·.module) m q.datas
 have n2:=of_len (·.module) m q.impls
 have n3:=of_len (·.module) m q.funcs
 generalize encData (some q) = E1 at *
 generalize encImpl q = E2 at *
 generalize encSig (some q) = E3 at *
 generalize nm q.modules m = nme at *
 generalize encS nme = c0 at *
 generalize hD:of' (fun x:Api.Data => x.module) m q.datas = D at *
 generalize hI:of' (fun x:Impl => x.module) m q.impls = I' at *
 generalize hF:of' (fun x:Fun => x.module) m q.funcs = F' at *
 refine callsT_facts Tryd.func39 facts39 rfl fun hw _ => ?_
 have hw':=hw.1
 have l1:q.datas.length ≤ 9223372036854775807:=wf_lenM hw'.2.2.1
 have l2:q.impls.length ≤ 9223372036854775807:=wf_lenM hw'.2.2.2.2.2.1
 have l3:q.funcs.length ≤ 9223372036854775807:=wf_lenM hw'.2.2.2.2.2.2.1
 refine loopN q.datas.length 9 [8,5] (([]:List UInt8),(0:Int)) (fun y => [.rw 13,.rw 37]) (fun y => [(2,.box 29 (progC q)),(13,.row 3 1 [[IC y.2],[IC 0],[IC 0]]),(37,.row 5 1 (bcells y.1))]) (fun k y => y.1 ++ (of' (fun x:Api.Data => x.module) m (q.datas.drop k)).flatMap E1 = D.flatMap E1 ∧ y.2 + (of' (fun x:Api.Data => x.module) m (q.datas.drop k)).length = D.length ∧ 0 ≤ y.2) ⟨by rw [List.drop_zero,hD]; rfl,by rw [List.drop_zero,hD]; omega,Int.le_refl 0⟩ (same_keys rfl) ⟨same_keys rfl,.inr (.inr (.inr (.inl ⟨rfl,37,5,1,rfl,rfl,rfl⟩))),trivial⟩
  ⟨.inl ⟨_,rfl,.inl ⟨rfl,rfl⟩⟩,.inl ⟨_,rfl,.inl ⟨rfl,rfl⟩⟩,.inr ⟨rfl,5,1,rfl⟩,trivial⟩ (fun _ => rfl) (fun _ => rfl) ?_
 rintro k0 ⟨s0,c0'⟩ hk0 ⟨hinv,hcnt,hc0⟩ _ _ _
 simp only at hinv hcnt hc0
 refine brn_p (fun hlt => ?_) (fun hge => ?_)
 ·have hlt:k0 < q.datas.length:=by simpa using hlt
  refine withDrop hlt fun x hx hxm hd => ?_
  refine idxT hx rfl rfl ?_
  refine brn_p (fun hm => ?_) (fun hm => ?_)
  ·rw [hd,of_pos (g:=(fun x:Api.Data => x.module)) hm] at hinv hcnt
   have hsz:s0.length + (E1 x).length ≤ 2 ^ 46:=by
    have:=congrArg List.length hinv
    simp only [List.flatMap_cons,List.length_append] at this
    omega
   rw [List.length_cons] at hcnt
   refine idxT hx rfl rfl ?_
   refine callPD (h83 x (by omega)).give rfl fun _ => ?_
   refine appN _ (Dm.bcells_len s0) (by omega) ?_
   refine InB.mk (by decide) (by show (_:Int) < 3; decide) ?_
   refine RowT.mk ⟨[IC c0'],rfl,rfl,?_⟩
   refine Fit.in64 (by omega) (by omega) ?_
   refine InB.mk (by decide) (by show (_:Int) < 3; decide) ?_
   refine ⟨rfl,rowSt' (es0:=[IC c0']) rfl rfl ?_⟩
   refine Fit.in64 (by omega) (by omega) ?_
   refine ⟨(k0 + 1,(s0 ++ E1 x,c0' + 1)),⟨hlt,?_,?_,?_⟩,⟨nextI,same_keys rfl,same_keys rfl,trivial⟩,⟨.inl ⟨_,rfl,.inl ⟨rfl,rfl⟩⟩,.inl ⟨_,rfl,.inl ⟨rfl,rfl⟩⟩,.inl ⟨_,rfl,.inl ⟨congrArg (TO.row 5 1) (bcells_app _ _).symm,rfl⟩⟩,trivial⟩,nextM hlt⟩
   ·show s0 ++ E1 x ++ _ = _
    rw [← hinv]; simp
   ·show c0' + 1 + ((of' (fun x:Api.Data => x.module) m (q.datas.drop (k0 + 1))).length:Int) = _
    omega
   ·show 0 ≤ c0' + 1
    omega
  ·rw [hd,of_neg (g:=(fun x:Api.Data => x.module)) hm] at hinv hcnt
   refine Fit.in64 (by omega) (by omega) ?_
   exact ⟨(k0 + 1,(s0,c0')),⟨hlt,hinv,hcnt,hc0⟩,⟨nextI,same_keys rfl,same_keys rfl,trivial⟩,⟨.inl ⟨_,rfl,.inl ⟨rfl,rfl⟩⟩,.inl ⟨_,rfl,.inl ⟨rfl,rfl⟩⟩,.inl ⟨_,rfl,.inl ⟨rfl,rfl⟩⟩,trivial⟩,nextM hlt⟩
 have hge:¬ k0 < q.datas.length:=by simpa using hge
 rw [drop_end hge] at hinv hcnt
 have e0:s0 = D.flatMap E1:=by rw [← hinv]; simp [of']
 have f0:c0' = (D.length:Int):=by simpa [of'] using hcnt
 clear hinv hcnt hge
 refine loopN q.impls.length 10 [8,5,6] (([]:List UInt8),(0:Int)) (fun y => [.rw 13,.rw 37,.rw 66]) (fun y => [(2,.box 29 (progC q)),(13,.row 3 1 [[IC c0'],[IC y.2],[IC 0]]),(37,.row 5 1 (bcells s0)),(66,.row 5 1 (bcells y.1))]) (fun k y => y.1 ++ (of' (fun x:Impl => x.module) m (q.impls.drop k)).flatMap E2 = I'.flatMap E2 ∧ y.2 + (of' (fun x:Impl => x.module) m (q.impls.drop k)).length = I'.length ∧ 0 ≤ y.2) ⟨by rw [List.drop_zero,hI]; rfl,by rw [List.drop_zero,hI]; omega,Int.le_refl 0⟩ (same_keys rfl) ⟨same_keys rfl,same_keys rfl,.inr (.inr (.inr (.inl ⟨rfl,66,5,1,rfl,rfl,rfl⟩))),trivial⟩
  ⟨.inl ⟨_,rfl,.inl ⟨rfl,rfl⟩⟩,.inl ⟨_,rfl,.inl ⟨rfl,rfl⟩⟩,.inl ⟨_,rfl,.inl ⟨rfl,rfl⟩⟩,.inr ⟨rfl,5,1,rfl⟩,trivial⟩ (fun _ => rfl) (fun _ => rfl) ?_
 rintro k1 ⟨s1,c1'⟩ hk1 ⟨hinv,hcnt,hc0⟩ _ _ _
 simp only at hinv hcnt hc0
 refine brn_p (fun hlt => ?_) (fun hge => ?_)
 ·have hlt:k1 < q.impls.length:=by simpa using hlt
  refine withDrop hlt fun x hx hxm hd => ?_
  refine idxT hx rfl rfl ?_
  refine brn_p (fun hm => ?_) (fun hm => ?_)
  ·rw [hd,of_pos (g:=(fun x:Impl => x.module)) hm] at hinv hcnt
   have hsz:s1.length + (E2 x).length ≤ 2 ^ 46:=by
    have:=congrArg List.length hinv
    simp only [List.flatMap_cons,List.length_append] at this
    omega
   rw [List.length_cons] at hcnt
   refine idxT hx rfl rfl ?_
   refine callPD (h84 x (by omega)).give rfl fun _ => ?_
   refine appN _ (Dm.bcells_len s1) (by omega) ?_
   refine InB.mk (by decide) (by show (_:Int) < 3; decide) ?_
   refine RowT.mk ⟨[IC c1'],rfl,rfl,?_⟩
   refine Fit.in64 (by omega) (by omega) ?_
   refine InB.mk (by decide) (by show (_:Int) < 3; decide) ?_
   refine ⟨rfl,rowSt' (es0:=[IC c1']) rfl rfl ?_⟩
   refine Fit.in64 (by omega) (by omega) ?_
   refine ⟨(k1 + 1,(s1 ++ E2 x,c1' + 1)),⟨hlt,?_,?_,?_⟩,⟨nextI,same_keys rfl,same_keys rfl,same_keys rfl,trivial⟩,⟨.inl ⟨_,rfl,.inl ⟨rfl,rfl⟩⟩,.inl ⟨_,rfl,.inl ⟨rfl,rfl⟩⟩,.inl ⟨_,rfl,.inl ⟨rfl,rfl⟩⟩,.inl ⟨_,rfl,.inl ⟨congrArg (TO.row 5 1) (bcells_app _ _).symm,rfl⟩⟩,trivial⟩,nextM hlt⟩
   ·show s1 ++ E2 x ++ _ = _
    rw [← hinv]; simp
   ·show c1' + 1 + ((of' (fun x:Impl => x.module) m (q.impls.drop (k1 + 1))).length:Int) = _
    omega
   ·show 0 ≤ c1' + 1
    omega
  ·rw [hd,of_neg (g:=(fun x:Impl => x.module)) hm] at hinv hcnt
   refine Fit.in64 (by omega) (by omega) ?_
   exact ⟨(k1 + 1,(s1,c1')),⟨hlt,hinv,hcnt,hc0⟩,⟨nextI,same_keys rfl,same_keys rfl,same_keys rfl,trivial⟩,⟨.inl ⟨_,rfl,.inl ⟨rfl,rfl⟩⟩,.inl ⟨_,rfl,.inl ⟨rfl,rfl⟩⟩,.inl ⟨_,rfl,.inl ⟨rfl,rfl⟩⟩,.inl ⟨_,rfl,.inl ⟨rfl,rfl⟩⟩,trivial⟩,nextM hlt⟩
 have hge:¬ k1 < q.impls.length:=by simpa using hge
 rw [drop_end hge] at hinv hcnt
 have e1:s1 = I'.flatMap E2:=by rw [← hinv]; simp [of']
 have f1:c1' = (I'.length:Int):=by simpa [of'] using hcnt
 clear hinv hcnt hge
 refine loopN q.funcs.length 11 [8,5,6,7] (([]:List UInt8),(0:Int)) (fun y => [.rw 13,.rw 37,.rw 66,.rw 95]) (fun y => [(2,.box 29 (progC q)),(13,.row 3 1 [[IC c0'],[IC c1'],[IC y.2]]),(37,.row 5 1 (bcells s0)),(66,.row 5 1 (bcells s1)),(95,.row 5 1 (bcells y.1))]) (fun k y => y.1 ++ (of' (fun x:Fun => x.module) m (q.funcs.drop k)).flatMap E3 = F'.flatMap E3 ∧ y.2 + (of' (fun x:Fun => x.module) m (q.funcs.drop k)).length = F'.length ∧ 0 ≤ y.2) ⟨by rw [List.drop_zero,hF]; rfl,by rw [List.drop_zero,hF]; omega,Int.le_refl 0⟩ (same_keys rfl) ⟨same_keys rfl,same_keys rfl,same_keys rfl,.inr (.inr (.inr (.inl ⟨rfl,95,5,1,rfl,rfl,rfl⟩))),trivial⟩
  ⟨.inl ⟨_,rfl,.inl ⟨rfl,rfl⟩⟩,.inl ⟨_,rfl,.inl ⟨rfl,rfl⟩⟩,.inl ⟨_,rfl,.inl ⟨rfl,rfl⟩⟩,.inl ⟨_,rfl,.inl ⟨rfl,rfl⟩⟩,.inr ⟨rfl,5,1,rfl⟩,trivial⟩ (fun _ => rfl) (fun _ => rfl) ?_
 rintro k2 ⟨s2,c2'⟩ hk2 ⟨hinv,hcnt,hc0⟩ _ _ _
 simp only at hinv hcnt hc0
 refine brn_p (fun hlt => ?_) (fun hge => ?_)
 ·have hlt:k2 < q.funcs.length:=by simpa using hlt
  refine withDrop hlt fun x hx hxm hd => ?_
  refine idxT hx rfl rfl ?_
  refine brn_p (fun hm => ?_) (fun hm => ?_)
  ·rw [hd,of_pos (g:=(fun x:Fun => x.module)) hm] at hinv hcnt
   have hsz:s2.length + (E3 x).length ≤ 2 ^ 46:=by
    have:=congrArg List.length hinv
    simp only [List.flatMap_cons,List.length_append] at this
    omega
   rw [List.length_cons] at hcnt
   refine idxT hx rfl rfl ?_
   refine callPD (h85 x (by omega)).give rfl fun _ => ?_
   refine appN _ (Dm.bcells_len s2) (by omega) ?_
   refine InB.mk (by decide) (by show (_:Int) < 3; decide) ?_
   refine RowT.mk ⟨[IC c2'],rfl,rfl,?_⟩
   refine Fit.in64 (by omega) (by omega) ?_
   refine InB.mk (by decide) (by show (_:Int) < 3; decide) ?_
   refine ⟨rfl,rowSt' (es0:=[IC c2']) rfl rfl ?_⟩
   refine Fit.in64 (by omega) (by omega) ?_
   refine ⟨(k2 + 1,(s2 ++ E3 x,c2' + 1)),⟨hlt,?_,?_,?_⟩,⟨nextI,same_keys rfl,same_keys rfl,same_keys rfl,same_keys rfl,trivial⟩,⟨.inl ⟨_,rfl,.inl ⟨rfl,rfl⟩⟩,.inl ⟨_,rfl,.inl ⟨rfl,rfl⟩⟩,.inl ⟨_,rfl,.inl ⟨rfl,rfl⟩⟩,.inl ⟨_,rfl,.inl ⟨rfl,rfl⟩⟩,.inl ⟨_,rfl,.inl ⟨congrArg (TO.row 5 1) (bcells_app _ _).symm,rfl⟩⟩,trivial⟩,nextM hlt⟩
   ·show s2 ++ E3 x ++ _ = _
    rw [← hinv]; simp
   ·show c2' + 1 + ((of' (fun x:Fun => x.module) m (q.funcs.drop (k2 + 1))).length:Int) = _
    omega
   ·show 0 ≤ c2' + 1
    omega
  ·rw [hd,of_neg (g:=(fun x:Fun => x.module)) hm] at hinv hcnt
   refine Fit.in64 (by omega) (by omega) ?_
   exact ⟨(k2 + 1,(s2,c2')),⟨hlt,hinv,hcnt,hc0⟩,⟨nextI,same_keys rfl,same_keys rfl,same_keys rfl,same_keys rfl,trivial⟩,⟨.inl ⟨_,rfl,.inl ⟨rfl,rfl⟩⟩,.inl ⟨_,rfl,.inl ⟨rfl,rfl⟩⟩,.inl ⟨_,rfl,.inl ⟨rfl,rfl⟩⟩,.inl ⟨_,rfl,.inl ⟨rfl,rfl⟩⟩,.inl ⟨_,rfl,.inl ⟨rfl,rfl⟩⟩,trivial⟩,nextM hlt⟩
 have hge:¬ k2 < q.funcs.length:=by simpa using hge
 rw [drop_end hge] at hinv hcnt
 have e2:s2 = F'.flatMap E3:=by rw [← hinv]; simp [of']
 have f2:c2' = (F'.length:Int):=by simpa [of'] using hcnt
 clear hinv hcnt hge
 have q0:s0.length = (D.flatMap E1).length:=by rw [e0]
 have q1:s1.length = (I'.flatMap E2).length:=by rw [e1]
 have q2:s2.length = (F'.flatMap E3).length:=by rw [e2]
 have p0:(encI c0').length = (encI D.length).length:=by rw [f0]
 have p1:(encI c1').length = (encI I'.length).length:=by rw [f1]
 have p2:(encI c2').length = (encI F'.length).length:=by rw [f2]
 refine IdxT.mk ⟨[IC c0'],by decide,rfl,rfl,?_⟩
 refine callPD h86 rfl fun _ => ?_
 refine callDO h76 rfl rfl ?_
 refine callPD (h77 c0') rfl fun _ => ?_
 refine appN _ (Dm.bcells_len c0) (by omega) ?_
 refine appN _ (lenA (Dm.bcells_len c0) (Dm.bcells_len _)) (by omega) ?_
 refine IdxT.mk ⟨[IC c1'],by decide,rfl,rfl,?_⟩
 refine callP (h77 c1') rfl fun _ => ?_
 refine appN _ (lenA (lenA (Dm.bcells_len c0) (Dm.bcells_len _)) (Dm.bcells_len _)) (by omega) ?_
 refine appN _ (lenA (lenA (lenA (Dm.bcells_len c0) (Dm.bcells_len _)) (Dm.bcells_len _)) (Dm.bcells_len _)) (by omega) ?_
 refine IdxT.mk ⟨[IC c2'],by decide,rfl,rfl,?_⟩
 refine callP (h77 c2') rfl fun _ => ?_
 refine appN _ (lenA (lenA (lenA (lenA (Dm.bcells_len c0) (Dm.bcells_len _)) (Dm.bcells_len _)) (Dm.bcells_len _)) (Dm.bcells_len _)) (by omega) ?_
 refine appN (b:=s2) _ (lenA (lenA (lenA (lenA (lenA (Dm.bcells_len c0) (Dm.bcells_len _)) (Dm.bcells_len _)) (Dm.bcells_len _)) (Dm.bcells_len _)) (Dm.bcells_len _)) (by omega) ?_
 have e9:bcells c0 ++ bcells (encI c0') ++ bcells s0 ++ bcells (encI c1') ++ bcells s1 ++ bcells (encI c2') ++ bcells s2 = bcells (c0 ++ encI D.length ++ D.flatMap E1 ++ encI I'.length ++ I'.flatMap E2 ++ encI F'.length ++ F'.flatMap E3):=by
  rw [f0,f1,f2,← e0,← e1,← e2]
  simp only [bcells_app]
 exact retO [105] rfl rfl (rowE e9) rfl
def pcQ (q:Prog):PC:=⟨scs q.modules,q.uses.map fun l => [.sl (ics l)],q.datas.map dataC,scs q.traits,ics q.homes,q.impls.map implC,q.funcs.map funC,q.main⟩
theorem vint_encN:∀ z:Nat,vint z = encN z
 | z => by
  rw [vint,encN]
  split
  ·rfl
  ·rw [vint_encN (z / 128)]
termination_by z => z
decreasing_by omega
theorem numB_encI (n:Int):numB n = encI n:=vint_encN _
theorem numsB_encIs (l:List Int):numsB l = encIs l:=by
 unfold numsB encIs
 rw [← List.flatMap_def]
 congr 1
 funext n
 exact numB_encI n
theorem textB_encS (s:ByteArray):textB s = encS s:=by unfold textB encS; rw [numB_encI]
theorem textsB_encSs (l:List ByteArray):textsB l = encSs l:=by
 unfold textsB encSs
 rw [← List.flatMap_def]
 congr 1
 funext n
 exact textB_encS n
def WQ (q:Prog) (bs:List UInt8):List TO:=WP (pcQ q) bs
def WQL (q:Prog) (bs:List UInt8):TL:=WPL (pcQ q) bs
def WQC (q:Prog) (bs:List UInt8):List TO:=WV (pcQ q) bs
def WQCL (q:Prog) (bs:List UInt8):TL:=WVL (pcQ q) bs
theorem w59 (q:Prog) (bs:List UInt8) (l:List Int) (hb:(bs ++ encIs l).length ≤ 2 ^ 46):CallsT PZ 59 [.own 1000 0,.sl (ics l)] (WQ q bs) (Ret (WQ q (bs ++ encIs l)) (.tup [])):=by
 rw [← numsB_encIs] at hb ⊢
 exact t59 (pcQ q) bs l (by rw [List.length_append] at hb; omega)
theorem w25 (q:Prog) (bs:List UInt8) (l:List ByteArray) (hb:(bs ++ encSs l).length ≤ 2 ^ 46):CallsT PZ 25 [.own 1000 0,.sl (scs l)] (WQ q bs) (Ret (WQ q (bs ++ encSs l)) (.tup [])):=by
 rw [← textsB_encSs] at hb ⊢
 exact t25 (pcQ q) bs l (by rw [List.length_append] at hb; omega)
theorem w26 (q:Prog) (bs:List UInt8) (l:List Api.Data) (enc:Api.Data → List UInt8) (hc:∀ x ∈ l,∀ s:List UInt8,(s ++ enc x).length ≤ 2 ^ 46 → CallsT PZ 29 [.own 1000 0,.agg (dataC x)] (WQ q s) (Ret (WQ q (s ++ enc x)) (.tup [])))
  (hb:(bs ++ encL enc l).length ≤ 2 ^ 46):CallsT PZ 26 [.own 1000 0,.sl (l.map dataC),.fn 29 [.own 1000 0] []] (WQ q bs) (Ret (WQ q (bs ++ encL enc l)) (.tup [])):=by
 refine callsT_facts Tryd.func26 facts26 rfl fun hw _ => ?_
 have hll:(l.map dataC).length = l.length:=by simp [ics]
 have hn:l.length ≤ 9223372036854775807:=by have:=wf_len hw.2.1; simpa [ics] using this
 refine callO [1000,1001] [1000,1001] (w59 q bs [((l.map dataC).length:Int)] ?_) rfl rfl rfl rfl rfl fun _ _ => ?_
 ·simp only [encL,List.length_append,hll,encIs,List.flatMap_cons,List.flatMap_nil,List.append_nil] at hb ⊢; omega
 refine loopN l.length 15 [] (bs ++ encI l.length) (fun _ => []) (fun s => WQL q s) (fun k s => s ++ (l.drop k).flatMap enc = bs ++ encL enc l) (by simp [encL]) (same_keys rfl) trivial ⟨.inl ⟨_,rfl,.inl ⟨rfl,rfl⟩⟩,.inl ⟨_,rfl,.inl ⟨?_,rfl⟩⟩,trivial⟩ (fun _ => rfl) (fun _ => rfl) ?_
 ·show TO.row 5 1 (bcells (bs ++ encIs [((l.map dataC).length:Int)])) = _
  rw [hll]; simp [encIs]
 rintro k s hk hinv _ _ _
 refine brn_p (fun hlt => ?_) (fun hge => ?_)
 ·have hlt:k < l.length:=by rw [hll] at hlt; omega
  refine withDrop hlt fun x hx hxm hd => ?_
  rw [hd,List.flatMap_cons] at hinv
  have hsz:(s ++ enc x).length ≤ 2 ^ 46:=by
   rw [← hinv] at hb
   simp only [List.length_append] at hb ⊢
   omega
  refine idxT hx rfl rfl ?_
  refine callO [1000,1001] [1000,1001] (hc x hxm s hsz) rfl rfl rfl rfl rfl fun _ _ => ?_
  refine Fit.in64 (by omega) (by omega) ?_
  exact ⟨(k + 1,s ++ enc x),⟨hlt,by rw [← hinv]; simp⟩,⟨nextI,trivial⟩,⟨.inl ⟨_,rfl,.inl ⟨rfl,rfl⟩⟩,.inl ⟨_,rfl,.inl ⟨rfl,rfl⟩⟩,trivial⟩,nextM hlt⟩
 ·have hge:¬ k < l.length:=by rw [hll] at hge; omega
  rw [drop_end hge] at hinv
  refine retO [1000,1001] rfl rfl ?_ rfl
  simp only [List.flatMap_nil,List.append_nil] at hinv
  subst hinv
  rfl
theorem w30 (q:Prog) (bs:List UInt8) (l:List Impl) (enc:Impl → List UInt8) (hc:∀ x ∈ l,∀ s:List UInt8,(s ++ enc x).length ≤ 2 ^ 46 → CallsT PZ 33 [.own 1000 0,.agg (implC x)] (WQ q s) (Ret (WQ q (s ++ enc x)) (.tup [])))
  (hb:(bs ++ encL enc l).length ≤ 2 ^ 46):CallsT PZ 30 [.own 1000 0,.sl (l.map implC),.fn 33 [.own 1000 0] []] (WQ q bs) (Ret (WQ q (bs ++ encL enc l)) (.tup [])):=by
 refine callsT_facts Tryd.func30 facts30 rfl fun hw _ => ?_
 have hll:(l.map implC).length = l.length:=by simp [ics]
 have hn:l.length ≤ 9223372036854775807:=by have:=wf_len hw.2.1; simpa [ics] using this
 refine callO [1000,1001] [1000,1001] (w59 q bs [((l.map implC).length:Int)] ?_) rfl rfl rfl rfl rfl fun _ _ => ?_
 ·simp only [encL,List.length_append,hll,encIs,List.flatMap_cons,List.flatMap_nil,List.append_nil] at hb ⊢; omega
 refine loopN l.length 15 [] (bs ++ encI l.length) (fun _ => []) (fun s => WQL q s) (fun k s => s ++ (l.drop k).flatMap enc = bs ++ encL enc l) (by simp [encL]) (same_keys rfl) trivial ⟨.inl ⟨_,rfl,.inl ⟨rfl,rfl⟩⟩,.inl ⟨_,rfl,.inl ⟨?_,rfl⟩⟩,trivial⟩ (fun _ => rfl) (fun _ => rfl) ?_
 ·show TO.row 5 1 (bcells (bs ++ encIs [((l.map implC).length:Int)])) = _
  rw [hll]; simp [encIs]
 rintro k s hk hinv _ _ _
 refine brn_p (fun hlt => ?_) (fun hge => ?_)
 ·have hlt:k < l.length:=by rw [hll] at hlt; omega
  refine withDrop hlt fun x hx hxm hd => ?_
  rw [hd,List.flatMap_cons] at hinv
  have hsz:(s ++ enc x).length ≤ 2 ^ 46:=by
   rw [← hinv] at hb
   simp only [List.length_append] at hb ⊢
   omega
  refine idxT hx rfl rfl ?_
  refine callO [1000,1001] [1000,1001] (hc x hxm s hsz) rfl rfl rfl rfl rfl fun _ _ => ?_
  refine Fit.in64 (by omega) (by omega) ?_
  exact ⟨(k + 1,s ++ enc x),⟨hlt,by rw [← hinv]; simp⟩,⟨nextI,trivial⟩,⟨.inl ⟨_,rfl,.inl ⟨rfl,rfl⟩⟩,.inl ⟨_,rfl,.inl ⟨rfl,rfl⟩⟩,trivial⟩,nextM hlt⟩
 ·have hge:¬ k < l.length:=by rw [hll] at hge; omega
  rw [drop_end hge] at hinv
  refine retO [1000,1001] rfl rfl ?_ rfl
  simp only [List.flatMap_nil,List.append_nil] at hinv
  subst hinv
  rfl
theorem w34 (q:Prog) (bs:List UInt8) (l:List Fun) (enc:Fun → List UInt8) (hc:∀ x ∈ l,∀ s:List UInt8,(s ++ enc x).length ≤ 2 ^ 46 → CallsT PZ 37 [.own 1000 0,.agg (funC x)] (WQ q s) (Ret (WQ q (s ++ enc x)) (.tup [])))
  (hb:(bs ++ encL enc l).length ≤ 2 ^ 46):CallsT PZ 34 [.own 1000 0,.sl (l.map funC),.fn 37 [.own 1000 0] []] (WQ q bs) (Ret (WQ q (bs ++ encL enc l)) (.tup [])):=by
 refine callsT_facts Tryd.func34 facts34 rfl fun hw _ => ?_
 have hll:(l.map funC).length = l.length:=by simp [ics]
 have hn:l.length ≤ 9223372036854775807:=by have:=wf_len hw.2.1; simpa [ics] using this
 refine callO [1000,1001] [1000,1001] (w59 q bs [((l.map funC).length:Int)] ?_) rfl rfl rfl rfl rfl fun _ _ => ?_
 ·simp only [encL,List.length_append,hll,encIs,List.flatMap_cons,List.flatMap_nil,List.append_nil] at hb ⊢; omega
 refine loopN l.length 15 [] (bs ++ encI l.length) (fun _ => []) (fun s => WQL q s) (fun k s => s ++ (l.drop k).flatMap enc = bs ++ encL enc l) (by simp [encL]) (same_keys rfl) trivial ⟨.inl ⟨_,rfl,.inl ⟨rfl,rfl⟩⟩,.inl ⟨_,rfl,.inl ⟨?_,rfl⟩⟩,trivial⟩ (fun _ => rfl) (fun _ => rfl) ?_
 ·show TO.row 5 1 (bcells (bs ++ encIs [((l.map funC).length:Int)])) = _
  rw [hll]; simp [encIs]
 rintro k s hk hinv _ _ _
 refine brn_p (fun hlt => ?_) (fun hge => ?_)
 ·have hlt:k < l.length:=by rw [hll] at hlt; omega
  refine withDrop hlt fun x hx hxm hd => ?_
  rw [hd,List.flatMap_cons] at hinv
  have hsz:(s ++ enc x).length ≤ 2 ^ 46:=by
   rw [← hinv] at hb
   simp only [List.length_append] at hb ⊢
   omega
  refine idxT hx rfl rfl ?_
  refine callO [1000,1001] [1000,1001] (hc x hxm s hsz) rfl rfl rfl rfl rfl fun _ _ => ?_
  refine Fit.in64 (by omega) (by omega) ?_
  exact ⟨(k + 1,s ++ enc x),⟨hlt,by rw [← hinv]; simp⟩,⟨nextI,trivial⟩,⟨.inl ⟨_,rfl,.inl ⟨rfl,rfl⟩⟩,.inl ⟨_,rfl,.inl ⟨rfl,rfl⟩⟩,trivial⟩,nextM hlt⟩
 ·have hge:¬ k < l.length:=by rw [hll] at hge; omega
  rw [drop_end hge] at hinv
  refine retO [1000,1001] rfl rfl ?_ rfl
  simp only [List.flatMap_nil,List.append_nil] at hinv
  subst hinv
  rfl
theorem w70 (q:Prog) (bs:List UInt8) (l:List Variant) (enc:Variant → List UInt8) (hc:∀ x ∈ l,∀ s:List UInt8,(s ++ enc x).length ≤ 2 ^ 46 → CallsT PZ 71 [.agg (variantC x),.own 1002 0] (WQC q s) (Ret (WQC q (s ++ enc x)) (.tup [])))
  (hb:(bs ++ encL enc l).length ≤ 2 ^ 46):CallsT PZ 70 [.own 1000 0,.sl (l.map variantC),.fn 71 [] [.own 1002 0]] (WQC q bs) (Ret (WQC q (bs ++ encL enc l)) (.tup [])):=by
 refine callsT_facts Tryd.func70 facts70 rfl fun hw _ => ?_
 have hll:(l.map variantC).length = l.length:=by simp [ics]
 have hn:l.length ≤ 9223372036854775807:=by have:=wf_len hw.2.1; simpa [ics] using this
 refine callO [1000,1001] [1000,1001] (w59 q bs [((l.map variantC).length:Int)] ?_) rfl rfl rfl rfl rfl fun _ _ => ?_
 ·simp only [encL,List.length_append,hll,encIs,List.flatMap_cons,List.flatMap_nil,List.append_nil] at hb ⊢; omega
 refine loopN l.length 15 [] (bs ++ encI l.length) (fun _ => []) (fun s => WQCL q s) (fun k s => s ++ (l.drop k).flatMap enc = bs ++ encL enc l) (by simp [encL]) (same_keys rfl) trivial ⟨.inl ⟨_,rfl,.inl ⟨rfl,rfl⟩⟩,.inl ⟨_,rfl,.inl ⟨?_,rfl⟩⟩,.inl ⟨_,rfl,.inl ⟨rfl,rfl⟩⟩,trivial⟩ (fun _ => rfl) (fun _ => rfl) ?_
 ·show TO.row 5 1 (bcells (bs ++ encIs [((l.map variantC).length:Int)])) = _
  rw [hll]; simp [encIs]
 rintro k s hk hinv _ _ _
 refine brn_p (fun hlt => ?_) (fun hge => ?_)
 ·have hlt:k < l.length:=by rw [hll] at hlt; omega
  refine withDrop hlt fun x hx hxm hd => ?_
  rw [hd,List.flatMap_cons] at hinv
  have hsz:(s ++ enc x).length ≤ 2 ^ 46:=by
   rw [← hinv] at hb
   simp only [List.length_append] at hb ⊢
   omega
  refine idxT hx rfl rfl ?_
  refine callO [1000,1001,1002] [1000,1001,1002] (hc x hxm s hsz) rfl rfl rfl rfl rfl fun _ _ => ?_
  refine Fit.in64 (by omega) (by omega) ?_
  exact ⟨(k + 1,s ++ enc x),⟨hlt,by rw [← hinv]; simp⟩,⟨nextI,trivial⟩,⟨.inl ⟨_,rfl,.inl ⟨rfl,rfl⟩⟩,.inl ⟨_,rfl,.inl ⟨rfl,rfl⟩⟩,.inl ⟨_,rfl,.inl ⟨rfl,rfl⟩⟩,trivial⟩,nextM hlt⟩
 ·have hge:¬ k < l.length:=by rw [hll] at hge; omega
  rw [drop_end hge] at hinv
  refine retO [1000,1001,1002] rfl rfl ?_ rfl
  simp only [List.flatMap_nil,List.append_nil] at hinv
  subst hinv
  rfl
theorem w72 (q:Prog) (bs:List UInt8) (l:List Ty) (enc:Ty → List UInt8) (hc:∀ x ∈ l,∀ s:List UInt8,(s ++ enc x).length ≤ 2 ^ 46 → CallsT PZ 73 [.own 1000 0,.agg (tyC x)] (WQ q s) (Ret (WQ q (s ++ enc x)) (.tup [])))
  (hb:(bs ++ encL enc l).length ≤ 2 ^ 46):CallsT PZ 72 [.own 1000 0,.sl (l.map tyC),.fn 73 [.own 1000 0] []] (WQ q bs) (Ret (WQ q (bs ++ encL enc l)) (.tup [])):=by
 refine callsT_facts Tryd.func72 facts72 rfl fun hw _ => ?_
 have hll:(l.map tyC).length = l.length:=by simp [ics]
 have hn:l.length ≤ 9223372036854775807:=by have:=wf_len hw.2.1; simpa [ics] using this
 refine callO [1000,1001] [1000,1001] (w59 q bs [((l.map tyC).length:Int)] ?_) rfl rfl rfl rfl rfl fun _ _ => ?_
 ·simp only [encL,List.length_append,hll,encIs,List.flatMap_cons,List.flatMap_nil,List.append_nil] at hb ⊢; omega
 refine loopN l.length 15 [] (bs ++ encI l.length) (fun _ => []) (fun s => WQL q s) (fun k s => s ++ (l.drop k).flatMap enc = bs ++ encL enc l) (by simp [encL]) (same_keys rfl) trivial ⟨.inl ⟨_,rfl,.inl ⟨rfl,rfl⟩⟩,.inl ⟨_,rfl,.inl ⟨?_,rfl⟩⟩,trivial⟩ (fun _ => rfl) (fun _ => rfl) ?_
 ·show TO.row 5 1 (bcells (bs ++ encIs [((l.map tyC).length:Int)])) = _
  rw [hll]; simp [encIs]
 rintro k s hk hinv _ _ _
 refine brn_p (fun hlt => ?_) (fun hge => ?_)
 ·have hlt:k < l.length:=by rw [hll] at hlt; omega
  refine withDrop hlt fun x hx hxm hd => ?_
  rw [hd,List.flatMap_cons] at hinv
  have hsz:(s ++ enc x).length ≤ 2 ^ 46:=by
   rw [← hinv] at hb
   simp only [List.length_append] at hb ⊢
   omega
  refine idxTy hx ?_
  refine callO [1000,1001] [1000,1001] (hc x hxm s hsz) rfl rfl ?_ rfl rfl fun _ _ => ?_
  ·simp only [tyC_eq]; rfl
  refine Fit.in64 (by omega) (by omega) ?_
  exact ⟨(k + 1,s ++ enc x),⟨hlt,by rw [← hinv]; simp⟩,⟨nextI,trivial⟩,⟨.inl ⟨_,rfl,.inl ⟨rfl,rfl⟩⟩,.inl ⟨_,rfl,.inl ⟨rfl,rfl⟩⟩,trivial⟩,nextM hlt⟩
 ·have hge:¬ k < l.length:=by rw [hll] at hge; omega
  rw [drop_end hge] at hinv
  refine retO [1000,1001] rfl rfl ?_ rfl
  simp only [List.flatMap_nil,List.append_nil] at hinv
  subst hinv
  rfl
theorem w75 (q:Prog) (bs:List UInt8) (l:List Bound) (enc:Bound → List UInt8) (hc:∀ x ∈ l,∀ s:List UInt8,(s ++ enc x).length ≤ 2 ^ 46 → CallsT PZ 76 [.own 1000 0,.agg (boundC x)] (WQ q s) (Ret (WQ q (s ++ enc x)) (.tup [])))
  (hb:(bs ++ encL enc l).length ≤ 2 ^ 46):CallsT PZ 75 [.own 1000 0,.sl (l.map boundC),.fn 76 [.own 1000 0] []] (WQ q bs) (Ret (WQ q (bs ++ encL enc l)) (.tup [])):=by
 refine callsT_facts Tryd.func75 facts75 rfl fun hw _ => ?_
 have hll:(l.map boundC).length = l.length:=by simp [ics]
 have hn:l.length ≤ 9223372036854775807:=by have:=wf_len hw.2.1; simpa [ics] using this
 refine callO [1000,1001] [1000,1001] (w59 q bs [((l.map boundC).length:Int)] ?_) rfl rfl rfl rfl rfl fun _ _ => ?_
 ·simp only [encL,List.length_append,hll,encIs,List.flatMap_cons,List.flatMap_nil,List.append_nil] at hb ⊢; omega
 refine loopN l.length 15 [] (bs ++ encI l.length) (fun _ => []) (fun s => WQL q s) (fun k s => s ++ (l.drop k).flatMap enc = bs ++ encL enc l) (by simp [encL]) (same_keys rfl) trivial ⟨.inl ⟨_,rfl,.inl ⟨rfl,rfl⟩⟩,.inl ⟨_,rfl,.inl ⟨?_,rfl⟩⟩,trivial⟩ (fun _ => rfl) (fun _ => rfl) ?_
 ·show TO.row 5 1 (bcells (bs ++ encIs [((l.map boundC).length:Int)])) = _
  rw [hll]; simp [encIs]
 rintro k s hk hinv _ _ _
 refine brn_p (fun hlt => ?_) (fun hge => ?_)
 ·have hlt:k < l.length:=by rw [hll] at hlt; omega
  refine withDrop hlt fun x hx hxm hd => ?_
  rw [hd,List.flatMap_cons] at hinv
  have hsz:(s ++ enc x).length ≤ 2 ^ 46:=by
   rw [← hinv] at hb
   simp only [List.length_append] at hb ⊢
   omega
  refine idxT hx rfl rfl ?_
  refine callO [1000,1001] [1000,1001] (hc x hxm s hsz) rfl rfl rfl rfl rfl fun _ _ => ?_
  refine Fit.in64 (by omega) (by omega) ?_
  exact ⟨(k + 1,s ++ enc x),⟨hlt,by rw [← hinv]; simp⟩,⟨nextI,trivial⟩,⟨.inl ⟨_,rfl,.inl ⟨rfl,rfl⟩⟩,.inl ⟨_,rfl,.inl ⟨rfl,rfl⟩⟩,trivial⟩,nextM hlt⟩
 ·have hge:¬ k < l.length:=by rw [hll] at hge; omega
  rw [drop_end hge] at hinv
  refine retO [1000,1001] rfl rfl ?_ rfl
  simp only [List.flatMap_nil,List.append_nil] at hinv
  subst hinv
  rfl
theorem w57 (q:Prog) (bs:List UInt8) (l:List Int) (enc:Int → List UInt8) (hc:∀ x ∈ l,∀ s:List UInt8,(s ++ enc x).length ≤ 2 ^ 46 → CallsT PZ 78 [IC x,.own 1002 0] (WQC q s) (Ret (WQC q (s ++ enc x)) (.tup [])))
  (hb:(bs ++ encL enc l).length ≤ 2 ^ 46):CallsT PZ 57 [.own 1000 0,.sl (ics l),.fn 78 [] [.own 1002 0]] (WQC q bs) (Ret (WQC q (bs ++ encL enc l)) (.tup [])):=by
 refine callsT_facts Tryd.func57 facts57 rfl fun hw _ => ?_
 have hll:(ics l).length = l.length:=by simp [ics]
 have hn:l.length ≤ 9223372036854775807:=by have:=wf_len hw.2.1; simpa [ics] using this
 refine callO [1000,1001] [1000,1001] (w59 q bs [((ics l).length:Int)] ?_) rfl rfl rfl rfl rfl fun _ _ => ?_
 ·simp only [encL,List.length_append,hll,encIs,List.flatMap_cons,List.flatMap_nil,List.append_nil] at hb ⊢; omega
 refine loopN l.length 15 [] (bs ++ encI l.length) (fun _ => []) (fun s => WQCL q s) (fun k s => s ++ (l.drop k).flatMap enc = bs ++ encL enc l) (by simp [encL]) (same_keys rfl) trivial ⟨.inl ⟨_,rfl,.inl ⟨rfl,rfl⟩⟩,.inl ⟨_,rfl,.inl ⟨?_,rfl⟩⟩,.inl ⟨_,rfl,.inl ⟨rfl,rfl⟩⟩,trivial⟩ (fun _ => rfl) (fun _ => rfl) ?_
 ·show TO.row 5 1 (bcells (bs ++ encIs [((ics l).length:Int)])) = _
  rw [hll]; simp [encIs]
 rintro k s hk hinv _ _ _
 refine brn_p (fun hlt => ?_) (fun hge => ?_)
 ·have hlt:k < l.length:=by rw [hll] at hlt; omega
  refine withDrop hlt fun x hx hxm hd => ?_
  rw [hd,List.flatMap_cons] at hinv
  have hsz:(s ++ enc x).length ≤ 2 ^ 46:=by
   rw [← hinv] at hb
   simp only [List.length_append] at hb ⊢
   omega
  refine idxI hx ?_
  refine callO [1000,1001,1002] [1000,1001,1002] (hc x hxm s hsz) rfl rfl rfl rfl rfl fun _ _ => ?_
  refine Fit.in64 (by omega) (by omega) ?_
  exact ⟨(k + 1,s ++ enc x),⟨hlt,by rw [← hinv]; simp⟩,⟨nextI,trivial⟩,⟨.inl ⟨_,rfl,.inl ⟨rfl,rfl⟩⟩,.inl ⟨_,rfl,.inl ⟨rfl,rfl⟩⟩,.inl ⟨_,rfl,.inl ⟨rfl,rfl⟩⟩,trivial⟩,nextM hlt⟩
 ·have hge:¬ k < l.length:=by rw [hll] at hge; omega
  rw [drop_end hge] at hinv
  refine retO [1000,1001,1002] rfl rfl ?_ rfl
  simp only [List.flatMap_nil,List.append_nil] at hinv
  subst hinv
  rfl
end Go.Fr.Tryd
