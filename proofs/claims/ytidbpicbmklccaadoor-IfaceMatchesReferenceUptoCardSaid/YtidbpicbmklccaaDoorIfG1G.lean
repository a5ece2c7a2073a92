/- Part of the proofs of the statements of this seat. -/
import Derived.Test.YtidbpicbmklccaaDoorIfM1G
import Derived.Test.YtidbpicbmklccaaDoorIfL5G
import Derived.Test.YtidbpicbmklccaaDoorIfQ4G
import Derived.Test.YtidbpicbmklccaaDoorFW3
import Derived.Test.YtidbpicbmklccaaDoorIfIds
import Derived.Test.YtidbpicbmklccaaDoorRows
import Derived.WideKeyMaps
import Derived.MakeChecks
import Derived.ChangeArms
set_option maxRecDepth 10000
set_option linter.unusedVariables false
set_option linter.unusedSimpArgs false
namespace Go.Fr.Tryd
open Go Go.RowKit Go.Proofs Go.Fr Go.Fr.T Go.Fr.Api Go.Fr.Dm
theorem t74 (l:List ByteArray) (i:Int):CallsT PZ 74 [.sl (scs l),IC i] [] (Ret [] (.str (nm l i))):=by
 have hl:(scs l).length = l.length:=by simp [scs]
 refine callsT_facts Tryd.func74 facts74 rfl fun hw _ => ?_
 cases he:elem l i with
 | none =>
  have hn:nm l i = ⟨#[]⟩:=by simp [nm,he]
  rw [hn]
  have h:=elem_none he
  refine brn_p (fun h0 => ?_) (fun h0 => ?_)
  ·refine brn_p (fun h1 => ?_) (fun h1 => ?_)
   ·exfalso; rw [hl] at h1; omega
   ·exact retP rfl rfl
  ·exact retP rfl rfl
 | some s =>
  have hn:nm l i = s:=by simp [nm,he]
  rw [hn]
  obtain ⟨h0,h1,h2⟩:=elem_some he
  refine brn_p (fun _ => ?_) (fun h => absurd (by omega) h)
  refine brn_p (fun _ => ?_) (fun h => absurd (by rw [hl]; omega) h)
  refine idxE (f:=fun s => [C.str s]) h0 h2 rfl rfl ?_
  exact retP rfl rfl
theorem t77 (l:List Fun) (i:Int):CallsT PZ 77 [.sl (l.map funC),IC i] [] (Ret [] (.agg (funC ((elem l i).getD zeroF)))):=by
 have hl:(l.map funC).length = l.length:=by simp
 refine callsT_facts Tryd.func77 facts77 rfl fun hw _ => ?_
 cases he:elem l i with
 | none =>
  have h:=elem_none he
  refine brn_p (fun h0 => ?_) (fun h0 => ?_)
  ·refine brn_p (fun h1 => ?_) (fun h1 => ?_)
   ·exfalso; rw [hl] at h1; omega
   ·exact retP rfl rfl
  ·exact retP rfl rfl
 | some s =>
  obtain ⟨h0,h1,h2⟩:=elem_some he
  refine brn_p (fun _ => ?_) (fun h => absurd (by omega) h)
  refine brn_p (fun _ => ?_) (fun h => absurd (by rw [hl]; omega) h)
  refine idxE (f:=funC) h0 h2 rfl rfl ?_
  exact retP rfl rfl
theorem w73 (q:Prog):∀ (t:Ty) (bs:List UInt8) (hb:(bs ++ encTy (some q) t).length ≤ 2 ^ 46),CallsT PZ 73 [.own 1000 0,.agg (tyC t)] (WQ q bs) (Ret (WQ q (bs ++ encTy (some q) t)) (.tup []))
 | .mk k i l,bs,hb => by
  have ih:∀ x ∈ l,∀ s:List UInt8,(s ++ encTy (some q) x).length ≤ 2 ^ 46 → CallsT PZ 73 [.own 1000 0,.agg (tyC x)] (WQ q s) (Ret (WQ q (s ++ encTy (some q) x)) (.tup [])):=fun x hx s hs => w73 q x s hs
  rw [tyC_eq]
  simp only [Ty.kind,Ty.id,Ty.args]
  have hdl:(pcQ q).c.length = q.datas.length:=by simp [pcQ]
  cases hn:encName (some q) k i with
  | none =>
   have e:bs ++ encTy (some q) (.mk k i l) = bs ++ encIs [k] ++ encIs [i] ++ encL (encTy (some q)) l:=by rw [encTy_eq]; simp [encIs,Ty.kind,Ty.id,Ty.args,hn]
   rw [e] at hb ⊢
   have hno:¬ (k = 2 ∧ 0 ≤ i ∧ i < q.datas.length):=by
    rintro ⟨hk,h0,h1⟩
    simp only [encName,hk,if_true] at hn
    cases he:elem q.datas i with
    | none => have:=elem_none he; omega
    | some d => rw [he] at hn; cases hn
   generalize encTy (some q) = E at ih hb ⊢
   refine callsT_facts Tryd.func73 facts73 rfl fun hw _ => ?_
   refine callO [1000,1001] [1000,1001] (w59 q bs [k] (by simp only [List.length_append] at hb ⊢; omega)) rfl rfl rfl rfl rfl fun _ _ => ?_
   refine brn_p (fun hk => ?_) (fun hk => ?_)
   ·refine brn_p (fun h0 => ?_) (fun h0 => ?_)
    ·refine brn_p (fun h1 => ?_) (fun h1 => ?_)
     ·exact absurd ⟨hk,h0,by rw [hdl] at h1; exact h1⟩ hno
     ·refine callO [1000,1001] [1000,1001] (w59 q (bs ++ encIs [k]) [i] (by simp only [List.length_append] at hb ⊢; omega)) rfl rfl rfl rfl rfl fun _ _ => ?_
      refine callO [1000,1001] [1000,1001] (w72 q (bs ++ encIs [k] ++ encIs [i]) l E ih hb) rfl rfl rfl rfl rfl fun _ _ => ?_
      exact retO [1000,1001] rfl rfl rfl rfl
    ·refine callO [1000,1001] [1000,1001] (w59 q (bs ++ encIs [k]) [i] (by simp only [List.length_append] at hb ⊢; omega)) rfl rfl rfl rfl rfl fun _ _ => ?_
     refine callO [1000,1001] [1000,1001] (w72 q (bs ++ encIs [k] ++ encIs [i]) l E ih hb) rfl rfl rfl rfl rfl fun _ _ => ?_
     exact retO [1000,1001] rfl rfl rfl rfl
   ·refine callO [1000,1001] [1000,1001] (w59 q (bs ++ encIs [k]) [i] (by simp only [List.length_append] at hb ⊢; omega)) rfl rfl rfl rfl rfl fun _ _ => ?_
    refine callO [1000,1001] [1000,1001] (w72 q (bs ++ encIs [k] ++ encIs [i]) l E ih hb) rfl rfl rfl rfl rfl fun _ _ => ?_
    exact retO [1000,1001] rfl rfl rfl rfl
  | some b =>
   have e:bs ++ encTy (some q) (.mk k i l) = bs ++ encIs [k] ++ b ++ encL (encTy (some q)) l:=by rw [encTy_eq]; simp [encIs,Ty.kind,Ty.id,Ty.args,hn]
   rw [e] at hb ⊢
   have hyes:k = 2 ∧ ∃ d,elem q.datas i = some d ∧ b = encSs [nm q.modules d.module,d.name]:=by
    by_cases hk:k = 2
    ·refine ⟨hk,?_⟩
     simp only [encName,hk,if_true] at hn
     cases he:elem q.datas i with
     | none => rw [he] at hn; cases hn
     | some d => rw [he] at hn; injection hn with hn; exact ⟨d,rfl,hn.symm⟩
    ·simp [encName,hk] at hn
   obtain ⟨hk2,d,hd,hbq⟩:=hyes
   obtain ⟨h0,h1,h2⟩:=elem_some hd
   subst hbq
   generalize encTy (some q) = E at ih hb ⊢
   refine callsT_facts Tryd.func73 facts73 rfl fun hw _ => ?_
   refine callO [1000,1001] [1000,1001] (w59 q bs [k] (by simp only [List.length_append] at hb ⊢; omega)) rfl rfl rfl rfl rfl fun _ _ => ?_
   refine brn_p (fun _ => ?_) (fun h => absurd hk2 h)
   refine brn_p (fun _ => ?_) (fun h => absurd (by omega) h)
   refine brn_p (fun _ => ?_) (fun h => absurd (by rw [hdl]; omega) h)
   refine idxE (f:=dataC) h0 h2 rfl rfl ?_
   refine callPD (t74 q.modules d.module) rfl fun _ => ?_
   refine callOD [1000,1001] [1000,1001] (w25 q (bs ++ encIs [k]) [nm q.modules d.module,d.name] (by simp only [List.length_append] at hb ⊢; omega)) rfl rfl rfl rfl rfl fun _ _ => ?_
   refine callO [1000,1001] [1000,1001] (w72 q (bs ++ encIs [k] ++ encSs [nm q.modules d.module,d.name]) l E ih hb) rfl rfl rfl rfl rfl fun _ _ => ?_
   exact retO [1000,1001] rfl rfl rfl rfl
termination_by t => SizeOf.sizeOf t
decreasing_by
 have:=List.sizeOf_lt_of_mem hx
 simp only [Ty.mk.sizeOf_spec]
 omega
theorem w76 (q:Prog) (b:Bound) (bs:List UInt8) (hb:(bs ++ encBound (some q) b).length ≤ 2 ^ 46):CallsT PZ 76 [.own 1000 0,.agg (boundC b)] (WQ q bs) (Ret (WQ q (bs ++ encBound (some q) b)) (.tup [])):=by
 have e:bs ++ encBound (some q) b = bs ++ encIs [b.param] ++ encSs [nm q.traits b.trait]:=by simp [encBound,encTrait]
 rw [e] at hb ⊢
 refine callsT_facts Tryd.func76 facts76 rfl fun hw _ => ?_
 refine callO [1000,1001] [1000,1001] (w59 q bs [b.param] (by simp only [List.length_append] at hb ⊢; omega)) rfl rfl rfl rfl rfl fun _ _ => ?_
 refine callPD (t74 q.traits b.trait) rfl fun _ => ?_
 refine callOD [1000,1001] [1000,1001] (w25 q _ [nm q.traits b.trait] hb) rfl rfl rfl rfl rfl fun _ _ => ?_
 exact retO [1000,1001] rfl rfl rfl rfl
theorem w75b (q:Prog) (bs:List UInt8) (l:List Bound) (hb:(bs ++ encL (encBound (some q)) l).length ≤ 2 ^ 46):CallsT PZ 75 [.own 1000 0,.sl (l.map boundC),.fn 76 [.own 1000 0] []] (WQ q bs) (Ret (WQ q (bs ++ encL (encBound (some q)) l)) (.tup [])) :=
 w75 q bs l (encBound (some q)) (fun x _ s hs => w76 q x s hs) hb
theorem w72t (q:Prog) (bs:List UInt8) (l:List Ty) (hb:(bs ++ encL (encTy (some q)) l).length ≤ 2 ^ 46):CallsT PZ 72 [.own 1000 0,.sl (l.map tyC),.fn 73 [.own 1000 0] []] (WQ q bs) (Ret (WQ q (bs ++ encL (encTy (some q)) l)) (.tup [])) :=
 w72 q bs l (encTy (some q)) (fun x _ s hs => w73 q x s hs) hb
theorem w33 (q:Prog) (x:Impl) (bs:List UInt8) (hb:(bs ++ encImpl q x).length ≤ 2 ^ 46):CallsT PZ 33 [.own 1000 0,.agg (implC x)] (WQ q bs) (Ret (WQ q (bs ++ encImpl q x)) (.tup [])):=by
 have e:bs ++ encImpl q x = bs ++ encSs [nm q.traits x.trait] ++ encIs [x.params] ++ encL (encBound (some q)) x.bounds ++ encTy (some q) x.type ++ encSs [fnameOf q x.func]:=by simp [encImpl,encTrait]
 rw [e] at hb ⊢
 have ht:(C.agg [IC x.type.kind,IC x.type.id,.sl (x.type.args.map tyC)]) = .agg (tyC x.type):=by rw [tyC_eq]
 have h73:=w73 q x.type
 have h75:=fun s => w75b q s x.bounds
 generalize encTy (some q) x.type = E at h73 hb ⊢
 generalize encL (encBound (some q)) x.bounds = B at h75 hb ⊢
 refine callsT_facts Tryd.func33 facts33 rfl fun hw _ => ?_
 refine callPD (t74 q.traits x.trait) rfl fun _ => ?_
 refine callOD [1000,1001] [1000,1001] (w25 q _ [nm q.traits x.trait] (by simp only [List.length_append] at hb ⊢; omega)) rfl rfl rfl rfl rfl fun _ _ => ?_
 refine callO [1000,1001] [1000,1001] (w59 q _ [x.params] (by simp only [List.length_append] at hb ⊢; omega)) rfl rfl rfl rfl rfl fun _ _ => ?_
 refine callO [1000,1001] [1000,1001] (h75 _ (by simp only [List.length_append] at hb ⊢; omega)) rfl rfl rfl rfl rfl fun _ _ => ?_
 refine callO [1000,1001] [1000,1001] (h73 _ (by simp only [List.length_append] at hb ⊢; omega)) rfl rfl (congrArg (fun z => [C.own 1000 0,z]) ht) rfl rfl fun _ _ => ?_
 refine callPD (t77 q.funcs x.func) rfl fun _ => ?_
 refine callOD [1000,1001] [1000,1001] (w25 q _ [fnameOf q x.func] hb) rfl rfl rfl rfl rfl fun _ _ => ?_
 exact retO [1000,1001] rfl rfl rfl rfl
theorem w71 (q:Prog) (v:Variant) (bs:List UInt8) (hb:(bs ++ encVariant (some q) v).length ≤ 2 ^ 46):CallsT PZ 71 [.agg (variantC v),.own 1002 0] (WQC q bs) (Ret (WQC q (bs ++ encVariant (some q) v)) (.tup [])):=by
 have e:bs ++ encVariant (some q) v = bs ++ encSs [v.name] ++ encL (encTy (some q)) v.fields:=by simp [encVariant]
 rw [e] at hb ⊢
 have h72:=fun s => w72t q s v.fields
 generalize encL (encTy (some q)) v.fields = B at h72 hb ⊢
 refine callsT_facts Tryd.func71 facts71 rfl fun hw _ => ?_
 refine callO [1000,1001] [1000,1001] (w25 q _ [v.name] (by simp only [List.length_append] at hb ⊢; omega)) rfl rfl rfl rfl rfl fun _ _ => ?_
 refine callO [1000,1001] [1000,1001] (h72 _ hb) rfl rfl rfl rfl rfl fun _ _ => ?_
 exact retO [1000,1001,1002] rfl rfl rfl rfl
theorem w29 (q:Prog) (d:Api.Data) (bs:List UInt8) (hb:(bs ++ encData (some q) d).length ≤ 2 ^ 46):CallsT PZ 29 [.own 1000 0,.agg (dataC d)] (WQ q bs) (Ret (WQ q (bs ++ encData (some q) d)) (.tup [])):=by
 have e:bs ++ encData (some q) d = bs ++ encSs [d.name] ++ encIs [d.params,d.drop] ++ encL (encVariant (some q)) d.variants:=by simp [encData]
 rw [e] at hb ⊢
 have h70:=fun s => w70 q s d.variants (encVariant (some q)) (fun x _ s hs => w71 q x s hs)
 generalize encL (encVariant (some q)) d.variants = B at h70 hb ⊢
 refine callsT_facts Tryd.func29 facts29 rfl fun hw _ => ?_
 refine callO [1000,1001] [1000,1001] (w25 q _ [d.name] (by simp only [List.length_append] at hb ⊢; omega)) rfl rfl rfl rfl rfl fun _ _ => ?_
 refine callO [1000,1001] [1000,1001] (w59 q _ [d.params,d.drop] (by simp only [List.length_append] at hb ⊢; omega)) rfl rfl rfl rfl rfl fun _ _ => ?_
 refine callO [1000,1001,2] [1000,1001,2] (h70 _ hb) rfl rfl rfl rfl rfl fun _ _ => ?_
 exact retO [1000,1001] rfl rfl rfl rfl
theorem w78 (q:Prog) (n:Int) (bs:List UInt8) (hb:(bs ++ encI n).length ≤ 2 ^ 46):CallsT PZ 78 [IC n,.own 1002 0] (WQC q bs) (Ret (WQC q (bs ++ encI n)) (.tup [])):=by
 have e:bs ++ encI n = bs ++ encIs [n]:=by simp [encIs]
 rw [e] at hb ⊢
 refine callsT_facts Tryd.func78 facts78 rfl fun hw _ => ?_
 refine callO [1000,1001] [1000,1001] (w59 q bs [n] hb) rfl rfl rfl rfl rfl fun _ _ => ?_
 exact retO [1000,1001,1002] rfl rfl rfl rfl
theorem w37 (q:Prog) (f:Fun) (bs:List UInt8) (hb:(bs ++ encSig (some q) f).length ≤ 2 ^ 46):CallsT PZ 37 [.own 1000 0,.agg (funC f)] (WQ q bs) (Ret (WQ q (bs ++ encSig (some q) f)) (.tup [])):=by
 have e:bs ++ encSig (some q) f = bs ++ encSs [f.name] ++ encIs [f.params] ++ encL (encBound (some q)) f.bounds ++ encIs [f.arity] ++ encL (encTy (some q)) (argsOf f) ++ encTy (some q) f.result ++ encL encI f.ties:=by simp [encSig]
 rw [e] at hb ⊢
 have h73:=fun s => w73 q f.result s
 have h72:=fun s => w72t q s (argsOf f)
 have h75:=fun s => w75b q s f.bounds
 have h57:=fun s => w57 q s f.ties encI (fun x _ s hs => w78 q x s hs)
 generalize encL (encTy (some q)) (argsOf f) = A at h72 hb ⊢
 generalize encTy (some q) f.result = E at h73 hb ⊢
 generalize encL (encBound (some q)) f.bounds = B at h75 hb ⊢
 generalize encL encI f.ties = T at h57 hb ⊢
 refine callsT_facts Tryd.func37 facts37 rfl fun hw _ => ?_
 have hwa:(Lit.int .i64 f.arity).wf = true:=hw.2.1.2.2.2.2.1
 have hwl:Wf (.sl (f.locals.map tyC)):=hw.2.1.2.2.2.2.2.2.2.2.1
 have hn:=wf_lenM hwl
 have hn':(f.locals.map tyC).length ≤ 9223372036854775807:=by rw [List.length_map]; exact hn
 have hm1:=mn_wf hwa hn'
 have hm2:=mx0_wf hm1
 have hbd:=mx0_bd (n:=(f.locals.map tyC).length) (a:=f.arity)
 have hsl:((f.locals.map tyC).drop (Int.toNat 0)).take ((mx0 (mn (f.locals.map tyC).length f.arity)).toNat - Int.toNat 0) = (argsOf f).map tyC:=by
  show ((f.locals.map tyC).drop 0).take ((mx0 (mn (f.locals.map tyC).length f.arity)).toNat - 0) = _
  rw [mx0_eq,argsOf,List.map_take,List.length_map]
  rfl
 have hsz:∀ es ∈ f.locals.map tyC,es.length = 3:=by
  intro es he
  obtain ⟨t,_,rfl⟩:=List.mem_map.1 he
  exact tyC_len t
 have hres:(C.agg [IC f.result.kind,IC f.result.id,.sl (f.result.args.map tyC)]) = .agg (tyC f.result):=by rw [tyC_eq]
 refine callO [1000,1001] [1000,1001] (w25 q bs [f.name] (by simp only [List.length_append] at hb ⊢; omega)) rfl rfl rfl rfl rfl fun _ _ => ?_
 refine callO [1000,1001] [1000,1001] (w59 q _ [f.params] (by simp only [List.length_append] at hb ⊢; omega)) rfl rfl rfl rfl rfl fun _ _ => ?_
 refine callO [1000,1001] [1000,1001] (h75 _ (by simp only [List.length_append] at hb ⊢; omega)) rfl rfl rfl rfl rfl fun _ _ => ?_
 refine callO [1000,1001] [1000,1001] (w59 q _ [f.arity] (by simp only [List.length_append] at hb ⊢; omega)) rfl rfl rfl rfl rfl fun _ _ => ?_
 refine ⟨hm1,?_⟩
 refine ⟨hm2,?_⟩
 refine SlcT.mk (Int.le_refl 0) hbd.1 hbd.2 hsz ?_
 refine callOD [1000,1001] [1000,1001] (h72 _ (by simp only [List.length_append] at hb ⊢; omega)) rfl rfl (congrArg (fun z => [C.own 1000 0,.sl z,.fn 73 [.own 1000 0] []]) hsl) rfl rfl fun _ _ => ?_
 refine callO [1000,1001] [1000,1001] (h73 _ (by simp only [List.length_append] at hb ⊢; omega)) rfl rfl (congrArg (fun z => [C.own 1000 0,z]) hres) rfl rfl fun _ _ => ?_
 refine callO [1000,1001,2] [1000,1001,2] (h57 _ hb) rfl rfl rfl rfl rfl fun _ _ => ?_
 exact retO [1000,1001] rfl rfl rfl rfl
theorem t28 (x:Api.Data) (m:Int):CallsT PZ 28 [.agg (dataC x),.pt [IC m] 0] [] (Ret [] (.bool (decide (x.module = m)))):=by
 refine callsT_facts Tryd.func28 facts28 rfl fun hw _ => ?_
 exact retP rfl rfl
theorem t27 (l:List Api.Data) (m:Int) (hl:l.length ≤ 2 ^ 30):CallsT PZ 27 [.sl (l.map dataC),.fn 28 [] [.pt [IC m] 0]] [] (Ret [] (.sl ((l.filter fun x => decide (x.module = m)).map dataC))):=by
 refine callsT_facts Tryd.func27 facts27 rfl fun hw _ => ?_
 refine loopN l.length 10 [5] [] (fun _ => [.rw 5]) (fun s => [(5,.row 64 5 (s.map dataC))]) (fun k s => s.length ≤ k ∧ s ++ (l.drop k).filter (fun x => decide (x.module = m)) = l.filter fun x => decide (x.module = m)) ⟨Nat.le_refl _,by simp⟩
  (same_keys rfl) ⟨.inr (.inr (.inr (.inl ⟨rfl,5,64,5,rfl,rfl,rfl⟩))),trivial⟩ ⟨.inr ⟨rfl,64,5,rfl⟩,trivial⟩ (fun _ => rfl) (fun _ => rfl) ?_
 rintro k s hk ⟨hsk,hinv⟩ _ _ _
 refine brn_p (fun hlt => ?_) (fun hge => ?_)
 ·have hlt:k < l.length:=by simpa using hlt
  refine withDrop hlt fun x hx hxm hd => ?_
  rw [hd] at hinv
  refine idxT hx rfl rfl ?_
  refine callP (t28 x m) rfl fun _ => ?_
  refine brn_p (fun he => ?_) (fun he => ?_)
  ·refine app1r s.length rfl (by rw [List.length_map]) (by omega) (by omega) ?_
   refine Fit.in64 (by omega) (by omega) ?_
   refine ⟨(k + 1,s ++ [x]),⟨hlt,by simpa using hsk,?_⟩,⟨nextI,same_keys rfl,trivial⟩,⟨.inl ⟨_,rfl,.inl ⟨?_,rfl⟩⟩,trivial⟩,nextM hlt⟩
   ·rw [← hinv,List.filter_cons,if_pos (by simpa using he)]; simp
   ·refine congrArg (TO.row 64 5) ?_
    rw [List.map_append]; rfl
  ·refine Fit.in64 (by omega) (by omega) ?_
   refine ⟨(k + 1,s),⟨hlt,by show s.length ≤ k + 1; omega,?_⟩,⟨nextI,same_keys rfl,trivial⟩,⟨.inl ⟨_,rfl,.inl ⟨rfl,rfl⟩⟩,trivial⟩,nextM hlt⟩
   rw [← hinv,List.filter_cons,if_neg (by simpa using he)]
 ·have hge:¬ k < l.length:=by simpa using hge
  rw [drop_end hge] at hinv
  refine retF [5] [] ⟨_,[],rfl,rfl,rfl,rfl,?_⟩
  simp only [List.filter_nil,List.append_nil] at hinv
  subst hinv
  rfl
theorem t32 (x:Impl) (m:Int):CallsT PZ 32 [.agg (implC x),.pt [IC m] 0] [] (Ret [] (.bool (decide (x.module = m)))):=by
 refine callsT_facts Tryd.func32 facts32 rfl fun hw _ => ?_
 exact retP rfl rfl
theorem t31 (l:List Impl) (m:Int) (hl:l.length ≤ 2 ^ 30):CallsT PZ 31 [.sl (l.map implC),.fn 32 [] [.pt [IC m] 0]] [] (Ret [] (.sl ((l.filter fun x => decide (x.module = m)).map implC))):=by
 refine callsT_facts Tryd.func31 facts31 rfl fun hw _ => ?_
 refine loopN l.length 10 [5] [] (fun _ => [.rw 5]) (fun s => [(5,.row 74 8 (s.map implC))]) (fun k s => s.length ≤ k ∧ s ++ (l.drop k).filter (fun x => decide (x.module = m)) = l.filter fun x => decide (x.module = m)) ⟨Nat.le_refl _,by simp⟩
  (same_keys rfl) ⟨.inr (.inr (.inr (.inl ⟨rfl,5,74,8,rfl,rfl,rfl⟩))),trivial⟩ ⟨.inr ⟨rfl,74,8,rfl⟩,trivial⟩ (fun _ => rfl) (fun _ => rfl) ?_
 rintro k s hk ⟨hsk,hinv⟩ _ _ _
 refine brn_p (fun hlt => ?_) (fun hge => ?_)
 ·have hlt:k < l.length:=by simpa using hlt
  refine withDrop hlt fun x hx hxm hd => ?_
  rw [hd] at hinv
  refine idxT hx rfl rfl ?_
  refine callP (t32 x m) rfl fun _ => ?_
  refine brn_p (fun he => ?_) (fun he => ?_)
  ·refine app1r s.length rfl (by rw [List.length_map]) (by omega) (by omega) ?_
   refine Fit.in64 (by omega) (by omega) ?_
   refine ⟨(k + 1,s ++ [x]),⟨hlt,by simpa using hsk,?_⟩,⟨nextI,same_keys rfl,trivial⟩,⟨.inl ⟨_,rfl,.inl ⟨?_,rfl⟩⟩,trivial⟩,nextM hlt⟩
   ·rw [← hinv,List.filter_cons,if_pos (by simpa using he)]; simp
   ·refine congrArg (TO.row 74 8) ?_
    rw [List.map_append]; rfl
  ·refine Fit.in64 (by omega) (by omega) ?_
   refine ⟨(k + 1,s),⟨hlt,by show s.length ≤ k + 1; omega,?_⟩,⟨nextI,same_keys rfl,trivial⟩,⟨.inl ⟨_,rfl,.inl ⟨rfl,rfl⟩⟩,trivial⟩,nextM hlt⟩
   rw [← hinv,List.filter_cons,if_neg (by simpa using he)]
 ·have hge:¬ k < l.length:=by simpa using hge
  rw [drop_end hge] at hinv
  refine retF [5] [] ⟨_,[],rfl,rfl,rfl,rfl,?_⟩
  simp only [List.filter_nil,List.append_nil] at hinv
  subst hinv
  rfl
theorem t36 (x:Fun) (m:Int):CallsT PZ 36 [.agg (funC x),.pt [IC m] 0] [] (Ret [] (.bool (decide (x.module = m)))):=by
 refine callsT_facts Tryd.func36 facts36 rfl fun hw _ => ?_
 exact retP rfl rfl
theorem t35 (l:List Fun) (m:Int) (hl:l.length ≤ 2 ^ 30):CallsT PZ 35 [.sl (l.map funC),.fn 36 [] [.pt [IC m] 0]] [] (Ret [] (.sl ((l.filter fun x => decide (x.module = m)).map funC))):=by
 refine callsT_facts Tryd.func35 facts35 rfl fun hw _ => ?_
 refine loopN l.length 10 [5] [] (fun _ => [.rw 5]) (fun s => [(5,.row 81 11 (s.map funC))]) (fun k s => s.length ≤ k ∧ s ++ (l.drop k).filter (fun x => decide (x.module = m)) = l.filter fun x => decide (x.module = m)) ⟨Nat.le_refl _,by simp⟩
  (same_keys rfl) ⟨.inr (.inr (.inr (.inl ⟨rfl,5,81,11,rfl,rfl,rfl⟩))),trivial⟩ ⟨.inr ⟨rfl,81,11,rfl⟩,trivial⟩ (fun _ => rfl) (fun _ => rfl) ?_
 rintro k s hk ⟨hsk,hinv⟩ _ _ _
 refine brn_p (fun hlt => ?_) (fun hge => ?_)
 ·have hlt:k < l.length:=by simpa using hlt
  refine withDrop hlt fun x hx hxm hd => ?_
  rw [hd] at hinv
  refine idxT hx rfl rfl ?_
  refine callP (t36 x m) rfl fun _ => ?_
  refine brn_p (fun he => ?_) (fun he => ?_)
  ·refine app1r s.length rfl (by rw [List.length_map]) (by omega) (by omega) ?_
   refine Fit.in64 (by omega) (by omega) ?_
   refine ⟨(k + 1,s ++ [x]),⟨hlt,by simpa using hsk,?_⟩,⟨nextI,same_keys rfl,trivial⟩,⟨.inl ⟨_,rfl,.inl ⟨?_,rfl⟩⟩,trivial⟩,nextM hlt⟩
   ·rw [← hinv,List.filter_cons,if_pos (by simpa using he)]; simp
   ·refine congrArg (TO.row 81 11) ?_
    rw [List.map_append]; rfl
  ·refine Fit.in64 (by omega) (by omega) ?_
   refine ⟨(k + 1,s),⟨hlt,by show s.length ≤ k + 1; omega,?_⟩,⟨nextI,same_keys rfl,trivial⟩,⟨.inl ⟨_,rfl,.inl ⟨rfl,rfl⟩⟩,trivial⟩,nextM hlt⟩
   rw [← hinv,List.filter_cons,if_neg (by simpa using he)]
 ·have hge:¬ k < l.length:=by simpa using hge
  rw [drop_end hge] at hinv
  refine retF [5] [] ⟨_,[],rfl,rfl,rfl,rfl,?_⟩
  simp only [List.filter_nil,List.append_nil] at hinv
  subst hinv
  rfl
theorem t24 (l:List Int) (hl:l.length ≤ 2 ^ 30):CallsT PZ 24 [.sl (ics l)] [] (Ret [] (.sl (ics l))):=by
 refine callsT_facts Tryd.func24 facts24 rfl fun hw _ => ?_
 intro b hb
 refine brn_split (fun h => ?_) (fun h => ?_)
 ·have h:b = true:=h
  cases l with
  | nil => exact retP rfl rfl
  | cons x l => rw [hb (by simp [ics])] at h; cases h
 ·refine AppT.mk (fun es he => ?_) ?_ ?_ ?_
  ·obtain ⟨x,_,rfl⟩:=List.mem_map.1 he; rfl
  ·show 0 + (ics l).length ≤ maxLen
   simp only [ics,List.length_map,maxLen]; omega
  ·show (0 + (ics l).length) * 8 ≤ _
   simp only [ics,List.length_map]; omega
  refine retF [5] [] ⟨_,[],rfl,rfl,rfl,rfl,?_⟩
  rfl
def usesOf (q:Prog) (m:Int):List Int:=q.uses.getD m.toNat []
def inRange (q:Prog) (l:List Int):Bool:=l.all fun n => decide (0 ≤ n ∧ n < q.modules.length)
def mkOk (q:Prog) (m:Int) (ag:List Int):Bool:=decide (0 ≤ m) && (decide (m < q.modules.length) && (decide (m < q.uses.length) && (decide (ag.length = (usesOf q m).length) && inRange q (usesOf q m))))
def bodyOf (q:Prog) (m:Int):List UInt8:=encModule q (nm q.modules m) m
def mkI (q:Prog) (m:Int) (ag:List Int):Ifc × Int:=match mkOk q m ag with
 | true => (⟨nm q.modules m,(usesOf q m).map (nm q.modules),ag,dig (bodyOf q m),bodyOf q m⟩,0)
 | false => (zI,1)
theorem mkI_no {q:Prog} {m:Int} {ag:List Int} (h:¬ (0 ≤ m ∧ m < q.modules.length ∧ m < q.uses.length ∧ ag.length = (usesOf q m).length ∧ inRange q (usesOf q m) = true)):mkI q m ag = (zI,1):=by
 have:mkOk q m ag = false:=by
  cases hk:mkOk q m ag with
  | false => rfl
  | true =>
   simp only [mkOk,Bool.and_eq_true,decide_eq_true_eq] at hk
   exact absurd ⟨hk.1,hk.2.1,hk.2.2.1,hk.2.2.2.1,hk.2.2.2.2⟩ h
 simp only [mkI,this]
theorem mkI_yes {q:Prog} {m:Int} {ag:List Int} (h:0 ≤ m ∧ m < q.modules.length ∧ m < q.uses.length ∧ ag.length = (usesOf q m).length ∧ inRange q (usesOf q m) = true) :
  mkI q m ag = (⟨nm q.modules m,(usesOf q m).map (nm q.modules),ag,dig (bodyOf q m),bodyOf q m⟩,0):=by
 have:mkOk q m ag = true:=by
  simp only [mkOk,Bool.and_eq_true,decide_eq_true_eq]
  exact ⟨h.1,h.2.1,h.2.2.1,h.2.2.2.1,h.2.2.2.2⟩
 simp only [mkI,this]
theorem nm_at {l:List ByteArray} {i:Int} (h0:0 ≤ i) (h1:i < l.length):l[i.toNat]? = some (nm l i):=by
 have hlt:i.toNat < l.length:=by omega
 have e:elem l i = l[i.toNat]?:=by unfold elem; rw [if_neg (by omega)]
 rw [List.getElem?_eq_getElem hlt]
 simp only [nm,e,List.getElem?_eq_getElem hlt,Option.getD_some]
theorem uses_at {q:Prog} {m:Int} (h0:0 ≤ m) (h1:m < q.uses.length):q.uses[m.toNat]? = some (usesOf q m):=by
 have hlt:m.toNat < q.uses.length:=by omega
 rw [usesOf,List.getD_eq_getElem?_getD,List.getElem?_eq_getElem hlt]; rfl
theorem body_parts (q:Prog) (m:Int):bodyOf q m = encSs [nm q.modules m] ++ encL (encData (some q)) (q.datas.filter fun x => decide (x.module = m)) ++ encL (encImpl q) (q.impls.filter fun x => decide (x.module = m)) ++ encL (encSig (some q)) (q.funcs.filter fun x => decide (x.module = m)):=by
 simp [bodyOf,encModule]
def MkL (q:Prog) (m:Int) (ag:List Int) (s:List ByteArray):TL :=
 [(6,.box 32 [.str ⟨#[]⟩,.nils,.nils,IC 0,.nils]),(8,.box 32 [.str (nm q.modules m),.rw 73,.sl (ics ag),IC 0,.nils]),(73,.row 9 1 (strs s))]
set_option maxRecDepth 20000 in
theorem t9 (q:Prog) (m:Int) (ag:List Int) (hb:(bodyOf q m).length ≤ 2 ^ 46) (h1:q.datas.length ≤ 2 ^ 30) (h2:q.impls.length ≤ 2 ^ 30) (h3:q.funcs.length ≤ 2 ^ 30) (h4:ag.length ≤ 2 ^ 30) (h5:(usesOf q m).length ≤ 2 ^ 30) :
  CallsT PZ 9 [.agg (progC q),IC m,.sl (ics ag)] [] (Ret [] (.tup [.agg (ifC (mkI q m ag).1),IC (mkI q m ag).2])):=by
 have hml:(scs q.modules).length = q.modules.length:=by simp [scs]
 have hul:(q.uses.map fun l => [C.sl (ics l)]).length = q.uses.length:=by simp
 have hal:(ics ag).length = ag.length:=by simp [ics]
 have huu:(ics (usesOf q m)).length = (usesOf q m).length:=by simp [ics]
 refine callsT_facts Tryd.func9 facts9 rfl fun hw _ => ?_
 have hwm:=wf_len hw.1.1
 have hwu:=wf_len hw.1.2.1
 have hmn:(Lit.int .i64 (mn (q.uses.map fun l => [C.sl (ics l)]).length ((scs q.modules).length:Int))).wf = true:=mn_wf ((wf_iff _ _).2 ⟨by show (-9223372036854775808:Int) ≤ _; omega,by show _ ≤ (9223372036854775807:Int); omega⟩) hwu
 refine brn_p (fun h0 => ?_) (fun h0 => ?_)
 ·exact retP rfl (by rw [mkI_no (fun h => by omega)]; rfl)
 refine ⟨hmn,?_⟩
 refine brn_p (fun hm => ?_) (fun hm => ?_)
 ·have hm:mn (q.uses.map fun l => [C.sl (ics l)]).length ((scs q.modules).length:Int) ≤ m:=hm
  rw [hul,hml] at hm
  have hno:mkI q m ag = (zI,1):=mkI_no fun h => by
   unfold mn at hm
   split at hm <;> omega
  exact retP rfl (by rw [hno]; rfl)
 have hm:¬ mn (q.uses.map fun l => [C.sl (ics l)]).length ((scs q.modules).length:Int) ≤ m:=hm
 rw [hul,hml] at hm
 have hmm:m < q.modules.length ∧ m < q.uses.length:=by
  unfold mn at hm
  split at hm <;> omega
 have hux:=uses_at (q:=q) (by omega) hmm.2
 refine idxE (f:=fun l => [C.sl (ics l)]) h0 hux rfl rfl ?_
 refine brn_split (fun hl => ?_) (fun hl => ?_)
 ·have hl:(!decide (((ics ag).length:Int) = ((ics (usesOf q m)).length:Int))) = true:=hl
  rw [hal,huu] at hl
  have hl:¬ ((ag.length:Int) = (usesOf q m).length):=by simpa using hl
  have hno:mkI q m ag = (zI,1):=mkI_no fun h => hl (by rw [h.2.2.2.1])
  exact retP rfl (by rw [hno]; rfl)
 have hl:(!decide (((ics ag).length:Int) = ((ics (usesOf q m)).length:Int))) = false:=hl
 have hl:ag.length = (usesOf q m).length:=by
  rw [hal,huu] at hl
  have hl:(ag.length:Int) = (usesOf q m).length:=by simpa using hl
  omega
 have hmx:=nm_at (l:=q.modules) (i:=m) (by omega) (by omega)
 refine idxE (f:=fun s => [C.str s]) h0 hmx rfl rfl ?_
 refine callPD (t24 ag h4) rfl fun _ => ?_
 refine idxE (f:=fun l => [C.sl (ics l)]) h0 hux rfl rfl ?_
 refine loopN (usesOf q m).length 51 [] ([]:List ByteArray) (fun _ => []) (fun s => MkL q m ag s) (fun k s => s = ((usesOf q m).take k).map (nm q.modules) ∧ inRange q ((usesOf q m).take k) = true) ⟨rfl,rfl⟩
  (same_keys rfl) trivial ⟨.inl ⟨_,rfl,.inl ⟨rfl,rfl⟩⟩,.inl ⟨_,rfl,.inr ⟨32,_,_,rfl,rfl,_,_,rfl,same_keys rfl,_,_,rfl,nil_rw rfl rfl,_,_,rfl,same_keys rfl,_,_,rfl,same_keys rfl,_,_,rfl,same_keys rfl,rfl⟩⟩,.inr ⟨rfl,9,1,rfl⟩,trivial⟩ (fun _ => rfl) (fun _ => rfl) ?_
 rintro k s hk ⟨hs,hin⟩ _ _ _
 refine brn_p (fun hlt => ?_) (fun hge => ?_)
 ·have hlt:k < (usesOf q m).length:=by rw [huu] at hlt; omega
  refine withGet hlt fun n hn hnm => ?_
  refine idxI hn ?_
  have bad:¬ (0 ≤ n ∧ n < q.modules.length) → mkI q m ag = (zI,1):=fun hb => mkI_no fun h => hb (by
   have:=List.all_eq_true.1 h.2.2.2.2 n hnm
   exact of_decide_eq_true this)
  refine brn_p (fun hn0 => ?_) (fun hn0 => ?_)
  ·exact retP rfl (by rw [bad (by omega)]; rfl)
  refine brn_p (fun hn1 => ?_) (fun hn1 => ?_)
  ·have hn1:((scs q.modules).length:Int) ≤ n:=hn1
   exact retP rfl (by rw [bad (by omega)]; rfl)
  have hn1:¬ ((scs q.modules).length:Int) ≤ n:=hn1
  have hnx:=nm_at (l:=q.modules) (i:=n) (by omega) (by omega)
  refine idxE (f:=fun s => [C.str s]) hn0 hnx rfl rfl ?_
  have hsl:s.length = k:=by rw [hs,List.length_map,List.length_take]; omega
  refine app1r k rfl (by rw [strs_len]; exact hsl) (by omega) (by omega) ?_
  refine Fit.in64 (by omega) (by omega) ?_
  refine ⟨(k + 1,s ++ [nm q.modules n]),⟨hlt,?_,?_⟩,⟨nextI,trivial⟩,⟨.inl ⟨_,rfl,.inl ⟨rfl,rfl⟩⟩,.inl ⟨_,rfl,.inl ⟨rfl,rfl⟩⟩,.inl ⟨_,rfl,.inl ⟨?_,rfl⟩⟩,trivial⟩,nextM hlt⟩
  ·rw [List.take_add_one,hn,hs]; simp
  ·rw [inRange,List.take_add_one,hn,List.all_append]
   rw [Bool.and_eq_true]
   refine ⟨hin,?_⟩
   simp only [Option.toList,List.all_cons,List.all_nil,Bool.and_true]
   exact decide_eq_true ⟨by omega,by omega⟩
  ·exact congrArg (TO.row 9 1) (List.map_append (f:=fun n => [C.str n]) (l₁:=s) (l₂:=[_])).symm
 have hge:¬ k < (usesOf q m).length:=by rw [huu] at hge; omega
 rw [List.take_of_length_le (by omega)] at hs hin
 have hyes:=mkI_yes (q:=q) (m:=m) (ag:=ag) ⟨by omega,hmm.1,hmm.2,hl,hin⟩
 have hparts:=body_parts q m
 have hb0:=hb
 rw [hparts] at hb
 refine callG [(6,.box 32 [.str ⟨#[]⟩,.nils,.nils,IC 0,.nils]),(8,.box 32 [.str (nm q.modules m),.rw 73,.sl (ics ag),IC 0,.nils]),(73,.row 9 1 (strs s)),(78,.box 59 (.rw 150 :: IC 0 :: .int .i8 0 :: (pcQ q).cs)),(150,.row 5 1 [])] [78,150] [78,150]
  (w25 q [] [nm q.modules m] (by simp only [List.length_append,List.length_nil] at hb ⊢; omega))
  ⟨.inl ⟨_,rfl,.inl ⟨rfl,rfl⟩⟩,.inl ⟨_,rfl,.inl ⟨rfl,rfl⟩⟩,.inl ⟨_,rfl,.inl ⟨rfl,rfl⟩⟩,.inl ⟨_,rfl,.inr ⟨59,_,_,rfl,rfl,⟨_,_,rfl,nil_rw rfl rfl,⟨_,_,rfl,same_keys rfl,⟨_,_,rfl,same_keys rfl,⟨_,_,rfl,same_keys rfl,⟨_,_,rfl,same_keys rfl,⟨_,_,rfl,same_keys rfl,⟨_,_,rfl,same_keys rfl,⟨_,_,rfl,same_keys rfl,⟨_,_,rfl,same_keys rfl,⟨_,_,rfl,same_keys rfl,⟨_,_,rfl,same_keys rfl,rfl⟩⟩⟩⟩⟩⟩⟩⟩⟩⟩⟩⟩⟩,.inr ⟨rfl,5,1,rfl⟩,trivial⟩ rfl rfl rfl rfl rfl fun _ _ => ?_
 refine callP (t27 q.datas m h1) rfl fun _ => ?_
 refine callO [78,150] [78,150] (w26 q _ (q.datas.filter fun x => decide (x.module = m)) (encData (some q)) (fun x _ s hs => w29 q x s hs) (by simp only [List.length_append,List.length_nil] at hb ⊢; omega)) rfl rfl rfl rfl rfl fun _ _ => ?_
 refine callP (t31 q.impls m h2) rfl fun _ => ?_
 refine callO [78,150] [78,150] (w30 q _ (q.impls.filter fun x => decide (x.module = m)) (encImpl q) (fun x _ s hs => w33 q x s hs) (by simp only [List.length_append,List.length_nil] at hb ⊢; omega)) rfl rfl rfl rfl rfl fun _ _ => ?_
 refine callP (t35 q.funcs m h3) rfl fun _ => ?_
 refine callO [78,150] [78,150] (w34 q _ (q.funcs.filter fun x => decide (x.module = m)) (encSig (some q)) (fun x _ s hs => w37 q x s hs) (by simp only [List.length_append,List.length_nil] at hb ⊢; omega)) rfl rfl rfl rfl rfl fun _ _ => ?_
 have he:[] ++ encSs [nm q.modules m] ++ encL (encData (some q)) (q.datas.filter fun x => decide (x.module = m)) ++ encL (encImpl q) (q.impls.filter fun x => decide (x.module = m)) ++ encL (encSig (some q)) (q.funcs.filter fun x => decide (x.module = m)) = bodyOf q m:=by
  rw [hparts]; simp only [List.nil_append]
 refine callF [150] [78] [78] (t38T (pcQ q) 59 (bodyOf q m) 0) ⟨_,rfl,rfl,rfl,congrArg (fun z => [TO.box 59 (.sl (bcells z) :: IC 0 :: .int .i8 0 :: (pcQ q).cs)]) he,rfl,fun _ _ => ?_⟩
 refine callP (t22 (bodyOf q m)) rfl fun _ => ?_
 refine retF [73] [] ⟨_,_,rfl,rfl,rfl,rfl,?_⟩
 rw [hyes]
 subst hs
 rfl
theorem t18 (i:Ifc) (l:List Ifc):CallsT PZ 18 [.agg (ifC i),.sl (l.map ifC)] [] (Ret [] (.bool (fitsI i l))):=by
 refine callsT_facts Tryd.func18 facts18 rfl fun hw _ => ?_
 have hl:l.length ≤ 9223372036854775807:=by
  have h2:=wf_len hw.2.1
  rwa [ifL_len] at h2
 refine callP (t19 i) rfl fun _ => ?_
 refine brn_split (fun h => ?_) (fun h => ?_)
 ·have h:validI i = false:=by simpa using h
  exact retP rfl (congrArg C.bool (by rw [fitsI,h]; rfl))
 have hv:validI i = true:=by simpa using h
 have e:(!decide (((l.map ifC).length:Int) = ((strs i.uses).length:Int))) = !decide (l.length = i.uses.length):=by
  rw [ifL_len,strs_len]; exact congrArg not (decide_eq_decide.2 Int.ofNat_inj)
 refine brn_split (fun h => ?_) (fun h => ?_)
 ·have h:¬ l.length = i.uses.length:=by have:=e.symm.trans h; simpa using this
  exact retP rfl (congrArg C.bool (by rw [fitsI,hv,decide_eq_false h]; rfl))
 have hlu:l.length = i.uses.length:=by have:=e.symm.trans h; simpa using this
 have hua:i.uses.length = i.against.length:=by
  simp only [validI,decide_eq_true_eq] at hv
  exact hv.1
 have hfit:fitsI i l = fitGo l i.uses i.against:=by rw [fitsI,hv,decide_eq_true hlu]; rfl
 refine loopN l.length 5 [] () (fun _ => []) (fun _ => []) (fun k _ => fitGo (l.drop k) (i.uses.drop k) (i.against.drop k) = fitGo l i.uses i.against) rfl (same_keys rfl) trivial trivial (fun _ => rfl) (fun _ => rfl) fun k _ hkn hinv _ _ h64 => ?_
 refine brn_p (fun hlt => ?_) (fun hge => ?_)
 ·have hlt:k < l.length:=by rw [ifL_len] at hlt; omega
  refine withDrop hlt fun x hx _ hd => ?_
  refine withDrop (show k < i.uses.length by omega) fun u hu _ hdu => ?_
  refine withDrop (show k < i.against.length by omega) fun a ha _ hda => ?_
  rw [hd,hdu,hda] at hinv
  simp only [fitGo] at hinv
  refine idxT hx rfl rfl ?_
  refine idxS hu ?_
  refine brn_split (fun h => ?_) (fun h => ?_)
  ·have h:streq x.module u = false:=by simpa using h
   rw [h] at hinv
   exact retP rfl (congrArg C.bool (by rw [hfit,← hinv]; rfl))
  have h1:streq x.module u = true:=by simpa using h
  refine idxT hx rfl rfl ?_
  refine idxI ha ?_
  refine brn_split (fun h => ?_) (fun h => ?_)
  ·have h:¬ x.digest = a:=by simpa using h
   rw [h1,decide_eq_false h] at hinv
   exact retP rfl (congrArg C.bool (by rw [hfit,← hinv]; rfl))
  have h2:x.digest = a:=by simpa using h
  rw [h1,decide_eq_true h2] at hinv
  refine Fit.in64 (by omega) (by omega) ?_
  exact ⟨(k + 1,()),⟨by omega,hinv⟩,⟨nextI,trivial⟩,trivial,nextM hlt⟩
 ·have hge:¬ k < l.length:=by rw [ifL_len] at hge; omega
  rw [drop_end hge] at hinv
  exact retP rfl (congrArg C.bool (by rw [hfit,← hinv]; rfl))
def MrL (q:Prog) (m:Int) (ag:List Int) (s:List ByteArray):TL :=
 [(6,.box 32 [.str ⟨#[]⟩,.nils,.nils,IC 0,.nils]),(44,.row 3 1 (ics ag)),(8,.box 32 [.str (nm q.modules m),.rw 87,.rw 44,IC 0,.sl (bcells (bodyOf q m))]),(87,.row 9 1 (strs s))]
set_option maxRecDepth 20000 in
theorem t10 (q:Prog) (m:Int) (ag:List Int) (hb:(bodyOf q m).length ≤ 2 ^ 46) (h4:ag.length ≤ 2 ^ 30) (h5:(usesOf q m).length ≤ 2 ^ 30) :
  CallsT PZ 10 [.agg (progC q),IC m,.sl (ics ag)] [] (Ret [] (.tup [.agg (ifC (mkI q m ag).1),IC (mkI q m ag).2])):=by
 have hml:(scs q.modules).length = q.modules.length:=by simp [scs]
 have hul:(q.uses.map fun l => [C.sl (ics l)]).length = q.uses.length:=by simp
 have hal:(ics ag).length = ag.length:=by simp [ics]
 have huu:(ics (usesOf q m)).length = (usesOf q m).length:=by simp [ics]
 have h39:=(t39 q m hb).give
 refine callsT_facts Tryd.func10 facts10 rfl fun hw _ => ?_
 refine brn_p (fun h0 => ?_) (fun h0 => ?_)
 ·exact retP rfl (by rw [mkI_no (fun h => by omega)]; rfl)
 refine brn_p (fun hm => ?_) (fun hm => ?_)
 ·have hm:((scs q.modules).length:Int) ≤ m:=hm
  exact retP rfl (by rw [mkI_no (fun h => by omega)]; rfl)
 have hm:¬ ((scs q.modules).length:Int) ≤ m:=hm
 refine brn_p (fun hu => ?_) (fun hu => ?_)
 ·have hu:((q.uses.map fun l => [C.sl (ics l)]).length:Int) ≤ m:=hu
  exact retP rfl (by rw [mkI_no (fun h => by omega)]; rfl)
 have hu:¬ ((q.uses.map fun l => [C.sl (ics l)]).length:Int) ≤ m:=hu
 have hux:=uses_at (q:=q) (m:=m) (by omega) (by omega)
 refine idxE (f:=fun l => [C.sl (ics l)]) h0 hux rfl rfl ?_
 refine brn_split (fun hl => ?_) (fun hl => ?_)
 ·have hl:(!decide (((ics ag).length:Int) = ((ics (usesOf q m)).length:Int))) = true:=hl
  rw [hal,huu] at hl
  have hl:¬ ((ag.length:Int) = (usesOf q m).length):=by simpa using hl
  have hno:mkI q m ag = (zI,1):=mkI_no fun h => hl (by rw [h.2.2.2.1])
  exact retP rfl (by rw [hno]; rfl)
 have hl:(!decide (((ics ag).length:Int) = ((ics (usesOf q m)).length:Int))) = false:=hl
 have hl:ag.length = (usesOf q m).length:=by
  rw [hal,huu] at hl
  have hl:(ag.length:Int) = (usesOf q m).length:=by simpa using hl
  omega
 have hmx:=nm_at (l:=q.modules) (i:=m) (by omega) (by omega)
 refine idxE (f:=fun s => [C.str s]) h0 hmx rfl rfl ?_
 refine AppT.mk (fun es he => ?_) ?_ ?_ ?_
 ·obtain ⟨x,_,rfl⟩:=List.mem_map.1 he; rfl
 ·show 0 + (ics ag).length ≤ maxLen
  simp only [maxLen]; omega
 ·show (0 + (ics ag).length) * 8 ≤ _
  omega
 refine callPD h39 rfl fun _ => ?_
 refine loopN (usesOf q m).length 9 [] ([]:List ByteArray) (fun _ => []) (fun s => MrL q m ag s) (fun k s => s = ((usesOf q m).take k).map (nm q.modules) ∧ inRange q ((usesOf q m).take k) = true) ⟨rfl,rfl⟩
  (same_keys rfl) trivial ⟨.inl ⟨_,rfl,.inl ⟨rfl,rfl⟩⟩,.inl ⟨_,rfl,.inl ⟨rfl,rfl⟩⟩,.inl ⟨_,rfl,.inr ⟨32,_,_,rfl,rfl,_,_,rfl,same_keys rfl,_,_,rfl,nil_rw rfl rfl,_,_,rfl,same_keys rfl,_,_,rfl,same_keys rfl,_,_,rfl,same_keys rfl,rfl⟩⟩,.inr ⟨rfl,9,1,rfl⟩,trivial⟩ (fun _ => rfl) (fun _ => rfl) ?_
 rintro k s hk ⟨hs,hin⟩ _ _ _
 refine idxE (f:=fun l => [C.sl (ics l)]) h0 hux rfl rfl ?_
 refine brn_p (fun hlt => ?_) (fun hge => ?_)
 ·have hlt:(k:Int) < ((ics (usesOf q m)).length:Int):=hlt
  have hlt:k < (usesOf q m).length:=by rw [huu] at hlt; omega
  refine withGet hlt fun n hn hnm => ?_
  refine idxE (f:=fun l => [C.sl (ics l)]) h0 hux rfl rfl ?_
  refine idxI hn ?_
  have bad:¬ (0 ≤ n ∧ n < q.modules.length) → mkI q m ag = (zI,1):=fun hb => mkI_no fun h => hb (by
   have:=List.all_eq_true.1 h.2.2.2.2 n hnm
   exact of_decide_eq_true this)
  refine brn_p (fun hn0 => ?_) (fun hn0 => ?_)
  ·exact retP rfl (by rw [bad (by omega)]; rfl)
  refine brn_p (fun hn1 => ?_) (fun hn1 => ?_)
  ·have hn1:((scs q.modules).length:Int) ≤ n:=hn1
   exact retP rfl (by rw [bad (by omega)]; rfl)
  have hn1:¬ ((scs q.modules).length:Int) ≤ n:=hn1
  have hnx:=nm_at (l:=q.modules) (i:=n) (by omega) (by omega)
  refine idxE (f:=fun s => [C.str s]) hn0 hnx rfl rfl ?_
  have hsl:s.length = k:=by rw [hs,List.length_map,List.length_take]; omega
  refine app1r k rfl (by rw [strs_len]; exact hsl) (by omega) (by omega) ?_
  refine Fit.in64 (by omega) (by omega) ?_
  refine ⟨(k + 1,s ++ [nm q.modules n]),⟨hlt,?_,?_⟩,⟨nextI,trivial⟩,⟨.inl ⟨_,rfl,.inl ⟨rfl,rfl⟩⟩,.inl ⟨_,rfl,.inl ⟨rfl,rfl⟩⟩,.inl ⟨_,rfl,.inl ⟨rfl,rfl⟩⟩,.inl ⟨_,rfl,.inl ⟨?_,rfl⟩⟩,trivial⟩,nextM hlt⟩
  ·rw [List.take_add_one,hn,hs]; simp
  ·rw [inRange,List.take_add_one,hn,List.all_append]
   rw [Bool.and_eq_true]
   refine ⟨hin,?_⟩
   simp only [Option.toList,List.all_cons,List.all_nil,Bool.and_true]
   exact decide_eq_true ⟨by omega,by omega⟩
  ·exact congrArg (TO.row 9 1) (List.map_append (f:=fun n => [C.str n]) (l₁:=s) (l₂:=[_])).symm
 have hge:¬ (k:Int) < ((ics (usesOf q m)).length:Int):=hge
 have hge:¬ k < (usesOf q m).length:=by rw [huu] at hge; omega
 rw [List.take_of_length_le (by omega)] at hs hin
 have hyes:=mkI_yes (q:=q) (m:=m) (ag:=ag) ⟨by omega,by omega,by omega,hl,hin⟩
 refine callP (t40 (bodyOf q m)) rfl fun _ => ?_
 refine retF [44,87] [] ⟨_,_,rfl,rfl,rfl,rfl,?_⟩
 rw [hyes]
 subst hs
 rfl
theorem t67:∀ (t:Ty) (m:Int),0 ≤ m → m ≤ 1000 → CallsT PZ 67 [.agg (tyC t),IC m] [] (Ret [] (IC (few t m)))
 | .mk k i l,m,h0,h1 => by
  have ih:∀ x ∈ l,∀ m':Int,0 ≤ m' → m' ≤ 1000 → CallsT PZ 67 [.agg [IC x.kind,IC x.id,.sl (x.args.map tyC)],IC m'] [] (Ret [] (IC (few x m'))):=fun x hx m' a b => by
   have:=t67 x m' a b
   rw [tyC_eq] at this
   exact this
  have hfb:=few_bd
  rw [tyC_eq,few]
  simp only [Ty.kind,Ty.id,Ty.args]
  generalize hfew:few = few' at ih hfb
  have hfl:∀ x r n,fewL (x :: r) m n = if n ≤ m then fewL r m (n + few' x (m - n)) else n:=by
   intro x r n; rw [fewL,hfew]
  refine callsT_facts Tryd.func67 facts67 rfl fun hw _ => ?_
  refine loopN l.length 6 [5] (1:Int) (fun n => [IC n]) (fun _ => [(2,.box 72 [IC k,IC i,.sl (l.map tyC)])]) (fun k n => fewL (l.drop k) m n = fewL l m 1 ∧ 1 ≤ n ∧ n ≤ m + 1) ⟨rfl,by omega,by omega⟩ (same_keys rfl) ⟨same_keys rfl,trivial⟩ ⟨.inl ⟨_,rfl,.inl ⟨rfl,rfl⟩⟩,trivial⟩ (fun _ => rfl) (fun _ => rfl) ?_
  rintro j n hj ⟨hinv,hn0,hn1⟩ _ _ _
  have hlen:l.length ≤ 9223372036854775807:=wf_lenT hw.1.2.2.1
  refine brn_p (fun hlt => ?_) (fun hge => ?_)
  ·have hlt:j < l.length:=by simpa using hlt
   have hd:=drop_cons hlt
   have hx:=hd.choose_spec.1
   have hdr:=hd.choose_spec.2
   generalize hd.choose = x at hx hdr
   refine brn_p (fun hle => ?_) (fun hgt => ?_)
   ·refine idxTy hx ?_
    refine Fit.in64 (by omega) (by omega) ?_
    refine callP (ih x (List.mem_of_getElem? hx) (m - n) (by omega) (by omega)) rfl fun _ => ?_
    have hb:=hfb x (m - n) (by omega)
    refine Fit.in64 (by omega) (by omega) ?_
    refine Fit.in64 (by omega) (by omega) ?_
    refine ⟨(j + 1,n + few' x (m - n)),⟨hlt,?_,by omega,by omega⟩,⟨nextI,same_keys rfl,trivial⟩,⟨.inl ⟨_,rfl,.inl ⟨rfl,rfl⟩⟩,trivial⟩,nextM hlt⟩
    rw [hdr,hfl,if_pos hle] at hinv
    exact hinv
   ·refine retP rfl ?_
    rw [fewL_stop hgt] at hinv
    exact congrArg IC hinv
  ·have hge:¬ j < l.length:=by simpa using hge
   rw [drop_end hge] at hinv
   refine retP rfl ?_
   rw [fewL] at hinv
   exact congrArg IC hinv
termination_by t => SizeOf.sizeOf t
decreasing_by
 have:=List.sizeOf_lt_of_mem hx
 simp only [Ty.mk.sizeOf_spec]
 omega
theorem t89 (l:List Ty):CallsT PZ 89 [.sl (l.map tyC)] [] (Ret [] (.bool (smallL l))):=by
 have h31:∀ x:Ty,CallsT PZ 67 [.agg [IC x.kind,IC x.id,.sl (x.args.map tyC)],IC 30] [] (Ret [] (IC (few x 30))):=fun x => by
  have:=t67 x 30 (by omega) (by omega)
  rw [tyC_eq] at this
  exact this
 have hsm:smallL l = (l.all (fun t => decide (few t 30 ≤ 30)) && decide ((l.length:Int) ≤ 8)):=rfl
 generalize few = fw at h31 hsm
 refine callsT_facts Tryd.func89 facts89 rfl fun hw _ => ?_
 have hlen:l.length ≤ 9223372036854775807:=wf_lenT hw.1
 refine loopN l.length 3 [] () (fun _ => []) (fun _ => []) (fun k _ => (l.drop k).all (fun t => decide (fw t 30 ≤ 30)) = l.all (fun t => decide (fw t 30 ≤ 30))) rfl (same_keys rfl) trivial trivial (fun _ => rfl) (fun _ => rfl) ?_
 rintro k _ hk hinv _ _ _
 refine brn_p (fun hlt => ?_) (fun hge => ?_)
 ·have hlt:k < l.length:=by simpa using hlt
  have hd:=drop_cons hlt
  have hx:=hd.choose_spec.1
  have hdr:=hd.choose_spec.2
  generalize hd.choose = x at hx hdr
  refine idxTy hx ?_
  refine callP (h31 x) rfl fun _ => ?_
  rw [hdr,List.all_cons] at hinv
  refine brn_p (fun hgt => ?_) (fun hle => ?_)
  ·have hdc:decide (fw x 30 ≤ 30) = false:=decide_eq_false (by omega)
   rw [hdc,Bool.false_and] at hinv
   have e:false = smallL l:=by rw [hsm,← hinv,Bool.false_and]
   exact retP rfl (congrArg C.bool e)
  ·refine Fit.in64 (by omega) (by omega) ?_
   have hdc:decide (fw x 30 ≤ 30) = true:=decide_eq_true (by omega)
   rw [hdc,Bool.true_and] at hinv
   exact ⟨(k + 1,()),⟨hlt,hinv⟩,⟨nextI,trivial⟩,trivial,nextM hlt⟩
 ·have hge:¬ k < l.length:=by simpa using hge
  rw [drop_end hge,List.all_nil] at hinv
  have e:decide (((l.map tyC).length:Int) ≤ 8) = smallL l:=by rw [hsm,← hinv,Bool.true_and,List.length_map]
  exact retP rfl (congrArg C.bool e)
theorem t67' (x:Ty):CallsT PZ 67 [.agg [IC x.kind,IC x.id,.sl (x.args.map tyC)],IC 30] [] (Ret [] (IC (few x 30))):=by
 have:=t67 x 30 (by omega) (by omega)
 rw [tyC_eq] at this
 exact this
theorem t68 (f:Fun):CallsT PZ 68 [.agg (funC f)] [] (Such True):=by
 have h31:=t67'
 have h10:=t89
 generalize few = fw at h31
 generalize smallL = sm at h10
 refine callsT_facts Tryd.func68 facts68 rfl fun hw _ => ?_
 have hw:=hw.1
 have hl1:f.locals.length ≤ 9223372036854775807:=wf_lenM hw.2.2.2.2.2.2.2.2.1
 have hl2:f.blocks.length ≤ 9223372036854775807:=wf_lenM hw.2.2.2.2.2.2.2.2.2.1
 have hlb:∀ b ∈ f.blocks,b.code.length ≤ 9223372036854775807:=fun b hb => wf_lenM (wf_map hw.2.2.2.2.2.2.2.2.2.1 b hb).1
 refine brn_p (fun _ => ?_) (fun _ => ?_)
 ·exact retB false rfl rfl (fun _ => trivial)
 refine brn_p (fun _ => ?_) (fun _ => ?_)
 ·exact retB false rfl rfl (fun _ => trivial)
 refine brn_p (fun _ => ?_) (fun _ => ?_)
 ·exact retB false rfl rfl (fun _ => trivial)
 refine brn_p (fun _ => ?_) (fun _ => ?_)
 ·exact retB false rfl rfl (fun _ => trivial)
 refine callP (h31 f.result) rfl fun _ => ?_
 refine brn_p (fun _ => ?_) (fun _ => ?_)
 ·exact retB false rfl rfl (fun _ => trivial)
 refine loopN f.locals.length 3 [] () (fun _ => []) (fun _ => [(1,.box 81 (funC f))]) (fun _ _ => True) trivial (same_keys rfl) trivial ⟨.inl ⟨_,rfl,.inl ⟨rfl,rfl⟩⟩,trivial⟩ (fun _ => rfl) (fun _ => rfl) ?_
 rintro k _ hk _ _ _ _
 refine brn_p (fun hlt => ?_) (fun hge => ?_)
 ·have hlt:k < f.locals.length:=by simpa using hlt
  refine withGet hlt fun x hx _ => ?_
  refine idxTy hx ?_
  refine callP (h31 _) rfl fun _ => ?_
  refine brn_p (fun _ => ?_) (fun _ => ?_)
  ·exact retB false rfl rfl (fun _ => trivial)
  refine Fit.in64 (by omega) (by omega) ?_
  exact ⟨(k + 1,()),⟨hlt,trivial⟩,⟨nextI,trivial⟩,⟨.inl ⟨_,rfl,.inl ⟨rfl,rfl⟩⟩,trivial⟩,nextM hlt⟩
 refine loopN f.blocks.length 4 [] () (fun _ => []) (fun _ => [(1,.box 81 (funC f))]) (fun _ _ => True) trivial (same_keys rfl) trivial ⟨.inl ⟨_,rfl,.inl ⟨rfl,rfl⟩⟩,trivial⟩ (fun _ => rfl) (fun _ => rfl) ?_
 rintro k _ hk _ _ _ _
 refine brn_p (fun hlt => ?_) (fun hge => ?_)
 ·have hlt:k < f.blocks.length:=by simpa using hlt
  refine withGet hlt fun b hbx hbm => ?_
  have hbl:=hlb b hbm
  refine idxT hbx rfl rfl ?_
  refine brn_p (fun _ => ?_) (fun _ => ?_)
  ·exact retB false rfl rfl (fun _ => trivial)
  refine idxT hbx rfl rfl ?_
  refine brn_p (fun _ => ?_) (fun _ => ?_)
  ·exact retB false rfl rfl (fun _ => trivial)
  refine loopN b.code.length 5 [4] () (fun _ => [IC k]) (fun _ => [(1,.box 81 (funC f))]) (fun _ _ => True) trivial (same_keys rfl) ⟨same_keys rfl,trivial⟩ ⟨.inl ⟨_,rfl,.inl ⟨rfl,rfl⟩⟩,trivial⟩ (fun _ => rfl) (fun _ => rfl) ?_
  rintro j _ hj _ _ _ _
  refine idxT hbx rfl rfl ?_
  refine brn_p (fun hlt' => ?_) (fun hge => ?_)
  ·have hlt':j < b.code.length:=by simpa using hlt'
   refine idxT hbx rfl rfl ?_
   refine withGet hlt' fun y hy _ => ?_
   refine idxT hy rfl rfl ?_
   refine brn_p (fun _ => ?_) (fun _ => ?_)
   ·exact retB false rfl rfl (fun _ => trivial)
   refine callP (h10 _) rfl fun _ => ?_
   refine brn_split (fun _ => ?_) (fun _ => ?_)
   ·exact retB false rfl rfl (fun _ => trivial)
   refine Fit.in64 (by omega) (by omega) ?_
   exact ⟨(j + 1,()),⟨hlt',trivial⟩,⟨nextI,same_keys rfl,trivial⟩,⟨.inl ⟨_,rfl,.inl ⟨rfl,rfl⟩⟩,trivial⟩,nextM hlt'⟩
  refine Fit.in64 (by omega) (by omega) ?_
  exact ⟨(k + 1,()),⟨hlt,trivial⟩,⟨nextI,trivial⟩,⟨.inl ⟨_,rfl,.inl ⟨rfl,rfl⟩⟩,trivial⟩,nextM hlt⟩
 exact retB true rfl rfl (fun _ => trivial)
theorem t23 (q:Prog):CallsT PZ 23 [.agg (progC q)] [] (Such True):=by
 have h31:=t67'
 have h11:=t68
 generalize few = fw at h31
 refine callsT_facts Tryd.func23 facts23 rfl fun hw _ => ?_
 have hw:=hw.1
 have l1:q.datas.length ≤ 9223372036854775807:=wf_lenM hw.2.2.1
 have l3:q.funcs.length ≤ 9223372036854775807:=wf_lenM hw.2.2.2.2.2.2.1
 refine brn_p (fun _ => ?_) (fun _ => ?_)
 ·exact retB false rfl rfl (fun _ => trivial)
 refine brn_p (fun _ => ?_) (fun _ => ?_)
 ·exact retB false rfl rfl (fun _ => trivial)
 refine brn_p (fun _ => ?_) (fun _ => ?_)
 ·exact retB false rfl rfl (fun _ => trivial)
 refine loopN q.datas.length 3 [] () (fun _ => []) (fun _ => [(1,.box 29 (progC q))]) (fun _ _ => True) trivial (same_keys rfl) trivial ⟨.inl ⟨_,rfl,.inl ⟨rfl,rfl⟩⟩,trivial⟩ (fun _ => rfl) (fun _ => rfl) ?_
 rintro k _ hk _ _ _ _
 refine brn_p (fun hlt => ?_) (fun hge => ?_)
 ·have hlt:k < q.datas.length:=by simpa using hlt
  refine withGet hlt fun d hd hdm => ?_
  have hwd:=wf_map hw.2.2.1 d hdm
  have lv:d.variants.length ≤ 9223372036854775807:=wf_lenM hwd.2.2.2.1
  refine idxT hd rfl rfl ?_
  refine brn_p (fun _ => ?_) (fun _ => ?_)
  ·exact retB false rfl rfl (fun _ => trivial)
  refine loopN d.variants.length 4 [3] () (fun _ => [IC k]) (fun _ => [(1,.box 29 (progC q))]) (fun _ _ => True) trivial (same_keys rfl) ⟨same_keys rfl,trivial⟩ ⟨.inl ⟨_,rfl,.inl ⟨rfl,rfl⟩⟩,trivial⟩ (fun _ => rfl) (fun _ => rfl) ?_
  rintro j _ hj _ _ _ _
  refine idxT hd rfl rfl ?_
  refine brn_p (fun hlt' => ?_) (fun hge => ?_)
  ·have hlt':j < d.variants.length:=by simpa using hlt'
   refine withGet hlt' fun v hv hvm => ?_
   have lf:v.fields.length ≤ 9223372036854775807:=wf_lenM (wf_map hwd.2.2.2.1 v hvm).2.1
   refine idxT hd rfl rfl ?_
   refine idxT hv rfl rfl ?_
   refine brn_p (fun _ => ?_) (fun _ => ?_)
   ·exact retB false rfl rfl (fun _ => trivial)
   refine loopN v.fields.length 6 [3,4,5] () (fun _ => [IC k,IC j,.sl (v.fields.map tyC)]) (fun _ => [(1,.box 29 (progC q))]) (fun _ _ => True) trivial (same_keys rfl) ⟨same_keys rfl,same_keys rfl,same_keys rfl,trivial⟩ ⟨.inl ⟨_,rfl,.inl ⟨rfl,rfl⟩⟩,trivial⟩ (fun _ => rfl) (fun _ => rfl) ?_
   rintro i _ hi _ _ _ _
   refine brn_p (fun hlt2 => ?_) (fun hge => ?_)
   ·have hlt2:i < v.fields.length:=by simpa using hlt2
    refine withGet hlt2 fun t ht _ => ?_
    refine idxTy ht ?_
    refine callP (h31 t) rfl fun _ => ?_
    refine brn_p (fun _ => ?_) (fun _ => ?_)
    ·exact retB false rfl rfl (fun _ => trivial)
    refine Fit.in64 (by omega) (by omega) ?_
    exact ⟨(i + 1,()),⟨hlt2,trivial⟩,⟨nextI,same_keys rfl,same_keys rfl,same_keys rfl,trivial⟩,⟨.inl ⟨_,rfl,.inl ⟨rfl,rfl⟩⟩,trivial⟩,nextM hlt2⟩
   refine Fit.in64 (by omega) (by omega) ?_
   exact ⟨(j + 1,()),⟨hlt',trivial⟩,⟨nextI,same_keys rfl,trivial⟩,⟨.inl ⟨_,rfl,.inl ⟨rfl,rfl⟩⟩,trivial⟩,nextM hlt'⟩
  refine Fit.in64 (by omega) (by omega) ?_
  exact ⟨(k + 1,()),⟨hlt,trivial⟩,⟨nextI,trivial⟩,⟨.inl ⟨_,rfl,.inl ⟨rfl,rfl⟩⟩,trivial⟩,nextM hlt⟩
 refine loopN q.funcs.length 7 [] () (fun _ => []) (fun _ => [(1,.box 29 (progC q))]) (fun _ _ => True) trivial (same_keys rfl) trivial ⟨.inl ⟨_,rfl,.inl ⟨rfl,rfl⟩⟩,trivial⟩ (fun _ => rfl) (fun _ => rfl) ?_
 rintro k _ hk _ _ _ _
 refine brn_p (fun hlt => ?_) (fun hge => ?_)
 ·have hlt:k < q.funcs.length:=by simpa using hlt
  refine withGet hlt fun f hf _ => ?_
  refine idxT hf rfl rfl ?_
  refine callB (h11 f) rfl fun b _ => ?_
  refine brn_split (fun _ => ?_) (fun _ => ?_)
  ·exact retB false rfl rfl (fun _ => trivial)
  refine Fit.in64 (by omega) (by omega) ?_
  exact ⟨(k + 1,()),⟨hlt,trivial⟩,⟨nextI,trivial⟩,⟨.inl ⟨_,rfl,.inl ⟨rfl,rfl⟩⟩,trivial⟩,nextM hlt⟩
 exact retB true rfl rfl (fun _ => trivial)
theorem t7 (q:Prog):CallsT PZ 7 [.agg (progC q)] [] (Such True):=by
 have hul:(q.uses.map fun l => [C.sl (ics l)]).length = q.uses.length:=by simp
 refine callsT_facts Tryd.func7 facts7 rfl fun hw _ => ?_
 have hwu:=wf_len hw.1.2.1
 refine loopN q.uses.length 3 [] () (fun _ => []) (fun _ => []) (fun _ _ => True) trivial (same_keys rfl) trivial trivial (fun _ => rfl) (fun _ => rfl) fun k _ hk _ _ _ h64 => ?_
 refine brn_p (fun hlt => ?_) (fun hge => ?_)
 ·have hlt:(k:Int) < ((q.uses.map fun l => [C.sl (ics l)]).length:Int):=hlt
  have hlt:k < q.uses.length:=by omega
  refine withGet hlt fun x hx _ => ?_
  refine idxT (f:=fun l => [C.sl (ics l)]) hx rfl rfl ?_
  refine brn_p (fun h1 => ?_) (fun h1 => ?_)
  ·exact retB false rfl rfl fun _ => trivial
  refine Fit.in64 (by omega) (by omega) ?_
  exact ⟨(k + 1,()),⟨by omega,trivial⟩,⟨nextI,trivial⟩,trivial,nextM hlt⟩
 refine callB (t23 q) rfl fun b _ => ?_
 refine brn_split (fun _ => ?_) (fun _ => ?_)
 ·refine brn_split (fun _ => ?_) (fun _ => ?_)
  ·refine brn_split (fun _ => ?_) (fun _ => ?_)
   ·exact retB _ rfl rfl fun _ => trivial
   ·exact retB _ rfl rfl fun _ => trivial
  ·exact retB _ rfl rfl fun _ => trivial
 ·exact retB _ rfl rfl fun _ => trivial
set_option maxRecDepth 20000 in
theorem t3w (q:Prog) (m:Int) (ag:List Int) (i X Y:Ifc) (l:List Ifc) (b:List UInt8) (E:List UInt8) (e f:Int) (F:Bool)
  (h9:WfS (progC q) → CallsT PZ 9 [.agg (progC q),IC m,.sl (ics ag)] [] (Ret [] (.tup [.agg (ifC X),IC e]))) (h10:WfS (progC q) → CallsT PZ 10 [.agg (progC q),IC m,.sl (ics ag)] [] (Ret [] (.tup [.agg (ifC X),IC e])))
  (h11:CallsT PZ 11 [.sl (bcells b)] [] (Ret [] (.tup [.agg (ifC Y),IC f]))) (h12:CallsT PZ 12 [.sl (bcells b)] [] (Ret [] (.tup [.agg (ifC Y),IC f])))
  (h15:CallsT PZ 15 [.agg (ifC i)] [] (Ret [] (.sl (bcells E)))) (h16:CallsT PZ 16 [.agg (ifC i)] [] (Ret [] (.sl (bcells E))))
  (h17:CallsT PZ 17 [.agg (ifC i),.sl (l.map ifC)] [] (Ret [] (.bool F))) (h18:CallsT PZ 18 [.agg (ifC i),.sl (l.map ifC)] [] (Ret [] (.bool F))) :
  CallsT PZ 3 [.agg (progC q),IC m,.sl (ics ag),.agg (ifC i),.sl (l.map ifC),.sl (bcells b)] [] (Ret [] (.bool true)):=by
 refine callsT_facts Tryd.func3 facts3 rfl fun hw _ => ?_
 refine callP t6 rfl fun _ => ?_
 refine callB (t7 q) rfl fun b1 _ => ?_
 refine brn_split (fun _ => ?_) (fun _ => ?_)
 ·exact retP rfl rfl
 refine brn_p (fun _ => ?_) (fun _ => ?_)
 ·exact retP rfl rfl
 refine brn_p (fun _ => ?_) (fun _ => ?_)
 ·exact retP rfl rfl
 refine callB (t8 i) rfl fun b2 _ => ?_
 refine brn_split (fun _ => ?_) (fun _ => ?_)
 ·exact retP rfl rfl
 refine brn_p (fun _ => ?_) (fun _ => ?_)
 ·exact retP rfl rfl
 refine callP (h9 hw.1) rfl fun _ => ?_
 refine callP (h10 hw.1) rfl fun _ => ?_
 refine callP h11 rfl fun _ => ?_
 refine callP h12 rfl fun _ => ?_
 refine brn_p (fun _ => ?_) (fun h => absurd rfl h)
 refine callPD (t13 X) rfl fun _ => ?_
 refine brn_p (fun _ => ?_) (fun h => absurd rfl h)
 refine callPD (t13 Y) rfl fun _ => ?_
 refine callPD h15 rfl fun _ => ?_
 refine callPD h16 rfl fun _ => ?_
 refine callPD (t14 E E) rfl fun _ => ?_
 refine brn_p (fun _ => ?_) (fun h => absurd rfl h)
 refine callPD h17 rfl fun _ => ?_
 refine callPD h18 rfl fun _ => ?_
 refine retP rfl (congrArg C.bool ?_)
 exact decide_eq_true rfl
theorem t3 (q:Prog) (m:Int) (ag:List Int) (i:Ifc) (l:List Ifc) (b:List UInt8) (hq:q.g.bulk ≤ 1048576) (h4:ag.length ≤ 2 ^ 30)
  (hi:(encF i).length ≤ 1000000000) (hbl:b.length ≤ 1073741824):CallsT PZ 3 [.agg (progC q),IC m,.sl (ics ag),.agg (ifC i),.sl (l.map ifC),.sl (bcells b)] [] (Ret [] (.bool true)):=by
 have hns:=names_of hq
 have hb:WfS (progC q) → (bodyOf q m).length ≤ 2 ^ 46:=fun hw => encModule_le hq hw (nm_le (fun s hs => hns.1 s hs) m) m
 have e:q.g.bulk = 9 + G.bulkAll (q.modules.map .str) + G.bulkAll (q.uses.map fun l => .sl 1 (l.map I)) + G.bulkAll (q.datas.map Data.g) + G.bulkAll (q.traits.map .str) + G.bulkAll (q.homes.map I) + G.bulkAll (q.impls.map Impl.g) + G.bulkAll (q.funcs.map Fun.g):=by
  simp only [Prog.g,G.bulk,G.bulkAll]; omega
 have a1:=bulk_map (f:=Data.g) q.datas
 have a2:=bulk_map (f:=Impl.g) q.impls
 have a3:=bulk_map (f:=Fun.g) q.funcs
 have h5:(usesOf q m).length ≤ 2 ^ 30:=by
  unfold usesOf
  rw [List.getD_eq_getElem?_getD]
  cases hx:q.uses[m.toNat]? with
  | none => simp
  | some x =>
   have h1:=Dm.bulk_mem (g:=fun l => G.sl 1 (l.map I)) (List.mem_of_getElem? hx)
   have h2:=bulk_sl (f:=I) x (sz:=1)
   simp only [Option.getD_some]
   omega
 exact t3w q m ag i (mkI q m ag).1 (decI b).1 l b (encB i) (mkI q m ag).2 (decI b).2 (fitsI i l) (fun hw => t9 q m ag (hb hw) (by omega) (by omega) (by omega) h4 h5) (fun hw => t10 q m ag (hb hw) h4 h5) (t11 b hbl) (t12 b hbl) (t15 i (by omega)) (t16 i (by omega)) (t17 i l) (t18 i l)
end Go.Fr.Tryd
namespace Go.Fr.Tryd
open Go Go.RowKit Go.Proofs Go.Fr Go.Fr.T Go.Fr.Api
def ids:Ids:={ int:=3,str:=9,ints:=25,strs:=22,intss:=23,ty:=72,tys:=70,bound:=125,bounds:=69,term:=144,ins:=148,inss:=142,block:=146,blocks:=79,func:=81,funcs:=27,variant:=115,variants:=62,data:=64,datas:=24,impl:=74,impls:=26,prog:=29 }
theorem idsP:ids.progOk Tryd.prog = true:=by kernel_rfl
theorem idsF:ids.funcOk Tryd.prog = true:=Ids.func_of idsP
theorem idsT:ids.tyOk Tryd.prog = true:=Ids.ty_of idsF
theorem ok_ifs {n:Nat} {g:G} (h:Ok Tryd.prog n 33 g):∃ l:List Ifc,g = .sl 5 (l.map ifG):=by
 obtain ⟨l,rfl⟩:=isSl_ok (e:=32) (sz:=5) (f:=ifG) (by kernel_rfl) h fun _ _ _ hx => (ok_if hx).imp fun _ h => h.1
 exact ⟨l,rfl⟩
theorem argC_ifs (l:List Ifc):argC (.sl 5 (l.map ifG)) = .sl (l.map ifC):=by simp only [argC,gcss_of gcs_if]
end Go.Fr.Tryd
namespace Go.Fr.Tryd
open Go Go.RowKit Go.Proofs Go.Fr Go.WideMaps
theorem gEOF:Tryd.prog.globalNamed "io.EOF" = some 0:=by kernel_rfl
open Go.Proofs.YtidbpicbmklccaaDoor in
theorem glob_of_laid {W:World} (h:laidMetH Tryd.prog [("io.EOF",Rows.laid_io_EOF),("bytes.ErrTooLarge",Rows.laid_bytes_ErrTooLarge)] W):Glob (frzOf W):=by
 rw [MakeChecks.laidMetH_plain _ _ _ (by kernel_rfl)] at h
 obtain ⟨ps,⟨g0,t0,cs0,f0,p0,q0,hg0,ht0,hv0,hd0,_,_⟩,_,_⟩:=h
 obtain rfl:=Option.some.inj (gEOF.symm.trans hg0)
 have tE:t0 = 105:=Option.some.inj (ht0.symm.trans (show (Tryd.prog.globals[0]?).map (·.type) = some 105 by kernel_rfl))
 subst tE
 have u20:Tryd.prog.underlying 105 = some (.interface #[("Error",92)]):=by kernel_rfl
 have hv:∃ t u,cs0.toList = [.iface t u]:=by
  cases f0 with
  | zero => simp [DataW.trod] at hd0
  | succ n =>
   rw [DataW.trod_step] at hd0
   unfold DataW.trodStep at hd0
   rw [u20] at hd0
   split at hd0 <;> simp_all [Rows.laid_io_EOF]
 obtain ⟨t,u,hcs⟩:=hv
 simp only [World.var?,hg0,Option.bind_some] at hv0
 split at hv0
 ·rename_i cs t' fr he
  injection hv0 with hv0
  subst hv0
  refine ⟨.iface t u,t',fr,?_,.inr (.inl ⟨rfl,t,u,rfl⟩)⟩
  show W.heap[0]? = _
  rw [he]
  have:cs = #[.iface t u]:=by
   apply Array.ext'
   rw [hcs]
  rw [this]
 ·cases hv0
end Go.Fr.Tryd
