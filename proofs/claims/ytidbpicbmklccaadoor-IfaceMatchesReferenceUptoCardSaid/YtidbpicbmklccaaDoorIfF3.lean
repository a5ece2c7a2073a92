/- For every program, module, digests, interfaces and bytes, all functions answer as the reference's; at the bulk that the statement names. -/
import Derived.Test.YtidbpicbmklccaaDoorIfG1G
import Derived.Test.YtidbpicbmklccaaDoorFW3
import Derived.Test.YtidbpicbmklccaaDoorIfIds
import Derived.Test.YtidbpicbmklccaaDoorCards
import Derived.Test.YtidbpicbmklccaaDoorTie
import Derived.Deep.DeepWitnessRowRef
import Derived.LaidMore
import Derived.Stop.Joined
import Derived.JoinedCond
set_option maxRecDepth 10000
set_option linter.unusedVariables false
set_option linter.unusedSimpArgs false
namespace Go.Proofs.YtidbpicbmklccaaDoor.ifaceMatchesReference
open Go Go.RowKit Go.Proofs Go.Fr Go.Fr.T Go.Fr.Api Go.Fr.Tryd
open Go.ChangeShapes Go.WideShapes Go.ChangeAt
mutual
theorem bulk_eq {H:Type}:∀ d:DataW H,bulkD d = Rows.uptoBulk d
 | .lit l => by cases l <;> simp only [bulkD,Rows.uptoBulk]
 | .nil => rfl
 | .ptr d => by simp only [bulkD,Rows.uptoBulk,bulk_eq d]
 | .slice elems spare => by simp only [bulkD,Rows.uptoBulk,bulkAll_eq elems,bulkAll_eq spare]
 | .agg parts => by simp only [bulkD,Rows.uptoBulk,bulkAll_eq parts]
 | .iface _ d => by simp only [bulkD,Rows.uptoBulk,bulk_eq d]
 | .map entries => by simp only [bulkD,Rows.uptoBulk,bulkEs_eq entries]
 | .held _ => rfl
theorem bulkAll_eq {H:Type}:∀ l:List (DataW H),bulkDAll l = Rows.uptoBulkAll l
 | [] => rfl
 | d :: r => by simp only [bulkDAll,Rows.uptoBulkAll,bulk_eq d,bulkAll_eq r]
theorem bulkEs_eq {H:Type}:∀ l:List (Lit × DataW H),bulkDEntries l = Rows.uptoBulkEntries l
 | [] => rfl
 | x :: r => by simp only [bulkDEntries,Rows.uptoBulkEntries,bulkE_eq x,bulkEs_eq r]
theorem bulkE_eq {H:Type}:∀ x:Lit × DataW H,bulkDEntry x = Rows.uptoBulkEntry x
 | (l,d) => by cases l <;> simp only [bulkDEntry,Rows.uptoBulkEntry,bulk_eq d]
end
theorem law (gs:List G) (hg:OkA Tryd.prog Tryd.f3.params.toList gs) (hb:G.bulkAll gs ≤ 1048576):CallsT Tryd.prog 3 (gs.map argC) [] (Ret [] (.bool true)):=by
 have e:Tryd.f3.params.toList = [29,3,25,32,33,30]:=by kernel_rfl
 rw [e] at hg
 obtain ⟨g1,r1,n1,rfl,h1,k1⟩:=okA_cons hg
 obtain ⟨g2,r2,n2,rfl,h2,k2⟩:=okA_cons k1
 obtain ⟨g3,r3,n3,rfl,h3,k3⟩:=okA_cons k2
 obtain ⟨g4,r4,n4,rfl,h4,k4⟩:=okA_cons k3
 obtain ⟨g5,r5,n5,rfl,h5,k5⟩:=okA_cons k4
 obtain ⟨g6,r6,n6,rfl,h6,k6⟩:=okA_cons k5
 obtain rfl:=okA_nil k6
 obtain ⟨q,rfl⟩:=Ids.prg (d:=ids) idsP h1
 obtain ⟨m,rfl⟩:=Ids.i (d:=ids) idsT h2
 obtain ⟨ag,rfl,_⟩:=ok_ints h3
 obtain ⟨i1,rfl,hw1⟩:=ok_if h4
 obtain ⟨l,rfl⟩:=ok_ifs h5
 obtain ⟨b,rfl⟩:=bytes_ok (e:=5) (by kernel_rfl) (by kernel_rfl) h6
 simp only [G.bulkAll] at hb
 have hbl:=bulk_sl (f:=bG) b (sz:=1)
 have hal:=bulk_sl (f:=I) ag (sz:=1)
 simp only [List.map_cons,List.map_nil,argC_if,argC_ifs,argC_bytes,argC_prog,argC_I,argC_ints]
 have hl:=if_len hw1 (by omega)
 exact t3 q m ag i1 l b (by omega) (by omega) (by omega) (by omega)
theorem own:ownKnob Tryd.prog.godebug = none:=by kernel_rfl
theorem underB:Tryd.prog.underlying 4 = some .bool:=by kernel_rfl
set_option maxRecDepth 100000 in
theorem contract (H:Type) (enc:TypeId × Value → H) (W:World) (base:Nat) (args:Array Value) (ds gs:List (DataW H)) (before:List MemPlace)
  (hval:∀ (j:Nat) t v,Tryd.f3.params[j]? = some t → args[j]? = some v → Value.okWide Tryd.prog W .any base t v)
  (hW:DataW.Whole enc Tryd.prog Tryd.f3.params.toList Rows.ifaceMatchesReferenceSpec.vars false W args.toList ds gs before) (hk:Rows.uptoSmall H (ds ++ gs) = true) (hL:laidMetH Tryd.prog Rows.ifaceMatchesReferenceUptoRow.laid W) :
  Calls Tryd.prog 3 args W fun e W' => ∃ v,e = .returned v ∧ Rows.ifaceMatchesReferenceSpec.post enc Tryd.prog Tryd.f3 false true false false W args v W':=by
 have hgs:gs = []:=by
  obtain ⟨p,q,hA,hV,e,_⟩:=hW
  exact (trodVars_none hV).1
 subst hgs
 have hlen:∃ d1 d2 d3 d4 d5 d6,ds = [d1,d2,d3,d4,d5,d6]:=by
  obtain ⟨p,q,hA,hV,e,_⟩:=hW
  have hA':DataW.TrodAll enc Tryd.prog W 0 (fun _ => true) true Tryd.f3.params.toList args.toList ds p:=hA
  rw [Tryd.params3] at hA'
  clear hA
  obtain ⟨v1,vs1,d1,ds1,p1,q1,_,rfl,_,_,r1⟩:=trodAll_cons hA'
  obtain ⟨v2,vs2,d2,ds2,p2,q2,_,rfl,_,_,r2⟩:=trodAll_cons r1
  obtain ⟨v3,vs3,d3,ds3,p3,q3,_,rfl,_,_,r3⟩:=trodAll_cons r2
  obtain ⟨v4,vs4,d4,ds4,p4,q4,_,rfl,_,_,r4⟩:=trodAll_cons r3
  obtain ⟨v5,vs5,d5,ds5,p5,q5,_,rfl,_,_,r5⟩:=trodAll_cons r4
  obtain ⟨v6,vs6,d6,ds6,p6,q6,_,rfl,_,_,r6⟩:=trodAll_cons r5
  obtain ⟨_,rfl,_⟩:=trodAll_nil r6
  exact ⟨_,_,_,_,_,_,rfl⟩
 obtain ⟨d1,d2,d3,d4,d5,d6,hds⟩:=hlen
 have hk':bulkDAll ds ≤ 1048576:=by rw [bulkAll_eq]; simpa [Rows.uptoSmall] using hk
 exact contract_bool (S:=[32,9,22,25,3,30,5,48,4,29,23,24,26,27,33,62,64,69,70,72,74,79,81,115,125,142,144,146,148]) (tb:=4) (fn:=Tryd.f3) (s:=Rows.ifaceMatchesReferenceSpec) (by kernel_rfl) (by kernel_rfl) (by kernel_rfl) (by kernel_rfl) underB rfl law (by rw [hds]; rfl) hval hW hk' (glob_of_laid hL)
theorem laid_met (os:Os):laidMetH Tryd.prog Rows.ifaceMatchesReferenceUptoRow.laid ((World.doorLaid Tryd.prog 400 os).forCall (fun _ _ => 0) ⟨#[],#[.agg #[.slice none 0 0,.slice none 0 0,.slice none 0 0,.slice none 0 0,.slice none 0 0,.slice none 0 0,.slice none 0 0,.int .i64 0],.int .i64 0,.slice none 0 0,.agg #[.string ⟨#[]⟩,.slice none 0 0,.slice none 0 0,.int .i64 0,.slice none 0 0],.slice none 0 0,.slice none 0 0],[]⟩).memory :=
 laidMetH_of_parts3 (fuel:=8) (laidMet_of_run' 8 (by kernel_rfl) (by kernel_rfl)) (by kernel_rfl) (by kernel_rfl)
theorem reads (os:Os) {H:Type} (enc:TypeId × Value → H):∃ places,DataW.whole enc Tryd.prog ((World.doorLaid Tryd.prog 400 os).forCall (fun _ _ => 0) ⟨#[],#[.agg #[.slice none 0 0,.slice none 0 0,.slice none 0 0,.slice none 0 0,.slice none 0 0,.slice none 0 0,.slice none 0 0,.int .i64 0],.int .i64 0,.slice none 0 0,.agg #[.string ⟨#[]⟩,.slice none 0 0,.slice none 0 0,.int .i64 0,.slice none 0 0],.slice none 0 0,.slice none 0 0],[]⟩).memory Tryd.f3.params.toList Rows.ifaceMatchesReferenceSpec.vars false (#[.agg #[.slice none 0 0,.slice none 0 0,.slice none 0 0,.slice none 0 0,.slice none 0 0,.slice none 0 0,.slice none 0 0,.int .i64 0],.int .i64 0,.slice none 0 0,.agg #[.string ⟨#[]⟩,.slice none 0 0,.slice none 0 0,.int .i64 0,.slice none 0 0],.slice none 0 0,.slice none 0 0]:Array Value).toList 8 = some ([.agg [.nil,.nil,.nil,.nil,.nil,.nil,.nil,.lit (.int .i64 0)],.lit (.int .i64 0),.nil,.agg [.lit (.string []),.nil,.nil,.lit (.int .i64 0),.nil],.nil,.nil],[],places) :=
 ⟨[],by kernel_rfl⟩
set_option maxRecDepth 100000 in
theorem lifted (os:Os) (started:os.Started) (H:Type) (enc:TypeId × Value → H) (F:Stop.Interp) :
  ReturnsInHanded {} Tryd.checked os 3 .any ((Rows.OpenSpec.upto Rows.ifaceMatchesReferenceSpec).preRow enc Tryd.prog Tryd.f3 Rows.ifaceMatchesReferenceUptoRow.domain false Rows.ifaceMatchesReferenceUptoRow.laid) (((Rows.OpenSpec.upto Rows.ifaceMatchesReferenceSpec).at F).post enc Tryd.prog Tryd.f3 false true false false):=by
 obtain ⟨places,hx⟩:=reads os enc
 refine returnsInHanded_of_row (C:=Tryd.checked) (s:=Rows.OpenSpec.upto Rows.ifaceMatchesReferenceSpec) own started (by kernel_rfl) Tryd.func3
  (witness_row_atRef (enc:=enc) (C:=Tryd.checked) false (World.doorLaid Tryd.prog 400 os) #[.agg #[.slice none 0 0,.slice none 0 0,.slice none 0 0,.slice none 0 0,.slice none 0 0,.slice none 0 0,.slice none 0 0,.int .i64 0],.int .i64 0,.slice none 0 0,.agg #[.string ⟨#[]⟩,.slice none 0 0,.slice none 0 0,.int .i64 0,.slice none 0 0],.slice none 0 0,.slice none 0 0] rfl (by kernel_rfl) (by kernel_rfl) (by kernel_rfl)
   (OpenSpec.preRow_of_cond 8 hx (by kernel_rfl) (fun k hk => by cases hk; kernel_rfl) (by kernel_rfl) (laid_met os))) ?_
 intro W base args ds gs before hval hW _ hcond _ hL _ _
 exact contract H enc W base args ds gs before hval hW (hcond _ rfl) hL
theorem over:Rows.IfaceMatchesReferenceUptoSaid :=
 OpenClaim.holds_of_cond 3 Tryd.f3 rfl rfl rfl rfl rfl rfl rfl ⟨rfl,rfl,rfl,rfl,rfl⟩ rfl rfl rfl rfl rfl (by kernel_rfl) Tryd.func3 (by kernel_rfl)
  (of_decide_eq_true (by kernel_rfl)) (by unfold Func.isWrapper; first | (rw [if_pos (by decide +kernel)]; kernel_rfl) | (rw [if_neg (by decide +kernel)]; exact ⟨rfl,rfl⟩))
  (fun os started H enc _ F => by rw [OpenClaim.pre_eq_preRow]; exact lifted os started H enc F)
theorem plain (f:FuncId) (fn:Func) (hf:Tryd.pinned.checked.prog.funcNamed "leasehold/leaseholdlaw21.IfaceMatchesReference" = some f) (hfn:Tryd.pinned.checked.prog.funcs[f]? = some fn) :
  true = Tryd.pinned.checked.prog.looks [] ∧ ∀ (j:Nat) t,fn.params[j]? = some t → Tryd.pinned.checked.prog.wantsStandIn t = false:=by
 obtain rfl:f = 3:=Option.some.inj ((show Tryd.prog.funcNamed "leasehold/leaseholdlaw21.IfaceMatchesReference" = some 3 by kernel_rfl).symm.trans hf) |>.symm
 obtain rfl:fn = Tryd.f3:=(Option.some.inj (Tryd.func3.symm.trans hfn)).symm
 refine ⟨by kernel_rfl,fun j t ht => ?_⟩
 rw [Tryd.params3] at ht
 have hm:t ∈ [29,3,25,32,33,30]:=by simpa using Array.mem_of_getElem? ht
 have hall:([29,3,25,32,33,30].all fun u => !Tryd.prog.wantsStandIn u) = true:=by kernel_rfl
 exact (show Tryd.prog.wantsStandIn t = false by simpa using List.all_eq_true.1 hall t hm)
theorem proved:Rows.IfaceMatchesReferenceUptoCardSaid :=
 Claim7.holds_tied_plain_at .later [] _ _ _ _ over (fun _ h => by cases h) (by kernel_rfl) (fun _ h => by cases h) ifaceMatchesReferenceUpto_row_tie rfl ⟨rfl,rfl⟩ (by kernel_rfl) rfl plain (by kernel_rfl)
end Go.Proofs.YtidbpicbmklccaaDoor.ifaceMatchesReference
