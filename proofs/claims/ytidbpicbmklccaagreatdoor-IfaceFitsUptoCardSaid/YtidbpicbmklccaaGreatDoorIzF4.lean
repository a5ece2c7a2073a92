/- For every program and module: with the digests of the interfaces of the modules that it uses its interface fits these, and with others it does not; at the bulk that the statement names. -/
import Derived.Test.YtidbpicbmklccaaGreatDoorFW3
import Derived.Test.YtidbpicbmklccaaGreatDoorIzIds
import Derived.Test.YtidbpicbmklccaaGreatDoorIzG1G
import Derived.Test.YtidbpicbmklccaaGreatDoorCards
import Derived.Test.YtidbpicbmklccaaGreatDoorTie
import Derived.Deep.DeepWitnessRowRef
import Derived.LaidMore
import Derived.Stop.Joined
import Derived.JoinedCond
set_option maxRecDepth 10000
set_option linter.unusedVariables false
set_option linter.unusedSimpArgs false
namespace Go.Proofs.YtidbpicbmklccaaGreatDoor.ifaceFits
open Go Go.RowKit Go.Proofs Go.Fr Go.Fr.T Go.Fr.Api Go.Fr.Tryz
open Go.ChangeShapes Go.WideShapes Go.ChangeAt
mutual
theorem bulk_eq {H:Type}:∀ d:DataW H,bulkD d = Rows.uptoBulk d
 | .lit l => by cases l <;> simp only [bulkD,Rows.uptoBulk]
 | .nil => rfl
 | .ptr d => by simp only [bulkD,Rows.uptoBulk,bulk_eq d]
 | .slice elems spare => by simp only [bulkD,Rows.uptoBulk,bulkAll_eq elems,bulkAll_eq spare]
 | .agg parts => by simp only [bulkD,Rows.uptoBulk,bulkAll_eq parts]
 | .iface _ d => by simp only [bulkD,Rows.uptoBulk,bulk_eq d]
 | .map entries => by simp only [bulkD,Rows.uptoBulk,bulkEs_eq entries]
 | .held _ => rfl
theorem bulkAll_eq {H:Type}:∀ l:List (DataW H),bulkDAll l = Rows.uptoBulkAll l
 | [] => rfl
 | d :: r => by simp only [bulkDAll,Rows.uptoBulkAll,bulk_eq d,bulkAll_eq r]
theorem bulkEs_eq {H:Type}:∀ l:List (Lit × DataW H),bulkDEntries l = Rows.uptoBulkEntries l
 | [] => rfl
 | x :: r => by simp only [bulkDEntries,Rows.uptoBulkEntries,bulkE_eq x,bulkEs_eq r]
theorem bulkE_eq {H:Type}:∀ x:Lit × DataW H,bulkDEntry x = Rows.uptoBulkEntry x
 | (l,d) => by cases l <;> simp only [bulkDEntry,Rows.uptoBulkEntry,bulk_eq d]
end
theorem law (gs:List G) (hg:OkA Tryz.prog Tryz.f4.params.toList gs) (hb:G.bulkAll gs ≤ 1048576):CallsT Tryz.prog 4 (gs.map argC) [] (Ret [] (.bool true)):=by
 have e:Tryz.f4.params.toList = [29,3,9]:=by kernel_rfl
 rw [e] at hg
 obtain ⟨g1,r1,n1,rfl,h1,k1⟩:=okA_cons hg
 obtain ⟨g2,r2,n2,rfl,h2,k2⟩:=okA_cons k1
 obtain ⟨g3,r3,n3,rfl,h3,k3⟩:=okA_cons k2
 obtain rfl:=okA_nil k3
 obtain ⟨q,rfl⟩:=Ids.prg (d:=ids) idsP h1
 obtain ⟨m,rfl⟩:=Ids.i (d:=ids) idsT h2
 obtain ⟨s,rfl⟩:=isS_ok (by kernel_rfl) h3
 simp only [G.bulkAll] at hb
 have es:argC (.str s) = .str s:=rfl
 simp only [List.map_cons,List.map_nil,argC_prog,argC_I,es]
 exact t4 q m s (by omega)
theorem own:ownKnob Tryz.prog.godebug = none:=by kernel_rfl
theorem underB:Tryz.prog.underlying 4 = some .bool:=by kernel_rfl
set_option maxRecDepth 100000 in
theorem contract (H:Type) (enc:TypeId × Value → H) (W:World) (base:Nat) (args:Array Value) (ds gs:List (DataW H)) (before:List MemPlace)
  (hval:∀ (j:Nat) t v,Tryz.f4.params[j]? = some t → args[j]? = some v → Value.okWide Tryz.prog W .any base t v)
  (hW:DataW.Whole enc Tryz.prog Tryz.f4.params.toList Rows.ifaceFitsSpec.vars false W args.toList ds gs before) (hk:Rows.uptoSmall H (ds ++ gs) = true) (hL:laidMetH Tryz.prog Rows.ifaceFitsUptoRow.laid W) :
  Calls Tryz.prog 4 args W fun e W' => ∃ v,e = .returned v ∧ Rows.ifaceFitsSpec.post enc Tryz.prog Tryz.f4 false true false false W args v W':=by
 have hgs:gs = []:=by
  obtain ⟨p,q,hA,hV,e,_⟩:=hW
  exact (trodVars_none hV).1
 subst hgs
 have hlen:∃ d1 d2 d3,ds = [d1,d2,d3]:=by
  obtain ⟨p,q,hA,hV,e,_⟩:=hW
  have hA':DataW.TrodAll enc Tryz.prog W 0 (fun _ => true) true Tryz.f4.params.toList args.toList ds p:=hA
  rw [Tryz.params4] at hA'
  clear hA
  obtain ⟨v1,vs1,d1,ds1,p1,q1,_,rfl,_,_,r1⟩:=trodAll_cons hA'
  obtain ⟨v2,vs2,d2,ds2,p2,q2,_,rfl,_,_,r2⟩:=trodAll_cons r1
  obtain ⟨v3,vs3,d3,ds3,p3,q3,_,rfl,_,_,r3⟩:=trodAll_cons r2
  obtain ⟨_,rfl,_⟩:=trodAll_nil r3
  exact ⟨_,_,_,rfl⟩
 obtain ⟨d1,d2,d3,hds⟩:=hlen
 have hk':bulkDAll ds ≤ 1048576:=by rw [bulkAll_eq]; simpa [Rows.uptoSmall] using hk
 exact contract_bool (S:=[29,22,23,24,25,26,27,3,9,80,78,103,31,33,50,30,143,36,34,64,60,66,62,4]) (tb:=4) (fn:=Tryz.f4) (s:=Rows.ifaceFitsSpec) (by kernel_rfl) (by kernel_rfl) (by kernel_rfl) (by kernel_rfl) underB rfl law (by rw [hds]; rfl) hval hW hk' (glob_of_laid hL)
theorem laid_met (os:Os):laidMetH Tryz.prog Rows.ifaceFitsUptoRow.laid ((World.doorLaid Tryz.prog 400 os).forCall (fun _ _ => 0) ⟨#[],#[.agg #[.slice none 0 0,.slice none 0 0,.slice none 0 0,.slice none 0 0,.slice none 0 0,.slice none 0 0,.slice none 0 0,.int .i64 0],.int .i64 0,.string ⟨#[]⟩],[]⟩).memory :=
 laidMetH_of_parts3 (fuel:=8) (laidMet_of_run' 8 (by kernel_rfl) (by kernel_rfl)) (by kernel_rfl) (by kernel_rfl)
theorem reads (os:Os) {H:Type} (enc:TypeId × Value → H):∃ places,DataW.whole enc Tryz.prog ((World.doorLaid Tryz.prog 400 os).forCall (fun _ _ => 0) ⟨#[],#[.agg #[.slice none 0 0,.slice none 0 0,.slice none 0 0,.slice none 0 0,.slice none 0 0,.slice none 0 0,.slice none 0 0,.int .i64 0],.int .i64 0,.string ⟨#[]⟩],[]⟩).memory Tryz.f4.params.toList Rows.ifaceFitsSpec.vars false (#[.agg #[.slice none 0 0,.slice none 0 0,.slice none 0 0,.slice none 0 0,.slice none 0 0,.slice none 0 0,.slice none 0 0,.int .i64 0],.int .i64 0,.string ⟨#[]⟩]:Array Value).toList 8 = some ([.agg [.nil,.nil,.nil,.nil,.nil,.nil,.nil,.lit (.int .i64 0)],.lit (.int .i64 0),.lit (.string [])],[],places) :=
 ⟨[],by kernel_rfl⟩
set_option maxRecDepth 100000 in
theorem lifted (os:Os) (started:os.Started) (H:Type) (enc:TypeId × Value → H) (F:Stop.Interp) :
  ReturnsInHanded {} Tryz.checked os 4 .any ((Rows.OpenSpec.upto Rows.ifaceFitsSpec).preRow enc Tryz.prog Tryz.f4 Rows.ifaceFitsUptoRow.domain false Rows.ifaceFitsUptoRow.laid) (((Rows.OpenSpec.upto Rows.ifaceFitsSpec).at F).post enc Tryz.prog Tryz.f4 false true false false):=by
 obtain ⟨places,hx⟩:=reads os enc
 refine returnsInHanded_of_row (C:=Tryz.checked) (s:=Rows.OpenSpec.upto Rows.ifaceFitsSpec) own started (by kernel_rfl) Tryz.func4
  (witness_row_atRef (enc:=enc) (C:=Tryz.checked) false (World.doorLaid Tryz.prog 400 os) #[.agg #[.slice none 0 0,.slice none 0 0,.slice none 0 0,.slice none 0 0,.slice none 0 0,.slice none 0 0,.slice none 0 0,.int .i64 0],.int .i64 0,.string ⟨#[]⟩] rfl (by kernel_rfl) (by kernel_rfl) (by kernel_rfl)
   (OpenSpec.preRow_of_cond 8 hx (by kernel_rfl) (fun k hk => by cases hk; kernel_rfl) (by kernel_rfl) (laid_met os))) ?_
 intro W base args ds gs before hval hW _ hcond _ hL _ _
 exact contract H enc W base args ds gs before hval hW (hcond _ rfl) hL
theorem over:Rows.IfaceFitsUptoSaid :=
 OpenClaim.holds_of_cond 4 Tryz.f4 rfl rfl rfl rfl rfl rfl rfl ⟨rfl,rfl,rfl,rfl,rfl⟩ rfl rfl rfl rfl rfl (by kernel_rfl) Tryz.func4 (by kernel_rfl)
  (of_decide_eq_true (by kernel_rfl)) (by unfold Func.isWrapper; first | (rw [if_pos (by decide +kernel)]; kernel_rfl) | (rw [if_neg (by decide +kernel)]; exact ⟨rfl,rfl⟩))
  (fun os started H enc _ F => by rw [OpenClaim.pre_eq_preRow]; exact lifted os started H enc F)
theorem plain (f:FuncId) (fn:Func) (hf:Tryz.pinned.checked.prog.funcNamed "leasehold/leaseholdlaw21.IfaceFits" = some f) (hfn:Tryz.pinned.checked.prog.funcs[f]? = some fn) :
  true = Tryz.pinned.checked.prog.looks [] ∧ ∀ (j:Nat) t,fn.params[j]? = some t → Tryz.pinned.checked.prog.wantsStandIn t = false:=by
 obtain rfl:f = 4:=Option.some.inj ((show Tryz.prog.funcNamed "leasehold/leaseholdlaw21.IfaceFits" = some 4 by kernel_rfl).symm.trans hf) |>.symm
 obtain rfl:fn = Tryz.f4:=(Option.some.inj (Tryz.func4.symm.trans hfn)).symm
 refine ⟨by kernel_rfl,fun j t ht => ?_⟩
 rw [Tryz.params4] at ht
 have hm:t ∈ [29,3,9]:=by simpa using Array.mem_of_getElem? ht
 have hall:([29,3,9].all fun u => !Tryz.prog.wantsStandIn u) = true:=by kernel_rfl
 exact (show Tryz.prog.wantsStandIn t = false by simpa using List.all_eq_true.1 hall t hm)
theorem proved:Rows.IfaceFitsUptoCardSaid :=
 Claim7.holds_tied_plain_at .later [] _ _ _ _ over (fun _ h => by cases h) (by kernel_rfl) (fun _ h => by cases h) ifaceFitsUpto_row_tie rfl ⟨rfl,rfl⟩ (by kernel_rfl) rfl plain (by kernel_rfl)
end Go.Proofs.YtidbpicbmklccaaGreatDoor.ifaceFits
