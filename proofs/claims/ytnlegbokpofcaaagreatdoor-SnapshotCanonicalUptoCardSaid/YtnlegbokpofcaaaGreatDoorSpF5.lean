/- For all bytes that can be decoded, they are the bytes of the resulting machine; at the bulk that the statement names. -/
import Derived.Test.YtnlegbokpofcaaaGreatDoorSpIds
import Derived.Test.YtnlegbokpofcaaaGreatDoorFW3
import Derived.Test.YtnlegbokpofcaaaGreatDoorSpG1G
import Derived.Test.YtnlegbokpofcaaaGreatDoorCards
import Derived.Test.YtnlegbokpofcaaaGreatDoorTie
import Derived.Deep.DeepWitnessRowRef
import Derived.LaidMore
import Derived.Stop.Joined
import Derived.JoinedCond
set_option maxRecDepth 10000
set_option linter.unusedVariables false
set_option linter.unusedSimpArgs false
namespace Go.Proofs.YtnlegbokpofcaaaGreatDoor.snapshotCanonical
open Go Go.RowKit Go.Proofs Go.Fr Go.Fr.T Go.Fr.Api Go.Fr.Tryz
open Go.ChangeShapes Go.WideShapes Go.ChangeAt
mutual
theorem bulk_eq {H:Type}:∀d:DataW H,iR d=Rows.uptoBulk d
 | .lit l=>by cases l<;>simp only[iR,Rows.uptoBulk]
 | .nil=>rfl
 | .ptr d=>by simp only[iR,Rows.uptoBulk,bulk_eq d]
 | .slice elems spare=>by simp only[iR,Rows.uptoBulk,bulkAll_eq elems,bulkAll_eq spare]
 | .agg parts=>by simp only[iR,Rows.uptoBulk,bulkAll_eq parts]
 | .iface _ d=>by simp only[iR,Rows.uptoBulk,bulk_eq d]
 | .map entries=>by simp only[iR,Rows.uptoBulk,bulkEs_eq entries]
 | .held _=>rfl
theorem bulkAll_eq {H:Type}:∀l:List (DataW H),fA l=Rows.uptoBulkAll l
 | []=>rfl
 | d::r=>by simp only[fA,Rows.uptoBulkAll,bulk_eq d,bulkAll_eq r]
theorem bulkEs_eq {H:Type}:∀l:List (Lit×DataW H),mD l=Rows.uptoBulkEntries l
 | []=>rfl
 | x::r=>by simp only[mD,Rows.uptoBulkEntries,bulkE_eq x,bulkEs_eq r]
theorem bulkE_eq {H:Type}:∀x:Lit×DataW H,sW x=Rows.uptoBulkEntry x
 | (l,d)=>by cases l<;>simp only[sW,Rows.uptoBulkEntry,bulk_eq d]
end
theorem law (gs:List G) (hg:NR Tryz.prog Tryz.f5.params.toList gs) (hb:G.ZF gs<=1048576):CallsT Tryz.prog 5 (gs.map CR) [] (iD [] (.bool true)):=by
 have e:Tryz.f5.params.toList=[35]:=by kernel_rfl
 rw[e] at hg;obtain⟨g1,r1,n1,rfl,h1,k1⟩:=JT hg;obtain rfl:=MW k1;obtain⟨bs,rfl⟩:=PY h1;simp only[G.ZF] at hb;have:=MV (f:=bG) bs (sz:=1);simp only[List.map_cons,List.map_nil,D7];exact t5 bs (by omega)
theorem own:ownKnob Tryz.prog.godebug=none:=by kernel_rfl
theorem underB:Tryz.prog.underlying 4=some .bool:=by kernel_rfl
set_option maxRecDepth 100000 in
theorem contract (H:Type) (enc:TypeId×Value->H) (W:World) (base:Nat) (args:Array Value) (ds gs:List (DataW H)) (before:List MemPlace)
  (hval:∀(j:Nat) t v,Tryz.f5.params[j]?=some t->args[j]?=some v->Value.okWide Tryz.prog W .any base t v)
  (hW:DataW.Whole enc Tryz.prog Tryz.f5.params.toList Rows.snapshotCanonicalSpec.vars false W args.toList ds gs before) (hk:Rows.uptoSmall H (ds++gs)=true) (hL:laidMetH Tryz.prog Rows.snapshotCanonicalUptoRow.laid W) :
  Calls Tryz.prog 5 args W fun e W'=>∃v,e=.returned v/\Rows.snapshotCanonicalSpec.post enc Tryz.prog Tryz.f5 false true false false W args v W':=by
 have hgs:gs=[]:=by
  obtain⟨p,q,hA,hV,e,_⟩:=hW;exact(trodVars_none hV).1
 subst hgs;have hlen:∃d1,ds=[d1]:=by
  obtain⟨p,q,hA,hV,e,_⟩:=hW;have hA':DataW.TrodAll enc Tryz.prog W 0 (fun _=>true) true Tryz.f5.params.toList args.toList ds p:=hA;rw[Tryz.params5] at hA'
  clear hA
  obtain⟨v1,vs1,d1,ds1,p1,q1,_,rfl,_,_,r1⟩:=trodAll_cons hA';obtain⟨_,rfl,_⟩:=trodAll_nil r1;exact⟨_,rfl⟩
 obtain⟨d1,hds⟩:=hlen;have hk':fA ds<=1048576:=by rw[bulkAll_eq];simpa[Rows.uptoSmall] using hk
 exact yU (S:=[34,25,29,30,31,32,3,22,23,26,27,72,9,70,76,74,79,83,59,80,81,142,138,140,144,145,148,146,224,4,63,61,58,67,64,65,69,129,101,35,5,50]) (tb:=4) (fn:=Tryz.f5) (s:=Rows.snapshotCanonicalSpec) (by kernel_rfl) (by kernel_rfl) (by kernel_rfl) (by kernel_rfl) underB rfl law (by rw[hds];rfl) hval hW hk' (Bz hL)
theorem laid_met (os:Os):laidMetH Tryz.prog Rows.snapshotCanonicalUptoRow.laid ((World.doorLaid Tryz.prog 400 os).forCall (fun _ _=>0) ⟨#[],#[.slice none 0 0],[]⟩).memory :=
 laidMetH_of_parts3 (fuel:=8) (laidMet_of_run' 8 (by kernel_rfl) (by kernel_rfl)) (by kernel_rfl) (by kernel_rfl)
theorem reads (os:Os) {H:Type}(enc:TypeId×Value->H):∃places,DataW.whole enc Tryz.prog ((World.doorLaid Tryz.prog 400 os).forCall (fun _ _=>0) ⟨#[],#[.slice none 0 0],[]⟩).memory Tryz.f5.params.toList Rows.snapshotCanonicalSpec.vars false (#[.slice none 0 0]:Array Value).toList 8=some ([.nil],[],places) :=
 ⟨[],by kernel_rfl⟩
set_option maxRecDepth 100000 in
theorem lifted (os:Os) (started:os.Started) (H:Type) (enc:TypeId×Value->H) (F:Stop.Interp) :
  ReturnsInHanded {} Tryz.checked os 5 .any ((Rows.OpenSpec.upto Rows.snapshotCanonicalSpec).preRow enc Tryz.prog Tryz.f5 Rows.snapshotCanonicalUptoRow.domain false Rows.snapshotCanonicalUptoRow.laid) (((Rows.OpenSpec.upto Rows.snapshotCanonicalSpec).at F).post enc Tryz.prog Tryz.f5 false true false false):=by
 obtain⟨places,hx⟩:=reads os enc;refine returnsInHanded_of_row (C:=Tryz.checked) (s:=Rows.OpenSpec.upto Rows.snapshotCanonicalSpec) own started (by kernel_rfl) Tryz.func5
  (witness_row_atRef (enc:=enc) (C:=Tryz.checked) false (World.doorLaid Tryz.prog 400 os) #[.slice none 0 0] rfl (by kernel_rfl) (by kernel_rfl) (by kernel_rfl)
   (OpenSpec.preRow_of_cond 8 hx (by kernel_rfl) (fun k hk=>by cases hk;kernel_rfl) (by kernel_rfl) (laid_met os))) ?_
 intro W base args ds gs before hval hW _ hcond _ hL _ _;exact contract H enc W base args ds gs before hval hW (hcond _ rfl) hL
theorem over:Rows.SnapshotCanonicalUptoSaid :=
 OpenClaim.holds_of_cond 5 Tryz.f5 rfl rfl rfl rfl rfl rfl rfl ⟨rfl,rfl,rfl,rfl,rfl⟩ rfl rfl rfl rfl rfl (by kernel_rfl) Tryz.func5 (by kernel_rfl)
  (of_decide_eq_true (by kernel_rfl)) (by unfold Func.isWrapper;first | (rw[if_pos (by decide +kernel)];kernel_rfl) | (rw[if_neg (by decide +kernel)];exact⟨rfl,rfl⟩))
  (fun os started H enc _ F=>by rw[OpenClaim.pre_eq_preRow];exact lifted os started H enc F)
theorem plain (f:FuncId) (fn:Func) (hf:Tryz.pinned.checked.prog.funcNamed "leasehold/leaseholdlaw37.SnapshotCanonical"=some f) (hfn:Tryz.pinned.checked.prog.funcs[f]?=some fn) :
  true=Tryz.pinned.checked.prog.looks []/\∀(j:Nat) t,fn.params[j]?=some t->Tryz.pinned.checked.prog.wantsStandIn t=false:=by
 obtain rfl:f=5:=Option.some.inj ((show Tryz.prog.funcNamed "leasehold/leaseholdlaw37.SnapshotCanonical"=some 5 by kernel_rfl).symm.trans hf) |>.symm;obtain rfl:fn=Tryz.f5:=(Option.some.inj (Tryz.func5.symm.trans hfn)).symm;refine⟨by kernel_rfl,fun j t ht=>?_⟩;rw[Tryz.params5] at ht;have hm:t∈[35]:=by simpa using Array.mem_of_getElem? ht
 have hall:([35].all fun u=>!Tryz.prog.wantsStandIn u)=true:=by kernel_rfl
 exact(show Tryz.prog.wantsStandIn t=false by simpa using List.all_eq_true.1 hall t hm)
theorem proved:Rows.SnapshotCanonicalUptoCardSaid :=
 Claim7.holds_tied_plain_at .later [] _ _ _ _ over (fun _ h=>by cases h) (by kernel_rfl) (fun _ h=>by cases h) snapshotCanonicalUpto_row_tie rfl ⟨rfl,rfl⟩ (by kernel_rfl) rfl plain (by kernel_rfl)
end Go.Proofs.YtnlegbokpofcaaaGreatDoor.snapshotCanonical
