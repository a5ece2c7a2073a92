/- For every two byte sequences: their delta has at most 40 bytes, and 42 more for each page that changes; at the bulk that the statement names. -/
import Derived.Test.YtnlegbokpofcaaaDoorSnIds
import Derived.Test.YtnlegbokpofcaaaDoorFW3
import Derived.Test.YtnlegbokpofcaaaDoorSnG1G
import Derived.Test.YtnlegbokpofcaaaDoorCards
import Derived.Test.YtnlegbokpofcaaaDoorTie
import Derived.Deep.DeepWitnessRowRef
import Derived.LaidMore
import Derived.Stop.Joined
import Derived.JoinedCond
set_option maxRecDepth 10000
set_option linter.unusedVariables false
set_option linter.unusedSimpArgs false
namespace Go.Proofs.YtnlegbokpofcaaaDoor.snapshotSizes
open Go Go.RowKit Go.Proofs Go.Fr Go.Fr.T Go.Fr.Api Go.Fr.Tryd
open Go.ChangeShapes Go.WideShapes Go.ChangeAt
mutual
theorem bulk_eq {H:Type}:∀d:DataW H,gZ d=Rows.uptoBulk d
 | .lit l=>by cases l<;>simp only[gZ,Rows.uptoBulk]
 | .nil=>rfl
 | .ptr d=>by simp only[gZ,Rows.uptoBulk,bulk_eq d]
 | .slice elems spare=>by simp only[gZ,Rows.uptoBulk,bulkAll_eq elems,bulkAll_eq spare]
 | .agg parts=>by simp only[gZ,Rows.uptoBulk,bulkAll_eq parts]
 | .iface _ d=>by simp only[gZ,Rows.uptoBulk,bulk_eq d]
 | .map entries=>by simp only[gZ,Rows.uptoBulk,bulkEs_eq entries]
 | .held _=>rfl
theorem bulkAll_eq {H:Type}:∀l:List (DataW H),eF l=Rows.uptoBulkAll l
 | []=>rfl
 | d::r=>by simp only[eF,Rows.uptoBulkAll,bulk_eq d,bulkAll_eq r]
theorem bulkEs_eq {H:Type}:∀l:List (Lit×DataW H),lF l=Rows.uptoBulkEntries l
 | []=>rfl
 | x::r=>by simp only[lF,Rows.uptoBulkEntries,bulkE_eq x,bulkEs_eq r]
theorem bulkE_eq {H:Type}:∀x:Lit×DataW H,rH x=Rows.uptoBulkEntry x
 | (l,d)=>by cases l<;>simp only[rH,Rows.uptoBulkEntry,bulk_eq d]
end
theorem law (gs:List G) (hg:Md Tryd.prog Tryd.f5.params.toList gs) (hb:G.Wz gs<=1048576):CallsT Tryd.prog 5 (gs.map BM) [] (iZ [] (.bool true)):=by
 have e:Tryd.f5.params.toList=[22,22]:=by kernel_rfl
 rw[e] at hg;obtain⟨g1,r1,n1,rfl,h1,k1⟩:=BN hg;obtain⟨g2,r2,n2,rfl,h2,k2⟩:=BN k1;obtain rfl:=Lb k2;obtain⟨a,rfl⟩:=HU h1;obtain⟨b,rfl⟩:=HU h2;simp only[List.map_cons,List.map_nil,CX];exact t5 a b
theorem own:ownKnob Tryd.prog.godebug=none:=by kernel_rfl
theorem underB:Tryd.prog.underlying 4=some .bool:=by kernel_rfl
set_option maxRecDepth 100000 in
theorem contract (H:Type) (enc:TypeId×Value->H) (W:World) (base:Nat) (args:Array Value) (ds gs:List (DataW H)) (before:List MemPlace)
  (hval:∀(j:Nat) t v,Tryd.f5.params[j]?=some t->args[j]?=some v->Value.okWide Tryd.prog W .any base t v)
  (hW:DataW.Whole enc Tryd.prog Tryd.f5.params.toList Rows.snapshotSizesSpec.vars false W args.toList ds gs before) (hk:Rows.uptoSmall H (ds++gs)=true) (hL:laidMetH Tryd.prog Rows.snapshotSizesUptoRow.laid W) :
  Calls Tryd.prog 5 args W fun e W'=>∃v,e=.returned v/\Rows.snapshotSizesSpec.post enc Tryd.prog Tryd.f5 false true false false W args v W':=by
 have hgs:gs=[]:=by
  obtain⟨p,q,hA,hV,e,_⟩:=hW;exact(trodVars_none hV).1
 subst hgs;have hlen:∃d1 d2,ds=[d1,d2]:=by
  obtain⟨p,q,hA,hV,e,_⟩:=hW;have hA':DataW.TrodAll enc Tryd.prog W 0 (fun _=>true) true Tryd.f5.params.toList args.toList ds p:=hA;rw[Tryd.params5] at hA'
  clear hA
  obtain⟨v1,vs1,d1,ds1,p1,q1,_,rfl,_,_,r1⟩:=trodAll_cons hA';obtain⟨v2,vs2,d2,ds2,p2,q2,_,rfl,_,_,r2⟩:=trodAll_cons r1;obtain⟨_,rfl,_⟩:=trodAll_nil r2;exact⟨_,_,rfl⟩
 obtain⟨d1,d2,hds⟩:=hlen;have hk':eF ds<=1048576:=by rw[bulkAll_eq];simpa[Rows.uptoSmall] using hk
 exact xT (S:=[22,5]) (tb:=4) (fn:=Tryd.f5) (s:=Rows.snapshotSizesSpec) (by kernel_rfl) (by kernel_rfl) (by kernel_rfl) (by kernel_rfl) underB rfl law (by rw[hds];rfl) hval hW hk' (Ay hL)
theorem laid_met (os:Os):laidMetH Tryd.prog Rows.snapshotSizesUptoRow.laid ((World.doorLaid Tryd.prog 400 os).forCall (fun _ _=>0) ⟨#[],#[.slice none 0 0,.slice none 0 0],[]⟩).memory :=
 laidMetH_of_parts3 (fuel:=8) (laidMet_of_run' 8 (by kernel_rfl) (by kernel_rfl)) (by kernel_rfl) (by kernel_rfl)
theorem reads (os:Os) {H:Type}(enc:TypeId×Value->H):∃places,DataW.whole enc Tryd.prog ((World.doorLaid Tryd.prog 400 os).forCall (fun _ _=>0) ⟨#[],#[.slice none 0 0,.slice none 0 0],[]⟩).memory Tryd.f5.params.toList Rows.snapshotSizesSpec.vars false (#[.slice none 0 0,.slice none 0 0]:Array Value).toList 8=some ([.nil,.nil],[],places) :=
 ⟨[],by kernel_rfl⟩
set_option maxRecDepth 100000 in
theorem lifted (os:Os) (started:os.Started) (H:Type) (enc:TypeId×Value->H) (F:Stop.Interp) :
  ReturnsInHanded {} Tryd.checked os 5 .any ((Rows.OpenSpec.upto Rows.snapshotSizesSpec).preRow enc Tryd.prog Tryd.f5 Rows.snapshotSizesUptoRow.domain false Rows.snapshotSizesUptoRow.laid) (((Rows.OpenSpec.upto Rows.snapshotSizesSpec).at F).post enc Tryd.prog Tryd.f5 false true false false):=by
 obtain⟨places,hx⟩:=reads os enc;refine returnsInHanded_of_row (C:=Tryd.checked) (s:=Rows.OpenSpec.upto Rows.snapshotSizesSpec) own started (by kernel_rfl) Tryd.func5
  (witness_row_atRef (enc:=enc) (C:=Tryd.checked) false (World.doorLaid Tryd.prog 400 os) #[.slice none 0 0,.slice none 0 0] rfl (by kernel_rfl) (by kernel_rfl) (by kernel_rfl)
   (OpenSpec.preRow_of_cond 8 hx (by kernel_rfl) (fun k hk=>by cases hk;kernel_rfl) (by kernel_rfl) (laid_met os))) ?_
 intro W base args ds gs before hval hW _ hcond _ hL _ _;exact contract H enc W base args ds gs before hval hW (hcond _ rfl) hL
theorem over:Rows.SnapshotSizesUptoSaid :=
 OpenClaim.holds_of_cond 5 Tryd.f5 rfl rfl rfl rfl rfl rfl rfl ⟨rfl,rfl,rfl,rfl,rfl⟩ rfl rfl rfl rfl rfl (by kernel_rfl) Tryd.func5 (by kernel_rfl)
  (of_decide_eq_true (by kernel_rfl)) (by unfold Func.isWrapper;first | (rw[if_pos (by decide +kernel)];kernel_rfl) | (rw[if_neg (by decide +kernel)];exact⟨rfl,rfl⟩))
  (fun os started H enc _ F=>by rw[OpenClaim.pre_eq_preRow];exact lifted os started H enc F)
theorem plain (f:FuncId) (fn:Func) (hf:Tryd.pinned.checked.prog.funcNamed "leasehold/leaseholdlaw37.SnapshotSizes"=some f) (hfn:Tryd.pinned.checked.prog.funcs[f]?=some fn) :
  true=Tryd.pinned.checked.prog.looks []/\∀(j:Nat) t,fn.params[j]?=some t->Tryd.pinned.checked.prog.wantsStandIn t=false:=by
 obtain rfl:f=5:=Option.some.inj ((show Tryd.prog.funcNamed "leasehold/leaseholdlaw37.SnapshotSizes"=some 5 by kernel_rfl).symm.trans hf) |>.symm;obtain rfl:fn=Tryd.f5:=(Option.some.inj (Tryd.func5.symm.trans hfn)).symm;refine⟨by kernel_rfl,fun j t ht=>?_⟩;rw[Tryd.params5] at ht;have hm:t∈[22,22]:=by simpa using Array.mem_of_getElem? ht
 have hall:([22,22].all fun u=>!Tryd.prog.wantsStandIn u)=true:=by kernel_rfl
 exact(show Tryd.prog.wantsStandIn t=false by simpa using List.all_eq_true.1 hall t hm)
theorem proved:Rows.SnapshotSizesUptoCardSaid :=
 Claim7.holds_tied_plain_at .later [] _ _ _ _ over (fun _ h=>by cases h) (by kernel_rfl) (fun _ h=>by cases h) snapshotSizesUpto_row_tie rfl ⟨rfl,rfl⟩ (by kernel_rfl) rfl plain (by kernel_rfl)
end Go.Proofs.YtnlegbokpofcaaaDoor.snapshotSizes
