/- For every three byte sequences: a delta is refused for another base, and bytes that are accepted as a delta are the delta to the result; at the bulk that the statement names. -/
import Derived.Test.YtnlegbokpofcaaaDoorSnIds
import Derived.Test.YtnlegbokpofcaaaDoorFW3
import Derived.Test.YtnlegbokpofcaaaDoorSnG1G
import Derived.Test.YtnlegbokpofcaaaDoorCards
import Derived.Test.YtnlegbokpofcaaaDoorTie
import Derived.Deep.DeepWitnessRowRef
import Derived.LaidMore
import Derived.Stop.Joined
import Derived.JoinedCond
set_option maxRecDepth 10000
set_option linter.unusedVariables false
set_option linter.unusedSimpArgs false
namespace Go.Proofs.YtnlegbokpofcaaaDoor.snapshotBases
open Go Go.RowKit Go.Proofs Go.Fr Go.Fr.T Go.Fr.Api Go.Fr.Tryd
open Go.ChangeShapes Go.WideShapes Go.ChangeAt
mutual
theorem bulk_eq {H:Type}:∀d:DataW H,gX d=Rows.uptoBulk d
 | .lit l=>by cases l<;>simp only[gX,Rows.uptoBulk]
 | .nil=>rfl
 | .ptr d=>by simp only[gX,Rows.uptoBulk,bulk_eq d]
 | .slice elems spare=>by simp only[gX,Rows.uptoBulk,bulkAll_eq elems,bulkAll_eq spare]
 | .agg parts=>by simp only[gX,Rows.uptoBulk,bulkAll_eq parts]
 | .iface _ d=>by simp only[gX,Rows.uptoBulk,bulk_eq d]
 | .map entries=>by simp only[gX,Rows.uptoBulk,bulkEs_eq entries]
 | .held _=>rfl
theorem bulkAll_eq {H:Type}:∀l:List (DataW H),eC l=Rows.uptoBulkAll l
 | []=>rfl
 | d::r=>by simp only[eC,Rows.uptoBulkAll,bulk_eq d,bulkAll_eq r]
theorem bulkEs_eq {H:Type}:∀l:List (Lit×DataW H),lB l=Rows.uptoBulkEntries l
 | []=>rfl
 | x::r=>by simp only[lB,Rows.uptoBulkEntries,bulkE_eq x,bulkEs_eq r]
theorem bulkE_eq {H:Type}:∀x:Lit×DataW H,rC x=Rows.uptoBulkEntry x
 | (l,d)=>by cases l<;>simp only[rC,Rows.uptoBulkEntry,bulk_eq d]
end
theorem law (gs:List G) (hg:LW Tryd.prog Tryd.f4.params.toList gs) (hb:G.Wn gs<=1048576):CallsT Tryd.prog 4 (gs.map BH) [] (iK [] (.bool true)):=by
 have e:Tryd.f4.params.toList=[22,22,22]:=by kernel_rfl
 rw[e] at hg;obtain⟨g1,r1,n1,rfl,h1,k1⟩:=wM hg;obtain⟨g2,r2,n2,rfl,h2,k2⟩:=wM k1;obtain⟨g3,r3,n3,rfl,h3,k3⟩:=wM k2;obtain rfl:=K2 k3;obtain⟨a,rfl⟩:=CT h1;obtain⟨b,rfl⟩:=CT h2;obtain⟨c,rfl⟩:=CT h3;simp only[List.map_cons,List.map_nil,CS];exact t4 a b c
theorem own:ownKnob Tryd.prog.godebug=none:=by kernel_rfl
theorem underB:Tryd.prog.underlying 4=some .bool:=by kernel_rfl
set_option maxRecDepth 100000 in
theorem contract (H:Type) (enc:TypeId×Value->H) (W:World) (base:Nat) (args:Array Value) (ds gs:List (DataW H)) (before:List MemPlace)
  (hval:∀(j:Nat) t v,Tryd.f4.params[j]?=some t->args[j]?=some v->Value.okWide Tryd.prog W .any base t v)
  (hW:DataW.Whole enc Tryd.prog Tryd.f4.params.toList Rows.snapshotBasesSpec.vars false W args.toList ds gs before) (hk:Rows.uptoSmall H (ds++gs)=true) (hL:laidMetH Tryd.prog Rows.snapshotBasesUptoRow.laid W) :
  Calls Tryd.prog 4 args W fun e W'=>∃v,e=.returned v/\Rows.snapshotBasesSpec.post enc Tryd.prog Tryd.f4 false true false false W args v W':=by
 have hgs:gs=[]:=by
  obtain⟨p,q,hA,hV,e,_⟩:=hW;exact(trodVars_none hV).1
 subst hgs;have hlen:∃d1 d2 d3,ds=[d1,d2,d3]:=by
  obtain⟨p,q,hA,hV,e,_⟩:=hW;have hA':DataW.TrodAll enc Tryd.prog W 0 (fun _=>true) true Tryd.f4.params.toList args.toList ds p:=hA;rw[Tryd.params4] at hA'
  clear hA
  obtain⟨v1,vs1,d1,ds1,p1,q1,_,rfl,_,_,r1⟩:=trodAll_cons hA';obtain⟨v2,vs2,d2,ds2,p2,q2,_,rfl,_,_,r2⟩:=trodAll_cons r1;obtain⟨v3,vs3,d3,ds3,p3,q3,_,rfl,_,_,r3⟩:=trodAll_cons r2;obtain⟨_,rfl,_⟩:=trodAll_nil r3;exact⟨_,_,_,rfl⟩
 obtain⟨d1,d2,d3,hds⟩:=hlen;have hk':eC ds<=1048576:=by rw[bulkAll_eq];simpa[Rows.uptoSmall] using hk
 exact xQ (S:=[22,5]) (tb:=4) (fn:=Tryd.f4) (s:=Rows.snapshotBasesSpec) (by kernel_rfl) (by kernel_rfl) (by kernel_rfl) (by kernel_rfl) underB rfl law (by rw[hds];rfl) hval hW hk' (Ap hL)
theorem laid_met (os:Os):laidMetH Tryd.prog Rows.snapshotBasesUptoRow.laid ((World.doorLaid Tryd.prog 400 os).forCall (fun _ _=>0) ⟨#[],#[.slice none 0 0,.slice none 0 0,.slice none 0 0],[]⟩).memory :=
 laidMetH_of_parts3 (fuel:=8) (laidMet_of_run' 8 (by kernel_rfl) (by kernel_rfl)) (by kernel_rfl) (by kernel_rfl)
theorem reads (os:Os) {H:Type}(enc:TypeId×Value->H):∃places,DataW.whole enc Tryd.prog ((World.doorLaid Tryd.prog 400 os).forCall (fun _ _=>0) ⟨#[],#[.slice none 0 0,.slice none 0 0,.slice none 0 0],[]⟩).memory Tryd.f4.params.toList Rows.snapshotBasesSpec.vars false (#[.slice none 0 0,.slice none 0 0,.slice none 0 0]:Array Value).toList 8=some ([.nil,.nil,.nil],[],places) :=
 ⟨[],by kernel_rfl⟩
set_option maxRecDepth 100000 in
theorem lifted (os:Os) (started:os.Started) (H:Type) (enc:TypeId×Value->H) (F:Stop.Interp) :
  ReturnsInHanded {} Tryd.checked os 4 .any ((Rows.OpenSpec.upto Rows.snapshotBasesSpec).preRow enc Tryd.prog Tryd.f4 Rows.snapshotBasesUptoRow.domain false Rows.snapshotBasesUptoRow.laid) (((Rows.OpenSpec.upto Rows.snapshotBasesSpec).at F).post enc Tryd.prog Tryd.f4 false true false false):=by
 obtain⟨places,hx⟩:=reads os enc;refine returnsInHanded_of_row (C:=Tryd.checked) (s:=Rows.OpenSpec.upto Rows.snapshotBasesSpec) own started (by kernel_rfl) Tryd.func4
  (witness_row_atRef (enc:=enc) (C:=Tryd.checked) false (World.doorLaid Tryd.prog 400 os) #[.slice none 0 0,.slice none 0 0,.slice none 0 0] rfl (by kernel_rfl) (by kernel_rfl) (by kernel_rfl)
   (OpenSpec.preRow_of_cond 8 hx (by kernel_rfl) (fun k hk=>by cases hk;kernel_rfl) (by kernel_rfl) (laid_met os))) ?_
 intro W base args ds gs before hval hW _ hcond _ hL _ _;exact contract H enc W base args ds gs before hval hW (hcond _ rfl) hL
theorem over:Rows.SnapshotBasesUptoSaid :=
 OpenClaim.holds_of_cond 4 Tryd.f4 rfl rfl rfl rfl rfl rfl rfl ⟨rfl,rfl,rfl,rfl,rfl⟩ rfl rfl rfl rfl rfl (by kernel_rfl) Tryd.func4 (by kernel_rfl)
  (of_decide_eq_true (by kernel_rfl)) (by unfold Func.isWrapper;first | (rw[if_pos (by decide +kernel)];kernel_rfl) | (rw[if_neg (by decide +kernel)];exact⟨rfl,rfl⟩))
  (fun os started H enc _ F=>by rw[OpenClaim.pre_eq_preRow];exact lifted os started H enc F)
theorem plain (f:FuncId) (fn:Func) (hf:Tryd.pinned.checked.prog.funcNamed "leasehold/leaseholdlaw37.SnapshotBases"=some f) (hfn:Tryd.pinned.checked.prog.funcs[f]?=some fn) :
  true=Tryd.pinned.checked.prog.looks []/\∀(j:Nat) t,fn.params[j]?=some t->Tryd.pinned.checked.prog.wantsStandIn t=false:=by
 obtain rfl:f=4:=Option.some.inj ((show Tryd.prog.funcNamed "leasehold/leaseholdlaw37.SnapshotBases"=some 4 by kernel_rfl).symm.trans hf) |>.symm;obtain rfl:fn=Tryd.f4:=(Option.some.inj (Tryd.func4.symm.trans hfn)).symm;refine⟨by kernel_rfl,fun j t ht=>?_⟩;rw[Tryd.params4] at ht;have hm:t∈[22,22,22]:=by simpa using Array.mem_of_getElem? ht
 have hall:([22,22,22].all fun u=>!Tryd.prog.wantsStandIn u)=true:=by kernel_rfl
 exact(show Tryd.prog.wantsStandIn t=false by simpa using List.all_eq_true.1 hall t hm)
theorem proved:Rows.SnapshotBasesUptoCardSaid :=
 Claim7.holds_tied_plain_at .later [] _ _ _ _ over (fun _ h=>by cases h) (by kernel_rfl) (fun _ h=>by cases h) snapshotBasesUpto_row_tie rfl ⟨rfl,rfl⟩ (by kernel_rfl) rfl plain (by kernel_rfl)
end Go.Proofs.YtnlegbokpofcaaaDoor.snapshotBases
