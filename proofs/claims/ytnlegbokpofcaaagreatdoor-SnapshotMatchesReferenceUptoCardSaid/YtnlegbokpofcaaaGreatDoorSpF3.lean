/- The reference answers alike for all machines, images and bytes that are small enough; at the bulk that the statement names. -/
import Derived.Test.YtnlegbokpofcaaaGreatDoorSpIds
import Derived.Test.YtnlegbokpofcaaaGreatDoorFW3
import Derived.Test.YtnlegbokpofcaaaGreatDoorSpR6G
import Derived.Test.YtnlegbokpofcaaaGreatDoorSpL3G
import Derived.Test.YtnlegbokpofcaaaGreatDoorCards
import Derived.Test.YtnlegbokpofcaaaGreatDoorTie
import Derived.Deep.DeepWitnessRowRef
import Derived.LaidMore
import Derived.Stop.Joined
import Derived.JoinedCond
set_option maxRecDepth 10000
set_option linter.unusedVariables false
set_option linter.unusedSimpArgs false
namespace Go.Proofs.YtnlegbokpofcaaaGreatDoor.snapshotMatchesReference
open Go Go.RowKit Go.Proofs Go.Fr Go.Fr.T Go.Fr.Api Go.Fr.Tryz
open Go.ChangeShapes Go.WideShapes Go.ChangeAt
mutual
theorem bulk_eq {H:Type}:∀d:DataW H,jr d=Rows.uptoBulk d
 | .lit l=>by cases l<;>simp only[jr,Rows.uptoBulk]
 | .nil=>rfl
 | .ptr d=>by simp only[jr,Rows.uptoBulk,bulk_eq d]
 | .slice elems spare=>by simp only[jr,Rows.uptoBulk,bulkAll_eq elems,bulkAll_eq spare]
 | .agg parts=>by simp only[jr,Rows.uptoBulk,bulkAll_eq parts]
 | .iface _ d=>by simp only[jr,Rows.uptoBulk,bulk_eq d]
 | .map entries=>by simp only[jr,Rows.uptoBulk,bulkEs_eq entries]
 | .held _=>rfl
theorem bulkAll_eq {H:Type}:∀l:List (DataW H),fU l=Rows.uptoBulkAll l
 | []=>rfl
 | d::r=>by simp only[fU,Rows.uptoBulkAll,bulk_eq d,bulkAll_eq r]
theorem bulkEs_eq {H:Type}:∀l:List (Lit×DataW H),nL l=Rows.uptoBulkEntries l
 | []=>rfl
 | x::r=>by simp only[nL,Rows.uptoBulkEntries,bulkE_eq x,bulkEs_eq r]
theorem bulkE_eq {H:Type}:∀x:Lit×DataW H,uM x=Rows.uptoBulkEntry x
 | (l,d)=>by cases l<;>simp only[uM,Rows.uptoBulkEntry,bulk_eq d]
end
theorem law (gs:List G) (hg:SR Tryz.prog Tryz.f3.params.toList gs) (hb:G.aaL gs<=1048576):CallsT Tryz.prog 3 (gs.map xT) [] (gL [] (.bool true)):=by
 have e:Tryz.f3.params.toList=[34,34,25,35,35]:=by kernel_rfl
 rw[e] at hg;obtain⟨g1,r1,n1,rfl,h1,k1⟩:=rY hg;obtain⟨g2,r2,n2,rfl,h2,k2⟩:=rY k1;obtain⟨g3,r3,n3,rfl,h3,k3⟩:=rY k2;obtain⟨g4,r4,n4,rfl,h4,k4⟩:=rY k3;obtain⟨g5,r5,n5,rfl,h5,k5⟩:=rY k4;obtain rfl:=Rb k5;have w1:=DP _ _ _ h1;have w2:=DP _ _ _ h2;obtain⟨i,x,rfl⟩:=Tw h1;obtain⟨j,y,rfl⟩:=Tw h2;obtain⟨k,rfl⟩:=NV h3;obtain⟨bs,rfl⟩:=Nc h4;obtain⟨cs,rfl⟩:=Nc h5;simp only[G.aaL] at hb;have b1:=Iu (f:=bG) bs (sz:=1);have b2:=Iu (f:=bG) cs (sz:=1);simp only[List.map_cons,List.map_nil,RM,NS,GQ];exact t3 i j k x y bs cs ⟨w1,by omega⟩ ⟨w2,by omega⟩ (TD i x (by omega)) (TD j y (by omega)) (by omega) (by omega) (by omega) (by omega) (by omega)
theorem own:ownKnob Tryz.prog.godebug=none:=by kernel_rfl
theorem underB:Tryz.prog.underlying 4=some .bool:=by kernel_rfl
set_option maxRecDepth 100000 in
theorem contract (H:Type) (enc:TypeId×Value->H) (W:World) (base:Nat) (args:Array Value) (ds gs:List (DataW H)) (before:List MemPlace)
  (hval:∀(j:Nat) t v,Tryz.f3.params[j]?=some t->args[j]?=some v->Value.okWide Tryz.prog W .any base t v)
  (hW:DataW.Whole enc Tryz.prog Tryz.f3.params.toList Rows.snapshotMatchesReferenceSpec.vars false W args.toList ds gs before) (hk:Rows.uptoSmall H (ds++gs)=true) (hL:laidMetH Tryz.prog Rows.snapshotMatchesReferenceUptoRow.laid W) :
  Calls Tryz.prog 3 args W fun e W'=>∃v,e=.returned v/\Rows.snapshotMatchesReferenceSpec.post enc Tryz.prog Tryz.f3 false true false false W args v W':=by
 have hgs:gs=[]:=by
  obtain⟨p,q,hA,hV,e,_⟩:=hW;exact(trodVars_none hV).1
 subst hgs;have hlen:∃d1 d2 d3 d4 d5,ds=[d1,d2,d3,d4,d5]:=by
  obtain⟨p,q,hA,hV,e,_⟩:=hW;have hA':DataW.TrodAll enc Tryz.prog W 0 (fun _=>true) true Tryz.f3.params.toList args.toList ds p:=hA;rw[Tryz.params3] at hA'
  clear hA
  obtain⟨v1,vs1,d1,ds1,p1,q1,_,rfl,_,_,r1⟩:=trodAll_cons hA';obtain⟨v2,vs2,d2,ds2,p2,q2,_,rfl,_,_,r2⟩:=trodAll_cons r1;obtain⟨v3,vs3,d3,ds3,p3,q3,_,rfl,_,_,r3⟩:=trodAll_cons r2;obtain⟨v4,vs4,d4,ds4,p4,q4,_,rfl,_,_,r4⟩:=trodAll_cons r3;obtain⟨v5,vs5,d5,ds5,p5,q5,_,rfl,_,_,r5⟩:=trodAll_cons r4;obtain⟨_,rfl,_⟩:=trodAll_nil r5;exact⟨_,_,_,_,_,rfl⟩
 obtain⟨d1,d2,d3,d4,d5,hds⟩:=hlen;have hk':fU ds<=1048576:=by rw[bulkAll_eq];simpa[Rows.uptoSmall] using hk
 exact Bg (S:=[34,25,29,30,31,32,3,22,23,26,27,72,9,70,76,74,79,83,59,80,81,142,138,140,144,145,148,146,224,4,63,61,58,67,64,65,69,129,101,35,5,50]) (tb:=4) (fn:=Tryz.f3) (s:=Rows.snapshotMatchesReferenceSpec) (by kernel_rfl) (by kernel_rfl) (by kernel_rfl) (by kernel_rfl) underB rfl law (by rw[hds];rfl) hval hW hk' (DR hL)
theorem laid_met (os:Os):laidMetH Tryz.prog Rows.snapshotMatchesReferenceUptoRow.laid ((World.doorLaid Tryz.prog 400 os).forCall (fun _ _=>0) ⟨#[],#[.agg #[.slice none 0 0,.slice none 0 0,.int .i64 0,.slice none 0 0,.slice none 0 0,.slice none 0 0,.slice none 0 0,.slice none 0 0,.int .i64 0,.int .i64 0,.int .i64 0],.agg #[.slice none 0 0,.slice none 0 0,.int .i64 0,.slice none 0 0,.slice none 0 0,.slice none 0 0,.slice none 0 0,.slice none 0 0,.int .i64 0,.int .i64 0,.int .i64 0],.agg #[.slice none 0 0,.slice none 0 0,.int .i64 0],.slice none 0 0,.slice none 0 0],[]⟩).memory :=
 laidMetH_of_parts3 (fuel:=8) (laidMet_of_run' 8 (by kernel_rfl) (by kernel_rfl)) (by kernel_rfl) (by kernel_rfl)
theorem reads (os:Os) {H:Type}(enc:TypeId×Value->H):∃places,DataW.whole enc Tryz.prog ((World.doorLaid Tryz.prog 400 os).forCall (fun _ _=>0) ⟨#[],#[.agg #[.slice none 0 0,.slice none 0 0,.int .i64 0,.slice none 0 0,.slice none 0 0,.slice none 0 0,.slice none 0 0,.slice none 0 0,.int .i64 0,.int .i64 0,.int .i64 0],.agg #[.slice none 0 0,.slice none 0 0,.int .i64 0,.slice none 0 0,.slice none 0 0,.slice none 0 0,.slice none 0 0,.slice none 0 0,.int .i64 0,.int .i64 0,.int .i64 0],.agg #[.slice none 0 0,.slice none 0 0,.int .i64 0],.slice none 0 0,.slice none 0 0],[]⟩).memory Tryz.f3.params.toList Rows.snapshotMatchesReferenceSpec.vars false (#[.agg #[.slice none 0 0,.slice none 0 0,.int .i64 0,.slice none 0 0,.slice none 0 0,.slice none 0 0,.slice none 0 0,.slice none 0 0,.int .i64 0,.int .i64 0,.int .i64 0],.agg #[.slice none 0 0,.slice none 0 0,.int .i64 0,.slice none 0 0,.slice none 0 0,.slice none 0 0,.slice none 0 0,.slice none 0 0,.int .i64 0,.int .i64 0,.int .i64 0],.agg #[.slice none 0 0,.slice none 0 0,.int .i64 0],.slice none 0 0,.slice none 0 0]:Array Value).toList 8=some ([.agg [.agg [.nil,.nil,.lit (.int .i64 0)],.agg [.nil,.nil],.nil,.nil,.nil,.lit (.int .i64 0),.lit (.int .i64 0),.lit (.int .i64 0)],.agg [.agg [.nil,.nil,.lit (.int .i64 0)],.agg [.nil,.nil],.nil,.nil,.nil,.lit (.int .i64 0),.lit (.int .i64 0),.lit (.int .i64 0)],.agg [.nil,.nil,.lit (.int .i64 0)],.nil,.nil],[],places) :=
 ⟨[],by kernel_rfl⟩
set_option maxRecDepth 100000 in
theorem lifted (os:Os) (started:os.Started) (H:Type) (enc:TypeId×Value->H) (F:Stop.Interp) :
  ReturnsInHanded {} Tryz.checked os 3 .any ((Rows.OpenSpec.upto Rows.snapshotMatchesReferenceSpec).preRow enc Tryz.prog Tryz.f3 Rows.snapshotMatchesReferenceUptoRow.domain false Rows.snapshotMatchesReferenceUptoRow.laid) (((Rows.OpenSpec.upto Rows.snapshotMatchesReferenceSpec).at F).post enc Tryz.prog Tryz.f3 false true false false):=by
 obtain⟨places,hx⟩:=reads os enc;refine returnsInHanded_of_row (C:=Tryz.checked) (s:=Rows.OpenSpec.upto Rows.snapshotMatchesReferenceSpec) own started (by kernel_rfl) Tryz.func3
  (witness_row_atRef (enc:=enc) (C:=Tryz.checked) false (World.doorLaid Tryz.prog 400 os) #[.agg #[.slice none 0 0,.slice none 0 0,.int .i64 0,.slice none 0 0,.slice none 0 0,.slice none 0 0,.slice none 0 0,.slice none 0 0,.int .i64 0,.int .i64 0,.int .i64 0],.agg #[.slice none 0 0,.slice none 0 0,.int .i64 0,.slice none 0 0,.slice none 0 0,.slice none 0 0,.slice none 0 0,.slice none 0 0,.int .i64 0,.int .i64 0,.int .i64 0],.agg #[.slice none 0 0,.slice none 0 0,.int .i64 0],.slice none 0 0,.slice none 0 0] rfl (by kernel_rfl) (by kernel_rfl) (by kernel_rfl)
   (OpenSpec.preRow_of_cond 8 hx (by kernel_rfl) (fun k hk=>by cases hk;kernel_rfl) (by kernel_rfl) (laid_met os))) ?_
 intro W base args ds gs before hval hW _ hcond _ hL _ _;exact contract H enc W base args ds gs before hval hW (hcond _ rfl) hL
theorem over:Rows.SnapshotMatchesReferenceUptoSaid :=
 OpenClaim.holds_of_cond 3 Tryz.f3 rfl rfl rfl rfl rfl rfl rfl ⟨rfl,rfl,rfl,rfl,rfl⟩ rfl rfl rfl rfl rfl (by kernel_rfl) Tryz.func3 (by kernel_rfl)
  (of_decide_eq_true (by kernel_rfl)) (by unfold Func.isWrapper;first | (rw[if_pos (by decide +kernel)];kernel_rfl) | (rw[if_neg (by decide +kernel)];exact⟨rfl,rfl⟩))
  (fun os started H enc _ F=>by rw[OpenClaim.pre_eq_preRow];exact lifted os started H enc F)
theorem plain (f:FuncId) (fn:Func) (hf:Tryz.pinned.checked.prog.funcNamed "leasehold/leaseholdlaw37.SnapshotMatchesReference"=some f) (hfn:Tryz.pinned.checked.prog.funcs[f]?=some fn) :
  true=Tryz.pinned.checked.prog.looks []/\∀(j:Nat) t,fn.params[j]?=some t->Tryz.pinned.checked.prog.wantsStandIn t=false:=by
 obtain rfl:f=3:=Option.some.inj ((show Tryz.prog.funcNamed "leasehold/leaseholdlaw37.SnapshotMatchesReference"=some 3 by kernel_rfl).symm.trans hf) |>.symm;obtain rfl:fn=Tryz.f3:=(Option.some.inj (Tryz.func3.symm.trans hfn)).symm;refine⟨by kernel_rfl,fun j t ht=>?_⟩;rw[Tryz.params3] at ht;have hm:t∈[34,34,25,35,35]:=by simpa using Array.mem_of_getElem? ht
 have hall:([34,34,25,35,35].all fun u=>!Tryz.prog.wantsStandIn u)=true:=by kernel_rfl
 exact(show Tryz.prog.wantsStandIn t=false by simpa using List.all_eq_true.1 hall t hm)
theorem proved:Rows.SnapshotMatchesReferenceUptoCardSaid :=
 Claim7.holds_tied_plain_at .later [] _ _ _ _ over (fun _ h=>by cases h) (by kernel_rfl) (fun _ h=>by cases h) snapshotMatchesReferenceUpto_row_tie rfl ⟨rfl,rfl⟩ (by kernel_rfl) rfl plain (by kernel_rfl)
end Go.Proofs.YtnlegbokpofcaaaGreatDoor.snapshotMatchesReference
