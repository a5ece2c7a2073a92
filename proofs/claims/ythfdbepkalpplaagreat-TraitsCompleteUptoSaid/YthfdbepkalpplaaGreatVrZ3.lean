/- For every program, assumed bounds, trait, type and two proofs, the statement TraitsComplete answers true; condition: the arguments hold at most 1048576 values. -/
import Derived.Test.YthfdbepkalpplaaGreatVrL3G
import Derived.Test.YthfdbepkalpplaaGreatFW2
import Derived.Test.YthfdbepkalpplaaGreatVrIds
import Derived.Test.YthfdbepkalpplaaGreatRows
import Derived.JoinedCond
set_option maxRecDepth 10000
set_option linter.unusedVariables false
set_option linter.unusedSimpArgs false
namespace Go.Proofs.YthfdbepkalpplaaGreat.traitsComplete
open Go Go.RowKit Go.Proofs Go.Fr Go.Fr.T Go.Fr.Api Go.Fr.Tryz
open Go.ChangeShapes Go.WideShapes Go.ChangeAt
mutual
theorem bulk_eq {H:Type}:∀d:DataW H,iL d=Rows.uptoBulk d
 | .lit l=>by cases l<;>simp only[iL,Rows.uptoBulk]
 | .nil=>rfl
 | .ptr d=>by simp only[iL,Rows.uptoBulk,bulk_eq d]
 | .slice elems spare=>by simp only[iL,Rows.uptoBulk,bulkAll_eq elems,bulkAll_eq spare]
 | .agg parts=>by simp only[iL,Rows.uptoBulk,bulkAll_eq parts]
 | .iface _ d=>by simp only[iL,Rows.uptoBulk,bulk_eq d]
 | .map entries=>by simp only[iL,Rows.uptoBulk,bulkEs_eq entries]
 | .held _=>rfl
theorem bulkAll_eq {H:Type}:∀l:List (DataW H),eL l=Rows.uptoBulkAll l
 | []=>rfl
 | d::r=>by simp only[eL,Rows.uptoBulkAll,bulk_eq d,bulkAll_eq r]
theorem bulkEs_eq {H:Type}:∀l:List (Lit×DataW H),lX l=Rows.uptoBulkEntries l
 | []=>rfl
 | x::r=>by simp only[lX,Rows.uptoBulkEntries,bulkE_eq x,bulkEs_eq r]
theorem bulkE_eq {H:Type}:∀x:Lit×DataW H,sO x=Rows.uptoBulkEntry x
 | (l,d)=>by cases l<;>simp only[sO,Rows.uptoBulkEntry,bulk_eq d]
end
theorem law (gs:List G) (hg:Ru Tryz.prog Tryz.f3.params.toList gs) (hb:G.aag gs<=1048576):CallsT Tryz.prog 3 (gs.map um) [] (aR [] (.bool true)):=by
 have e:Tryz.f3.params.toList=[29,30,3,33,36,36]:=by kernel_rfl
 rw[e] at hg;obtain⟨g1,r1,n1,rfl,h1,k1⟩:=oF hg;obtain⟨g2,r2,n2,rfl,h2,k2⟩:=oF k1;obtain⟨g3,r3,n3,rfl,h3,k3⟩:=oF k2;obtain⟨g4,r4,n4,rfl,h4,k4⟩:=oF k3;obtain⟨g5,r5,n5,rfl,h5,k5⟩:=oF k4;obtain⟨g6,r6,n6,rfl,h6,k6⟩:=oF k5;obtain rfl:=PN k6;obtain⟨p,rfl⟩:=dP.prg (d:=ids) V4 h1;obtain⟨bs,rfl⟩:=Ub h2;obtain⟨tr,rfl⟩:=dP.i (d:=ids) QK h3;obtain⟨t,rfl⟩:=dP.ty' (d:=ids) QK h4;obtain⟨x,rfl⟩:=RZ _ _ h5;obtain⟨y,rfl⟩:=RZ _ _ h6;have hB:=MN (p:=p) (by rw[G.aag] at hb;omega);simp only[List.map_cons,List.map_nil,PO,E7,Je,SX,MO];rw[SY];exact t3 t4 p bs tr t x y hB
theorem own:ownKnob Tryz.prog.godebug=none:=by kernel_rfl
theorem underB:Tryz.prog.underlying 4=some .bool:=by kernel_rfl
set_option maxRecDepth 100000 in
theorem contract (H:Type) (enc:TypeId×Value->H) (W:World) (base:Nat) (args:Array Value) (ds gs:List (DataW H)) (before:List MemPlace)
  (hval:∀(j:Nat) t v,Tryz.f3.params[j]?=some t->args[j]?=some v->Value.okWide Tryz.prog W .any base t v)
  (hW:DataW.Whole enc Tryz.prog Tryz.f3.params.toList Rows.traitsCompleteSpec.vars false W args.toList ds gs before) (hk:Rows.uptoSmall H (ds++gs)=true) :
  Calls Tryz.prog 3 args W fun e W'=>∃v,e=.returned v/\Rows.traitsCompleteSpec.post enc Tryz.prog Tryz.f3 false true false false W args v W':=by
 have hgs:gs=[]:=by
  obtain⟨p,q,hA,hV,e,_⟩:=hW;exact(trodVars_none hV).1
 subst hgs;have hlen:∃d1 d2 d3 d4 d5 d6,ds=[d1,d2,d3,d4,d5,d6]:=by
  obtain⟨p,q,hA,hV,e,_⟩:=hW;have hA':DataW.TrodAll enc Tryz.prog W 0 (fun _=>true) true Tryz.f3.params.toList args.toList ds p:=hA;rw[Tryz.params3] at hA'
  clear hA
  obtain⟨v1,vs1,d1,ds1,p1,q1,_,rfl,_,_,r1⟩:=trodAll_cons hA';obtain⟨v2,vs2,d2,ds2,p2,q2,_,rfl,_,_,r2⟩:=trodAll_cons r1;obtain⟨v3,vs3,d3,ds3,p3,q3,_,rfl,_,_,r3⟩:=trodAll_cons r2;obtain⟨v4,vs4,d4,ds4,p4,q4,_,rfl,_,_,r4⟩:=trodAll_cons r3;obtain⟨v5,vs5,d5,ds5,p5,q5,_,rfl,_,_,r5⟩:=trodAll_cons r4;obtain⟨v6,vs6,d6,ds6,p6,q6,_,rfl,_,_,r6⟩:=trodAll_cons r5;obtain⟨_,rfl,_⟩:=trodAll_nil r6;exact⟨_,_,_,_,_,_,rfl⟩
 obtain⟨d1,d2,d3,d4,d5,d6,hds⟩:=hlen;have hk':eL ds<=1048576:=by rw[bulkAll_eq];simpa[Rows.uptoSmall] using hk
 exact Ao (S:=[29,22,9,23,25,3,24,88,86,149,31,33,26,57,30,52,27,147,145,155,151,157,153,5,36,34,4]) (tb:=4) (fn:=Tryz.f3) (s:=Rows.traitsCompleteSpec) (by kernel_rfl) (by kernel_rfl) (by kernel_rfl) (by kernel_rfl) underB rfl law (by rw[hds];rfl) hval hW hk'
set_option maxRecDepth 100000 in
theorem lifted (os:Os) (started:os.Started) (H:Type) (enc:TypeId×Value->H) (F:Stop.Interp) :
  ReturnsInHanded {} Tryz.checked os 3 .any ((Rows.OpenSpec.upto Rows.traitsCompleteSpec).pre6 enc Tryz.prog Tryz.f3 Rows.traitsCompleteUptoRow.domain false) (((Rows.OpenSpec.upto Rows.traitsCompleteSpec).at F).post enc Tryz.prog Tryz.f3 false true false false):=by
 refine returnsInHanded_of_cond (C:=Tryz.checked) (s:=Rows.OpenSpec.upto Rows.traitsCompleteSpec) (k:=Rows.uptoSmall) rfl own started (by kernel_rfl) Tryz.func3
  (OpenSpec.witness (enc:=enc) (C:=Tryz.checked) (s:=Rows.OpenSpec.upto Rows.traitsCompleteSpec) (k:=Rows.uptoSmall) rfl false ⟨#[],#[.agg #[.slice none 0 0,.slice none 0 0,.slice none 0 0,.slice none 0 0,.slice none 0 0,.slice none 0 0,.slice none 0 0,.int .i64 0],.slice none 0 0,.int .i64 0,.agg #[.int .i64 0,.int .i64 0,.slice none 0 0],.agg #[.bool false,.int .i64 0,.slice none 0 0,.slice none 0 0],.agg #[.bool false,.int .i64 0,.slice none 0 0,.slice none 0 0]],[]⟩ 8 (by kernel_rfl) (by kernel_rfl) (by kernel_rfl)
   (x:=([.agg [.nil,.nil,.nil,.nil,.nil,.nil,.nil,.lit (.int .i64 0)],.nil,.lit (.int .i64 0),.agg [.lit (.int .i64 0),.lit (.int .i64 0),.nil],.agg [.lit (.bool false),.lit (.int .i64 0),.nil,.nil],.agg [.lit (.bool false),.lit (.int .i64 0),.nil,.nil]],[],[])) (by kernel_rfl) rfl (by kernel_rfl)) ?_
 intro W base args ds gs before hval hW _ hk _;exact contract H enc W base args ds gs before hval hW hk
theorem over:Rows.traitsCompleteUptoRow.holds Tryz.pinned (Rows.OpenSpec.upto Rows.traitsCompleteSpec) :=
 OpenClaim.holds_of_cond 3 Tryz.f3 rfl rfl rfl rfl rfl rfl rfl ⟨rfl,rfl,rfl,rfl,rfl⟩ rfl rfl rfl rfl rfl (by kernel_rfl) Tryz.func3 (by kernel_rfl)
  (of_decide_eq_true (by kernel_rfl)) (by unfold Func.isWrapper;first | (rw[if_pos (by decide +kernel)];kernel_rfl) | (rw[if_neg (by decide +kernel)];exact⟨rfl,rfl⟩))
  (fun os started H enc _ F=>lifted os started H enc F)
theorem proved:Rows.TraitsCompleteUptoSaid :=
 over
end Go.Proofs.YthfdbepkalpplaaGreat.traitsComplete
