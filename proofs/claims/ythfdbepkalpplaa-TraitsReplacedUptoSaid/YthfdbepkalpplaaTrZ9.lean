/- For every program, assumed bounds, trait, type and types for the parameters, the statement TraitsReplaced answers true; condition: the arguments hold at most 1048576 values. -/
import Derived.Test.YthfdbepkalpplaaTrL9G
import Derived.Test.YthfdbepkalpplaaFW2
import Derived.Test.YthfdbepkalpplaaTrIds
import Derived.Test.YthfdbepkalpplaaRows
import Derived.JoinedCond
set_option maxRecDepth 10000
set_option linter.unusedVariables false
set_option linter.unusedSimpArgs false
namespace Go.Proofs.Ythfdbepkalpplaa.traitsReplaced
open Go Go.RowKit Go.Proofs Go.Fr Go.Fr.T Go.Fr.Api Go.Fr.Try
open Go.ChangeShapes Go.WideShapes Go.ChangeAt
mutual
theorem bulk_eq {H:Type}:∀d:DataW H,iO d=Rows.uptoBulk d
 | .lit l=>by cases l<;>simp only[iO,Rows.uptoBulk]
 | .nil=>rfl
 | .ptr d=>by simp only[iO,Rows.uptoBulk,bulk_eq d]
 | .slice elems spare=>by simp only[iO,Rows.uptoBulk,bulkAll_eq elems,bulkAll_eq spare]
 | .agg parts=>by simp only[iO,Rows.uptoBulk,bulkAll_eq parts]
 | .iface _ d=>by simp only[iO,Rows.uptoBulk,bulk_eq d]
 | .map entries=>by simp only[iO,Rows.uptoBulk,bulkEs_eq entries]
 | .held _=>rfl
theorem bulkAll_eq {H:Type}:∀l:List (DataW H),fj l=Rows.uptoBulkAll l
 | []=>rfl
 | d::r=>by simp only[fj,Rows.uptoBulkAll,bulk_eq d,bulkAll_eq r]
theorem bulkEs_eq {H:Type}:∀l:List (Lit×DataW H),mo l=Rows.uptoBulkEntries l
 | []=>rfl
 | x::r=>by simp only[mo,Rows.uptoBulkEntries,bulkE_eq x,bulkEs_eq r]
theorem bulkE_eq {H:Type}:∀x:Lit×DataW H,tF x=Rows.uptoBulkEntry x
 | (l,d)=>by cases l<;>simp only[tF,Rows.uptoBulkEntry,bulk_eq d]
end
theorem law (gs:List G) (hg:R9 Try.prog Try.f9.params.toList gs) (hb:G.aat gs<=1048576):CallsT Try.prog 9 (gs.map tH) [] (aQ [] (.bool true)):=by
 have e:Try.f9.params.toList=[29,54,3,32,30]:=by kernel_rfl
 rw[e] at hg;obtain⟨g1,r1,n1,rfl,h1,k1⟩:=qW hg;obtain⟨g2,r2,n2,rfl,h2,k2⟩:=qW k1;obtain⟨g3,r3,n3,rfl,h3,k3⟩:=qW k2;obtain⟨g4,r4,n4,rfl,h4,k4⟩:=qW k3;obtain⟨g5,r5,n5,rfl,h5,k5⟩:=qW k4;obtain rfl:=Qv k5;obtain⟨p,rfl⟩:=d9.prg (d:=ids) WW h1;obtain⟨bs,rfl⟩:=UM h2;obtain⟨tr,rfl⟩:=d9.i (d:=ids) UL h3;obtain⟨t,rfl⟩:=d9.ty' (d:=ids) UL h4;obtain⟨args,rfl⟩:=d9.aaP (d:=ids) UL h5;have hB:=NQ (p:=p) (by rw[G.aat] at hb;omega);simp only[List.map_cons,List.map_nil,Qw,Mw,Fy,Ju,Tw];rw[Tx];exact t9 t29 p bs tr t args hB
theorem own:ownKnob Try.prog.godebug=none:=by kernel_rfl
theorem underB:Try.prog.underlying 4=some .bool:=by kernel_rfl
set_option maxRecDepth 100000 in
theorem contract (H:Type) (enc:TypeId×Value->H) (W:World) (base:Nat) (args:Array Value) (ds gs:List (DataW H)) (before:List MemPlace)
  (hval:∀(j:Nat) t v,Try.f9.params[j]?=some t->args[j]?=some v->Value.okWide Try.prog W .any base t v)
  (hW:DataW.Whole enc Try.prog Try.f9.params.toList Rows.traitsReplacedSpec.vars false W args.toList ds gs before) (hk:Rows.uptoSmall H (ds++gs)=true) :
  Calls Try.prog 9 args W fun e W'=>∃v,e=.returned v/\Rows.traitsReplacedSpec.post enc Try.prog Try.f9 false true false false W args v W':=by
 have hgs:gs=[]:=by
  obtain⟨p,q,hA,hV,e,_⟩:=hW;exact(trodVars_none hV).1
 subst hgs;have hlen:∃d1 d2 d3 d4 d5,ds=[d1,d2,d3,d4,d5]:=by
  obtain⟨p,q,hA,hV,e,_⟩:=hW;have hA':DataW.TrodAll enc Try.prog W 0 (fun _=>true) true Try.f9.params.toList args.toList ds p:=hA;rw[Try.params9] at hA'
  clear hA
  obtain⟨v1,vs1,d1,ds1,p1,q1,_,rfl,_,_,r1⟩:=trodAll_cons hA';obtain⟨v2,vs2,d2,ds2,p2,q2,_,rfl,_,_,r2⟩:=trodAll_cons r1;obtain⟨v3,vs3,d3,ds3,p3,q3,_,rfl,_,_,r3⟩:=trodAll_cons r2;obtain⟨v4,vs4,d4,ds4,p4,q4,_,rfl,_,_,r4⟩:=trodAll_cons r3;obtain⟨v5,vs5,d5,ds5,p5,q5,_,rfl,_,_,r5⟩:=trodAll_cons r4;obtain⟨_,rfl,_⟩:=trodAll_nil r5;exact⟨_,_,_,_,_,rfl⟩
 obtain⟨d1,d2,d3,d4,d5,hds⟩:=hlen;have hk':fj ds<=1048576:=by rw[bulkAll_eq];simpa[Rows.uptoSmall] using hk
 exact AQ (S:=[29,22,9,23,25,3,24,82,80,161,30,32,26,56,54,72,27,159,157,167,163,169,165,5]) (tb:=4) (fn:=Try.f9) (s:=Rows.traitsReplacedSpec) (by kernel_rfl) (by kernel_rfl) (by kernel_rfl) (by kernel_rfl) underB rfl law (by rw[hds];rfl) hval hW hk'
set_option maxRecDepth 100000 in
theorem lifted (os:Os) (started:os.Started) (H:Type) (enc:TypeId×Value->H) (F:Stop.Interp) :
  ReturnsInHanded {} Try.checked os 9 .any ((Rows.OpenSpec.upto Rows.traitsReplacedSpec).pre6 enc Try.prog Try.f9 Rows.traitsReplacedUptoRow.domain false) (((Rows.OpenSpec.upto Rows.traitsReplacedSpec).at F).post enc Try.prog Try.f9 false true false false):=by
 refine returnsInHanded_of_cond (C:=Try.checked) (s:=Rows.OpenSpec.upto Rows.traitsReplacedSpec) (k:=Rows.uptoSmall) rfl own started (by kernel_rfl) Try.func9
  (OpenSpec.witness (enc:=enc) (C:=Try.checked) (s:=Rows.OpenSpec.upto Rows.traitsReplacedSpec) (k:=Rows.uptoSmall) rfl false ⟨#[],#[.agg #[.slice none 0 0,.slice none 0 0,.slice none 0 0,.slice none 0 0,.slice none 0 0,.slice none 0 0,.slice none 0 0,.int .i64 0],.slice none 0 0,.int .i64 0,.agg #[.int .i64 0,.int .i64 0,.slice none 0 0],.slice none 0 0],[]⟩ 8 (by kernel_rfl) (by kernel_rfl) (by kernel_rfl)
   (x:=([.agg [.nil,.nil,.nil,.nil,.nil,.nil,.nil,.lit (.int .i64 0)],.nil,.lit (.int .i64 0),.agg [.lit (.int .i64 0),.lit (.int .i64 0),.nil],.nil],[],[])) (by kernel_rfl) rfl (by kernel_rfl)) ?_
 intro W base args ds gs before hval hW _ hk _;exact contract H enc W base args ds gs before hval hW hk
theorem over:Rows.traitsReplacedUptoRow.holds Try.pinned (Rows.OpenSpec.upto Rows.traitsReplacedSpec) :=
 OpenClaim.holds_of_cond 9 Try.f9 rfl rfl rfl rfl rfl rfl rfl ⟨rfl,rfl,rfl,rfl,rfl⟩ rfl rfl rfl rfl rfl (by kernel_rfl) Try.func9 (by kernel_rfl)
  (of_decide_eq_true (by kernel_rfl)) (by unfold Func.isWrapper;first | (rw[if_pos (by decide +kernel)];kernel_rfl) | (rw[if_neg (by decide +kernel)];exact⟨rfl,rfl⟩))
  (fun os started H enc _ F=>lifted os started H enc F)
theorem proved:Rows.TraitsReplacedUptoSaid :=
 over
end Go.Proofs.Ythfdbepkalpplaa.traitsReplaced
