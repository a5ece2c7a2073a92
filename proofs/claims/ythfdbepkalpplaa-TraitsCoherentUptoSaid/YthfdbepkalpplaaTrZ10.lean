/- For every program and type, the statement TraitsCoherent answers true; condition: the arguments hold at most 1048576 values. -/
import Derived.Test.YthfdbepkalpplaaTrL10G
import Derived.Test.YthfdbepkalpplaaFW2
import Derived.Test.YthfdbepkalpplaaTrIds
import Derived.Test.YthfdbepkalpplaaRows
import Derived.JoinedCond
set_option maxRecDepth 10000
set_option linter.unusedVariables false
set_option linter.unusedSimpArgs false
namespace Go.Proofs.Ythfdbepkalpplaa.traitsCoherent
open Go Go.RowKit Go.Proofs Go.Fr Go.Fr.T Go.Fr.Api Go.Fr.Try
open Go.ChangeShapes Go.WideShapes Go.ChangeAt
mutual
theorem bulk_eq {H:Type}:∀d:DataW H,iI d=Rows.uptoBulk d
 | .lit l=>by cases l<;>simp only[iI,Rows.uptoBulk]
 | .nil=>rfl
 | .ptr d=>by simp only[iI,Rows.uptoBulk,bulk_eq d]
 | .slice elems spare=>by simp only[iI,Rows.uptoBulk,bulkAll_eq elems,bulkAll_eq spare]
 | .agg parts=>by simp only[iI,Rows.uptoBulk,bulkAll_eq parts]
 | .iface _ d=>by simp only[iI,Rows.uptoBulk,bulk_eq d]
 | .map entries=>by simp only[iI,Rows.uptoBulk,bulkEs_eq entries]
 | .held _=>rfl
theorem bulkAll_eq {H:Type}:∀l:List (DataW H),eL l=Rows.uptoBulkAll l
 | []=>rfl
 | d::r=>by simp only[eL,Rows.uptoBulkAll,bulk_eq d,bulkAll_eq r]
theorem bulkEs_eq {H:Type}:∀l:List (Lit×DataW H),lO l=Rows.uptoBulkEntries l
 | []=>rfl
 | x::r=>by simp only[lO,Rows.uptoBulkEntries,bulkE_eq x,bulkEs_eq r]
theorem bulkE_eq {H:Type}:∀x:Lit×DataW H,sL x=Rows.uptoBulkEntry x
 | (l,d)=>by cases l<;>simp only[sL,Rows.uptoBulkEntry,bulk_eq d]
end
theorem law (gs:List G) (hg:QV Try.prog Try.f10.params.toList gs) (hb:G.aai gs<=1048576):CallsT Try.prog 10 (gs.map Ad) [] (aU [] (.bool true)):=by
 have e:Try.f10.params.toList=[29,32]:=by kernel_rfl
 rw[e] at hg;obtain⟨g1,r1,n1,rfl,h1,k1⟩:=Ed hg;obtain⟨g2,r2,n2,rfl,h2,k2⟩:=Ed k1;obtain rfl:=Ps k2;obtain⟨p,rfl⟩:=dV.prg (d:=ids) Vy h1;obtain⟨t,rfl⟩:=dV.ty' (d:=ids) YE h2;simp only[List.map_cons,List.map_nil,Pt,IZ];rw[Sh];exact t10 t29 p t
theorem own:ownKnob Try.prog.godebug=none:=by kernel_rfl
theorem underB:Try.prog.underlying 4=some .bool:=by kernel_rfl
set_option maxRecDepth 100000 in
theorem contract (H:Type) (enc:TypeId×Value->H) (W:World) (base:Nat) (args:Array Value) (ds gs:List (DataW H)) (before:List MemPlace)
  (hval:∀(j:Nat) t v,Try.f10.params[j]?=some t->args[j]?=some v->Value.okWide Try.prog W .any base t v)
  (hW:DataW.Whole enc Try.prog Try.f10.params.toList Rows.traitsCoherentSpec.vars false W args.toList ds gs before) (hk:Rows.uptoSmall H (ds++gs)=true) :
  Calls Try.prog 10 args W fun e W'=>∃v,e=.returned v/\Rows.traitsCoherentSpec.post enc Try.prog Try.f10 false true false false W args v W':=by
 have hgs:gs=[]:=by
  obtain⟨p,q,hA,hV,e,_⟩:=hW;exact(trodVars_none hV).1
 subst hgs;have hlen:∃d1 d2,ds=[d1,d2]:=by
  obtain⟨p,q,hA,hV,e,_⟩:=hW;have hA':DataW.TrodAll enc Try.prog W 0 (fun _=>true) true Try.f10.params.toList args.toList ds p:=hA;rw[Try.params10] at hA'
  clear hA
  obtain⟨v1,vs1,d1,ds1,p1,q1,_,rfl,_,_,r1⟩:=trodAll_cons hA';obtain⟨v2,vs2,d2,ds2,p2,q2,_,rfl,_,_,r2⟩:=trodAll_cons r1;obtain⟨_,rfl,_⟩:=trodAll_nil r2;exact⟨_,_,rfl⟩
 obtain⟨d1,d2,hds⟩:=hlen;have hk':eL ds<=1048576:=by rw[bulkAll_eq];simpa[Rows.uptoSmall] using hk
 exact Ag (S:=[29,22,9,23,25,3,24,82,80,161,30,32,26,56,54,72,27,159,157,167,163,169,165,5]) (tb:=4) (fn:=Try.f10) (s:=Rows.traitsCoherentSpec) (by kernel_rfl) (by kernel_rfl) (by kernel_rfl) (by kernel_rfl) underB rfl law (by rw[hds];rfl) hval hW hk'
set_option maxRecDepth 100000 in
theorem lifted (os:Os) (started:os.Started) (H:Type) (enc:TypeId×Value->H) (F:Stop.Interp) :
  ReturnsInHanded {} Try.checked os 10 .any ((Rows.OpenSpec.upto Rows.traitsCoherentSpec).pre6 enc Try.prog Try.f10 Rows.traitsCoherentUptoRow.domain false) (((Rows.OpenSpec.upto Rows.traitsCoherentSpec).at F).post enc Try.prog Try.f10 false true false false):=by
 refine returnsInHanded_of_cond (C:=Try.checked) (s:=Rows.OpenSpec.upto Rows.traitsCoherentSpec) (k:=Rows.uptoSmall) rfl own started (by kernel_rfl) Try.func10
  (OpenSpec.witness (enc:=enc) (C:=Try.checked) (s:=Rows.OpenSpec.upto Rows.traitsCoherentSpec) (k:=Rows.uptoSmall) rfl false ⟨#[],#[.agg #[.slice none 0 0,.slice none 0 0,.slice none 0 0,.slice none 0 0,.slice none 0 0,.slice none 0 0,.slice none 0 0,.int .i64 0],.agg #[.int .i64 0,.int .i64 0,.slice none 0 0]],[]⟩ 8 (by kernel_rfl) (by kernel_rfl) (by kernel_rfl)
   (x:=([.agg [.nil,.nil,.nil,.nil,.nil,.nil,.nil,.lit (.int .i64 0)],.agg [.lit (.int .i64 0),.lit (.int .i64 0),.nil]],[],[])) (by kernel_rfl) rfl (by kernel_rfl)) ?_
 intro W base args ds gs before hval hW _ hk _;exact contract H enc W base args ds gs before hval hW hk
theorem over:Rows.traitsCoherentUptoRow.holds Try.pinned (Rows.OpenSpec.upto Rows.traitsCoherentSpec) :=
 OpenClaim.holds_of_cond 10 Try.f10 rfl rfl rfl rfl rfl rfl rfl ⟨rfl,rfl,rfl,rfl,rfl⟩ rfl rfl rfl rfl rfl (by kernel_rfl) Try.func10 (by kernel_rfl)
  (of_decide_eq_true (by kernel_rfl)) (by unfold Func.isWrapper;first | (rw[if_pos (by decide +kernel)];kernel_rfl) | (rw[if_neg (by decide +kernel)];exact⟨rfl,rfl⟩))
  (fun os started H enc _ F=>lifted os started H enc F)
theorem proved:Rows.TraitsCoherentUptoSaid :=
 over
end Go.Proofs.Ythfdbepkalpplaa.traitsCoherent
