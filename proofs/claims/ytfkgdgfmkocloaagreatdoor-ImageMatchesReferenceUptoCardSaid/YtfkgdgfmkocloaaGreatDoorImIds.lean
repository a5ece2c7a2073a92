/- Part of the proofs of the statements of this seat. -/
import Derived.Test.YtfkgdgfmkocloaaGreatDoorImE1G
import Derived.Test.YtfkgdgfmkocloaaGreatDoorFW3
set_option maxRecDepth 10000
set_option linter.unusedVariables false
set_option linter.unusedSimpArgs false
namespace Go.Fr.Tryz
open Go Go.RowKit Go.Proofs Go.Fr Go.Fr.T Go.Fr.Api
theorem ok_ty51 {n:Nat} {g:G} (h:Ok Tryz.prog n 51 g):∃ x:Ty,g = x.g:=ok_ty (ti:=3) (ts:=46) (by kernel_rfl) (by kernel_rfl) (by kernel_rfl) n g h
theorem ok_tys {n:Nat} {g:G} (h:Ok Tryz.prog n 46 g):∃ x:List Ty,g = .sl 3 (x.map Ty.g):=isSl_ok (e:=51) (by kernel_rfl) h fun _ _ _ hx => ok_ty51 hx
theorem ok_var {n:Nat} {g:G} (h:Ok Tryz.prog n 48 g):∃ v:Variant,g = v.g:=by
 obtain ⟨m,l,hm,rfl,hl⟩:=isSt_ok (t:=48) (ts:=[9,46]) (by kernel_rfl) h
 obtain ⟨a,r,rfl,ha,hr⟩:=okL_cons hl
 obtain ⟨b,rfl,hb⟩:=okL1 hr
 obtain ⟨x,rfl⟩:=isS_ok (by kernel_rfl) ha
 obtain ⟨p,rfl⟩:=ok_tys hb
 exact ⟨⟨x,p⟩,rfl⟩
theorem ok_vars {n:Nat} {g:G} (h:Ok Tryz.prog n 42 g):∃ x:List Variant,g = .sl 2 (x.map Variant.g):=isSl_ok (e:=48) (by kernel_rfl) h fun _ _ _ hx => ok_var hx
theorem ok_dat {n:Nat} {g:G} (h:Ok Tryz.prog n 44 g):∃ d:Api.Data,g = d.g:=by
 obtain ⟨m,l,hm,rfl,hl⟩:=isSt_ok (t:=44) (ts:=[9,3,3,42,3]) (by kernel_rfl) h
 obtain ⟨a,r,rfl,ha,hr⟩:=okL_cons hl
 obtain ⟨b,r,rfl,hb,hr⟩:=okL_cons hr
 obtain ⟨c,r,rfl,hc,hr⟩:=okL_cons hr
 obtain ⟨d,r,rfl,hd,hr⟩:=okL_cons hr
 obtain ⟨e,rfl,he⟩:=okL1 hr
 obtain ⟨x,rfl⟩:=isS_ok (by kernel_rfl) ha
 obtain ⟨y,rfl⟩:=isI_ok (by kernel_rfl) hb
 obtain ⟨z,rfl⟩:=isI_ok (by kernel_rfl) hc
 obtain ⟨v,rfl⟩:=ok_vars hd
 obtain ⟨q,rfl⟩:=isI_ok (by kernel_rfl) he
 exact ⟨⟨x,y,z,v,q⟩,rfl⟩
theorem ok_dats {n:Nat} {g:G} (h:Ok Tryz.prog n 22 g):∃ x:List Api.Data,g = .sl 5 (x.map Data.g):=isSl_ok (e:=44) (by kernel_rfl) h fun _ _ _ hx => ok_dat hx
theorem ok_is {n:Nat} {g:G} (h:Ok Tryz.prog n 52 g):∃ l:List Int,g = .sl 1 (l.map I):=isSl_ok (e:=3) (by kernel_rfl) h fun _ _ _ hx => isI_ok (by kernel_rfl) hx
theorem ok_ins {n:Nat} {g:G} (h:Ok Tryz.prog n 100 g):∃ x:Ins,g = x.g:=by
 obtain ⟨m,l,hm,rfl,hl⟩:=isSt_ok (t:=100) (ts:=[3,3,3,3,3,52,46]) (by kernel_rfl) h
 obtain ⟨a,r,rfl,ha,hr⟩:=okL_cons hl
 obtain ⟨b,r,rfl,hb,hr⟩:=okL_cons hr
 obtain ⟨c,r,rfl,hc,hr⟩:=okL_cons hr
 obtain ⟨d,r,rfl,hd,hr⟩:=okL_cons hr
 obtain ⟨e,r,rfl,he,hr⟩:=okL_cons hr
 obtain ⟨f,r,rfl,hf,hr⟩:=okL_cons hr
 obtain ⟨q,rfl,hq⟩:=okL1 hr
 obtain ⟨a,rfl⟩:=isI_ok (by kernel_rfl) ha
 obtain ⟨b,rfl⟩:=isI_ok (by kernel_rfl) hb
 obtain ⟨c,rfl⟩:=isI_ok (by kernel_rfl) hc
 obtain ⟨d,rfl⟩:=isI_ok (by kernel_rfl) hd
 obtain ⟨e,rfl⟩:=isI_ok (by kernel_rfl) he
 obtain ⟨f,rfl⟩:=ok_is hf
 obtain ⟨q,rfl⟩:=ok_tys hq
 exact ⟨⟨a,b,c,d,e,f,q⟩,rfl⟩
theorem ok_term {n:Nat} {g:G} (h:Ok Tryz.prog n 103 g):∃ x:Api.Term,g = x.g:=by
 obtain ⟨m,l,hm,rfl,hl⟩:=isSt_ok (t:=103) (ts:=[3,3,52]) (by kernel_rfl) h
 obtain ⟨a,r,rfl,ha,hr⟩:=okL_cons hl
 obtain ⟨b,r,rfl,hb,hr⟩:=okL_cons hr
 obtain ⟨c,rfl,hc⟩:=okL1 hr
 obtain ⟨a,rfl⟩:=isI_ok (by kernel_rfl) ha
 obtain ⟨b,rfl⟩:=isI_ok (by kernel_rfl) hb
 obtain ⟨c,rfl⟩:=ok_is hc
 exact ⟨⟨a,b,c⟩,rfl⟩
theorem ok_block {n:Nat} {g:G} (h:Ok Tryz.prog n 105 g):∃ x:Block,g = x.g:=by
 obtain ⟨m,l,hm,rfl,hl⟩:=isSt_ok (t:=105) (ts:=[101,103]) (by kernel_rfl) h
 obtain ⟨a,r,rfl,ha,hr⟩:=okL_cons hl
 obtain ⟨b,rfl,hb⟩:=okL1 hr
 obtain ⟨a,rfl⟩:=isSl_ok (e:=100) (sz:=7) (f:=Ins.g) (by kernel_rfl) ha fun _ _ _ hx => ok_ins hx
 obtain ⟨b,rfl⟩:=ok_term hb
 exact ⟨⟨a,b⟩,rfl⟩
theorem ok_lent {n:Nat} {g:G} (h:Ok Tryz.prog n 158 g):∃ x:Lent,g = lentG x:=by
 obtain ⟨m,l,hm,rfl,hl⟩:=isSt_ok (t:=158) (ts:=[3,4,4]) (by kernel_rfl) h
 obtain ⟨a,r,rfl,ha,hr⟩:=okL_cons hl
 obtain ⟨b,r,rfl,hb,hr⟩:=okL_cons hr
 obtain ⟨c,rfl,hc⟩:=okL1 hr
 obtain ⟨a,rfl⟩:=isI_ok (by kernel_rfl) ha
 obtain ⟨b,rfl⟩:=isB_ok (by kernel_rfl) hb
 obtain ⟨c,rfl⟩:=isB_ok (by kernel_rfl) hc
 exact ⟨⟨a,b,c⟩,rfl⟩
theorem ok_slot {n:Nat} {g:G} (h:Ok Tryz.prog n 108 g):∃ x:Slot,g = slotG x:=by
 obtain ⟨m,l,hm,rfl,hl⟩:=isSt_ok (t:=108) (ts:=[3,51,3,3,106]) (by kernel_rfl) h
 obtain ⟨a,r,rfl,ha,hr⟩:=okL_cons hl
 obtain ⟨b,r,rfl,hb,hr⟩:=okL_cons hr
 obtain ⟨c,r,rfl,hc,hr⟩:=okL_cons hr
 obtain ⟨d,r,rfl,hd,hr⟩:=okL_cons hr
 obtain ⟨e,rfl,he⟩:=okL1 hr
 obtain ⟨a,rfl⟩:=isI_ok (by kernel_rfl) ha
 obtain ⟨b,rfl⟩:=ok_ty51 hb
 obtain ⟨c,rfl⟩:=isI_ok (by kernel_rfl) hc
 obtain ⟨d,rfl⟩:=isI_ok (by kernel_rfl) hd
 obtain ⟨e,rfl⟩:=isSl_ok (e:=158) (sz:=3) (f:=lentG) (by kernel_rfl) he fun _ _ _ hx => ok_lent hx
 exact ⟨⟨a,b,c,d,e⟩,rfl⟩
theorem ok_slots {n:Nat} {g:G} (h:Ok Tryz.prog n 109 g):∃ x:List Slot,g = slotsG x:=isSl_ok (e:=108) (by kernel_rfl) h fun _ _ _ hx => ok_slot hx
theorem ok_rout {n:Nat} {g:G} (h:Ok Tryz.prog n 56 g):∃ x:Rout,g = routG x:=by
 obtain ⟨m,l,hm,rfl,hl⟩:=isSt_ok (t:=56) (ts:=[9,46,51,52,3,53,54]) (by kernel_rfl) h
 obtain ⟨a,r,rfl,ha,hr⟩:=okL_cons hl
 obtain ⟨b,r,rfl,hb,hr⟩:=okL_cons hr
 obtain ⟨c,r,rfl,hc,hr⟩:=okL_cons hr
 obtain ⟨d,r,rfl,hd,hr⟩:=okL_cons hr
 obtain ⟨e,r,rfl,he,hr⟩:=okL_cons hr
 obtain ⟨f,r,rfl,hf,hr⟩:=okL_cons hr
 obtain ⟨q,rfl,hq⟩:=okL1 hr
 obtain ⟨a,rfl⟩:=isS_ok (by kernel_rfl) ha
 obtain ⟨b,rfl⟩:=ok_tys hb
 obtain ⟨c,rfl⟩:=ok_ty51 hc
 obtain ⟨d,rfl⟩:=ok_is hd
 obtain ⟨e,rfl⟩:=isI_ok (by kernel_rfl) he
 obtain ⟨f,rfl⟩:=isSl_ok (e:=105) (sz:=4) (f:=Block.g) (by kernel_rfl) hf fun _ _ _ hx => ok_block hx
 obtain ⟨q,rfl⟩:=isSl_ok (e:=109) (sz:=1) (f:=slotsG) (by kernel_rfl) hq fun _ _ _ hx => ok_slots hx
 exact ⟨⟨a,b,c,d,e,f,q⟩,rfl⟩
theorem ok_img {n:Nat} {g:G} (h:Ok Tryz.prog n 25 g):∃ x:Img,g = imgG x:=by
 obtain ⟨m,l,hm,rfl,hl⟩:=isSt_ok (t:=25) (ts:=[22,23,3]) (by kernel_rfl) h
 obtain ⟨a,r,rfl,ha,hr⟩:=okL_cons hl
 obtain ⟨b,r,rfl,hb,hr⟩:=okL_cons hr
 obtain ⟨c,rfl,hc⟩:=okL1 hr
 obtain ⟨a,rfl⟩:=ok_dats ha
 obtain ⟨b,rfl⟩:=isSl_ok (e:=56) (sz:=9) (f:=routG) (by kernel_rfl) hb fun _ _ _ hx => ok_rout hx
 obtain ⟨c,rfl⟩:=isI_ok (by kernel_rfl) hc
 exact ⟨⟨a,b,c⟩,rfl⟩
theorem img_bd {i:Img} (h:(imgG i).bulk ≤ 1048576):(imgE i).1.length ≤ 6300000:=by
 have:=img_len i
 omega
end Go.Fr.Tryz
