/- Part of the proofs of the statements of this seat. -/
import Derived.Test.YtidbpicbmklccaaDoorIfL5G
import Derived.Test.YtidbpicbmklccaaDoorFW3
set_option maxRecDepth 10000
set_option linter.unusedVariables false
set_option linter.unusedSimpArgs false
namespace Go.Fr.Tryd
open Go Go.RowKit Go.Proofs Go.Fr Go.Fr.T Go.Fr.Api
def ifG (i:Ifc):G:=.st [.str i.module,.sl 1 (i.uses.map .str),.sl 1 (i.against.map I),I i.digest,.sl 1 (i.body.map bG)]
def W64 (n:Int):Prop:=-9223372036854775808 ≤ n ∧ n ≤ 9223372036854775807
def IfW (i:Ifc):Prop:=(∀ n ∈ i.against,W64 n) ∧ W64 i.digest
theorem gcs_if (i:Ifc):gcs (ifG i) = ifC i:=by
 simp only [ifG,gcs,gflat,ifC,gcss_I,gcss_of (f:=bG) (h:=fun b => [bcell b]) (fun _ => rfl),gcss_of (f:=G.str) (h:=fun s => [C.str s]) (fun _ => rfl),List.append_nil,List.cons_append,List.nil_append,strs,bcells]
theorem argC_if (i:Ifc):argC (ifG i) = .agg (ifC i):=by rw [← gcs_if]; exact argC_st
theorem ok_w {n:Nat} {g:G} (h:Ok Tryd.prog n 3 g):∃ x:{ n:Int // W64 n },g = I x.1:=by
 obtain ⟨x,rfl,h1⟩:=i64_ok (by kernel_rfl) h
 exact ⟨⟨x,h1⟩,rfl⟩
theorem ok_ints {n:Nat} {g:G} (h:Ok Tryd.prog n 25 g):∃ l:List Int,g = .sl 1 (l.map I) ∧ ∀ n ∈ l,W64 n:=by
 obtain ⟨l,rfl⟩:=isSl_ok (e:=3) (sz:=1) (f:=fun x:{ n:Int // W64 n } => I x.1) (by kernel_rfl) h fun _ _ _ hx => ok_w hx
 refine ⟨l.map (·.1),by rw [List.map_map]; rfl,fun n hn => ?_⟩
 obtain ⟨x,_,rfl⟩:=List.mem_map.1 hn
 exact x.2
theorem ok_strs {n:Nat} {g:G} (h:Ok Tryd.prog n 22 g):∃ l:List ByteArray,g = .sl 1 (l.map .str):=isSl_ok (e:=9) (by kernel_rfl) h fun _ _ _ hx => isS_ok (by kernel_rfl) hx
theorem ok_if {n:Nat} {g:G} (h:Ok Tryd.prog n 32 g):∃ i:Ifc,g = ifG i ∧ IfW i:=by
 obtain ⟨m,l,hm,rfl,hl⟩:=isSt_ok (t:=32) (ts:=[9,22,25,3,30]) (by kernel_rfl) h
 obtain ⟨a,r,rfl,ha,hr⟩:=okL_cons hl
 obtain ⟨b,r,rfl,hb,hr⟩:=okL_cons hr
 obtain ⟨c,r,rfl,hc,hr⟩:=okL_cons hr
 obtain ⟨d,r,rfl,hd,hr⟩:=okL_cons hr
 obtain ⟨e,rfl,he⟩:=okL1 hr
 obtain ⟨a,rfl⟩:=isS_ok (by kernel_rfl) ha
 obtain ⟨b,rfl⟩:=ok_strs hb
 obtain ⟨c,rfl,hcw⟩:=ok_ints hc
 obtain ⟨⟨d,hdw⟩,rfl⟩:=ok_w hd
 obtain ⟨e,rfl⟩:=bytes_ok (e:=5) (by kernel_rfl) (by kernel_rfl) he
 exact ⟨⟨a,b,c,d,e⟩,rfl,hcw,hdw⟩
theorem vint_lt:∀ (k z:Nat),z < 128 ^ (k + 1) → (vint z).length ≤ k + 1
 | 0,z,h => by rw [vint,dif_pos (by omega)]; simp
 | k + 1,z,h => by
  rw [vint]
  split
  ·simp
  ·have:z / 128 < 128 ^ (k + 1):=by
    rw [Nat.pow_succ] at h
    exact Nat.div_lt_of_lt_mul (by rw [Nat.mul_comm]; exact h)
   have:=vint_lt k _ this
   simp only [List.length_cons]
   omega
theorem num_len {n:Int} (h:W64 n):(numB n).length ≤ 10:=by
 refine vint_lt 9 _ ?_
 unfold W64 at h
 unfold zz
 split <;> omega
theorem text_len {s:ByteArray} (h:s.size ≤ 9223372036854775807):(textB s).length ≤ 10 + s.size:=by
 have h1:=num_len (n:=(s.size:Int)) (by unfold W64; omega)
 have h2:s.data.toList.length = s.size:=by rw [Array.length_toList]; rfl
 unfold textB
 rw [List.length_append]
 omega
theorem list_len {α:Type} {e:α → List UInt8} {g:α → G}:∀ (l:List α),(∀ x ∈ l,(e x).length ≤ 10 * (g x).bulk) → (l.map e).flatten.length ≤ 10 * G.bulkAll (l.map g)
 | [],_ => by simp
 | x :: l,h => by
  have h1:=h x (List.mem_cons_self ..)
  have h2:=list_len l fun y hy => h y (List.mem_cons_of_mem _ hy)
  simp only [List.map_cons,List.flatten_cons,List.length_append,G.bulkAll]
  omega
theorem listB_len {α:Type} {e:α → List UInt8} {g:α → G} {l:List α} (hb:G.bulkAll (l.map g) ≤ 1048576) (h:∀ x ∈ l,(e x).length ≤ 10 * (g x).bulk):(listB e l).length ≤ 10 * G.bulkAll (l.map g) + 10:=by
 have h1:=list_len l h
 have h2:=bulk_map (f:=g) l
 have h3:=num_len (n:=(l.length:Int)) (by unfold W64; omega)
 unfold listB
 rw [List.length_append]
 omega
theorem bulk_mem {g:G}:∀ {l:List G},g ∈ l → g.bulk ≤ G.bulkAll l
 | [],h => by cases h
 | x :: l,h => by
  simp only [G.bulkAll]
  rcases List.mem_cons.1 h with rfl | h
  ·omega
  ·have:=bulk_mem h; omega
theorem if_parts {i:Ifc} (hb:(ifG i).bulk ≤ 1048576):i.module.size ≤ 1048576 ∧ G.bulkAll (i.uses.map G.str) ≤ 1048576 ∧ G.bulkAll (i.against.map I) ≤ 1048576 ∧ i.body.length ≤ 1048576:=by
 have h:=bulk_map (f:=bG) i.body
 simp only [ifG,G.bulk,G.bulkAll] at hb
 refine ⟨by omega,by omega,by omega,by omega⟩
theorem if_len {i:Ifc} (hw:IfW i) (hb:(ifG i).bulk ≤ 1048576):(encF i).length ≤ 100000000:=by
 obtain ⟨h1,h2,h3,h4⟩:=if_parts hb
 have a1:=text_len (s:=i.module) (by omega)
 have a2:=listB_len (e:=textB) (g:=G.str) (l:=i.uses) h2 fun s hs => by
  have:=bulk_mem (List.mem_map_of_mem (f:=G.str) hs)
  simp only [G.bulk] at this
  have:=text_len (s:=s) (by omega)
  simp only [G.bulk]
  omega
 have a3:=listB_len (e:=numB) (g:=I) (l:=i.against) h3 fun n hn => by
  have:=num_len (hw.1 n hn)
  have e:(I n).bulk = 1:=rfl
  omega
 have a4:=num_len hw.2
 have a5:=num_len (n:=(i.body.length:Int)) (by unfold W64; omega)
 unfold encF
 simp only [List.length_append]
 omega
end Go.Fr.Tryd
