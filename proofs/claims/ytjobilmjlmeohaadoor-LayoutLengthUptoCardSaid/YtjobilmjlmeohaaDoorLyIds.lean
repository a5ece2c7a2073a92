/- Part of the proofs of the statements of this seat. -/
import Derived.Test.YtjobilmjlmeohaaDoorFW3
import Derived.Test.YtjobilmjlmeohaaDoorLyP2G
/- Layout: the numbers of the types, what is of them, and its bounds. -/
set_option linter.unusedVariables false
set_option linter.unusedSimpArgs false
namespace Go.Fr.Tryd
open Go Go.RowKit Go.Proofs Go.Fr Go.Fr.T Go.Fr.Api

theorem ok_ty25 {n : Nat} {g : G} (h : Ok Tryd.prog n 25 g) : ∃ x : Ty, g = x.g := ok_ty (ti := 3) (ts := 23) (by kernel_rfl) (by kernel_rfl) (by kernel_rfl) n g h
theorem ok_tys {n : Nat} {g : G} (h : Ok Tryd.prog n 23 g) : ∃ x : List Ty, g = .sl 3 (x.map Ty.g) := isSl_ok (e := 25) (by kernel_rfl) h fun _ _ _ hx => ok_ty25 hx
theorem ok_var {n : Nat} {g : G} (h : Ok Tryd.prog n 50 g) : ∃ v : Variant, g = v.g := by
  obtain ⟨m, l, hm, rfl, hl⟩ := isSt_ok (t := 50) (ts := [9, 23]) (by kernel_rfl) h
  obtain ⟨a, r, rfl, ha, hr⟩ := okL_cons hl
  obtain ⟨b, rfl, hb⟩ := okL1 hr
  obtain ⟨x, rfl⟩ := isS_ok (by kernel_rfl) ha
  obtain ⟨p, rfl⟩ := ok_tys hb
  exact ⟨⟨x, p⟩, rfl⟩
theorem ok_vars {n : Nat} {g : G} (h : Ok Tryd.prog n 46 g) : ∃ x : List Variant, g = .sl 2 (x.map Variant.g) := isSl_ok (e := 50) (by kernel_rfl) h fun _ _ _ hx => ok_var hx
theorem ok_dat {n : Nat} {g : G} (h : Ok Tryd.prog n 48 g) : ∃ d : Api.Data, g = d.g := by
  obtain ⟨m, l, hm, rfl, hl⟩ := isSt_ok (t := 48) (ts := [9, 3, 3, 46, 3]) (by kernel_rfl) h
  obtain ⟨a, r, rfl, ha, hr⟩ := okL_cons hl
  obtain ⟨b, r, rfl, hb, hr⟩ := okL_cons hr
  obtain ⟨c, r, rfl, hc, hr⟩ := okL_cons hr
  obtain ⟨d, r, rfl, hd, hr⟩ := okL_cons hr
  obtain ⟨e, rfl, he⟩ := okL1 hr
  obtain ⟨x, rfl⟩ := isS_ok (by kernel_rfl) ha
  obtain ⟨y, rfl⟩ := isI_ok (by kernel_rfl) hb
  obtain ⟨z, rfl⟩ := isI_ok (by kernel_rfl) hc
  obtain ⟨v, rfl⟩ := ok_vars hd
  obtain ⟨q, rfl⟩ := isI_ok (by kernel_rfl) he
  exact ⟨⟨x, y, z, v, q⟩, rfl⟩
theorem ok_dats {n : Nat} {g : G} (h : Ok Tryd.prog n 22 g) : ∃ x : List Api.Data, g = .sl 5 (x.map Data.g) := isSl_ok (e := 48) (by kernel_rfl) h fun _ _ _ hx => ok_dat hx
theorem ok_u16s {n : Nat} {g : G} (h : Ok Tryd.prog n 26 g) : ∃ l : List Int, ChB l ∧ g = .sl 1 (l.map fun c => G.int .u16 c) := by
  obtain ⟨l, rfl⟩ := isSl_ok (e := 67) (sz := 1) (by kernel_rfl) h (f := fun c : { c : Int // 0 ≤ c ∧ c ≤ 65535 } => G.int .u16 c.1) fun _ _ _ hx => by
    obtain ⟨x, rfl, h1, h2⟩ := u16_ok (by kernel_rfl) hx
    exact ⟨⟨x, h1, h2⟩, rfl⟩
  refine ⟨l.map (·.1), fun c hc => ?_, by rw [List.map_map]; rfl⟩
  obtain ⟨x, _, rfl⟩ := List.mem_map.1 hc
  exact x.2
theorem ok_is {n : Nat} {g : G} (h : Ok Tryd.prog n 30 g) : ∃ l : List Int, g = .sl 1 (l.map I) := isSl_ok (e := 3) (by kernel_rfl) h fun _ _ _ hx => isI_ok (by kernel_rfl) hx
theorem argC_u16s (l : List Int) : argC (.sl 1 (l.map fun c => G.int .u16 c)) = .sl (u16s l) := by
  simp only [argC, gcss_of (f := fun c : Int => G.int .u16 c) (h := fun c => [C.int .u16 c]) (fun _ => rfl)]
theorem bulk_mem {α : Type} {f : α → G} : ∀ {l : List α} {x : α}, x ∈ l → (f x).bulk ≤ G.bulkAll (l.map f)
  | y :: l, x, h => by
    simp only [List.map_cons, G.bulkAll]
    rcases List.mem_cons.1 h with rfl | h
    · omega
    · have := bulk_mem (f := f) h; omega
theorem tyB_bulk : ∀ t : Ty, t.g.bulk ≤ 2 ^ 30 → TyB t
  | .mk k i l, h => by
    rw [Ty.g] at h
    simp only [G.bulk, G.bulkAll, Ty.gs_map] at h
    rw [TyB, tyBs_iff]
    have h1 := bulk_map (f := Ty.g) l
    refine ⟨by omega, fun x hx => ?_⟩
    have h2 := bulk_mem (f := Ty.g) hx
    exact tyB_bulk x (by omega)
termination_by t => SizeOf.sizeOf t
decreasing_by
  have := List.sizeOf_lt_of_mem hx
  simp only [Ty.mk.sizeOf_spec]
  omega
theorem datB_bulk {d : Api.Data} (h : d.g.bulk ≤ 2 ^ 30) : d.variants.length ≤ 2 ^ 30 ∧ ∀ v ∈ d.variants, v.fields.length ≤ 2 ^ 30 ∧ ∀ x ∈ v.fields, TyB x := by
  rw [Data.g] at h
  simp only [G.bulk, G.bulkAll] at h
  have h1 := bulk_map (f := Variant.g) d.variants
  refine ⟨by omega, fun v hv => ?_⟩
  have h2 := bulk_mem (f := Variant.g) hv
  rw [Variant.g] at h2
  simp only [G.bulk, G.bulkAll] at h2
  have h3 := bulk_map (f := Ty.g) v.fields
  refine ⟨by omega, fun x hx => ?_⟩
  have h4 := bulk_mem (f := Ty.g) hx
  exact tyB_bulk x (by omega)
theorem dsB_bulk {ds : List Api.Data} {n : Nat} (h : (G.sl n (ds.map Data.g)).bulk ≤ 2 ^ 30) : DsB ds ∧ ds.length ≤ 2 ^ 30 := by
  simp only [G.bulk] at h
  have h1 := bulk_map (f := Data.g) ds
  refine ⟨fun d hd => ?_, by omega⟩
  have h2 := bulk_mem (f := Data.g) hd
  exact datB_bulk (by omega)
end Go.Fr.Tryd
