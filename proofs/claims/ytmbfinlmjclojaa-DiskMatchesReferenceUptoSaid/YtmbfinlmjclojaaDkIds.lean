/- Part of the proofs of the statements of this seat. -/
import Derived.Test.YtmbfinlmjclojaaFW2
import Derived.Test.YtmbfinlmjclojaaDkT9G
/- Disk: the numbers of the types, and what is of them. -/
set_option linter.unusedVariables false
set_option linter.unusedSimpArgs false
namespace Go.Fr.Try
open Go Go.RowKit Go.Proofs Go.Fr Go.Fr.T Go.Fr.Api
def pgG (p : List UInt8) : G := .sl 1 (p.map bG)
def diskG (d : List (List UInt8)) : G := .st [.sl 1 (d.map pgG)]
def wrG (w : Wri) : G := .st [I w.1, .sl 1 (w.2.map bG)]
theorem ok_pg {n : Nat} {g : G} (h : Ok Try.prog n 28 g) : ∃ p, g = pgG p := bytes_ok (e := 5) (by kernel_rfl) (by kernel_rfl) h
theorem ok_pages {n : Nat} {g : G} (h : Ok Try.prog n 22 g) : ∃ d : List (List UInt8), g = .sl 1 (d.map pgG) := isSl_ok (e := 28) (by kernel_rfl) h fun _ _ _ hx => ok_pg hx
theorem ok_disk {n : Nat} {g : G} (h : Ok Try.prog n 24 g) : ∃ d, g = diskG d := by
  obtain ⟨m, l, hm, rfl, hl⟩ := isSt_ok (t := 24) (ts := [22]) (by kernel_rfl) h
  obtain ⟨a, rfl, ha⟩ := okL1 hl
  obtain ⟨d, rfl⟩ := ok_pages ha
  exact ⟨d, rfl⟩
theorem ok_wr {n : Nat} {g : G} (h : Ok Try.prog n 52 g) : ∃ w, g = wrG w := by
  obtain ⟨m, l, hm, rfl, hl⟩ := isSt_ok (t := 52) (ts := [3, 28]) (by kernel_rfl) h
  obtain ⟨a, r, rfl, ha, hr⟩ := okL_cons hl
  obtain ⟨b, rfl, hb⟩ := okL1 hr
  obtain ⟨x, rfl⟩ := isI_ok (by kernel_rfl) ha
  obtain ⟨p, rfl⟩ := ok_pg hb
  exact ⟨(x, p), rfl⟩
theorem ok_wrs {n : Nat} {g : G} (h : Ok Try.prog n 25 g) : ∃ l : List Wri, g = .sl 2 (l.map wrG) := isSl_ok (e := 52) (by kernel_rfl) h fun _ _ _ hx => ok_wr hx
theorem gcs_pg (p : List UInt8) : gcs (pgG p) = pgC p := by
  simp only [pgG, gcs, pgC, gcss_of (f := bG) (h := fun b => [bcell b]) (fun _ => rfl), bcells]
theorem argC_pages (d : List (List UInt8)) : argC (.sl 1 (d.map pgG)) = .sl (d.map pgC) := by
  simp only [argC, gcss_of gcs_pg]
theorem argC_disk (d : List (List UInt8)) : argC (diskG d) = .agg (diskC d) := by
  rw [diskG, argC_st]
  simp only [gcs, gflat, List.append_nil, gcss_of gcs_pg, diskC]
theorem gcs_wr (w : Wri) : gcs (wrG w) = wrC w := by
  simp only [wrG, gcs, gflat, I, List.append_nil, List.singleton_append, gcss_of (f := bG) (h := fun b => [bcell b]) (fun _ => rfl), wrC, bcells]
theorem argC_wrs (l : List Wri) : argC (.sl 2 (l.map wrG)) = .sl (l.map wrC) := by
  simp only [argC, gcss_of gcs_wr]
end Go.Fr.Try
