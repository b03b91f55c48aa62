/- The types of this program are laid out as the form asks. Conditions: none. -/
import Derived.Test.YtffdkcadpkfhoaaGreatDoorSm
import Derived.JoinedOf
namespace Go.Proofs.YtffdkcadpkfhoaaGreatDoor
open Go.Evo
theorem rows0 : (List.range' 0 100).all (rowFine Tryz.prog) = true := by kernel_rfl
theorem rows1 : (List.range' 100 100).all (rowFine Tryz.prog) = true := by kernel_rfl
theorem rows2 : (List.range' 200 100).all (rowFine Tryz.prog) = true := by kernel_rfl
theorem rows3 : (List.range' 300 100).all (rowFine Tryz.prog) = true := by kernel_rfl
theorem rows4 : (List.range' 400 100).all (rowFine Tryz.prog) = true := by kernel_rfl
theorem rows5 : (List.range' 500 100).all (rowFine Tryz.prog) = true := by kernel_rfl
theorem rows6 : (List.range' 600 100).all (rowFine Tryz.prog) = true := by kernel_rfl
theorem rows7 : (List.range' 700 82).all (rowFine Tryz.prog) = true := by kernel_rfl
theorem ntypes : Tryz.prog.types.size = 782 := by kernel_rfl
theorem rowsAll (t : Nat) (h : t < 782) : rowFine Tryz.prog t = true := by
  rcases Nat.lt_or_ge t 100 with h0 | h0
  · exact range_all rows0 (Nat.zero_le _) (by omega)
  rcases Nat.lt_or_ge t 200 with h1 | h1
  · exact range_all rows1 h0 (by omega)
  rcases Nat.lt_or_ge t 300 with h2 | h2
  · exact range_all rows2 h1 (by omega)
  rcases Nat.lt_or_ge t 400 with h3 | h3
  · exact range_all rows3 h2 (by omega)
  rcases Nat.lt_or_ge t 500 with h4 | h4
  · exact range_all rows4 h3 (by omega)
  rcases Nat.lt_or_ge t 600 with h5 | h5
  · exact range_all rows5 h4 (by omega)
  rcases Nat.lt_or_ge t 700 with h6 | h6
  · exact range_all rows6 h5 (by omega)
  · exact range_all rows7 h6 (by omega)
theorem k_rows : (List.range Tryz.prog.types.size).all (rowFine Tryz.prog) = true := by
  rw [ntypes]
  exact List.all_eq_true.2 fun t ht => rowsAll t (List.mem_range.1 ht)
theorem k_globs : Tryz.prog.globals.all (fun g => decide (g.type < Tryz.prog.types.size)) = true := by kernel_rfl
theorem k_funcs : Tryz.prog.funcs.all (fun f => f.params.all fun t => decide (t < Tryz.prog.types.size)) = true := by
  rw [ntypes]
  kernel_rfl
theorem and2 {a b : Bool} (h : a = true) (k : b = true) : (a && b) = true := by rw [h, k]; rfl
theorem k_laid : laidOutB Tryz.prog = true := and2 (and2 k_rows k_globs) k_funcs
end Go.Proofs.YtffdkcadpkfhoaaGreatDoor
