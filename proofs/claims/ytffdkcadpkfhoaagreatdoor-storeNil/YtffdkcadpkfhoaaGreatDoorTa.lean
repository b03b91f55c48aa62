/- The tie of the tables: the words of the program. Conditions: none. -/
import Derived.Test.YtffdkcadpkfhoaaGreatDoorRows
import Derived.LaidByTextLater
import Derived.SevenTiedAt
import Derived.KernelRfl
namespace Go.Proofs.YtffdkcadpkfhoaaGreatDoor
open Go
noncomputable def L4 : List (String × DataW Unit) := [("unicode/utf8.acceptRanges", Rows.laid_unicode_utf8_acceptRanges), ("math/bits.deBruijn64tab", Rows.laid_math_bits_deBruijn64tab), ("internal/strconv.uint64pow10", Rows.laid_internal_strconv_uint64pow10), ("math/bits.deBruijn32tab", Rows.laid_math_bits_deBruijn32tab)]
theorem t_hw : Tryz.prog.worded (varsWordLater true) = true := by kernel_rfl
theorem t_hw2 : Tryz.prog.worded (varsWordLater !true) = false := by kernel_rfl
theorem t_hroot : Tryz.prog.worded rootWordLater = true := by kernel_rfl
theorem t_hk : L4.map (fun x => Tryz.prog.kindOfLater x.1) = [LaidKind.data, .data, .data, .data].map some := by kernel_rfl
theorem t_hg : (Tryz.prog.funcNamed "gosem.cut.vars").isSome = true := by kernel_rfl
end Go.Proofs.YtffdkcadpkfhoaaGreatDoor
