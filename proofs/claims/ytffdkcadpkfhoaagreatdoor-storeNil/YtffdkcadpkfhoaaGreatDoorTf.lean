/- StoreNil: whatever the step, the law returns true; its tie. Conditions: none. -/
import Derived.Test.YtffdkcadpkfhoaaGreatDoorSj
import Derived.Test.YtffdkcadpkfhoaaGreatDoorSr
import Derived.Test.YtffdkcadpkfhoaaGreatDoorTa
import Derived.Test.YtffdkcadpkfhoaaGreatDoorTb
import Derived.Test.YtffdkcadpkfhoaaGreatDoorTc
import Derived.Test.YtffdkcadpkfhoaaGreatDoorTd
import Derived.Test.YtffdkcadpkfhoaaGreatDoorTe
import Derived.JoinedCond
namespace Go.Proofs.YtffdkcadpkfhoaaGreatDoor
open Go
theorem storeNil_pin : Tryz.pinned.checked.prog.pinnedFits "unicode/utf8.first" = true := by kernel_rfl
theorem storeNil_noUnsafe : Tryz.pinned.checked.prog.headLifts.contains "ownunsafe" = false := by kernel_rfl
theorem storeNil_fits : Tryz.pinned.checked.prog.listedFits [("unicode/utf8.first", Rows.laid_unicode_utf8_first), ("unicode/utf8.acceptRanges", Rows.laid_unicode_utf8_acceptRanges), ("math/bits.deBruijn64tab", Rows.laid_math_bits_deBruijn64tab), ("internal/strconv.uint64pow10", Rows.laid_internal_strconv_uint64pow10), ("math/bits.deBruijn32tab", Rows.laid_math_bits_deBruijn32tab)] = true := by
  unfold Program.listedFits
  rw [storeNil_noUnsafe]
  kernel_rfl
theorem storeNil_laid : Tryz.prog.laidByTextLater L4 [.data, .data, .data, .data] true :=
  Program.laidByTextLater_by_run 400 8 t_hw t_hw2 t_hroot t_hk t_hg t_hn t_hd t_h1 t_h2
theorem storeNil_tie : Rows.storeNilRow.laidByTextAt .later Tryz.pinned [.pinned, .data, .data, .data, .data] true :=
  OpenClaim.laidByTextAt_pinned rfl rfl storeNil_laid rfl rfl rfl rfl (fun y hy _e => by
    simp only [Rows.storeNilRow, List.zip_cons_cons, List.zip_nil_right, List.mem_cons, List.mem_nil_iff, or_false] at hy
    rcases hy with rfl | rfl | rfl | rfl | rfl
    · exact ⟨storeNil_pin, by kernel_rfl⟩
    · cases _e
    · cases _e
    · cases _e
    · cases _e) storeNil_fits
theorem storeNil_named : Tryz.pinned.checked.prog.funcNamed Rows.storeNilRow.func = some 3 := by kernel_rfl
theorem storeNil_wrap : Tryz.f3.isWrapper Tryz.pinned.checked.prog Rows.storeNilRow.wrapper Rows.storeNilRow.mainSum := by
  unfold Func.isWrapper
  first | (rw [if_pos (by decide +kernel)]; kernel_rfl) | (rw [if_neg (by decide +kernel)]; exact ⟨rfl, rfl⟩)
theorem storeNil_inst : Tryz.f3.isInstance Tryz.pinned.checked.prog Rows.storeNilRow.origin Rows.storeNilRow.targs := of_decide_eq_true (by kernel_rfl)
set_option maxRecDepth 100000 in
theorem storeNil_holds : Rows.StoreNilSaid :=
  OpenClaim.holds_of_cond 3 Tryz.f3 rfl rfl rfl rfl rfl rfl rfl ⟨rfl, rfl, rfl, rfl, rfl⟩ rfl rfl rfl rfl rfl storeNil_named Tryz.func3 joined storeNil_inst storeNil_wrap
    (fun os started H enc _ F => by rw [OpenClaim.pre_eq_preRow]; exact lifted os started H enc F)
end Go.Proofs.YtffdkcadpkfhoaaGreatDoor
