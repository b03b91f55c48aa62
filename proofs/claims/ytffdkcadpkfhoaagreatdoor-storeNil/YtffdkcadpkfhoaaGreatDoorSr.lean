/- All closed facts of StoreNil's row together. Conditions: none. -/
import Derived.Test.YtffdkcadpkfhoaaGreatDoorSo
import Derived.Test.YtffdkcadpkfhoaaGreatDoorSp
import Derived.Test.YtffdkcadpkfhoaaGreatDoorSq
namespace Go.Proofs.YtffdkcadpkfhoaaGreatDoor
theorem k_wf : Rows.storeNilRow.wf (OpenSpec.ofChange Rows.storeNilSpec) = true := by kernel_rfl
theorem k_params : Tryz.f3.params.all (Tryz.prog.readableRec ·) = true := by kernel_rfl
theorem k_tie : namedTie Tryz.prog Rows.storeNilRow.named Rows.storeNilSpec.vars = true := by kernel_rfl
theorem k_s1 : (Rows.storeNilRow.stops == []) = true := by kernel_rfl
theorem k_s2 : (Tryz.prog.stops == []) = true := by kernel_rfl
theorem k_s3 : (Rows.storeNilRow.knobs == []) = true := by kernel_rfl
theorem k_s4 : (Tryz.prog.stopKnobs == []) = true := by kernel_rfl
theorem k_maps2 : (Rows.storeNilRow.maps == (Tryz.f3.params.toList ++ Rows.storeNilSpec.plain.varTypes Tryz.prog).any (Tryz.prog.mapsRec ·)) = true := by kernel_rfl
theorem k_ifaces : (Rows.storeNilRow.ifaces == (Tryz.f3.params.toList ++ Rows.storeNilSpec.plain.varTypes Tryz.prog).any (Tryz.prog.ifacesRec ·)) = true := by kernel_rfl
theorem k_mapsOut : (Rows.storeNilRow.mapsOut == Tryz.prog.mapsAmong Tryz.f3.resultTypes.toList) = true := by kernel_rfl
theorem k_loops : (Rows.storeNilRow.loops == (Tryz.f3.params.toList ++ Rows.storeNilSpec.plain.varTypes Tryz.prog).any (Tryz.prog.loopsFrom ·)) = true := by kernel_rfl
theorem k_wide : (Rows.storeNilRow.wideKeys == (Tryz.f3.params.toList ++ Rows.storeNilSpec.plain.varTypes Tryz.prog ++ Tryz.f3.resultTypes.toList).any (Tryz.prog.wideKeysFrom ·)) = true := by kernel_rfl
theorem k_vars : Rows.storeNilSpec.vars.all (Tryz.prog.varReadable ·) = true := by kernel_rfl
theorem k_res : Tryz.f3.resultTypes.all (fun t => Tryz.prog.readableRec t && decide (t < Tryz.prog.types.size)) = true := by kernel_rfl
theorem k_ifOut : (Rows.storeNilRow.ifacesOut == Tryz.f3.resultTypes.toList.any (Tryz.prog.ifacesRec ·)) = true := by kernel_rfl
theorem k_lpOut : (Rows.storeNilRow.loopsOut == Tryz.f3.resultTypes.toList.any (Tryz.prog.loopsFrom ·)) = true := by kernel_rfl
theorem k_plain : (Rows.storeNilRow.plainKeys == Tryz.prog.plainKeys) = true := by kernel_rfl
theorem k_short : Rows.storeNilRow.shortTexts.isNone = true := by kernel_rfl
theorem k_heard : Tryz.prog.stopsHeard = true := by kernel_rfl
theorem k_enter : Tryz.prog.mayEnter = true := by kernel_rfl
theorem k_lifted : (Rows.storeNilRow.lifted == Tryz.prog.liftsFinal) = true := by kernel_rfl
theorem k_make : (Tryz.prog.make == some Rows.storeNilRow.make) = true := by kernel_rfl
theorem k_kinds : (Rows.storeNilRow.kinds == (if Rows.storeNilRow.domain.isEmpty then [] else Tryz.f3.params.toList.map fun t => match Tryz.prog.underlying t with | some (.int k) => some k | _ => none)) = true := by kernel_rfl
theorem k_pinned : (Rows.storeNilRow.pinned == Rows.storeNilRow.pinnedBy) = true := by kernel_rfl
theorem k_veiled : (Rows.storeNilRow.veiled == (Tryz.f3.params.toList ++ Rows.storeNilSpec.plain.varTypes Tryz.prog ++ Tryz.f3.resultTypes.toList).any (Tryz.prog.veiledRec ·)) = true := by kernel_rfl
theorem k_vfits : Rows.storeNilRow.veiledFits Tryz.prog Tryz.f3.params.toList (Tryz.f3.params.toList ++ Rows.storeNilSpec.plain.varTypes Tryz.prog ++ Tryz.f3.resultTypes.toList) = true := by kernel_rfl
set_option maxRecDepth 100000 in
theorem joined : joinedFacts Tryz.prog 3 Tryz.f3 Rows.storeNilSpec Rows.storeNilRow = true := by
  unfold joinedFacts
  exact (and2 (and2 (and2 (and2 (and2 (and2 (and2 (and2 (and2 (and2 (and2 (and2 (and2 (and2 (and2 (and2 (and2 (and2 (and2 (and2 (and2 (and2 (and2 (and2 (and2 (and2 (and2 (and2 (and2 (and2 (and2 k_wf k_laid) k_maps) k_params) k_tie) k_s1) k_s2) k_s3) k_s4) k_inPlace) k_unf) k_rec) k_named) k_maps2) k_ifaces) k_mapsOut) k_loops) k_wide) k_vars) k_res) k_ifOut) k_lpOut) k_plain) k_short) k_heard) k_enter) k_lifted) k_make) k_kinds) k_pinned) k_veiled) k_vfits)
end Go.Proofs.YtffdkcadpkfhoaaGreatDoor
