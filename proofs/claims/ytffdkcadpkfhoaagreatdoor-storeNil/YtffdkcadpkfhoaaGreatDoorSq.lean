/- Closed facts of StoreNil's row. Conditions: none. -/
import Derived.Test.YtffdkcadpkfhoaaGreatDoorRows
import Derived.JoinedOf
import Derived.KernelRfl
namespace Go.Proofs.YtffdkcadpkfhoaaGreatDoor
theorem k_maps : mapsRowed Tryz.prog = true := by kernel_rfl
end Go.Proofs.YtffdkcadpkfhoaaGreatDoor
