/- The tie of the tables: where it is laid. Conditions: none. -/
import Derived.Test.YtffdkcadpkfhoaaGreatDoorTa
import Derived.Test.YtffdkcadpkfhoaaGreatDoorRows
import Derived.LaidByTextLater
import Derived.SevenTiedAt
import Derived.KernelRfl
namespace Go.Proofs.YtffdkcadpkfhoaaGreatDoor
open Go
theorem t_h2 : ∀ os tape, (DataW.laidRun Tryz.prog (varsWorld Tryz.prog 400 (varsId Tryz.prog) os tape).memory 8 (L4.map (·.1))).map (fun x => decide x.2.Nodup && laidRowsB Tryz.prog (varsWorld Tryz.prog 400 (varsId Tryz.prog) os tape).memory x.2) = some true := fun _ _ => by kernel_rfl
end Go.Proofs.YtffdkcadpkfhoaaGreatDoor
