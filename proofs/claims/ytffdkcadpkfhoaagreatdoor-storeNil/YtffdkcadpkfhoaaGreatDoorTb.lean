/- The tie of the tables: what the laying function stores. Conditions: none. -/
import Derived.Test.YtffdkcadpkfhoaaGreatDoorTa
import Derived.Test.YtffdkcadpkfhoaaGreatDoorRows
import Derived.LaidByTextLater
import Derived.SevenTiedAt
import Derived.KernelRfl
namespace Go.Proofs.YtffdkcadpkfhoaaGreatDoor
open Go
theorem t_hn : varsNamedLaterB Tryz.prog (varsId Tryz.prog) L4 = true := by kernel_rfl
end Go.Proofs.YtffdkcadpkfhoaaGreatDoor
