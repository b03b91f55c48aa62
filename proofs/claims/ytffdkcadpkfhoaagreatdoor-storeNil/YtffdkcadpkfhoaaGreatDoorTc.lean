/- The tie of the tables: the laying function returns. Conditions: none. -/
import Derived.Test.YtffdkcadpkfhoaaGreatDoorTa
import Derived.Test.YtffdkcadpkfhoaaGreatDoorRows
import Derived.LaidByTextLater
import Derived.SevenTiedAt
import Derived.KernelRfl
namespace Go.Proofs.YtffdkcadpkfhoaaGreatDoor
open Go
theorem t_hd : ∀ os tape, varsDone Tryz.prog 400 (varsId Tryz.prog) os tape = true := fun _ _ => by kernel_rfl
end Go.Proofs.YtffdkcadpkfhoaaGreatDoor
