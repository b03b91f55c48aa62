/- The Bernoulli number of weight 4, reckoned once. Conditions: none. -/
import Derived.Test.YtffdkcadpkfhoaaGreatDoorSb
import Derived.KernelRfl
namespace Go.Proofs.YtffdkcadpkfhoaaGreatDoor
open Go.Evo
noncomputable def kfN : CallFn := fun _ _ _ _ => none
theorem kfN_ok : CallOk E0 kfN ∧ Enters E0 kfN := ⟨fun _ _ _ _ _ _ _ h => (by cases h), fun _ _ _ _ _ h => (by cases h)⟩
theorem quad : Pure2 E0 239 [.int .i64 4, .int .i64 1] (.tup [.agg [.bool true, .slo 8060 0 1 1, .bool false, .slo 8073 0 1 1], .int .i64 (.ofNat 0)]) [⟨8060, false, 52, [.int .u32 (.ofNat 1)]⟩, ⟨8073, false, 52, [.int .u32 (.ofNat 30)]⟩] 8104 :=
  let h := callR_ok E0ok fns0 (X := X0) kfN_ok.1 kfN_ok.2 dq0_idle 100000 60
  pure2_of_run h.1 h.2 rfl (by kernel_rfl)
end Go.Proofs.YtffdkcadpkfhoaaGreatDoor
