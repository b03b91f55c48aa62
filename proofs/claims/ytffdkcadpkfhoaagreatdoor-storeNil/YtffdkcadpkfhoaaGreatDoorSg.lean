/- The law's fixed calls return true. Conditions: none. -/
import Derived.Test.YtffdkcadpkfhoaaGreatDoorSb
import Derived.KernelRfl
namespace Go.Proofs.YtffdkcadpkfhoaaGreatDoor
open Go.Evo
noncomputable def mQ : List Memo := [⟨239, [.int .i64 4, .int .i64 1], .tup [.agg [.bool true, .slo 8060 0 1 1, .bool false, .slo 8073 0 1 1], .int .i64 (.ofNat 0)], [⟨8060, false, 52, [.int .u32 (.ofNat 1)]⟩, ⟨8073, false, 52, [.int .u32 (.ofNat 30)]⟩], 8104⟩]
theorem awake_of (hm : MOk E0 mQ) : Pure1 E0 5 [] (.bool true) :=
  let k := memoF_ok hm
  let h := callR_ok E0ok fns0 (X := X0) k.1 k.2 dq0_idle 100000 60
  pure_of_run h.1 h.2 rfl rfl (by kernel_rfl)
end Go.Proofs.YtffdkcadpkfhoaaGreatDoor
