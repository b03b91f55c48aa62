/- The walk of the method great: what it answers for every step. Conditions: none. -/
import Derived.Test.YtffdkcadpkfhoaaGreatDoorSb
import Derived.Tactics
import Derived.Tactics2
import Derived.WalkKit
import Derived.ProofKit
import Derived.KernelRfl
namespace Go.Proofs.YtffdkcadpkfhoaaGreatDoor
open Go.Evo
open Go.ChangeShapes Go.WideShapes Go.ChangeAt Go.RowKit
noncomputable def greatN (a b c : Nat) : Bool := decide (40 < a) || (decide (120 < b) && decide (b ≤ 4000)) || (decide (120 < c) && decide (c ≤ 4000))
theorem great_walk (w : World) (op prec : Int) (name text other : ByteArray) : Calls Tryz.prog 4 #[.agg #[.int .i64 op, .string name, .string text, .string other, .int .i64 prec]] w fun e w' => e = .returned (.bool (greatN name.size text.size other.size)) ∧ w' = w.alloc (.cells #[.int .i64 op, .string name, .string text, .string other, .int .i64 prec] 23) := by
  unfold greatN
  go_enter Tryz.func4, Tryz.ntmps4
  go_wp2
  all_goals go_ret
  all_goals refine ⟨?_, rfl⟩
  all_goals simp only [Ending.returned.injEq]
  all_goals show Value.bool _ = Value.bool _
  all_goals congr 1
  all_goals rw [Bool.eq_iff_iff]
  all_goals simp
  all_goals omega
end Go.Proofs.YtffdkcadpkfhoaaGreatDoor
