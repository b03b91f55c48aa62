/- StoreNil's row: what the given statement asks of every start. Conditions: none. -/
import Derived.Test.YtffdkcadpkfhoaaGreatDoorSh
import Derived.Deep.DeepHandedRow
namespace Go.Proofs.YtffdkcadpkfhoaaGreatDoor
open Go.ChangeShapes Go.WideShapes Go.ChangeAt Go.RowKit

theorem own : ownKnob Tryz.prog.godebug = none := by kernel_rfl

mutual
def litVals : DataW Unit → List Value
  | .lit (.int k n) => [.int k n]
  | .agg parts => litValsAll parts
  | _ => []
def litValsAll : List (DataW Unit) → List Value
  | [] => []
  | d :: r => litVals d ++ litValsAll r
end
def fillW (d : DataW Unit) : Obj → Obj
  | .cells _ t frozen => .cells (litVals d).toArray t frozen
  | o => o
/-- A world for the witness: the settled one, the tables holding what their initialisers lay. -/
noncomputable def laidWorld (os : Os) : World :=
  { World.holding Tryz.prog os ⟨#[], #[], []⟩ with heap := ((((((World.holding Tryz.prog os ⟨#[], #[], []⟩).heap.modify 0 (fillW Rows.laid_internal_strconv_uint64pow10)).modify 1 (fillW Rows.laid_math_bits_deBruijn64tab)).modify 2 (fillW Rows.laid_math_bits_deBruijn32tab)).modify 4 (fillW Rows.laid_unicode_utf8_first)).modify 5 (fillW Rows.laid_unicode_utf8_acceptRanges)) }
noncomputable def wArgs : Array Value := #[.agg #[.int .i64 0, .string ByteArray.empty, .string ByteArray.empty, .string ByteArray.empty, .int .i64 0]]
theorem laid_met (os : Os) : laidMet Tryz.prog Rows.storeNilRow.laid ((laidWorld os).forCall (fun _ _ => 0) ⟨#[], wArgs, []⟩).memory :=
  laidMet_of_run' 8 (by kernel_rfl) (by kernel_rfl)
theorem reads (os : Os) {H : Type} (enc : TypeId × Value → H) : ∃ places, DataW.whole enc Tryz.prog ((laidWorld os).forCall (fun _ _ => 0) ⟨#[], wArgs, []⟩).memory Tryz.f3.params.toList Rows.storeNilSpec.vars false wArgs.toList 8 = some ([.agg [.lit (.int .i64 0), .lit (.string []), .lit (.string []), .lit (.string []), .lit (.int .i64 0)]], [], places) :=
  ⟨[], by kernel_rfl⟩
end Go.Proofs.YtffdkcadpkfhoaaGreatDoor
