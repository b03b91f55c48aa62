/- StoreNil's row, whole. Conditions: none. -/
import Derived.Test.YtffdkcadpkfhoaaGreatDoorSi
namespace Go.Proofs.YtffdkcadpkfhoaaGreatDoor
open Go.ChangeShapes Go.WideShapes Go.ChangeAt Go.RowKit

theorem w1 (os : Os) : ((laidWorld os).forCall (fun _ _ => 0) ⟨#[], wArgs, []⟩).variablesB Tryz.checked.prog = true := by kernel_rfl
theorem w2 (os : Os) : (((laidWorld os).forCall (fun _ _ => 0) ⟨#[], wArgs, []⟩).heap.toList.drop Tryz.checked.prog.globals.size).take ((begin Tryz.checked.prog (fun _ _ => 0) default).world.heap.size - Tryz.checked.prog.globals.size) =
      (begin Tryz.checked.prog (fun _ _ => 0) default).world.heap.toList.drop Tryz.checked.prog.globals.size := by kernel_rfl
theorem w3 (os : Os) : Input.okWideB Tryz.checked.prog ((laidWorld os).forCall (fun _ _ => 0) ⟨#[], wArgs, []⟩) 3 ⟨#[], wArgs, []⟩ = true := by kernel_rfl
theorem noInit : Tryz.checked.prog.inits.idxOf? 3 = none := by kernel_rfl
theorem w4 {H : Type} (ds gs : List (DataW H)) : Rows.storeNilRow.domain.all (PathCond.test Tryz.checked.prog ⟨Tryz.f3.params.toList, ds, (OpenSpec.ofChange Rows.storeNilSpec).bare.plain.varTypes Tryz.checked.prog, gs⟩) = true := rfl
theorem w5 (os : Os) {H : Type} (enc : TypeId × Value → H) : (OpenSpec.ofChange Rows.storeNilSpec).bare.sizedB enc Tryz.prog Tryz.f3 false ((laidWorld os).forCall (fun _ _ => 0) ⟨#[], wArgs, []⟩).memory wArgs 8 = true := by kernel_rfl

set_option maxRecDepth 100000 in
set_option linter.constructorNameAsVariable false in
theorem lifted (os : Os) (started : os.Started) (H : Type) (enc : TypeId × Value → H) (F : Stop.Interp) :
    ReturnsInHanded {} Tryz.checked os 3 .any ((OpenSpec.ofChange Rows.storeNilSpec).preRow enc Tryz.prog Tryz.f3 Rows.storeNilRow.domain false Rows.storeNilRow.laid) (((OpenSpec.ofChange Rows.storeNilSpec).at F).post enc Tryz.prog Tryz.f3 false true false false) := by
  obtain ⟨places, hx⟩ := reads os enc
  refine returnsInHanded_of_row (C := Tryz.checked) (s := OpenSpec.ofChange Rows.storeNilSpec) own started noInit Tryz.func3
    (witness_row_at (enc := enc) (C := Tryz.checked) false (laidWorld os) wArgs rfl (w1 os) (w2 os) (w3 os)
      (OpenSpec.preRow_of_cond 8 hx (w4 _ _) (fun k hk => by cases hk) (w5 os enc) (laid_met os))) ?_
  intro W base args ds gs before hval hW _ _ _ hL _ _
  exact contract H enc W base args ds gs before hval hW hL
end Go.Proofs.YtffdkcadpkfhoaaGreatDoor
