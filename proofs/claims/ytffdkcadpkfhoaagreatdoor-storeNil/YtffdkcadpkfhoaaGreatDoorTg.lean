/- StoreNil: whatever the step, the law returns true; its tied card. Conditions: none. -/
import Derived.Test.YtffdkcadpkfhoaaGreatDoorTf
import Derived.Test.YtffdkcadpkfhoaaGreatDoorCards
namespace Go.Proofs.YtffdkcadpkfhoaaGreatDoor
open Go
theorem storeNil_main : Tryz.pinned.checked.prog.mainIs = some (true, "b3fd678e300b72459e6dfea3f0cac7ad1ddfcb368eec686af381f2f83e68374b".toList) := by kernel_rfl
theorem storeNil_looks : true = Tryz.prog.looks [] := by kernel_rfl
theorem storeNil_wfText : Rows.storeNilRow.wfByText (OpenSpec.ofChange Rows.storeNilSpec) = true := by kernel_rfl
theorem storeNil_goes1 : (reachL.any fun g => (Tryz.prog.funcs[g]?).any Func.goes) = false := by kernel_rfl
theorem storeNil_goes2 : Tryz.prog.funcs.any Func.goes = false := by kernel_rfl
theorem storeNil_goes3 : Tryz.prog.goes 3 = false := by
  unfold Program.goes
  rw [reach, storeNil_goes1, storeNil_goes2, Bool.and_false]
  rfl
theorem storeNil_at3 : Tryz.prog.funcNamed "halfplane/halfplanelaw58.StoreNil" = some 3 := by kernel_rfl
theorem storeNil_stand : ([23].all fun u => !Tryz.prog.wantsStandIn u) = true := by kernel_rfl
theorem goesBy_of {P : Program} {c : OpenClaim} {f : FuncId} (h1 : c.start = .entering) (h2 : P.funcNamed c.func = some f) (h3 : P.goes f = false) : false = c.goesBy P := by
  unfold OpenClaim.goesBy Program.goesAt Program.goesFrom
  rw [h1, h2, Option.any_some, h3]
  rfl
theorem storeNil_goes : false = Rows.storeNilRow.goesBy Tryz.pinned.checked.prog := goesBy_of rfl storeNil_named storeNil_goes3
set_option maxRecDepth 100000 in
theorem storeNil_card : Rows.StoreNilCardSaid :=
  Claim7.holds_tied_plain_at .later [] [.pinned, .data, .data, .data, .data] true (true, "b3fd678e300b72459e6dfea3f0cac7ad1ddfcb368eec686af381f2f83e68374b") true
    storeNil_holds (fun _ h => by cases h) storeNil_wfText (fun _ h => by cases h) storeNil_tie rfl ⟨rfl, rfl⟩ storeNil_main rfl
    (fun f fn hf hfn => by
      obtain rfl : f = 3 := (Option.some.inj (storeNil_at3.symm.trans hf)).symm
      obtain rfl : fn = Tryz.f3 := (Option.some.inj (Tryz.func3.symm.trans hfn)).symm
      exact ⟨storeNil_looks, fun j t ht => by
        rw [Tryz.params3] at ht
        have hm : t ∈ [23] := by simpa using Array.mem_of_getElem? ht
        exact (show Tryz.prog.wantsStandIn t = false by simpa using List.all_eq_true.1 storeNil_stand t hm)⟩)
    storeNil_goes
#print axioms storeNil_card
end Go.Proofs.YtffdkcadpkfhoaaGreatDoor
