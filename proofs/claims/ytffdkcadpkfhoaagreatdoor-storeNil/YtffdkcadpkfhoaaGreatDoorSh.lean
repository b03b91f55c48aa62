/- StoreNil's contract: called in any world that holds the row's tables, it returns true and its step reads as it did. Conditions: none. -/
import Derived.Test.YtffdkcadpkfhoaaGreatDoorRows
import Derived.Test.YtffdkcadpkfhoaaGreatDoorSe
import Derived.Test.YtffdkcadpkfhoaaGreatDoorSf
import Derived.Test.YtffdkcadpkfhoaaGreatDoorSg
import Derived.Test.YtffdkcadpkfhoaaGreatDoorSk
import Derived.WalkKit
import Derived.ProofKit
import Derived.OpenShut
import Derived.WideKeyArgs
import Derived.Lib.LaidTab
import Derived.Stop.LaidErr
namespace Go.Proofs.YtffdkcadpkfhoaaGreatDoor
open Go.Evo Go.ChangeShapes Go.WideShapes Go.ChangeAt Go.RowKit

/-- The law answers true at every step. -/
theorem always (op prec : Int) (a b c : List Nat) : Pure1 E0 3 [stepA op prec a b c] (.bool true) :=
  storeNil_pure (awake_of (MOk.cons MOk.nil quad)) op prec a b c

theorem gTab : Tryz.prog.globalNamed "math/bits.deBruijn64tab" = some 1 := by kernel_rfl
theorem gTabType : (Tryz.prog.globals[1]?).map (·.type) = some 450 := by kernel_rfl
theorem cells450 : Tryz.prog.cellsOf 450 = 64 := by kernel_rfl
theorem u450 : ∃ e, Tryz.prog.underlying 450 = some (.array 64 e) ∧ Tryz.prog.underlying e = some (.int .u8) ∧ Tryz.prog.cellsOf e = 1 := by
  refine ⟨_, Tryz.underlying450, by kernel_rfl, by kernel_rfl⟩
/-- What the row lists, as the reckoning wants it. -/
theorem gr {W : World} (h : laidMetH Tryz.prog Rows.storeNilRow.laid W) : GR E0.gs E0.ng W := by
  have h0 : laidMet Tryz.prog Rows.storeNilRow.laid W := h
  have h1 : laidMet Tryz.prog (("math/bits.deBruijn64tab", Lib.tabData .u8 tab64) :: [("internal/strconv.uint64pow10", Rows.laid_internal_strconv_uint64pow10), ("math/bits.deBruijn32tab", Rows.laid_math_bits_deBruijn32tab)]) W := h0.tail.tail
  obtain ⟨e, h2, h3, h4⟩ := u450
  have h5 := Lib.tabIs_of_head gTab gTabType h2 h3 h4 cells450 h1
  unfold Lib.TabIs World.var? at h5
  rw [gTab] at h5
  simp only [Option.bind_some] at h5
  split at h5
  · rename_i cs t fr hc
    have hcs := Option.some.inj h5
    have hlt : 1 < W.heap.size := (Array.getElem?_eq_some_iff.1 hc).1
    refine ⟨hlt, ?_⟩
    intro g l hl
    have hl' : cond (Nat.beq g 1) (some (tab64.map fun n => AV.int .u8 n)) none = some l := hl
    cases hg : Nat.beq g 1 with
    | false => rw [hg] at hl'; cases hl'
    | true =>
      rw [hg] at hl'
      rw [Nat.beq_eq] at hg
      subst hg
      cases hl'
      refine ⟨Nat.lt_succ_self 1, cs, t, fr, hc, ?_⟩
      rw [hcs]
      have : ∀ zs : List Int, VRs (fun _ => none) (zs.map fun n => AV.int .u8 n) (((zs.map fun z => Value.int .u8 z).toArray).toList.take (zs.map fun n => AV.int .u8 n).length) := by
        intro zs
        have hlen : (zs.map fun n => AV.int .u8 n).length = (zs.map fun z => Value.int .u8 z).length := by simp
        rw [hlen, List.take_length]
        induction zs with
        | nil => unfold VRs; rfl
        | cons z zs ih =>
          unfold VRs
          exact ⟨_, _, rfl, by unfold VR; rfl, ih (by simp)⟩
      exact this tab64
  · cases h5

theorem ct23 : Tryz.prog.cellTypes Tryz.prog.depth 23 = some [3, 9, 9, 9, 3] := by kernel_rfl
theorem cells23 : Tryz.prog.cellsOf 23 = 5 := by kernel_rfl
theorem und3 : Tryz.prog.underlying 3 = some (.int .i64) := by kernel_rfl
theorem und9 : Tryz.prog.underlying 9 = some .string := by kernel_rfl
set_option maxRecDepth 100000 in
set_option linter.constructorNameAsVariable false in
theorem step_of {W : World} {base : Nat} {v : Value} (h : Value.okWide Tryz.prog W .any base 23 v) : ∃ op s1 s2 s3 prec, v = .agg #[.int .i64 op, .string s1, .string s2, .string s3, .int .i64 prec] :=
  step_shape Tryz.underlying23 ct23 cells23 und3 und9 h
theorem kids : Kids Tryz.prog (fun t => t = 23 ∨ t = 9 ∨ t = 3) := by
  refine kids_step Tryz.underlying23 und9 und3 ?_ ?_ ?_
  · intro f hf
    simp at hf
    rcases hf with rfl | rfl | rfl | rfl | rfl <;> simp
  · kernel_rfl
  · intro j f hf
    have hc3 : Tryz.prog.cellsOf 3 = 1 := by kernel_rfl
    have hc9 : Tryz.prog.cellsOf 9 = 1 := by kernel_rfl
    match j with
    | 0 => cases hf; rfl
    | 1 => cases hf; simp [hc3]
    | 2 => cases hf; simp [hc3, hc9]
    | 3 => cases hf; simp [hc3, hc9]
    | 4 => cases hf; simp [hc3, hc9]
    | j + 5 => simp at hf
theorem res3 : Tryz.f3.resultTypes = #[4] := by kernel_rfl

set_option maxRecDepth 100000 in
set_option linter.constructorNameAsVariable false in
theorem contract (H : Type) (enc : TypeId × Value → H) (W : World) (base : Nat) (args : Array Value) (ds gs : List (DataW H)) (before : List MemPlace)
    (hval : ∀ (j : Nat) t v, Tryz.f3.params[j]? = some t → args[j]? = some v → Value.okWide Tryz.prog W .any base t v)
    (hW : DataW.Whole enc Tryz.prog Tryz.f3.params.toList Rows.storeNilSpec.vars false W args.toList ds gs before) (hL : laidMetH Tryz.prog Rows.storeNilRow.laid W) :
    Calls Tryz.prog 3 args W fun e W' => ∃ v, e = .returned v ∧ Rows.storeNilSpec.post enc Tryz.prog Tryz.f3 false true false false W args v W' := by
  have hW' := hW
  obtain ⟨p, q, hA0, hV, rfl, hfz, hnd⟩ := hW
  have hA : DataW.TrodAll enc Tryz.prog W 0 (fun _ => true) true Tryz.f3.params.toList args.toList ds p := hA0
  rw [Tryz.params3] at hA hval
  obtain ⟨v0, vs0, d0, ds0, p0, q0, hargs, rfl, rfl, h0, r0⟩ := trodAll_cons hA
  obtain ⟨rfl, rfl, rfl⟩ := trodAll_nil r0
  obtain rfl : args = #[v0] := by cases args; simp_all
  obtain ⟨rfl, rfl⟩ := trodVars_none hV
  obtain ⟨op, s1, s2, s3, prec, rfl⟩ := step_of (hval 0 23 v0 rfl rfl)
  clear hA0 hA
  simp only [List.append_nil] at hW' hfz hnd
  have hv : VRs (fun _ => none) [stepA op prec (s1.data.toList.map UInt8.toNat) (s2.data.toList.map UInt8.toNat) (s3.data.toList.map UInt8.toNat)] (#[Value.agg #[.int .i64 op, .string s1, .string s2, .string s3, .int .i64 prec]]).toList := by
    unfold stepA
    simp only [VRs, VR]
    exact ⟨_, _, rfl, ⟨_, rfl, _, _, rfl, rfl, _, _, rfl, ⟨_, rfl, rfl⟩, _, _, rfl, ⟨_, rfl, rfl⟩, _, _, rfl, ⟨_, rfl, rfl⟩, _, _, rfl, rfl, rfl⟩, rfl⟩
  refine ((always op prec _ _ _).calls W _ (gr hL) hv).mono ?_
  rintro e W' ⟨v, rfl, hy, hsz, hfr, hb⟩
  have hv' : v = .bool true := by unfold VR at hy; exact hy
  subst hv'
  have hlt : ∀ x ∈ p0, x.block < W.heap.size := fun x hx => hW'.lt x (by simpa using hx)
  have hsame : ∀ x ∈ p0, W.sameAt W' x := by
    intro x hx
    exact sameAt_of (hfr x.block (hlt x hx))
  refine ⟨_, rfl, [d0], [], p0, [], p0, [], by simpa using hW', ?_, ?_, rfl, ?_, fun h => by cases h⟩
  · rw [res3]
    exact trodAll_mk1 (shut_bool Tryz.underlying4 _)
  · obtain ⟨n, hn⟩ := h0
    have hT : DataW.Trod enc Tryz.prog W' 0 (fun b => decide (b < W.heap.size)) true 23 (.agg #[.int .i64 op, .string s1, .string s2, .string s3, .int .i64 prec]) d0 p0 :=
      ⟨n, DataW.trod_stays kids (fun {t e} ht hu => by rcases ht with rfl | rfl | rfl <;> first | (rw [Tryz.underlying23] at hu; cases hu) | (rw [und9] at hu; cases hu) | (rw [und3] at hu; cases hu)) (fun h => by cases h) (.inl rfl) hn hsame (fun x hx => by simpa using hlt x hx)⟩
    rw [Tryz.params3]
    have h9 : DataW.TrodAll enc Tryz.prog W' 0 (fun b => decide (b < W.heap.size)) true [23] [.agg #[.int .i64 op, .string s1, .string s2, .string s3, .int .i64 prec]] [d0] p0 := by simpa using trodAll_mk1 hT
    exact h9
  · refine ⟨hb.os, hb.output, ?_⟩
    intro i hi
    rw [hfr i hi]
    cases h : W.heap[i]? with
    | none => rfl
    | some o =>
      cases o with
      | cells c t fr => exact ⟨rfl, rfl, rfl, fun _ _ => rfl⟩
      | map es clock => exact .inr ⟨rfl, rfl⟩
      | _ => rfl
end Go.Proofs.YtffdkcadpkfhoaaGreatDoor
