/- A deferred function that looks for a panic does nothing where there is none; the deferred functions of this program that the reckoning lets stand. Conditions: none. -/
import Derived.Test.YtffdkcadpkfhoaaGreatDoorSa
import Derived.Tactics
import Derived.Tactics2
import Derived.Defers
import Derived.Recover
import Derived.KernelRfl
namespace Go.Proofs.YtffdkcadpkfhoaaGreatDoor
open Go.Evo
theorem f75_at : Tryz.prog.funcs[75]? = some Tryz.f75 := by kernel_rfl
theorem f75_tmps : Tryz.f75.ntmps = 22 := by kernel_rfl
theorem f75_res : Tryz.f75.results = #[] := by kernel_rfl
theorem f75_name : (Tryz.f75.name == "runtime.NumGoroutine") = false := by kernel_rfl
theorem neq20 (w : World) : (binOp BinOp.neq 20 Value.nilIface Value.nilIface).run Tryz.prog w = .ok (.bool false) w := by kernel_rfl
/-- What a function that looks for a panic does where there is none. -/
theorem idle75 : Idle Tryz.prog 75 := by
  refine ⟨by decide, fun args w => ?_, fun args w => ?_⟩
  · have hn : ¬ Tryz.f75.name = "runtime.NumGoroutine" := by intro h; have := f75_name; rw [h] at this; cases this
    have hb : ∃ c, Tryz.f75.body = some c := ⟨_, rfl⟩
    obtain ⟨c, hb⟩ := hb
    simp [callFunc, hn, hb]
  · refine callsD_of_wpS f75_at rfl fun c₀ cs hu => ?_
    rw [f75_tmps]
    have hsz : 22 ≤ (args ++ Array.replicate (22 - args.size) undef).size := by simp; omega
    generalize args ++ Array.replicate (22 - args.size) undef = T at hsz
    apply wpS_seq
    apply wpS_region
    simp [wpOpsS, go_sem, recoverD, hu, Exit.thenS]
    apply wpS_seq
    apply wpS_region
    have h3 : 3 < T.size := by omega
    have h6 : 6 < T.size := by omega
    have h7 : 7 < T.size := by omega
    have h8 : 8 < T.size := by omega
    simp [wpOpsS, go_sem, Exit.thenS, h3, h6, h7, Array.getD_eq_getD_getElem?]
    refine wpS_cond (t := false) (by simp [Act.eval, h8, Array.getD_eq_getD_getElem?]) ?_
    simp only [Bool.false_eq_true, if_false]
    refine wpS_of_wp (wp_skip ?_)
    cases c₀
    simp_all [bodyPostS, results]
    exact Quiet.refl _
theorem dq0_idle : ∀ g, dq0 g = true → Idle E0.P g := by
  intro g h
  have : g = 75 := by unfold dq0 at h; rwa [Nat.beq_eq] at h
  subst this
  exact idle75
end Go.Proofs.YtffdkcadpkfhoaaGreatDoor
