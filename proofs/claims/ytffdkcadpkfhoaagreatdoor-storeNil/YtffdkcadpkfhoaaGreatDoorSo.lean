/- What StoreNil reaches: the lists that its row tells. Conditions: none. -/
import Derived.Test.YtffdkcadpkfhoaaGreatDoorSn
import Derived.Test.YtffdkcadpkfhoaaGreatDoorRows
namespace Go.Proofs.YtffdkcadpkfhoaaGreatDoor
open Go.Evo
theorem nfuncs : Tryz.prog.funcs.size = 694 := by kernel_rfl
theorem leadAll (g : Nat) (h : g < 694) : leadB Tryz.prog 694 tF leadT g = true := by
  rcases Nat.lt_or_ge g 200 with h1 | h1
  · exact range_all lead0 (Nat.zero_le _) (by omega)
  · rcases Nat.lt_or_ge g 400 with h2 | h2
    · exact range_all lead1 h1 (by omega)
    · exact range_all lead2 h2 (by omega)
theorem globAll (g : Nat) (h : g < 694) : globB 694 tF globT g = true := by
  rcases Nat.lt_or_ge g 350 with h1 | h1
  · exact range_all glob0 (Nat.zero_le _) (by omega)
  · exact range_all glob1 h1 (by omega)
theorem tF_at {g : Nat} {fn : Func} (h : tF.get g = some fn) : Tryz.prog.funcs[g]? = some fn := E0ok.fok g fn h
theorem noLeads (t : Tr (List Nat)) (g : Nat) (h : 694 ≤ g) : tabL 694 t g = [] := by
  unfold tabL
  have : Nat.blt g 694 = false := by
    cases hb : Nat.blt g 694 with
    | false => rfl
    | true => exact absurd (blt_iff.1 hb) (by omega)
  rw [this]
  rfl
theorem leads (g : Nat) : (Tryz.prog.funcs[g]?).elim [] Tryz.prog.leadsTo = tabL 694 leadT g := by
  rcases Nat.lt_or_ge g 694 with h | h
  · have h1 := leadAll g h
    unfold leadB at h1
    split at h1
    · rename_i fn hfn
      rw [tF_at hfn]
      rw [leqN_eq] at h1
      simpa using h1
    · cases h1
  · rw [Array.getElem?_eq_none (by rw [nfuncs]; exact h), noLeads _ g h]
    rfl
theorem reach : Tryz.prog.closure 3 = reachL := closure_of leads nfuncs reach_sum reach_clo
theorem globs (g : Nat) : ((Tryz.prog.funcs[g]?).bind (·.body)).elim [] Code.globalsNamed = tabL 694 globT g := by
  rcases Nat.lt_or_ge g 694 with h | h
  · have h1 := globAll g h
    unfold globB at h1
    split at h1
    · rename_i fn hfn
      rw [tF_at hfn]
      split at h1
      · rename_i c hc
        rw [leqN_eq] at h1
        simpa [hc] using h1
      · rename_i hc
        rw [leqN_eq] at h1
        simpa [hc] using h1
    · cases h1
  · rw [Array.getElem?_eq_none (by rw [nfuncs]; exact h), noLeads _ g h]
    rfl
theorem inTable : reachL.all (someB tF) = true := by kernel_rfl
theorem at_reach (g : Nat) (h : g ∈ reachL) : Tryz.prog.funcs[g]? = tF.get g := by
  have h1 := List.all_eq_true.1 inTable g h
  unfold someB at h1
  split at h1
  · rename_i fn hfn
    rw [tF_at hfn, hfn]
  · cases h1
theorem filterMap_at {β : Type} (F : Option Func → Option β) : (reachL.filterMap fun g => F (Tryz.prog.funcs[g]?)) = reachL.filterMap fun g => F (tF.get g) := by
  refine fm_congr fun g hg => ?_
  rw [at_reach g hg]
theorem k_inPlace : (Rows.storeNilRow.inPlace == Tryz.prog.inPlace 3) = true := by
  unfold Program.inPlace
  rw [reach, filterMap_at fun o => o.bind fun fn => if fn.ours || fn.body.isNone || fn.name == "runtime.NumGoroutine" then some fn.name else none]
  kernel_rfl
theorem k_unf : (Rows.storeNilRow.unfollowed == Tryz.prog.unfollowed 3) = true := by
  unfold Program.unfollowed
  rw [reach]
  kernel_rfl
theorem k_rec : (Rows.storeNilRow.recurses == Tryz.prog.recurses 3) = true := by
  have h : Tryz.prog.unfollowed 3 = true := by
    unfold Program.unfollowed
    rw [reach]
    kernel_rfl
  unfold Program.recurses
  rw [h]
  rfl
theorem k_named : (Rows.storeNilRow.named == Tryz.prog.varsNamed 3) = true := by
  unfold Program.varsNamed
  rw [reach, filterMap_at fun o => o.bind fun fn => if fn.body.isNone then entryReads.lookup fn.name else none]
  rw [fl_congr reachL globs]
  kernel_rfl
end Go.Proofs.YtffdkcadpkfhoaaGreatDoor
