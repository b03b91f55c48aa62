/- What a step is, over any program whose types are as the law's: its shape, the types it is made of. Conditions: none. -/
import Derived.WideKeyArgs
import Derived.ProofKit
namespace Go.Proofs.YtffdkcadpkfhoaaGreatDoor
open Go.ChangeShapes Go.WideShapes Go.ChangeAt Go.RowKit

theorem int_of {P : Program} {t : TypeId} (hu : P.underlying t = some (.int .i64)) {W : World} {base : Nat} {v : Value} (h : Cell.okWide P W .any base t v) : ∃ n, v = .int .i64 n := by
  unfold Cell.okWide at h
  rw [hu] at h
  unfold Cell.ok at h
  rw [hu] at h
  cases v with
  | int k n => exact ⟨n, by rw [h.1]⟩
  | _ => exact h.elim
theorem str_of {P : Program} {t : TypeId} (hu : P.underlying t = some .string) {W : World} {base : Nat} {v : Value} (h : Cell.okWide P W .any base t v) : ∃ s, v = .string s := by
  unfold Cell.okWide at h
  rw [hu] at h
  unfold Cell.ok at h
  rw [hu] at h
  cases v with
  | string s => exact ⟨s, rfl⟩
  | _ => exact h.elim
theorem step_shape {P : Program} {fs : Array Field} (u23 : P.underlying 23 = some (.struct fs)) (ct : P.cellTypes P.depth 23 = some [3, 9, 9, 9, 3]) (c23 : P.cellsOf 23 = 5) (u3 : P.underlying 3 = some (.int .i64)) (u9 : P.underlying 9 = some .string)
    {W : World} {base : Nat} {v : Value} (h : Value.okWide P W .any base 23 v) : ∃ op s1 s2 s3 prec, v = .agg #[.int .i64 op, .string s1, .string s2, .string s3, .int .i64 prec] := by
  unfold Value.okWide at h
  rw [u23] at h
  obtain ⟨cs, rfl, hsz, ts, hts, _, hall⟩ := h
  rw [ct] at hts
  cases hts
  rw [c23] at hsz
  have at' : ∀ (i : Nat) (u : TypeId), i < 5 → [3, 9, 9, 9, 3][i % 5]? = some u → ∃ v, cs[i]? = some v ∧ Cell.okWide P W .any base u v := by
    intro i u hi hu
    have hi' : i < cs.size := by omega
    obtain ⟨u', h1, h2⟩ := hall i cs[i] (Array.getElem?_eq_getElem hi')
    have : u' = u := Option.some.inj (h1.symm.trans hu)
    subst this
    exact ⟨_, Array.getElem?_eq_getElem hi', h2⟩
  obtain ⟨v0, g0, w0⟩ := at' 0 3 (by omega) rfl
  obtain ⟨v1, g1, w1⟩ := at' 1 9 (by omega) rfl
  obtain ⟨v2, g2, w2⟩ := at' 2 9 (by omega) rfl
  obtain ⟨v3, g3, w3⟩ := at' 3 9 (by omega) rfl
  obtain ⟨v4, g4, w4⟩ := at' 4 3 (by omega) rfl
  obtain ⟨op, rfl⟩ := int_of u3 w0
  obtain ⟨s1, rfl⟩ := str_of u9 w1
  obtain ⟨s2, rfl⟩ := str_of u9 w2
  obtain ⟨s3, rfl⟩ := str_of u9 w3
  obtain ⟨prec, rfl⟩ := int_of u3 w4
  refine ⟨op, s1, s2, s3, prec, ?_⟩
  congr 1
  apply Array.ext_getElem?
  intro i
  match i with
  | 0 => rw [g0]; rfl
  | 1 => rw [g1]; rfl
  | 2 => rw [g2]; rfl
  | 3 => rw [g3]; rfl
  | 4 => rw [g4]; rfl
  | i + 5 => rw [Array.getElem?_eq_none (by omega), Array.getElem?_eq_none (by simp)]

theorem sameAt_of {W W' : World} {x : MemPlace} (h : W'.heap[x.block]? = W.heap[x.block]?) : W.sameAt W' x := by
  cases x with
  | cell b off =>
    show W'.cell? ⟨b, off, none⟩ = W.cell? ⟨b, off, none⟩
    have h' : W'.heap[b]? = W.heap[b]? := h
    unfold World.cell?
    rw [h']
  | map b => exact h
theorem kids_step {P : Program} {fs : Array Field} (u23 : P.underlying 23 = some (.struct fs)) (u9 : P.underlying 9 = some .string) (u3 : P.underlying 3 = some (.int .i64))
    (h1 : ∀ f ∈ fs.toList, f.type = 23 ∨ f.type = 9 ∨ f.type = 3) (h2 : P.cellsOf 23 = (fs.toList.map fun f => P.cellsOf f.type).sum)
    (h3 : ∀ (j : Nat) f, fs.toList[j]? = some f → f.offset = ((fs.toList.take j).map fun f => P.cellsOf f.type).sum) : Kids P (fun t => t = 23 ∨ t = 9 ∨ t = 3) := by
  have no : ∀ {t : TypeId} {d : TypeDesc}, (t = 23 ∨ t = 9 ∨ t = 3) → P.underlying t = some d → (t = 23 ∧ d = .struct fs) ∨ d = .string ∨ d = .int .i64 := by
    rintro t d (rfl | rfl | rfl) hu
    · rw [u23] at hu; exact .inl ⟨rfl, (Option.some.inj hu).symm⟩
    · rw [u9] at hu; exact .inr (.inl (Option.some.inj hu).symm)
    · rw [u3] at hu; exact .inr (.inr (Option.some.inj hu).symm)
  refine ⟨?_, ?_, ?_, ?_, ?_⟩
  · intro t e ht hu; rcases no ht hu with ⟨_, h⟩ | h | h <;> cases h
  · intro t e ht hu; rcases no ht hu with ⟨_, h⟩ | h | h <;> cases h
  · intro t e n ht hu; rcases no ht hu with ⟨_, h⟩ | h | h <;> cases h
  · intro t gs ht hu
    rcases no ht hu with ⟨rfl, h⟩ | h | h
    · cases h
      exact ⟨h1, h2, h3⟩
    · cases h
    · cases h
  · intro t k e ht hu; rcases no ht hu with ⟨_, h⟩ | h | h <;> cases h
end Go.Proofs.YtffdkcadpkfhoaaGreatDoor
