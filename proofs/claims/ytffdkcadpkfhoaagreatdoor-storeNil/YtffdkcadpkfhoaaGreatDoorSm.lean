/- What a function reaches, by a table of what each function names. Conditions: none. -/
import Derived.Test.YtffdkcadpkfhoaaGreatDoorSa
import GoSem.ClaimFn
namespace Go.Evo

noncomputable def tabL (N : Nat) (t : Tr (List Nat)) (g : Nat) : List Nat := cond (Nat.blt g N) (match t.get g with
  | some l => l
  | none => []) []
noncomputable def clo (N : Nat) (t : Tr (List Nat)) : Nat → List Nat → Nat → List Nat → Option (List Nat)
  | 0, _, _, _ => none
  | _ + 1, [], _, acc => some acc.reverse
  | n + 1, f :: todo, m, acc => cond (Nat.testBit m f) (clo N t n todo m acc) (forceN (Nat.lor m (Nat.shiftLeft 1 f)) fun m' => clo N t n (tabL N t f ++ todo) m' (f :: acc))

theorem clo_ok {P : Program} {N : Nat} {t : Tr (List Nat)} (ht : ∀ f, (P.funcs[f]?).elim [] P.leadsTo = tabL N t f) : ∀ (n : Nat) (todo : List Nat) (m : Nat) (acc L : List Nat), (∀ f, Nat.testBit m f = acc.contains f) → clo N t n todo m acc = some L → ∀ n', n ≤ n' → P.closureVia n' todo acc = L
  | 0, todo, m, acc, L, _, h, n', _ => by cases h
  | n + 1, [], m, acc, L, _, h, n', _ => by
    have h' : some acc.reverse = some L := h
    cases h'
    cases n' with
    | zero => rfl
    | succ k => rfl
  | n + 1, f :: todo, m, acc, L, hm, h, n', hn => by
    obtain ⟨k, rfl⟩ : ∃ k, n' = k + 1 := ⟨n' - 1, by omega⟩
    have h' : cond (Nat.testBit m f) (clo N t n todo m acc) (forceN (Nat.lor m (Nat.shiftLeft 1 f)) fun m' => clo N t n (tabL N t f ++ todo) m' (f :: acc)) = some L := h
    rw [forceN_eq] at h'
    show (if acc.contains f then P.closureVia k todo acc else P.closureVia k ((P.funcs[f]?).elim [] P.leadsTo ++ todo) (f :: acc)) = L
    rw [← hm f]
    cases hb : Nat.testBit m f with
    | true =>
      rw [hb] at h'
      rw [if_pos rfl]
      exact clo_ok ht n todo m acc L hm h' k (by omega)
    | false =>
      rw [hb] at h'
      rw [if_neg (by simp), ht f]
      refine clo_ok ht n _ _ _ L ?_ h' k (by omega)
      intro g
      show Nat.testBit (m ||| 1 <<< f) g = (f :: acc).contains g
      rw [Nat.testBit_or, hm g, Nat.testBit_shiftLeft, List.contains_cons]
      by_cases hg : g = f
      · subst hg
        simp
      · have h1 : (g == f) = false := by simpa using hg
        rw [h1, Bool.false_or]
        have h2 : (decide (g ≥ f) && Nat.testBit 1 (g - f)) = false := by
          rcases Nat.lt_or_ge g f with h3 | h3
          · simp [show ¬ f ≤ g by omega]
          · have : g - f ≠ 0 := by omega
            have h5 : Nat.testBit 1 (g - f) = false := by
              cases h6 : Nat.testBit 1 (g - f) with
              | false => rfl
              | true => exact absurd (Nat.testBit_one_eq_true_iff_self_eq_zero.1 h6) this
            rw [h5, Bool.and_false]
        rw [h2, Bool.or_false]
theorem closure_of {P : Program} {N : Nat} {t : Tr (List Nat)} (ht : ∀ f, (P.funcs[f]?).elim [] P.leadsTo = tabL N t f) {n f : Nat} {L : List Nat} (hN : P.funcs.size = N) (hs : Nat.ble n (((List.range N).map fun i => (tabL N t i).length + 1).sum) = true) (h : clo N t n [f] 0 [] = some L) : P.closure f = L := by
  unfold Program.closure
  refine clo_ok ht n [f] 0 [] L (fun g => by simp) h _ ?_
  have : (P.funcs.toList.map fun g => (P.leadsTo g).length + 1) = (List.range N).map fun i => (tabL N t i).length + 1 := by
    apply List.ext_getElem?
    intro i
    rw [List.getElem?_map, List.getElem?_map, Array.getElem?_toList]
    have hi := ht i
    rcases Nat.lt_or_ge i N with h1 | h1
    · rw [List.getElem?_range h1]
      have h2 : P.funcs[i]? = some P.funcs[i] := Array.getElem?_eq_getElem (by omega)
      rw [h2] at hi ⊢
      simp only [Option.map_some]
      rw [← hi]
      rfl
    · rw [Array.getElem?_eq_none (by omega), List.getElem?_eq_none (by simpa using h1)]
      rfl
  rw [this]
  have := Nat.le_of_ble_eq_true hs
  omega

/-- A table of the functions' own: what is listed is what the function names. -/
noncomputable def leadB (P : Program) (N : Nat) (F : Tr Func) (t : Tr (List Nat)) (g : Nat) : Bool := match F.get g with
  | some fn => leqN (P.leadsTo fn) (tabL N t g)
  | none => false
noncomputable def globB (N : Nat) (F : Tr Func) (t : Tr (List Nat)) (g : Nat) : Bool := match F.get g with
  | some fn => (match fn.body with
    | some c => leqN c.globalsNamed (tabL N t g)
    | none => leqN [] (tabL N t g))
  | none => false
noncomputable def someB {α : Type} (t : Tr α) (g : Nat) : Bool := match t.get g with
  | some _ => true
  | none => false
theorem fm_congr {α β : Type} {f g : α → Option β} : ∀ {l : List α}, (∀ a ∈ l, f a = g a) → l.filterMap f = l.filterMap g
  | [], _ => rfl
  | a :: l, h => by
    rw [List.filterMap_cons, List.filterMap_cons, h a List.mem_cons_self, fm_congr fun b hb => h b (List.mem_cons_of_mem _ hb)]
theorem fl_congr {α β : Type} {f g : α → List β} (l : List α) (h : ∀ a, f a = g a) : l.flatMap f = l.flatMap g := by
  rw [show f = g from funext h]
theorem range_all {p : Nat → Bool} : ∀ {k a n : Nat}, (List.range' a k).all p = true → a ≤ n → n < a + k → p n = true
  | _, _, n, h, h1, h2 => List.all_eq_true.1 h n (List.mem_range'_1.2 ⟨h1, h2⟩)
end Go.Evo
