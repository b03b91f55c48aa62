/- The law StoreNil returns true at every step, where its first call awake does. Conditions: none. -/
import Derived.Test.YtffdkcadpkfhoaaGreatDoorSb
import Derived.Test.YtffdkcadpkfhoaaGreatDoorSc
import Derived.Test.YtffdkcadpkfhoaaGreatDoorSd
import Derived.KernelRfl
namespace Go.Proofs.YtffdkcadpkfhoaaGreatDoor
open Go.Evo
theorem great_pure (op prec : Int) (a b c : List Nat) : Pure1 E0 4 [stepA op prec a b c] (.bool (greatN a.length b.length c.length)) := by
  refine ⟨rfl, fun args w => enters_of Tryz.func4 rfl (by kernel_rfl) args w, ?_⟩
  intro w vs _ hv
  unfold stepA at hv
  simp only [VRs, VR] at hv
  obtain ⟨v, ys, h1, ⟨vs', rfl, x0, t0, h2, rfl, x1, t1, rfl, ⟨s1, rfl, e1⟩, x2, t2, rfl, ⟨s2, rfl, e2⟩, x3, t3, rfl, ⟨s3, rfl, e3⟩, x4, t4, rfl, rfl, rfl⟩, rfl⟩ := hv
  have hvs' : vs' = #[.int .i64 op, .string s1, .string s2, .string s3, .int .i64 prec] := by
    rw [← Array.toList_inj]; exact h2
  subst hvs'
  have hvs : vs = #[.agg #[.int .i64 op, .string s1, .string s2, .string s3, .int .i64 prec]] := by
    rw [← Array.toList_inj]; exact h1
  subst hvs
  have len : ∀ {s : ByteArray} {l : List Nat}, s.data.toList.map UInt8.toNat = l → l.length = s.size := by
    intro s l h
    rw [← h, List.length_map]; rfl
  rw [len e1, len e2, len e3]
  refine (great_walk w op prec s1 s2 s3).mono ?_
  rintro e w' ⟨rfl, rfl⟩
  refine ⟨_, rfl, by simp only [VR], ?_, ?_, ?_⟩
  · show w.heap.size ≤ (w.heap.push _).size
    rw [Array.size_push]; exact Nat.le_succ _
  · intro b hb
    show (w.heap.push _)[b]? = w.heap[b]?
    rw [Array.getElem?_push, if_neg (Nat.ne_of_lt hb)]
  · exact ⟨rfl, rfl, rfl⟩

theorem dom3 {ρ : Rho} {s : St} {a : Act} {w : World} (h : SR E0 n3 ρ s a w) : DomV V3 s.tm := by
  intro t x hx
  obtain ⟨v, h1, _⟩ := h.tm.get t x hx
  have ht : t < n3 := by
    rw [← h.tm.size]
    rcases Nat.lt_or_ge t a.tmps.size with h2 | h2
    · exact h2
    · rw [Array.getElem?_eq_none h2] at h1; cases h1
  unfold V3
  rw [Nat.testBit_two_pow_sub_one]
  exact decide_eq_true ht

set_option maxRecDepth 20000 in
theorem storeNil_pure (ha : Pure1 E0 5 [] (.bool true)) (op prec : Int) (a b c : List Nat) : Pure1 E0 3 [stepA op prec a b c] (.bool true) := by
  have hk5 : KOk E0 [(5, [], .bool true)] := KOk.cons KOk.nil ha
  have hk := kfOf_ok hk5
  have hc := callV_ok E0ok fns0 (X := X0) (kf := kf5) hk.1 hk.2 dq0_idle 1000 9
  have hcK : CallOk E0 K5.cf := hc.1
  have heK : Enters E0 K5.cf := hc.2
  refine pure_of_walk (V := V3) (c := c3) (dq := dq0) E0ok dq0_idle Tryz.func3 rfl (by kernel_rfl) rfl rfl (Nat.le_of_ble_eq_true (by kernel_rfl)) ?_
  intro act w hs hd
  have hn : Tryz.f3.ntmps = n3 := rfl
  rw [hn] at hs ⊢
  generalize hQ : EndsIn E0 dq0 n3 Tryz.f3.results.toList (fun _ => none) ⟨argsV V3 [stepA op prec a b c] 0 .nil, .nil, 0, []⟩ w (.bool true) = Q
  have hs0 : SR E0 n3 (fun _ => none) (s0 op prec a b c) act w := hs
  rw [c3_eq]
  apply wp_seq
  refine wp_mono (cfW_ok E0ok hcK heK r0 1000 _ _ act w _ hs0 hd (e1 op prec a b c) (by simp)) ?_
  rintro e a1 w1 ⟨rfl, ρ1, h1, g1⟩
  show Code.wp E0.P _ Q a1 w1
  apply wp_seq
  apply wp_seq
  apply wp_region
  have hsz : ops1.size = 6 := by rw [ops1_eq]; rfl
  rw [hsz, List.range_eq_range']
  -- the load
  have o0 : ops1[0]? = some (oAt 0) := by rw [ops1_eq]; rfl
  have o1 : ops1[1]? = some (oAt 1) := by rw [ops1_eq]; rfl
  have seg : ∀ (i : Nat) (l : List Oper) (m : Nat), i + l.length + m = 6 → (∀ j, j < l.length → ops1[i + j]? = l[j]?) → ∀ {ρ : Rho} {s s' : St} {a : Act} {w : World} {R : Exit → Act → World → Prop}, SR E0 n3 ρ s a w → (regR n3 V3 ops1 l []).app E0 K5 [] s.tm s.hp s.nx s.df = .norm s' →
      (∀ a' w', Behind E0 n3 ρ s w s' a' w' → wpOps E0.P ops1 R (List.range' (i + l.length) m) a' w') → wpOps E0.P ops1 R (List.range' i (l.length + m)) a w := by
    intro i l m _ hl ρ s s' a w R hs h hR
    exact regR_tail E0ok hcK heK (V := V3) (n := n3) m l i (sh := []) (st := []) hl ⟨hs.tm, hs.tm, dom3 hs, hs.r, hs.df⟩ h hR
  refine seg 0 [oAt 0] 5 (by rfl) (fun j hj => ?_) h1 (e2 op prec a b c) ?_
  · have : j = 0 := by simpa using hj
    subst this; exact o0
  rintro a2 w2 ⟨ρ2, h2, g2⟩
  refine wpOps_one (m := 4) o1 gd01.2 ?_
  have k1 := call4 op prec a b c
  have k2 := (great_pure op prec a b c).enters
  have k3 : ∀ vs : Array Value, VRs ρ2 [stepA op prec a b c] vs.toList → Calls E0.P 4 vs w2 (CPost E0 ρ2 (s2 op prec a b c).hp (s2 op prec a b c).nx w2 (.bool (greatN a.length b.length c.length)) (s2 op prec a b c).hp (s2 op prec a b c).nx) := fun vs hv => (great_pure op prec a b c).ok h2.r hv
  have k4 := put14 op prec a b c (greatN a.length b.length c.length)
  generalize greatN a.length b.length c.length = t at k3 k4
  generalize hs2 : s2 op prec a b c = S2 at h2 k1 k3 k4
  generalize hs2' : s2' op prec a b c t = S2' at k4
  have hst := fun Q => step_call h2 k1 k2 k3 k4 Q
  refine Oper.wp_mono ?_ (hst _)
  rintro a3 w3 ⟨ρ3, h3, g3⟩
  have hS2' : S2' = ⟨S2'.tm, S2.hp, S2.nx, S2.df⟩ := by rw [← hs2', ← hs2]; rfl
  rw [← hS2'] at h3
  have h3' : SR E0 n3 ρ3 (s2' op prec a b c t) a3 w3 := by rw [hs2']; exact h3
  have e3 : (regR n3 V3 ops1 [oAt 2, oAt 3, oAt 4, oAt 5] []).app E0 K5 [] (s2' op prec a b c t).tm (s2' op prec a b c t).hp (s2' op prec a b c t).nx (s2' op prec a b c t).df = .norm (s3 op prec a b c t) := by
    cases t
    · exact e3f op prec a b c
    · exact e3t op prec a b c
  have gg : G (fun _ => none) (s0 op prec a b c).hp (s0 op prec a b c).nx w ρ3 (s2' op prec a b c t).hp (s2' op prec a b c t).nx w3 := by
    rw [hs2] at g2
    have hh : (s2' op prec a b c t).hp = S2.hp ∧ (s2' op prec a b c t).nx = S2.nx := by rw [← hs2]; exact ⟨rfl, rfl⟩
    rw [hh.1, hh.2]
    exact (g1.trans g2).trans g3
  refine seg 2 [oAt 2, oAt 3, oAt 4, oAt 5] 0 (by rfl) (fun j hj => ?_) h3' e3 ?_
  · rw [ops1_eq]
    have : j < 4 := hj
    match j, this with
    | 0, _ => rfl
    | 1, _ => rfl
    | 2, _ => rfl
    | 3, _ => rfl
  rintro a4 w4 ⟨ρ4, h4, g4⟩
  show Exit.then _ _ .normal a4 w4
  show Code.wp E0.P cnd _ a4 w4
  cases t with
  | true =>
    refine wp_mono (cfW_ok E0ok hcK heK cnd 1000 _ _ a4 w4 _ h4 (dom3 h4) (eT op prec a b c) (by simp)) ?_
    rintro e a5 w5 ⟨rfl, ρ5, h5, g5⟩
    show Q .ret a5 w5
    rw [← hQ]
    obtain ⟨hp', nx', he⟩ := tru_spec (endT op prec a b c)
    exact ⟨.inr rfl, _, hp', nx', ⟨ρ5, h5, (gg.trans g4).trans g5⟩, he⟩
  | false =>
    refine wp_mono (cfW_ok E0ok hcK heK cnd 1000 _ _ a4 w4 _ h4 (dom3 h4) (eF op prec a b c) (by simp)) ?_
    rintro e a5 w5 ⟨rfl, ρ5, h5, g5⟩
    show Code.wp E0.P rest _ a5 w5
    refine wp_mono (cfW_ok E0ok hcK heK rest 1000 _ _ a5 w5 _ h5 (dom3 h5) (eR op prec a b c) (by simp)) ?_
    rintro e a6 w6 ⟨rfl, ρ6, h6, g6⟩
    rw [← hQ]
    obtain ⟨hp', nx', he⟩ := tru_spec (endR op prec a b c)
    exact ⟨.inr rfl, _, hp', nx', ⟨ρ6, h6, ((gg.trans g4).trans g5).trans g6⟩, he⟩
end Go.Proofs.YtffdkcadpkfhoaaGreatDoor
