/- A verified evaluator for the model of Go, part 5: what it reckons of a call, the call does in every world that its abstract heap speaks of. Conditions: none. -/
import Derived.Test.YtffdkcadpkfhoaaGreatDoorEd
namespace Go.Evo

variable {E : Env} (ok : E.Ok)

theorem wrap_i64_nat {n : Nat} (h : n < 2 ^ 62) : IntKind.i64.wrap (n : Int) = n := by
  rw [wrap_eq]
  have h1 : modN .i64 = 18446744073709551616 := rfl
  have h2 : maxN .i64 = 9223372036854775807 := rfl
  rw [h1, h2]
  rw [if_neg (by omega)]
  omega

theorem run_make_evo {P : Program} {w : World} {t e l c : Nat} {k1 k2 : IntKind} {i : TypeInfo} {z : Value} (ht : P.underlying t = some (.slice e)) (hi : P.info? e = some i) (hz : i.zero = some z) (hlc : l ≤ c) (hc : c ≤ 1000000) (hb : i.bytes ≤ 10000) :
    (Instr.makeSlice t (.int k1 l) (.int k2 c)).run P w = .ok (.slice (some ⟨w.heap.size, 0, none⟩) l c) (w.alloc (.cells ((Array.range (c * i.size)).map (fun j => z.cells[j % z.cells.size]!)) e)) := by
  have h1 := wrap_i64_nat (n := l) (by omega)
  have h2 := wrap_i64_nat (n := c) (by omega)
  have h3 : (i.bytes : Int) * (c : Int) ≤ 10000000000 := by
    have : i.bytes * c ≤ 10000 * 1000000 := Nat.mul_le_mul hb hc
    have h4 : ((i.bytes * c : Nat) : Int) ≤ ((10000 * 1000000 : Nat) : Int) := Int.ofNat_le.2 this
    simpa using h4
  have h5 : ¬ ((c : Int) < 0) := by omega
  have h6 : ¬ ((l : Int) < 0) := by omega
  have h7 : ¬ ((c : Int) < (l : Int)) := by omega
  have h8 : ¬ (281474976710656 < (i.bytes : Int) * (c : Int)) := by omega
  by_cases hn : c * i.size = 0
  · have e0 : ∀ f : Nat → Value, Array.map f (Array.range 0) = #[] := fun f => Array.eq_empty_of_size_eq_zero (by simp)
    simp [Instr.makeSlice, run_underlying ht, asInt, asIntOf, typeInfo, hi, h1, h2, h5, h6, h7, h8, sizeOf, newRow]
    rw [if_pos hn, hn, e0, e0]
  · simp [Instr.makeSlice, run_underlying ht, asInt, asIntOf, typeInfo, hi, hz, zeroValue, h1, h2, h5, h6, h7, h8, sizeOf, newRow]
    intro h
    exact absurd h hn

noncomputable def aMake (E : Env) (hp : Hp) (nx t : Nat) (l c : AV) : Option (AV × Hp × Nat) :=
  match natOf l with
  | none => none
  | some l => match natOf c with
    | none => none
    | some c => match E.und t with
      | none => none
      | some d => match sliceElem d with
        | none => none
        | some e => match E.T.get e with
          | none => none
          | some i => match zeroOf E e with
            | none => none
            | some z => cond (Nat.beq z.length i.size) (cond (Nat.blt 0 i.size) (cond (Nat.ble l c) (cond (Nat.ble c 1000000) (cond (Nat.ble i.bytes 10000)
                (some (.sl nx 0 l c, hp.set nx (.cells true e (ofCells (repl z c)) (Nat.mul c i.size)), Nat.succ nx)) none) none) none) none) none

include ok in
theorem aMake_ok {ρ : Rho} {hp hp' : Hp} {nx nx' : Nat} {w : World} {t : Nat} {l c y : AV} {lv cv : Value} (r : E.R ρ hp nx w) (hl : VR ρ l lv) (hc : VR ρ c cv) (h : aMake E hp nx t l c = some (y, hp', nx')) :
    Did E ρ hp nx w y hp' nx' ((do pure (Next.value (← Instr.makeSlice t lv cv)) : Sem Next).run E.P w) := by
  unfold aMake at h
  cases h1 : natOf l with
  | none => rw [h1] at h; cases h
  | some ln =>
    rw [h1] at h; simp only at h
    obtain ⟨k1, rfl⟩ := natOf_inv hl h1
    cases h2 : natOf c with
    | none => rw [h2] at h; cases h
    | some cn =>
      rw [h2] at h; simp only at h
      obtain ⟨k2, rfl⟩ := natOf_inv hc h2
      cases hd : E.und t with
      | none => rw [hd] at h; cases h
      | some d =>
        rw [hd] at h; simp only at h
        cases he : sliceElem d with
        | none => rw [he] at h; cases h
        | some e =>
          rw [he] at h; simp only at h
          have := sliceElem_inv he; subst this
          cases hi : E.T.get e with
          | none => rw [hi] at h; cases h
          | some i =>
            rw [hi] at h; simp only at h
            cases hz : zeroOf E e with
            | none => rw [hz] at h; cases h
            | some z =>
              rw [hz] at h; simp only at h
              cases q1 : Nat.beq z.length i.size with
              | false => rw [q1] at h; cases h
              | true =>
                rw [q1] at h; simp only [cond_true] at h
                cases q2 : Nat.blt 0 i.size with
                | false => rw [q2] at h; cases h
                | true =>
                  rw [q2] at h; simp only [cond_true] at h
                  cases q3 : Nat.ble ln cn with
                  | false => rw [q3] at h; cases h
                  | true =>
                    rw [q3] at h; simp only [cond_true] at h
                    cases q4 : Nat.ble cn 1000000 with
                    | false => rw [q4] at h; cases h
                    | true =>
                      rw [q4] at h; simp only [cond_true] at h
                      cases q5 : Nat.ble i.bytes 10000 with
                      | false => rw [q5] at h; cases h
                      | true =>
                        rw [q5] at h; cases h
                        rw [Nat.beq_eq] at q1
                        rw [blt_iff] at q2
                        rw [ble_iff] at q3 q4 q5
                        have hinfo := ok.tok e i hi
                        obtain ⟨zv, hzv, hzr⟩ : ∃ zv, i.zero = some zv ∧ VRs ρ z zv.cells.toList := by
                          unfold zeroOf at hz
                          rw [hi] at hz
                          simp only at hz
                          cases hzz : i.zero with
                          | none => rw [hzz] at hz; cases hz
                          | some zv => rw [hzz] at hz; exact ⟨zv, rfl, ofVs_ok hz⟩
                        have hzs : zv.cells.size = i.size := by have := hzr.length; simp at this; omega
                        have hrun := run_make_evo (P := E.P) (w := w) (k1 := k1) (k2 := k2) (und_ok ok hd) hinfo hzv q3 q4 q5
                        have hrep := VRs.repl hzr (by omega) cn (cn * i.size) (by rw [q1])
                        have hrl : (repl z cn).length = cn * i.size := by rw [repl_length, q1]
                        have hD := did_alloc (k := some 0) (elem := e) r hrep (res := .ok (.value (mkV (some 0) w.heap.size)) { w with heap := w.heap.push (.cells ((Array.range (cn * i.size)).map (fun j => zv.cells[j % zv.cells.size]!)) e) }) rfl
                        obtain ⟨vc, w', ρ', hres, _, hr2, hg2⟩ := hD
                        rw [hrl] at hr2 hg2
                        have hw' : w' = w.alloc (.cells ((Array.range (cn * i.size)).map (fun j => zv.cells[j % zv.cells.size]!)) e) := by
                          rcases hres with hres | ⟨hres, _⟩
                          · cases hres; rfl
                          · cases hres
                        subst hw'
                        have hput : ρ' nx = some (w.heap.size, 0, cn * i.size) := by
                          obtain ⟨b, sh, e0, q, hor⟩ := hr2.hr nx _ (by rw [Tr.get_set, if_pos rfl])
                          rw [q]
                          obtain ⟨c0, fr, t1, t2, t3, t4, _⟩ := hor
                          obtain ⟨t5, t6⟩ := t4 rfl
                          have hfr := hg2.img nx _ b sh e0 (by rw [Tr.get_set, if_pos rfl]) q
                          have hblk : b = w.heap.size := by
                            have hlt : b < (w.alloc (.cells ((Array.range (cn * i.size)).map (fun j => zv.cells[j % zv.cells.size]!)) e)).heap.size := by
                              rcases Nat.lt_or_ge b (w.alloc (.cells ((Array.range (cn * i.size)).map (fun j => zv.cells[j % zv.cells.size]!)) e)).heap.size with h | h
                              · exact h
                              · rw [Array.getElem?_eq_none h] at t1; cases t1
                            have hsz : (w.alloc (.cells ((Array.range (cn * i.size)).map (fun j => zv.cells[j % zv.cells.size]!)) e)).heap.size = w.heap.size + 1 := by
                              show (w.heap.push _).size = _
                              simp
                            rcases hfr with h | ⟨id0, o0, sh0, e1, h1, h2⟩
                            · omega
                            · exfalso
                              have hne : id0 ≠ nx := by
                                intro e2; subst e2
                                rw [r.fresh _ (Nat.le_refl _)] at h2; cases h2
                              exact hr2.sep nx id0 _ o0 b sh e0 b sh0 e1 (by rw [Tr.get_set, if_pos rfl]) (by rw [Tr.get_set, if_neg (fun e => hne e.symm)]; exact h1) q (hg2.ext _ _ h2) (fun e => hne e.symm) rfl
                          rw [hblk, t5, t6]
                        refine did_plain hrun ?_ hr2 hg2
                        unfold VR
                        exact ⟨w.heap.size, 0, cn * i.size, hput, rfl⟩

/-- An object that is no row, made. -/
theorem objMade {ρ : Rho} {hp : Hp} {nx : Nat} {w w' : World} {ob : Obj} {o : AObj} (r : E.R ρ hp nx w) (hw : w'.heap = w.heap.push ob) (hx : Beside w w') (ho : OR (ρ.put nx (w.heap.size, 0, 0)) w' o w.heap.size 0 0) :
    E.R (ρ.put nx (w.heap.size, 0, 0)) (hp.set nx o) (Nat.succ nx) w' ∧ G ρ hp nx w (ρ.put nx (w.heap.size, 0, 0)) (hp.set nx o) (Nat.succ nx) w' := by
  have hold : ∀ b', b' < w.heap.size → w'.heap[b']? = w.heap[b']? := by
    intro b hb
    rw [hw, Array.getElem?_push, if_neg (by omega)]
  exact ⟨R.alloc r (r.fresh nx (Nat.le_refl _)) (Nat.le_succ _) (Nat.lt_succ_self _) hold (by rw [hw]; simp) ho, G.alloc r (Nat.lt_succ_self _) hold (by rw [hw]; simp) hx⟩

/-- An object that is no row, changed. -/
theorem objSet {ρ : Rho} {hp : Hp} {nx : Nat} {w : World} {id b sh e : Nat} {o o' : AObj} {ob ob' : Obj} (r : E.R ρ hp nx w) (hg : hp.get id = some o) (hρ : ρ id = some (b, sh, e)) (hb : w.heap[b]? = some ob) (hno : ∀ c t f, ob ≠ .cells c t f)
    (ho : ∀ w' : World, w'.heap[b]? = some ob' → OR ρ w' o' b sh e) :
    ∃ w', (setObj b ob').run E.P w = .ok () w' ∧ E.R ρ (hp.set id o') nx w' ∧ G ρ hp nx w ρ (hp.set id o') nx w' := by
  have hlt : b < w.heap.size := by
    rcases Nat.lt_or_ge b w.heap.size with h | h
    · exact h
    · rw [Array.getElem?_eq_none h] at hb; cases hb
  refine ⟨{ w with heap := w.heap.setIfInBounds b ob' }, ?_, ?_⟩
  · cases ob <;> first
      | exact absurd rfl (hno _ _ _)
      | simp [setObj, Sem.run, hb]
  · refine r.update hg hρ ?_ (by simp) (ho _ ?_) ⟨rfl, rfl, rfl⟩
    · intro b' hb'
      simp only
      rw [Array.getElem?_setIfInBounds_ne (fun e => hb' e.symm)]
    · simp only
      rw [Array.getElem?_setIfInBounds_self_of_lt hlt]

noncomputable def aMakeMap (hp : Hp) (nx : Nat) : AV × Hp × Nat := (.map nx, hp.set nx (.map [] 0), Nat.succ nx)
theorem aMakeMap_ok {ρ : Rho} {hp : Hp} {nx : Nat} {w : World} {t : Nat} (r : E.R ρ hp nx w) :
    Did E ρ hp nx w (aMakeMap hp nx).1 (aMakeMap hp nx).2.1 (aMakeMap hp nx).2.2 ((do pure (Next.value (← Instr.makeMap t none)) : Sem Next).run E.P w) := by
  have hw : (Instr.makeMap t none).run E.P w = .ok (.map (some w.heap.size)) (w.alloc (.map #[] 0)) := by simp [Instr.makeMap]
  obtain ⟨r1, g1⟩ := objMade (E := E) (w' := w.alloc (.map #[] 0)) (ob := .map #[] 0) (o := .map [] 0) r rfl ⟨rfl, rfl, rfl⟩ ⟨#[], (by show (w.heap.push _)[w.heap.size]? = _; simp), by unfold ER; rfl⟩
  exact did_plain hw (by unfold aMakeMap; simp only; unfold VR; exact ⟨w.heap.size, 0, 0, Rho.put_self _ _ _, rfl⟩) r1 g1

/-- A key that stays a key whichever of two equal ones is kept. -/
noncomputable def keySame (x y : AV) : Bool :=
  match x, y with
  | .int k a, .int k' b => cond (Nat.beq (kix k) (kix k')) (ieq a b) false
  | .str a, .str b => leqN a b
  | .bool a, .bool b => cond a b (!b)
  | .agg l, .agg m => (match flatEq l m with | some true => true | _ => false)
  | _, _ => false

theorem flatEq_vals {ρ : Rho} : ∀ {l m : List AV} {vs us : List Value}, VRs ρ l vs → VRs ρ m us → flatEq l m = some true → vs = us ∧ ∀ n, (vs.zip us).all (fun (p : Value × Value) => Instr.sameBits n p.1 p.2) = true
  | [], [], vs, us, hv, hu, _ => by unfold VRs at hv hu; subst hv; subst hu; exact ⟨rfl, fun _ => rfl⟩
  | [], _ :: _, _, _, _, _, h => by unfold flatEq at h; cases h
  | .bool _ :: _, [], _, _, _, _, h => by unfold flatEq at h; cases h
  | .int _ _ :: _, [], _, _, _, _, h => by unfold flatEq at h; cases h
  | .str _ :: _, [], _, _, _, _, h => by unfold flatEq at h; cases h
  | x :: l, y :: m, vs, us, hv, hu, h => by
    unfold VRs at hv hu
    obtain ⟨v, vs, rfl, hx, hl⟩ := hv
    obtain ⟨u, us, rfl, hy, hm⟩ := hu
    unfold flatEq at h
    split at h
    · rename_i e1 _; cases e1
    · rename_i k a l' k' b m' e1 e2
      cases e1; cases e2
      cases hk : Nat.beq (kix k) (kix k') with
      | false => rw [hk] at h; cases h
      | true =>
        rw [hk] at h; simp only [cond_true] at h
        have := kix_inj hk; subst this
        cases hab : ieq a b with
        | false => rw [hab] at h; cases h
        | true =>
          rw [hab] at h; simp only [cond_true] at h
          rw [ieq_eq] at hab
          have hab' : a = b := of_decide_eq_true hab
          subst hab'
          unfold VR at hx hy; subst hx; subst hy
          obtain ⟨q1, q2⟩ := flatEq_vals hl hm h
          subst q1
          refine ⟨rfl, fun n => ?_⟩
          simp only [List.zip_cons_cons, List.all_cons, q2 n, Bool.and_true]
          cases n <;> simp [Instr.sameBits]
    · rename_i a l' b m' e1 e2
      cases e1; cases e2
      cases hab : (cond a b (!b)) with
      | false => rw [hab] at h; cases h
      | true =>
        rw [hab] at h; simp only [cond_true] at h
        have hab' : a = b := by cases a <;> cases b <;> first | rfl | cases hab
        subst hab'
        unfold VR at hx hy; subst hx; subst hy
        obtain ⟨q1, q2⟩ := flatEq_vals hl hm h
        subst q1
        refine ⟨rfl, fun n => ?_⟩
        simp only [List.zip_cons_cons, List.all_cons, q2 n, Bool.and_true]
        cases n <;> simp [Instr.sameBits]
    · rename_i a l' b m' e1 e2
      cases e1; cases e2
      cases hab : leqN a b with
      | false => rw [hab] at h; cases h
      | true =>
        rw [hab] at h; simp only [cond_true] at h
        rw [leqN_eq] at hab
        have hab' : a = b := of_decide_eq_true hab
        subst hab'
        unfold VR at hx hy
        obtain ⟨s, rfl, hs⟩ := hx
        obtain ⟨s', rfl, hs'⟩ := hy
        have hss : (s == s') = true := by rw [beq_bytes, leqN_eq, decide_eq_true_iff, hs, hs']
        have hsd : s.data = s'.data := by
          have : (s.data == s'.data) = true := hss
          exact beq_iff_eq.1 this
        have hse : s = s' := by cases s; cases s'; simp at hsd; rw [hsd]
        subst hse
        obtain ⟨q1, q2⟩ := flatEq_vals hl hm h
        subst q1
        refine ⟨rfl, fun n => ?_⟩
        simp only [List.zip_cons_cons, List.all_cons, q2 n, Bool.and_true]
        cases n <;> simp [Instr.sameBits, hss]
    · cases h

theorem keySame_ok {P : Program} {w : World} {ρ : Rho} {x y : AV} {v u : Value} (hx : VR ρ x v) (hy : VR ρ y u) (h : keySame x y = true) : (Instr.keyThatStays v u).run P w = .ok u w := by
  have key : Instr.sameBits 10000 v u = true := by
    unfold keySame at h
    split at h
    · rename_i k a k' b
      cases hk : Nat.beq (kix k) (kix k') with
      | false => rw [hk] at h; cases h
      | true =>
        rw [hk] at h; simp only [cond_true] at h
        have := kix_inj hk; subst this
        rw [ieq_eq] at h
        have := of_decide_eq_true h; subst this
        unfold VR at hx hy; subst hx; subst hy
        simp [Instr.sameBits]
    · rename_i a b
      unfold VR at hx hy
      obtain ⟨s, rfl, rfl⟩ := hx
      obtain ⟨s', rfl, rfl⟩ := hy
      simp [Instr.sameBits, beq_bytes, h]
    · rename_i a b
      unfold VR at hx hy; subst hx; subst hy
      cases a <;> cases b <;> first | (simp [Instr.sameBits]; done) | cases h
    · rename_i l m
      split at h
      · rename_i hf
        unfold VR at hx hy
        obtain ⟨vs, rfl, hl⟩ := hx
        obtain ⟨us, rfl, hm⟩ := hy
        obtain ⟨q1, q2⟩ := flatEq_vals hl hm hf
        have hsz : vs.size = us.size := by
          have := congrArg List.length q1
          simpa using this
        show (vs.size == us.size && (vs.toList.zip us.toList).all fun (x, y) => Instr.sameBits 9999 x y) = true
        rw [hsz]
        have := q2 9999
        simp only [beq_self_eq_true, Bool.true_and]
        exact this
      · cases h
    · cases h
  simp [Instr.keyThatStays, key]

end Go.Evo
namespace Go.Evo

variable {E : Env} (ok : E.Ok)

noncomputable def updE : List (AV × AV × Nat) → Nat → AV → AV → List (AV × AV × Nat)
  | [], _, _, _ => []
  | (_, _, b) :: l, 0, k, x => (k, x, b) :: l
  | e :: l, i + 1, k, x => e :: updE l i k x
theorem ER.upd {ρ : Rho} {k x : AV} {kv xv : Value} (hk : VR ρ k kv) (hx : VR ρ x xv) : ∀ {l : List (AV × AV × Nat)} {es : List MapEntry} (i : Nat), ER ρ l es →
    ER ρ (updE l i k x) (es.modify i fun e => { e with key := kv, val := xv })
  | [], es, i, h => by unfold ER at h; subst h; unfold updE ER; cases i <;> rfl
  | (a, b, c) :: l, es, 0, h => by
    unfold ER at h
    obtain ⟨e, es', rfl, h1, h2, h3, h4⟩ := h
    unfold updE ER
    exact ⟨_, es', rfl, hk, hx, h3, h4⟩
  | (a, b, c) :: l, es, i + 1, h => by
    unfold ER at h
    obtain ⟨e, es', rfl, h1, h2, h3, h4⟩ := h
    unfold updE ER
    exact ⟨e, _, rfl, h1, h2, h3, ER.upd hk hx i h4⟩
theorem ER.snoc {ρ : Rho} {k x : AV} {e : MapEntry} {b : Nat} (hk : VR ρ k e.key) (hx : VR ρ x e.val) (hb : e.born = b) : ∀ {l : List (AV × AV × Nat)} {es : List MapEntry}, ER ρ l es → ER ρ (l ++ [(k, x, b)]) (es ++ [e])
  | [], es, h => by unfold ER at h; subst h; unfold ER; exact ⟨e, [], rfl, hk, hx, hb, by unfold ER; rfl⟩
  | (a, c, d) :: l, es, h => by
    unfold ER at h
    obtain ⟨e', es', rfl, h1, h2, h3, h4⟩ := h
    show ER ρ ((a, c, d) :: (l ++ [(k, x, b)])) (e' :: (es' ++ [e]))
    unfold ER
    exact ⟨e', _, rfl, h1, h2, h3, ER.snoc hk hx hb h4⟩
theorem ER.get {ρ : Rho} : ∀ {l : List (AV × AV × Nat)} {es : List MapEntry} (i : Nat) {k x : AV} {b : Nat}, ER ρ l es → l[i]? = some (k, x, b) → ∃ e, es[i]? = some e ∧ VR ρ k e.key ∧ VR ρ x e.val ∧ e.born = b
  | [], es, i, k, x, b, _, hg => by simp at hg
  | (a, c, d) :: l, es, i, k, x, b, h, hg => by
    unfold ER at h
    obtain ⟨e', es', rfl, h1, h2, h3, h4⟩ := h
    cases i with
    | zero => simp at hg; obtain ⟨rfl, rfl, rfl⟩ := hg; exact ⟨e', rfl, h1, h2, h3⟩
    | succ i => simpa using ER.get i h4 (by simpa using hg)
theorem ER.filter {ρ : Rho} (p : Nat → Bool) : ∀ {l : List (AV × AV × Nat)} {es : List MapEntry}, ER ρ l es → ER ρ (l.filter fun e => p e.2.2) (es.filter fun e => p e.born)
  | [], es, h => by unfold ER at h; subst h; unfold ER; rfl
  | (a, c, d) :: l, es, h => by
    unfold ER at h
    obtain ⟨e', es', rfl, h1, h2, h3, h4⟩ := h
    have ih := ER.filter p h4
    simp only [List.filter_cons, h3]
    cases p d with
    | true => simp only [if_true]; unfold ER; exact ⟨e', _, rfl, h1, h2, h3, ih⟩
    | false => simpa using ih
theorem ER.all {ρ : Rho} (p : Nat → Bool) : ∀ {l : List (AV × AV × Nat)} {es : List MapEntry}, ER ρ l es → (es.all fun e => p e.born) = l.all fun e => p e.2.2
  | [], es, h => by unfold ER at h; subst h; rfl
  | (a, c, d) :: l, es, h => by
    unfold ER at h
    obtain ⟨e', es', rfl, h1, h2, h3, h4⟩ := h
    simp only [List.all_cons, h3, ER.all p h4]

noncomputable def aMapUpd (E : Env) (hp : Hp) (t : Nat) (m k x : AV) : Option Hp :=
  match E.und t with
  | none => none
  | some d => match isMapD d with
    | none => none
    | some (kt, _) => cond (keyOk E kt k) (match m with
      | .map id => (match hp.get id with
        | some (.map es clock) => (match findK E kt k es with
          | none => none
          | some (some (i, _)) => (match es[i]? with
            | none => none
            | some (k0, _, _) => cond (keySame k0 k) (some (hp.set id (.map (updE es i k x) clock))) none)
          | some none => some (hp.set id (.map (es ++ [(k, x, clock)]) (Nat.succ clock))))
        | _ => none)
      | _ => none) none

include ok in
theorem aMapUpd_ok {ρ : Rho} {hp hp' : Hp} {nx : Nat} {w : World} {t : Nat} {m k x : AV} {mv kv xv : Value} (r : E.R ρ hp nx w) (hm : VR ρ m mv) (hk : VR ρ k kv) (hx : VR ρ x xv) (h : aMapUpd E hp t m k x = some hp') :
    Did E ρ hp nx w (.tup []) hp' nx ((do Instr.mapUpdate t mv kv xv; pure .skip : Sem Next).run E.P w) := by
  unfold aMapUpd at h
  cases hd : E.und t with
  | none => rw [hd] at h; cases h
  | some d =>
    rw [hd] at h; simp only at h
    have hu := run_und ok (w := w) hd
    cases hmd : isMapD d with
    | none => rw [hmd] at h; cases h
    | some p =>
      obtain ⟨kt, et⟩ := p
      rw [hmd] at h; simp only at h
      have := isMapD_inv hmd; subst this
      cases hko : keyOk E kt k with
      | false => rw [hko] at h; cases h
      | true =>
        rw [hko] at h; simp only [cond_true] at h
        cases m <;> simp only at h <;> try (cases h; done)
        rename_i id
        unfold VR at hm
        obtain ⟨b, sh, e, hρ, rfl⟩ := hm
        split at h
        · rename_i es clock hg
          obtain ⟨b', sh', e', q1, es1, q2, q3⟩ := r.hr id _ hg
          rw [hρ] at q1; cases q1
          have hget : (getObj b).run E.P w = .ok (.map es1 clock) w := by simp [getObj, Sem.run, q2]
          have hck := keyOk_ok ok (w := w) (b := false) hk hko
          cases hf : findK E kt k es with
          | none => rw [hf] at h; cases h
          | some res =>
            rw [hf] at h
            obtain ⟨r', p1, p2⟩ := findK_ok ok (w := w) (keyOk_und hko) hk q3 hf
            cases res with
            | none =>
              cases h
              cases r' with
              | some _ => exact p2.elim
              | none =>
                obtain ⟨w', s1, s2, s3⟩ := objSet (E := E) (o' := .map (es ++ [(k, x, clock)]) (Nat.succ clock)) (ob' := .map (es1.push { key := kv, val := xv, born := clock }) (clock + 1)) r hg hρ q2 (fun _ _ _ h => by cases h)
                  (fun w' hw' => ⟨_, hw', by rw [Array.toList_push]; exact ER.snoc (e := { key := kv, val := xv, born := clock }) hk hx rfl q3⟩)
                refine ⟨undef, w', ρ, .inr ⟨?_, rfl⟩, vr_undef ρ, s2, s3⟩
                simp [Instr.mapUpdate, hu, hget, hck, p1, s1]
            | some iv =>
              obtain ⟨i, v0⟩ := iv
              simp only at h
              cases hgi : es[i]? with
              | none => rw [hgi] at h; cases h
              | some en =>
                obtain ⟨k0, x0, b0⟩ := en
                rw [hgi] at h; simp only at h
                cases hks : keySame k0 k with
                | false => rw [hks] at h; cases h
                | true =>
                  rw [hks] at h; cases h
                  cases r' with
                  | none => exact p2.elim
                  | some jv =>
                    obtain ⟨j, v'⟩ := jv
                    obtain ⟨hij, _⟩ := p2
                    have hij' : i = j := hij
                    subst hij'
                    obtain ⟨en, t1, t2, t3, t4⟩ := ER.get i q3 hgi
                    have t1' : es1[i]? = some en := by rw [← Array.getElem?_toList]; exact t1
                    have hst := keySame_ok (P := E.P) (w := w) t2 hk hks
                    obtain ⟨w', s1, s2, s3⟩ := objSet (E := E) (o' := .map (updE es i k x) clock) (ob' := .map (es1.modify i fun e => { e with key := kv, val := xv }) clock) r hg hρ q2 (fun _ _ _ h => by cases h)
                      (fun w' hw' => ⟨_, hw', by rw [Array.toList_modify]; exact ER.upd hk hx i q3⟩)
                    refine ⟨undef, w', ρ, .inr ⟨?_, rfl⟩, vr_undef ρ, s2, s3⟩
                    simp [Instr.mapUpdate, hu, hget, hck, p1, t1', hst, s1]
        · cases h

/-- An iterator made. -/
noncomputable def aRange (E : Env) (hp : Hp) (nx t : Nat) (x : AV) : Option (AV × Hp × Nat) :=
  match E.und t with
  | none => none
  | some d => match x with
    | .str l => cond (isStr d) (some (.ptr nx 0, hp.set nx (.siter l 0), Nat.succ nx)) none
    | .mnil => (match isMapD d with
      | none => none
      | some _ => some (.ptr nx 0, hp.set nx (.miter none 0 [] 0), Nat.succ nx))
    | .map id => (match isMapD d with
      | none => none
      | some _ => match hp.get id with
        | some (.map _ clock) => some (.ptr nx 0, hp.set nx (.miter (some id) clock [] clock), Nat.succ nx)
        | _ => none)
    | _ => none
include ok in
theorem aRange_ok {ρ : Rho} {hp hp' : Hp} {nx nx' : Nat} {w : World} {t : Nat} {x y : AV} {v : Value} (r : E.R ρ hp nx w) (hx : VR ρ x v) (h : aRange E hp nx t x = some (y, hp', nx')) :
    Did E ρ hp nx w y hp' nx' ((do pure (Next.value (← Instr.range t v)) : Sem Next).run E.P w) := by
  unfold aRange at h
  have hfree := r.fresh nx (Nat.le_refl _)
  cases hd : E.und t with
  | none => rw [hd] at h; cases h
  | some d =>
    rw [hd] at h; simp only at h
    have hu := run_und ok (w := w) hd
    have fin : ∀ (ob : Obj) (o : AObj), (∀ w' : World, w'.heap[w.heap.size]? = some ob → OR (ρ.put nx (w.heap.size, 0, 0)) w' o w.heap.size 0 0) → (Instr.range t v).run E.P w = .ok (.pointer (some ⟨w.heap.size, 0, none⟩)) (w.alloc ob) →
        Did E ρ hp nx w (.ptr nx 0) (hp.set nx o) (Nat.succ nx) ((do pure (Next.value (← Instr.range t v)) : Sem Next).run E.P w) := by
      intro ob o ho hrun
      obtain ⟨r1, g1⟩ := objMade (E := E) (w' := w.alloc ob) (ob := ob) (o := o) r rfl ⟨rfl, rfl, rfl⟩ (ho _ (by show (w.heap.push _)[w.heap.size]? = _; simp))
      exact did_plain hrun (by unfold VR; exact ⟨w.heap.size, 0, 0, Rho.put_self _ _ _, rfl⟩) r1 g1
    cases x <;> simp only at h <;> try (cases h; done)
    case str l =>
      cases hb : isStr d with
      | false => rw [hb] at h; cases h
      | true =>
        rw [hb] at h; cases h
        have := isStr_inv hb; subst this
        unfold VR at hx
        obtain ⟨s, rfl, rfl⟩ := hx
        exact fin (.stringIter s 0) _ (fun w' hw' => ⟨s, hw', rfl, rfl⟩) (by simp [Instr.range, hu])
    case mnil =>
      cases hb : isMapD d with
      | none => rw [hb] at h; cases h
      | some p =>
        obtain ⟨kt, et⟩ := p
        rw [hb] at h; cases h
        have := isMapD_inv hb; subst this
        unfold VR at hx; subst hx
        exact fin (.mapIter none 0 #[] 0) _ (fun w' hw' => ⟨none, #[], hw', rfl, rfl, rfl⟩) (by simp [Instr.range, hu])
    case map id =>
      cases hb : isMapD d with
      | none => rw [hb] at h; cases h
      | some p =>
        obtain ⟨kt, et⟩ := p
        rw [hb] at h; simp only at h
        have := isMapD_inv hb; subst this
        unfold VR at hx
        obtain ⟨b, sh, e, hρ, rfl⟩ := hx
        split at h
        · rename_i es clock hg
          cases h
          obtain ⟨b', sh', e', q1, es1, q2, q3⟩ := r.hr id _ hg
          rw [hρ] at q1; cases q1
          have hget : (getObj b).run E.P w = .ok (.map es1 clock) w := by simp [getObj, Sem.run, q2]
          have hne : id ≠ nx := by intro e2; subst e2; rw [hfree] at hρ; cases hρ
          exact fin (.mapIter (some b) clock #[] clock) _ (fun w' hw' => ⟨some b, #[], hw', rfl, rfl, b, sh, e, by rw [Rho.put_ne ρ _ hne]; exact hρ, rfl⟩) (by simp [Instr.range, hu, hget])
        · cases h

noncomputable def noneIn (l : List Nat) (n : Nat) : Bool := !(l.any fun x => Nat.beq x n)

/-- One step of an iterator. -/
noncomputable def aNext (hp : Hp) (x : AV) (isString : Bool) : Option (AV × Hp) :=
  match x with
  | .ptr id 0 => (match hp.get id with
    | some (.siter s pos) => cond isString (match s[pos]? with
        | none => some (.tup [.bool false], hp)
        | some c => cond (Nat.blt c 128) (some (.tup [.bool true, .int .i64 (Int.ofNat pos), .int .i32 (Int.ofNat c)], hp.set id (.siter s (Nat.add pos 1)))) none) none
    | some (.miter none _ _ _) => cond isString none (some (.tup [.bool false], hp))
    | some (.miter (some mid) since seen last) => cond isString none (match hp.get mid with
      | some (.map es clock) => cond (cond seen.isEmpty false (cond es.isEmpty false (es.all fun e => Nat.ble last e.2.2))) none
          (match (es.filter fun e => noneIn seen e.2.2).filter (fun e => Nat.blt e.2.2 since) with
          | [] => (match (es.filter fun e => noneIn seen e.2.2).filter (fun e => Nat.ble since e.2.2) with
            | [] => some (.tup [.bool false], hp)
            | _ => none)
          | [(k, v, b)] => (match (es.filter fun e => noneIn seen e.2.2).filter (fun e => Nat.ble since e.2.2) with
            | [] => some (.tup [.bool true, k, v], hp.set id (.miter (some mid) since (seen ++ [b]) clock))
            | _ => none)
          | _ => none)
      | _ => none)
    | _ => none)
  | _ => none

theorem noneIn_eq (l : Array Nat) (n : Nat) : noneIn l.toList n = !(l.contains n) := by
  unfold noneIn
  congr 1
  rw [Bool.eq_iff_iff]
  simp only [List.any_eq_true, Nat.beq_eq, Array.contains_iff_mem]
  constructor
  · rintro ⟨x, hx, rfl⟩; exact Array.mem_toList_iff.1 hx
  · intro h; exact ⟨n, Array.mem_toList_iff.2 h, rfl⟩

theorem decode_ascii {s : ByteArray} {i c : Nat} (h : (s.data.toList.map UInt8.toNat)[i]? = some c) (hc : c < 128) : Utf8.decode s i = (c, 1) := by
  have h1 : s.data.toList[i]?.map UInt8.toNat = some c := by rw [← List.getElem?_map]; exact h
  cases hx : s.data.toList[i]? with
  | none => rw [hx] at h1; cases h1
  | some b =>
    rw [hx] at h1
    have hb : b.toNat = c := Option.some.inj h1
    have hi : i < s.size := by
      rcases Nat.lt_or_ge i s.data.toList.length with h2 | h2
      · simpa using h2
      · rw [List.getElem?_eq_none h2] at hx; cases hx
    have hget : s.get! i = b := by
      have h2 : s.data[i]? = some b := by rw [← Array.getElem?_toList]; exact hx
      have h3 : s.get! i = s.data[i]! := rfl
      rw [h3]
      rw [Array.getElem!_eq_getD, Array.getD_eq_getD_getElem?, h2]; rfl
    unfold Utf8.decode
    simp only [Nat.add_zero, hget, hb]
    rw [if_pos hc]


theorem ER.nil_iff {ρ : Rho} {es : List MapEntry} (h : ER ρ [] es) : es = [] := by unfold ER at h; exact h

theorem aNext_ok {ρ : Rho} {hp hp' : Hp} {nx : Nat} {w : World} {ty : Nat} {x y : AV} {v : Value} {c : Bool} (r : E.R ρ hp nx w) (hx : VR ρ x v) (h : aNext hp x c = some (y, hp')) :
    Did E ρ hp nx w y hp' nx ((do pure (Next.value (← Instr.next v c ty)) : Sem Next).run E.P w) := by
  unfold aNext at h
  have vfalse : VR ρ (.tup [.bool false]) (.tuple #[.bool false]) := by unfold VR; exact ⟨_, rfl, VRs.cons (by unfold VR; rfl) VRs.nil⟩
  split at h
  · rename_i id
    unfold VR at hx
    obtain ⟨b, sh, e, hρ, rfl⟩ := hx
    split at h
    · rename_i s pos hg
      obtain ⟨b', sh', e', q1, s', q2, q3, q4⟩ := r.hr id _ hg
      rw [hρ] at q1; cases q1
      subst q4
      have hget : (getObj b).run E.P w = .ok (.stringIter s' pos) w := by simp [getObj, Sem.run, q2]
      cases c with
      | false => cases h
      | true =>
        simp only [cond_true] at h
        have hlen : s'.size = s.length := by rw [← q3]; simp
        cases hp0 : s[pos]? with
        | none =>
          rw [hp0] at h; cases h
          have hge : ¬ (pos < s'.size) := by
            intro hlt
            rw [List.getElem?_eq_getElem (by omega)] at hp0; cases hp0
          refine did_plain (vc := .tuple #[.bool false]) ?_ vfalse r (G.refl _ _ _ _)
          simp [Instr.next, hget, hge]
        | some ch =>
          rw [hp0] at h; simp only at h
          cases hch : Nat.blt ch 128 with
          | false => rw [hch] at h; cases h
          | true =>
            rw [hch] at h; cases h
            rw [blt_iff] at hch
            have hlt : pos < s'.size := by
              rcases Nat.lt_or_ge pos s.length with h2 | h2
              · omega
              · rw [List.getElem?_eq_none h2] at hp0; cases hp0
            have hdec := decode_ascii (s := s') (i := pos) (by rw [q3]; exact hp0) hch
            obtain ⟨w', s1, s2, s3⟩ := objSet (E := E) (o' := .siter s (Nat.add pos 1)) (ob' := .stringIter s' (pos + 1)) r hg hρ q2 (fun _ _ _ h => by cases h) (fun w' hw' => ⟨s', hw', q3, rfl⟩)
            refine did_plain (vc := .tuple #[.bool true, .int .i64 pos, .int .i32 ch]) ?_ ?_ s2 s3
            · simp [Instr.next, hget, hlt, hdec, s1, goInt]
            · unfold VR
              exact ⟨_, rfl, VRs.cons (by unfold VR; rfl) (VRs.cons (by unfold VR; rfl) (VRs.cons (by unfold VR; rfl) VRs.nil))⟩
    · rename_i s0 s1 s2 hg
      obtain ⟨b', sh', e', q1, m', seen', q2, q3, q4, q5⟩ := r.hr id _ hg
      rw [hρ] at q1; cases q1
      subst q4
      have hm' : m' = none := q5
      subst hm'
      cases c with
      | true => cases h
      | false =>
        cases h
        have hget : (getObj b).run E.P w = .ok (.mapIter none s0 seen' s2) w := by simp [getObj, Sem.run, q2]
        refine did_plain (vc := .tuple #[.bool false]) ?_ vfalse r (G.refl _ _ _ _)
        simp [Instr.next, hget]
    · rename_i mid since seen last hg
      obtain ⟨b', sh', e', q1, m', seen', q2, q3, q4, q5⟩ := r.hr id _ hg
      rw [hρ] at q1; cases q1
      subst q4
      obtain ⟨mb, msh, me, hρm, rfl⟩ := q5
      have hget : (getObj b).run E.P w = .ok (.mapIter (some mb) since seen' last) w := by simp [getObj, Sem.run, q2]
      cases c with
      | true => cases h
      | false =>
        simp only [cond_false] at h
        split at h
        · rename_i es clock hgm
          obtain ⟨b2, sh2, e2, t1, es1, t2, t3⟩ := r.hr mid _ hgm
          rw [hρm] at t1; cases t1
          have hgetm : (getObj mb).run E.P w = .ok (.map es1 clock) w := by simp [getObj, Sem.run, t2]
          cases hpre : (cond seen.isEmpty false (cond es.isEmpty false (es.all fun e => Nat.ble last e.2.2))) with
          | true => rw [hpre] at h; cases h
          | false =>
            rw [hpre] at h; simp only [cond_false] at h
            have hcond : (!seen'.isEmpty && !es1.isEmpty && es1.all (fun e => decide (e.born ≥ last))) = false := by
              rw [← hpre]
              have e1 : seen'.isEmpty = seen.isEmpty := by rw [← q3, ← Array.isEmpty_toList]
              have e2 : es1.isEmpty = es.isEmpty := by
                rw [← Array.isEmpty_toList]
                have := t3.length
                cases hl : es with
                | nil => rw [hl] at this; simp at this; simp [this]
                | cons a l => rw [hl] at this; cases h1 : es1.toList with
                  | nil => rw [h1] at this; simp at this
                  | cons _ _ => rfl
              have e3 : es1.all (fun e => decide (e.born ≥ last)) = es.all fun e => Nat.ble last e.2.2 := by
                rw [← Array.all_toList]
                have := ER.all (fun n => Nat.ble last n) t3
                rw [← this]
                congr 1
                funext e
                rw [Bool.eq_iff_iff, decide_eq_true_iff, ble_iff]
              rw [e1, e2, e3]
              cases seen.isEmpty <;> cases es.isEmpty <;> simp
            have hleft := ER.filter (fun n => noneIn seen n) t3
            have hold := ER.filter (fun n => Nat.blt n since) hleft
            have hnew := ER.filter (fun n => Nat.ble since n) hleft
            have fl : (es1.filter fun e => !(seen'.contains e.born)).toList = es1.toList.filter fun e => noneIn seen e.born := by
              rw [Array.toList_filter]
              congr 1
              funext e
              rw [← q3, noneIn_eq]
            have fo : ((es1.filter fun e => !(seen'.contains e.born)).filter fun e => decide (e.born < since)).toList = (es1.toList.filter fun e => noneIn seen e.born).filter fun e => Nat.blt e.born since := by
              rw [Array.toList_filter, fl]
              congr 1
              funext e
              rw [Bool.eq_iff_iff, decide_eq_true_iff, blt_iff]
            have fn : ((es1.filter fun e => !(seen'.contains e.born)).filter fun e => decide (e.born ≥ since)).toList = (es1.toList.filter fun e => noneIn seen e.born).filter fun e => Nat.ble since e.born := by
              rw [Array.toList_filter, fl]
              congr 1
              funext e
              rw [Bool.eq_iff_iff, decide_eq_true_iff, ble_iff]
            have arrEq : ∀ {a : Array MapEntry} {l : List MapEntry}, a.toList = l → a = l.toArray := fun h => by rw [← h]
            split at h
            · rename_i ho
              rw [ho] at hold
              have hold' := ER.nil_iff hold
              split at h
              · rename_i hn
                cases h
                rw [hn] at hnew
                have hnew' := ER.nil_iff hnew
                have A := arrEq (fo.trans hold')
                have B := arrEq (fn.trans hnew')
                refine did_plain (vc := .tuple #[.bool false]) ?_ vfalse r (G.refl _ _ _ _)
                simp only [Instr.next, Sem.run_bind, hget, Result.andThen_ok, hgetm, hcond, Bool.false_eq_true, if_false]
                rw [A, B]
                simp [Question.forced]
              · cases h
            · rename_i k x0 b0 ho
              rw [ho] at hold
              unfold ER at hold
              obtain ⟨en, es', hold', u1, u2, u3, u4⟩ := hold
              have u4' := ER.nil_iff u4
              subst u4'
              split at h
              · rename_i hn
                cases h
                rw [hn] at hnew
                have hnew' := ER.nil_iff hnew
                have A := arrEq (fo.trans hold')
                have B := arrEq (fn.trans hnew')
                obtain ⟨w', s1, s2, s3⟩ := objSet (E := E) (o' := .miter (some mid) since (seen ++ [b0]) clock) (ob' := .mapIter (some mb) since (seen'.push en.born) clock) r hg hρ q2 (fun _ _ _ h => by cases h)
                  (fun w' hw' => ⟨some mb, _, hw', by rw [Array.toList_push, q3, u3], rfl, mb, msh, me, hρm, rfl⟩)
                refine did_plain (vc := .tuple #[.bool true, en.key, en.val]) (w' := w') ?_ ?_ s2 s3
                · simp only [Instr.next, Sem.run_bind, hget, Result.andThen_ok, hgetm, hcond, Bool.false_eq_true, if_false]
                  rw [A, B]
                  simp [Question.forced, s1]
                · unfold VR
                  exact ⟨_, rfl, VRs.cons (by unfold VR; rfl) (VRs.cons u1 (VRs.cons u2 VRs.nil))⟩
              · cases h
            · cases h
        · cases h
    · cases h
  · cases h

end Go.Evo
namespace Go.Evo

variable {E : Env} (ok : E.Ok)

/-- An operation that reads the heap. -/
noncomputable def readOp (E : Env) (hp : Hp) (tm : Tr AV) (o : Oper) : Option AV :=
  (match o.op with
  | .load t x => fun E hp tm => (match evO tm x with
    | none => none
    | some u => aLoad E hp t u)
  | .lookup t m k c => fun E hp tm => (match evO tm m with
    | none => none
    | some u => match evO tm k with
      | none => none
      | some v => aLookup E hp t u v c)
  | .call c => fun E hp tm => (match c.callee with
    | .builtin .len => (match c.argTypes.toList with
      | [] => none
      | t :: _ => match evOs tm c.args.toList with
        | some (x :: _) => aLenMap E hp t x
        | _ => none)
    | _ => none)
  | _ => fun _E _hp _tm => none) E hp tm

include ok in
theorem read_ok {w : World} {ρ : Rho} {hp : Hp} {nx n : Nat} {tm : Tr AV} {a : Act} {o : Oper} {z : AV} (r : E.R ρ hp nx w) (ht : TmR ρ n tm a.tmps) (h : readOp E hp tm o = some z) :
    ∃ v', (execOp a.eval o).run E.P w = .ok (.value v') w ∧ VR ρ z v' := by
  obtain ⟨dst, op, type, pos, after, guard⟩ := o
  unfold readOp at h
  cases op <;> simp only at h <;> try (cases h; done)
  case load t x =>
    cases h1 : evO tm x with
    | none => rw [h1] at h; cases h
    | some u =>
      rw [h1] at h
      obtain ⟨v', q1, q2⟩ := aLoad_ok ok r (evO_ok ht h1) h
      exact ⟨v', run_value q1, q2⟩
  case lookup t m k c =>
    cases h1 : evO tm m with
    | none => rw [h1] at h; cases h
    | some u =>
      rw [h1] at h; simp only at h
      cases h2 : evO tm k with
      | none => rw [h2] at h; cases h
      | some v =>
        rw [h2] at h
        obtain ⟨v', q1, q2⟩ := aLookup_ok ok r (evO_ok ht h1) (evO_ok ht h2) h
        exact ⟨v', run_value q1, q2⟩
  case call c =>
    obtain ⟨callee, args, argTypes⟩ := c
    cases callee <;> simp only at h <;> try (cases h; done)
    rename_i b
    cases b <;> simp only at h <;> try (cases h; done)
    cases h1 : argTypes.toList with
    | nil => rw [h1] at h; cases h
    | cons t ts =>
      rw [h1] at h; simp only at h
      split at h
      · rename_i x xs h2
        have hv := evOs_ok ht h2
        rw [← Array.toList_map] at hv
        obtain ⟨v, q1, q2⟩ := hv.get 0 x rfl
        have e1 : argTypes[0]? = some t := by rw [← Array.getElem?_toList, h1]; rfl
        have e2 : (args.map a.eval)[0]? = some v := by rw [← Array.getElem?_toList]; exact q1
        obtain ⟨v', p1, p2⟩ := aLenMap_ok ok (ty := type) r e1 e2 q2 h
        refine ⟨v', ?_, p2⟩
        simp only [execOp, resolve, Sem.run_bind, Sem.run_pure, Result.andThen_ok, invoke, builtin, p1]
      · cases h

noncomputable def delE : List (AV × AV × Nat) → Nat → List (AV × AV × Nat)
  | [], _ => []
  | _ :: l, 0 => l
  | e :: l, i + 1 => e :: delE l i
theorem ER.del {ρ : Rho} : ∀ {l : List (AV × AV × Nat)} {es : List MapEntry} (i : Nat), ER ρ l es → ER ρ (delE l i) (es.eraseIdx i)
  | [], es, i, h => by unfold ER at h; subst h; unfold delE ER; cases i <;> rfl
  | (a, b, c) :: l, es, 0, h => by
    unfold ER at h
    obtain ⟨e, es', rfl, h1, h2, h3, h4⟩ := h
    exact h4
  | (a, b, c) :: l, es, i + 1, h => by
    unfold ER at h
    obtain ⟨e, es', rfl, h1, h2, h3, h4⟩ := h
    unfold delE ER
    exact ⟨e, _, rfl, h1, h2, h3, ER.del i h4⟩

noncomputable def aDelete (E : Env) (hp : Hp) (t : Nat) (m k : AV) : Option Hp :=
  match E.und t with
  | none => none
  | some d => match isMapD d with
    | none => none
    | some (kt, _) => cond (keyOk E kt k) (match m with
      | .map id => (match hp.get id with
        | some (.map es clock) => (match findK E kt k es with
          | none => none
          | some (some (i, _)) => some (hp.set id (.map (delE es i) clock))
          | some none => some (hp.set id (.map es clock)))
        | _ => none)
      | _ => none) none

include ok in
theorem aDelete_ok {ρ : Rho} {hp hp' : Hp} {nx : Nat} {w : World} {t ty : Nat} {m k : AV} {mv kv : Value} (r : E.R ρ hp nx w) (hm : VR ρ m mv) (hk : VR ρ k kv) (h : aDelete E hp t m k = some hp') :
    Did E ρ hp nx w (.tup []) hp' nx ((do pure (Next.value (← Builtin.delete_ #[t, ty] ty #[mv, kv])) : Sem Next).run E.P w) := by
  unfold aDelete at h
  cases hd : E.und t with
  | none => rw [hd] at h; cases h
  | some d =>
    rw [hd] at h; simp only at h
    have hu := run_und ok (w := w) hd
    cases hmd : isMapD d with
    | none => rw [hmd] at h; cases h
    | some p =>
      obtain ⟨kt, et⟩ := p
      rw [hmd] at h; simp only at h
      have := isMapD_inv hmd; subst this
      cases hko : keyOk E kt k with
      | false => rw [hko] at h; cases h
      | true =>
        rw [hko] at h; simp only [cond_true] at h
        cases m <;> simp only at h <;> try (cases h; done)
        rename_i id
        unfold VR at hm
        obtain ⟨b, sh, e, hρ, rfl⟩ := hm
        split at h
        · rename_i es clock hg
          obtain ⟨b', sh', e', q1, es1, q2, q3⟩ := r.hr id _ hg
          rw [hρ] at q1; cases q1
          have hget : (getObj b).run E.P w = .ok (.map es1 clock) w := by simp [getObj, Sem.run, q2]
          have hck := keyOk_ok ok (w := w) (b := es1.isEmpty) hk hko
          cases hf : findK E kt k es with
          | none => rw [hf] at h; cases h
          | some res =>
            rw [hf] at h
            obtain ⟨r', p1, p2⟩ := findK_ok ok (w := w) (keyOk_und hko) hk q3 hf
            cases res with
            | none =>
              cases h
              cases r' with
              | some _ => exact p2.elim
              | none =>
                obtain ⟨w', s1, s2, s3⟩ := objSet (E := E) (o' := .map es clock) (ob' := .map es1 clock) r hg hρ q2 (fun _ _ _ h => by cases h) (fun w' hw' => ⟨_, hw', q3⟩)
                refine did_plain (vc := .tuple #[]) ?_ (vr_undef ρ) s2 s3
                simp [Builtin.delete_, hu, hget, hck, p1, s1]
            | some iv =>
              obtain ⟨i, v0⟩ := iv
              cases h
              cases r' with
              | none => exact p2.elim
              | some jv =>
                obtain ⟨j, v'⟩ := jv
                have hij : i = j := p2.1
                subst hij
                obtain ⟨w', s1, s2, s3⟩ := objSet (E := E) (o' := .map (delE es i) clock) (ob' := .map (es1.eraseIdxIfInBounds i) clock) r hg hρ q2 (fun _ _ _ h => by cases h)
                  (fun w' hw' => ⟨_, hw', by rw [Array.toList_eraseIdxIfInBounds]; exact ER.del i q3⟩)
                refine did_plain (vc := .tuple #[]) ?_ (vr_undef ρ) s2 s3
                simp [Builtin.delete_, hu, hget, hck, p1, s1]
        · cases h

/-- An operation that changes the heap. -/
noncomputable def effOp (E : Env) (hp : Hp) (nx : Nat) (tm : Tr AV) (o : Oper) : Option (AV × Hp × Nat) :=
  match allocOf E tm o with
  | some (elem, l, k) => some (mkA k nx, hp.set nx (.cells true elem (ofCells l) l.length), Nat.succ nx)
  | none => (((match o.op with
    | .store t x v => fun E hp nx tm => (match evO tm x with
      | none => none
      | some u => match evO tm v with
        | none => none
        | some y => match aStore E hp t u y with
          | none => none
          | some hp' => some (.tup [], hp', nx))
    | .makeSlice t l c => fun E hp nx tm => (match evO tm l with
      | none => none
      | some u => match evO tm c with
        | none => none
        | some y => aMake E hp nx t u y)
    | .makeMap _ r => fun _E hp nx _tm => (match r with
      | none => some (aMakeMap hp nx)
      | some _ => none)
    | .mapUpdate t m k x => fun E hp nx tm => (match evO tm m with
      | none => none
      | some u => match evO tm k with
        | none => none
        | some y => match evO tm x with
          | none => none
          | some z => match aMapUpd E hp t u y z with
            | none => none
            | some hp' => some (.tup [], hp', nx))
    | .insert t m k x => fun E hp nx tm => (match evO tm m with
      | none => none
      | some u => match evO tm k with
        | none => none
        | some y => match evO tm x with
          | none => none
          | some z => match aMapUpd E hp t u y z with
            | none => none
            | some hp' => some (.tup [], hp', nx))
    | .range t x => fun E hp nx tm => (match evO tm x with
      | none => none
      | some u => aRange E hp nx t u)
    | .next x c => fun _E hp nx tm => (match evO tm x with
      | none => none
      | some u => match aNext hp u c with
        | none => none
        | some (y, hp') => some (y, hp', nx))
    | .call c => fun E hp nx tm => (match c.callee with
      | .builtin .append => (match c.argTypes.toList with
        | [t, u] => (match evOs tm c.args.toList with
          | some [s, x] => aApp E hp nx t u s x
          | _ => none)
        | _ => none)
      | .builtin .delete => (match c.argTypes.toList with
        | t :: _ => (match evOs tm c.args.toList with
          | some [m, k] => (match aDelete E hp t m k with
            | none => none
            | some hp' => some (.tup [], hp', nx))
          | _ => none)
        | _ => none)
      | _ => none)
    | _ => fun _ _ _ _ => none)) : Env → Hp → Nat → Tr AV → Option (AV × Hp × Nat)) E hp nx tm

theorem two_list {ρ : Rho} {x y : AV} {vs : Array Value} (h : VRs ρ [x, y] vs.toList) : ∃ u v, vs = #[u, v] ∧ VR ρ x u ∧ VR ρ y v := by
  cases vs with
  | mk l =>
    unfold VRs at h
    obtain ⟨u, l1, h0, h1, h2⟩ := h
    unfold VRs at h2
    obtain ⟨v, l2, h3, h4, h5⟩ := h2
    unfold VRs at h5
    subst h5; subst h3
    have h0' : l = [u, v] := h0
    subst h0'
    exact ⟨u, v, rfl, h1, h4⟩

include ok in
theorem eff_ok {w : World} {ρ : Rho} {hp hp' : Hp} {nx nx' n : Nat} {tm : Tr AV} {a : Act} {o : Oper} {z : AV} (r : E.R ρ hp nx w) (ht : TmR ρ n tm a.tmps) (h : effOp E hp nx tm o = some (z, hp', nx')) :
    Did E ρ hp nx w z hp' nx' ((execOp a.eval o).run E.P w) := by
  unfold effOp at h
  cases hal : allocOf E tm o with
  | some p =>
    obtain ⟨elem, l, k⟩ := p
    rw [hal] at h
    cases h
    obtain ⟨cs, q1, q2⟩ := allocOf_ok ok (w := w) ht hal
    exact did_alloc r q1 q2
  | none =>
    rw [hal] at h
    clear hal
    obtain ⟨dst, op, type, pos, after, guard⟩ := o
    cases op <;> simp only at h <;> try (cases h; done)
    case store t x v =>
      cases h1 : evO tm x with
      | none => rw [h1] at h; cases h
      | some u =>
        rw [h1] at h; simp only at h
        cases h2 : evO tm v with
        | none => rw [h2] at h; cases h
        | some y =>
          rw [h2] at h; simp only at h
          cases h3 : aStore E hp t u y with
          | none => rw [h3] at h; cases h
          | some hp1 =>
            rw [h3] at h; cases h
            exact aStore_ok ok r (evO_ok ht h1) (evO_ok ht h2) h3
    case makeSlice t x v =>
      cases h1 : evO tm x with
      | none => rw [h1] at h; cases h
      | some u =>
        rw [h1] at h; simp only at h
        cases h2 : evO tm v with
        | none => rw [h2] at h; cases h
        | some y =>
          rw [h2] at h
          exact aMake_ok ok r (evO_ok ht h1) (evO_ok ht h2) h
    case makeMap t x =>
      cases x with
      | some _ => cases h
      | none =>
        cases h
        exact aMakeMap_ok r
    case mapUpdate t m k x =>
      cases h1 : evO tm m with
      | none => rw [h1] at h; cases h
      | some u =>
        rw [h1] at h; simp only at h
        cases h2 : evO tm k with
        | none => rw [h2] at h; cases h
        | some y =>
          rw [h2] at h; simp only at h
          cases h3 : evO tm x with
          | none => rw [h3] at h; cases h
          | some z' =>
            rw [h3] at h; simp only at h
            cases h4 : aMapUpd E hp t u y z' with
            | none => rw [h4] at h; cases h
            | some hp1 =>
              rw [h4] at h; cases h
              exact aMapUpd_ok ok r (evO_ok ht h1) (evO_ok ht h2) (evO_ok ht h3) h4
    case insert t m k x =>
      cases h1 : evO tm m with
      | none => rw [h1] at h; cases h
      | some u =>
        rw [h1] at h; simp only at h
        cases h2 : evO tm k with
        | none => rw [h2] at h; cases h
        | some y =>
          rw [h2] at h; simp only at h
          cases h3 : evO tm x with
          | none => rw [h3] at h; cases h
          | some z' =>
            rw [h3] at h; simp only at h
            cases h4 : aMapUpd E hp t u y z' with
            | none => rw [h4] at h; cases h
            | some hp1 =>
              rw [h4] at h; cases h
              exact aMapUpd_ok ok r (evO_ok ht h1) (evO_ok ht h2) (evO_ok ht h3) h4
    case range t x =>
      cases h1 : evO tm x with
      | none => rw [h1] at h; cases h
      | some u =>
        rw [h1] at h
        exact aRange_ok ok r (evO_ok ht h1) h
    case next x c =>
      cases h1 : evO tm x with
      | none => rw [h1] at h; cases h
      | some u =>
        rw [h1] at h; simp only at h
        cases h2 : aNext hp u c with
        | none => rw [h2] at h; cases h
        | some p =>
          obtain ⟨y, hp1⟩ := p
          rw [h2] at h; cases h
          exact aNext_ok r (evO_ok ht h1) h2
    case call c =>
      obtain ⟨callee, args, argTypes⟩ := c
      cases callee <;> simp only at h <;> try (cases h; done)
      rename_i b
      cases b <;> simp only at h <;> try (cases h; done)
      case append =>
        split at h
        · rename_i t u hts
          split at h
          · rename_i s x hxs
            have hv := evOs_ok ht hxs
            rw [← Array.toList_map] at hv
            obtain ⟨sv, xv, he, hs, hx⟩ := two_list hv
            have hte : argTypes = #[t, u] := by cases argTypes; simp at hts; rw [hts]
            have := aApp_ok ok (ty := type) r hs hx h
            simp only [execOp, resolve, Sem.run_bind, Sem.run_pure, Result.andThen_ok, invoke, builtin]
            rw [he, hte]
            simpa using this
          · cases h
        · cases h
      case delete =>
        split at h
        · rename_i t ts hts
          split at h
          · rename_i m k hxs
            have hv := evOs_ok ht hxs
            rw [← Array.toList_map] at hv
            obtain ⟨mv, kv, he, hm, hk⟩ := two_list hv
            cases hdel : aDelete E hp t m k with
            | none => rw [hdel] at h; cases h
            | some hp1 =>
              rw [hdel] at h; cases h
              have hte : argTypes[0]? = some t := by rw [← Array.getElem?_toList, hts]; rfl
              have := aDelete_ok ok (ty := type) r hm hk hdel
              have he2 : Builtin.delete_ argTypes type #[mv, kv] = Builtin.delete_ #[t, type] type #[mv, kv] := by
                unfold Builtin.delete_
                rw [hte]; rfl
              simp only [execOp, resolve, Sem.run_bind, Sem.run_pure, Result.andThen_ok, invoke, builtin]
              rw [he, he2]
              simpa using this
          · cases h
        · cases h

/-- An operation that is no call of a function: its value and the heap behind it. -/
noncomputable def plainOp (E : Env) (hp : Hp) (nx : Nat) (tm : Tr AV) (o : Oper) : Option (AV × Hp × Nat) :=
  match quietOp E tm o with
  | some v => some (v, hp, nx)
  | none => match readOp E hp tm o with
    | some v => some (v, hp, nx)
    | none => effOp E hp nx tm o

include ok in
theorem plain_ok {w : World} {ρ : Rho} {hp hp' : Hp} {nx nx' n : Nat} {tm : Tr AV} {a : Act} {o : Oper} {z : AV} (r : E.R ρ hp nx w) (ht : TmR ρ n tm a.tmps) (h : plainOp E hp nx tm o = some (z, hp', nx')) :
    Did E ρ hp nx w z hp' nx' ((execOp a.eval o).run E.P w) := by
  unfold plainOp at h
  cases h1 : quietOp E tm o with
  | some v =>
    rw [h1] at h; cases h
    obtain ⟨v', q1, q2⟩ := quiet_ok ok (w := w) ht h1
    exact ⟨v', w, ρ, .inl q1, q2, r, G.refl _ _ _ _⟩
  | none =>
    rw [h1] at h; simp only at h
    cases h2 : readOp E hp tm o with
    | some v =>
      rw [h2] at h; cases h
      obtain ⟨v', q1, q2⟩ := read_ok ok r ht h2
      exact ⟨v', w, ρ, .inl q1, q2, r, G.refl _ _ _ _⟩
    | none =>
      rw [h2] at h
      exact eff_ok ok r ht h

end Go.Evo
