/- A verified evaluator for the model of Go, part 4: what it reckons of a call, the call does in every world that its abstract heap speaks of. Conditions: none. -/
import Derived.Test.YtffdkcadpkfhoaaGreatDoorEc
namespace Go.Evo

variable {E : Env} (ok : E.Ok)

/-- The cells behind an address. -/
noncomputable def cellsAt (E : Env) (hp : Hp) (x : AV) (n : Nat) : Option (List AV) :=
  match x with
  | .ptr id o => (match hp.get id with
    | some (.cells _ _ cs m) => cond (Nat.ble (Nat.add o n) m) (getN cs n o) none
    | _ => none)
  | .gptr g o => (match E.gs g with
    | none => none
    | some l => cond (Nat.ble (Nat.add o n) l.length) (some ((l.drop o).take n)) none)
  | _ => none

theorem cellsAt_ok {ρ : Rho} {hp : Hp} {nx : Nat} {w : World} {x : AV} {v : Value} {n : Nat} {l : List AV} (r : E.R ρ hp nx w) (hx : VR ρ x v) (h : cellsAt E hp x n = some l) :
    ∃ A : Addr, v = .pointer (some A) ∧ A.spot = none ∧ l.length = n ∧ ∃ vs, VRs ρ l vs ∧ ∀ j u, vs[j]? = some u → w.cell? (A.add j) = some u := by
  unfold cellsAt at h
  cases x <;> simp only at h <;> try (cases h; done)
  case ptr id o =>
    unfold VR at hx
    obtain ⟨b, sh, e, hρ, rfl⟩ := hx
    split at h
    · rename_i fx el cs m hg
      cases hb : Nat.ble (Nat.add o n) m with
      | false => rw [hb] at h; cases h
      | true =>
        rw [hb] at h
        simp only [cond_true] at h
        rw [ble_iff] at hb
        have hb' : o + n ≤ m := hb
        obtain ⟨b', sh', e', q1, c, fr, q2, q3, q4, _, q5, q6⟩ := r.hr id _ hg
        rw [hρ] at q1; cases q1
        obtain ⟨hl, hget⟩ := getN_get h
        refine ⟨_, rfl, rfl, hl, (c.toList.drop (sh + o)).take n, ?_, ?_⟩
        · refine VRs.of_get ?_ ?_
          · simp only [List.length_take, List.length_drop, Array.length_toList, hl]; omega
          · intro j y hy
            have hjl : j < n := by
              rcases Nat.lt_or_ge j l.length with h1 | h1
              · omega
              · rw [List.getElem?_eq_none h1] at hy; cases hy
            have h1 := hget j y hy
            obtain ⟨a, u, p1, p2, p3⟩ := q5 (o + j) (by omega)
            rw [h1] at p1; cases p1
            refine ⟨u, ?_, p3⟩
            rw [List.getElem?_take_of_lt hjl, List.getElem?_drop, Array.getElem?_toList, Nat.add_assoc]
            exact p2
        · intro j u hu
          rw [addr_add]
          have hjl : j < n := by
            rcases Nat.lt_or_ge j n with h1 | h1
            · exact h1
            · rw [List.getElem?_eq_none (by simp only [List.length_take]; omega)] at hu; cases hu
          rw [List.getElem?_take_of_lt hjl, List.getElem?_drop, Array.getElem?_toList] at hu
          simp [World.cell?, q2, hu]
    · cases h
  case gptr g o =>
    unfold VR at hx
    subst hx
    cases hg : E.gs g with
    | none => rw [hg] at h; cases h
    | some gl =>
      rw [hg] at h
      simp only at h
      cases hb : Nat.ble (Nat.add o n) gl.length with
      | false => rw [hb] at h; cases h
      | true =>
        rw [hb] at h; cases h
        rw [ble_iff] at hb
        have hb' : o + n ≤ gl.length := hb
        obtain ⟨_, c, t, fr, q1, q2⟩ := r.gl.2 g gl hg
        have q2' := VRs.mono (ρ := fun _ => none) (ρ' := ρ) (fun _ _ h => by cases h) gl _ q2
        have hlen : (c.toList.take gl.length).length = gl.length := q2'.length
        refine ⟨_, rfl, rfl, ?_, ((c.toList.take gl.length).drop o).take n, (q2'.drop o).take n, ?_⟩
        · simp only [List.length_take, List.length_drop]; omega
        · intro j u hu
          rw [addr_add]
          have hjl : j < n := by
            rcases Nat.lt_or_ge j n with h1 | h1
            · exact h1
            · rw [List.getElem?_eq_none (by simp only [List.length_take]; omega)] at hu; cases hu
          rw [List.getElem?_take_of_lt hjl, List.getElem?_drop, List.getElem?_take_of_lt (by omega), Array.getElem?_toList] at hu
          simp [World.cell?, q1, hu]

noncomputable def aLoad (E : Env) (hp : Hp) (t : Nat) (x : AV) : Option AV :=
  match E.agg t with
  | none => none
  | some true => (match E.size t with
    | none => none
    | some n => match cellsAt E hp x n with
      | none => none
      | some l => some (.agg l))
  | some false => (match cellsAt E hp x 1 with
    | some [y] => some y
    | _ => none)

include ok in
theorem aLoad_ok {ρ : Rho} {hp : Hp} {nx : Nat} {w : World} {t : Nat} {x y : AV} {v : Value} (r : E.R ρ hp nx w) (hx : VR ρ x v) (h : aLoad E hp t x = some y) :
    ∃ v', (Instr.loadAt t v).run E.P w = .ok v' w ∧ VR ρ y v' := by
  unfold aLoad at h
  cases ha : E.agg t with
  | none => rw [ha] at h; cases h
  | some b =>
    rw [ha] at h
    cases b with
    | true =>
      simp only at h
      cases hz : E.size t with
      | none => rw [hz] at h; cases h
      | some n =>
        rw [hz] at h
        simp only at h
        cases hc : cellsAt E hp x n with
        | none => rw [hc] at h; cases h
        | some l =>
          rw [hc] at h; cases h
          obtain ⟨A, rfl, _, hl, vs, q1, q2⟩ := cellsAt_ok r hx hc
          have hlen : vs.length = n := by rw [q1.length, hl]
          have hrun := run_loadCells_list (P := E.P) (w := w) A vs q2
          rw [hlen] at hrun
          refine ⟨.agg vs.toArray, ?_, by unfold VR; exact ⟨_, rfl, q1⟩⟩
          simp [Instr.loadAt, Instr.sureAddr, loadVar, run_agg ok ha, run_size ok hz, hrun]
    | false =>
      simp only at h
      split at h
      · rename_i y' hc
        cases h
        obtain ⟨A, rfl, hs, _, vs, q1, q2⟩ := cellsAt_ok r hx hc
        obtain ⟨u, p1, p2⟩ := q1.get 0 y rfl
        have hcell := q2 0 u p1
        have hA : A.add 0 = A := by simp [Addr.add]
        rw [hA] at hcell
        refine ⟨u, ?_, p2⟩
        simp [Instr.loadAt, Instr.sureAddr, loadVar, run_agg ok ha, hcell]
      · cases h

/-- An entry of a map by its key. -/
noncomputable def aFind (eq : AV → Option Bool) : List (AV × AV × Nat) → Nat → Option (Option (Nat × AV))
  | [], _ => some none
  | (k, v, _) :: l, i => match eq k with
    | none => none
    | some true => some (some (i, v))
    | some false => aFind eq l (Nat.succ i)

def FR (ρ : Rho) : Option (Nat × AV) → Option (Nat × Value) → Prop
  | none, none => True
  | some (i, x), some (j, v) => i = j ∧ VR ρ x v
  | _, _ => False

theorem sameNow_ok {ρ : Rho} {d : TypeDesc} {x y : AV} {v u : Value} {r : Bool} (hv : VR ρ x v) (hu : VR ρ y u) (h : aEqAtom d x y = some r) : Instr.sameNow d v u = some r := by
  rcases aEqAtom_inv h with ⟨a, b, rfl, rfl, rfl, rfl⟩ | ⟨k', k, a, b, rfl, rfl, rfl, rfl⟩ | ⟨a, b, rfl, rfl, rfl, rfl⟩
  · unfold VR at hv hu; subst hv; subst hu; rfl
  · unfold VR at hv hu; subst hv; subst hu; simp [Instr.sameNow]; rfl
  · unfold VR at hv hu
    obtain ⟨s, rfl, rfl⟩ := hv
    obtain ⟨s', rfl, rfl⟩ := hu
    simp [Instr.sameNow, beq_bytes]

theorem aFind_atom {ρ : Rho} {d : TypeDesc} {key : AV} {kv : Value} (hk : VR ρ key kv) : ∀ {l : List (AV × AV × Nat)} {es : List MapEntry} {i : Nat} {r : Option (Nat × AV)},
    ER ρ l es → aFind (aEqAtom d key) l i = some r → ∃ r', Instr.findNow d kv es i = some r' ∧ FR ρ r r'
  | [], es, i, r, he, h => by
    unfold ER at he; subst he
    unfold aFind at h; cases h
    exact ⟨none, rfl, trivial⟩
  | (k, v, b) :: l, es, i, r, he, h => by
    unfold ER at he
    obtain ⟨e, es', rfl, h1, h2, _, h4⟩ := he
    unfold aFind at h
    cases hq : aEqAtom d key k with
    | none => rw [hq] at h; cases h
    | some q =>
      rw [hq] at h
      have hs := sameNow_ok hk h1 hq
      cases q with
      | true =>
        cases h
        exact ⟨some (i, e.val), by simp [Instr.findNow, hs], rfl, h2⟩
      | false =>
        simp only at h
        obtain ⟨r', p1, p2⟩ := aFind_atom hk h4 h
        refine ⟨r', ?_, p2⟩
        simp only [Instr.findNow, hs]
        exact p1

include ok in
theorem aFind_ask {ρ : Rho} {w : World} {t : Nat} {key : AV} {kv : Value} (hk : VR ρ key kv) : ∀ {l : List (AV × AV × Nat)} {es : List MapEntry} {i : Nat} {r : Option (Nat × AV)},
    ER ρ l es → aFind (aEq E false t key) l i = some r → ∃ r', (Instr.findAsking t kv es i).run E.P w = .ok r' w ∧ FR ρ r r'
  | [], es, i, r, he, h => by
    unfold ER at he; subst he
    unfold aFind at h; cases h
    exact ⟨none, by simp [Instr.findAsking], trivial⟩
  | (k, v, b) :: l, es, i, r, he, h => by
    unfold ER at he
    obtain ⟨e, es', rfl, h1, h2, _, h4⟩ := he
    unfold aFind at h
    cases hq : aEq E false t key k with
    | none => rw [hq] at h; cases h
    | some q =>
      rw [hq] at h
      have hs := aEq_ok ok (w := w) hk h1 hq
      cases q with
      | true =>
        cases h
        exact ⟨some (i, e.val), by simp [Instr.findAsking, hs], rfl, h2⟩
      | false =>
        simp only at h
        obtain ⟨r', p1, p2⟩ := aFind_ask hk h4 h
        refine ⟨r', ?_, p2⟩
        simp only [Instr.findAsking, Sem.run_bind, hs, Result.andThen_ok, Bool.false_eq_true, if_false]
        exact p1

/-- Fields whose values may be keys: no interfaces. -/
noncomputable def keyFields (E : Env) : List Field → List AV → Bool
  | [], _ => true
  | f :: fs, l => match E.und f.type with
    | none => false
    | some d => cond (atomD d) (match l[f.offset]? with
      | none => false
      | some _ => keyFields E fs l) false

theorem atomD_agg {d : TypeDesc} (h : atomD d = true) : aggD d = false := by cases d <;> simp only [atomD] at h <;> first | rfl | cases h

include ok in
theorem run_checkKey_atom {w : World} {n t : Nat} {d : TypeDesc} {v : Value} {b : Bool} (hd : E.und t = some d) (ha : atomD d = true) :
    (Instr.checkKey b (n + 1) t v).run E.P w = .ok () w := by
  have hu := run_und ok (w := w) hd
  cases d <;> simp only [atomD] at ha <;> first
    | (cases ha; done)
    | (cases v <;> simp [Instr.checkKey, hu])

include ok in
theorem run_checkFields {w : World} {ρ : Rho} {n : Nat} {b : Bool} : ∀ {fs : List Field} {l : List AV} {cs : Array Value}, VRs ρ l cs.toList → keyFields E fs l = true →
    (forIn fs PUnit.unit fun f _ => (if f.name ≠ "_" then do Instr.checkKey b (n + 1) f.type (← part f.type cs f.offset); pure (ForInStep.yield PUnit.unit) else pure (ForInStep.yield PUnit.unit) : Sem (ForInStep PUnit))).run E.P w = .ok PUnit.unit w
  | [], l, cs, _, _ => by simp
  | f :: fs, l, cs, hl, h => by
    unfold keyFields at h
    cases hd : E.und f.type with
    | none => rw [hd] at h; cases h
    | some d =>
      rw [hd] at h
      simp only at h
      cases ha : atomD d with
      | false => rw [ha] at h; cases h
      | true =>
        rw [ha] at h
        simp only [cond_true] at h
        cases hg : l[f.offset]? with
        | none => rw [hg] at h; cases h
        | some x =>
          rw [hg] at h
          simp only at h
          have hag : E.agg f.type = some false := by unfold Env.agg; rw [hd]; simp only; rw [atomD_agg ha]
          obtain ⟨v, q1, q2⟩ := hl.get _ _ hg
          have q1' : cs[f.offset]? = some v := by simpa using q1
          have e1 : (part f.type cs f.offset).run E.P w = .ok v w := by simp [part, run_agg ok hag, q1']
          have e2 := run_checkKey_atom ok (w := w) (n := n) (v := v) (b := b) hd ha
          have ih := run_checkFields (w := w) (n := n) (b := b) hl h
          simp only [List.forIn_cons, Sem.run_bind]
          by_cases hn : f.name = "_"
          · simp only [hn, ne_eq, not_true_eq_false, if_false, Sem.run_pure, Result.andThen_ok]
            exact ih
          · rw [if_pos hn]
            simp only [Sem.run_bind, e1, e2, Sem.run_pure, Result.andThen_ok]
            exact ih

include ok in
theorem run_checkKey_struct {w : World} {ρ : Rho} {n t : Nat} {fa : Array Field} {l : List AV} {cs : Array Value} {b : Bool} (hd : E.und t = some (.struct fa)) (hl : VRs ρ l cs.toList) (hk : keyFields E fa.toList l = true) :
    (Instr.checkKey b (n + 2) t (.agg cs)).run E.P w = .ok () w := by
  have hu := run_und ok (w := w) hd
  rw [Instr.checkKey]
  simp only [Sem.run_bind, hu, Result.andThen_ok]
  rw [← Array.forIn_toList]
  have := run_checkFields ok (w := w) (n := n) (b := b) hl hk
  rw [this]
  rfl

/-- A key of a map of this key type. -/
noncomputable def keyOk (E : Env) (t : Nat) (x : AV) : Bool :=
  match E.und t with
  | none => false
  | some d => cond (atomD d) true (match fieldsOf d with
    | none => false
    | some fs => match x with
      | .agg l => keyFields E fs l
      | _ => false)
include ok in
theorem keyOk_ok {w : World} {ρ : Rho} {t : Nat} {x : AV} {v : Value} {b : Bool} (hx : VR ρ x v) (h : keyOk E t x = true) : (Instr.checkKey b 10000 t v).run E.P w = .ok () w := by
  unfold keyOk at h
  cases hd : E.und t with
  | none => rw [hd] at h; cases h
  | some d =>
    rw [hd] at h
    simp only at h
    cases ha : atomD d with
    | true => exact run_checkKey_atom ok (n := 9999) hd ha
    | false =>
      rw [ha] at h
      simp only [cond_false] at h
      cases hf : fieldsOf d with
      | none => rw [hf] at h; cases h
      | some fs =>
        rw [hf] at h
        obtain ⟨fa, rfl, rfl⟩ := fieldsOf_inv hf
        cases x <;> simp only at h <;> try (cases h; done)
        unfold VR at hx
        obtain ⟨vs, rfl, hl⟩ := hx
        exact run_checkKey_struct ok (n := 9998) hd hl h

/-- Find a key. -/
noncomputable def findK (E : Env) (t : Nat) (key : AV) (l : List (AV × AV × Nat)) : Option (Option (Nat × AV)) :=
  match l with
  | [] => some none
  | e :: l => match E.und t with
    | none => none
    | some d => cond (atomD d) (aFind (aEqAtom d key) (e :: l) 0) (cond (aggD d) (aFind (aEq E false t key) (e :: l) 0) none)

theorem sameNow_agg {d : TypeDesc} {v u : Value} (h : aggD d = true) : Instr.sameNow d v u = none := by
  cases d <;> simp only [aggD] at h <;> first | (cases h; done) | rfl

include ok in
theorem findK_ok {w : World} {ρ : Rho} {t : Nat} {key : AV} {kv : Value} {l : List (AV × AV × Nat)} {es : List MapEntry} {r : Option (Nat × AV)} (hd0 : (E.und t).isSome = true) (hk : VR ρ key kv) (he : ER ρ l es)
    (h : findK E t key l = some r) : ∃ r', (Instr.findKey t kv es).run E.P w = .ok r' w ∧ FR ρ r r' := by
  cases hd : E.und t with
  | none => rw [hd] at hd0; cases hd0
  | some d =>
    have hu := run_und ok (w := w) hd
    cases l with
    | nil =>
      unfold ER at he; subst he
      unfold findK at h; cases h
      exact ⟨none, by simp [Instr.findKey, hu, Instr.findNow], trivial⟩
    | cons e l =>
      unfold findK at h
      simp only [hd] at h
      cases ha : atomD d with
      | true =>
        rw [ha] at h
        obtain ⟨r', p1, p2⟩ := aFind_atom hk he h
        exact ⟨r', by simp [Instr.findKey, hu, p1], p2⟩
      | false =>
        rw [ha] at h
        simp only [cond_false] at h
        cases hag : aggD d with
        | false => rw [hag] at h; cases h
        | true =>
          rw [hag] at h
          simp only [cond_true] at h
          obtain ⟨r', p1, p2⟩ := aFind_ask ok (w := w) hk he h
          refine ⟨r', ?_, p2⟩
          obtain ⟨k, v, b⟩ := e
          unfold ER at he
          obtain ⟨e', es', rfl, _⟩ := he
          simp [Instr.findKey, hu, Instr.findNow, sameNow_agg hag, p1]

noncomputable def aLookup (E : Env) (hp : Hp) (t : Nat) (m key : AV) (commaOk : Bool) : Option AV :=
  match E.und t with
  | none => none
  | some d => match isMapD d with
    | none => none
    | some (kt, et) => cond (keyOk E kt key) (match (match m with
        | .mnil => some []
        | .map id => (match hp.get id with
          | some (.map es _) => some es
          | _ => none)
        | _ => none) with
      | none => none
      | some es => match findK E kt key es with
        | none => none
        | some (some (_, v)) => some (cond commaOk (.tup [v, .bool true]) v)
        | some none => match zeroAV E et with
          | none => none
          | some z => some (cond commaOk (.tup [z, .bool false]) z)) none

theorem keyOk_und {t : Nat} {x : AV} (h : keyOk E t x = true) : (E.und t).isSome = true := by
  unfold keyOk at h
  cases hd : E.und t with
  | none => rw [hd] at h; cases h
  | some d => rfl

include ok in
theorem aLookup_ok {ρ : Rho} {hp : Hp} {nx : Nat} {w : World} {t : Nat} {m key y : AV} {mv kv : Value} {c : Bool} (r : E.R ρ hp nx w) (hm : VR ρ m mv) (hk : VR ρ key kv) (h : aLookup E hp t m key c = some y) :
    ∃ v', (Instr.lookup t mv kv c).run E.P w = .ok v' w ∧ VR ρ y v' := by
  unfold aLookup at h
  cases hd : E.und t with
  | none => rw [hd] at h; cases h
  | some d =>
    rw [hd] at h
    simp only at h
    have hu := run_und ok (w := w) hd
    cases hmd : isMapD d with
    | none => rw [hmd] at h; cases h
    | some p =>
      obtain ⟨kt, et⟩ := p
      rw [hmd] at h
      simp only at h
      have := isMapD_inv hmd; subst this
      cases hko : keyOk E kt key with
      | false => rw [hko] at h; cases h
      | true =>
        rw [hko] at h
        simp only [cond_true] at h
        have two : ∀ {x : AV} {v : Value} {b : Bool}, VR ρ x v → VR ρ (.tup [x, .bool b]) (.tuple #[v, .bool b]) := fun hv => by
          unfold VR; exact ⟨_, rfl, VRs.cons hv (VRs.cons (by unfold VR; rfl) VRs.nil)⟩
        cases m <;> simp only at h <;> try (cases h; done)
        case mnil =>
          unfold VR at hm; subst hm
          have hck := keyOk_ok ok (w := w) (b := true) hk hko
          have hfn : (Instr.findKey kt kv []).run E.P w = .ok none w := by
            obtain ⟨r', p1, p2⟩ := findK_ok ok (w := w) (es := []) (l := []) (r := none) (keyOk_und hko) hk (by unfold ER; rfl) rfl
            cases r' with
            | none => exact p1
            | some _ => exact p2.elim
          have hfk : findK E kt key [] = some none := rfl
          rw [hfk] at h
          simp only at h
          cases hz : zeroAV E et with
          | none => rw [hz] at h; cases h
          | some z =>
            rw [hz] at h; cases h
            obtain ⟨zv, z1, z2⟩ := zeroAV_ok ok (w := w) hz
            refine ⟨if c then .tuple #[zv, .bool false] else zv, by simp [Instr.lookup, hu, hck, hfn, z1], ?_⟩
            cases c with
            | true => exact two (z2 ρ)
            | false => exact z2 ρ
        case map id =>
          unfold VR at hm
          obtain ⟨b, sh, e, hρ, rfl⟩ := hm
          split at h
          · cases h
          · rename_i es hes
            split at hes
            · rename_i es' clock hg
              cases hes
              obtain ⟨b', sh', e', q1, es1, q2, q3⟩ := r.hr id _ hg
              rw [hρ] at q1; cases q1
              have hget : (getObj b).run E.P w = .ok (.map es1 clock) w := by simp [getObj, Sem.run, q2]
              have hck := keyOk_ok ok (w := w) (b := es1.isEmpty) hk hko
              cases hf : findK E kt key es with
              | none => rw [hf] at h; cases h
              | some res =>
                rw [hf] at h
                obtain ⟨r', p1, p2⟩ := findK_ok ok (w := w) (keyOk_und hko) hk q3 hf
                cases res with
                | some iv =>
                  obtain ⟨i, v⟩ := iv
                  cases h
                  cases r' with
                  | none => exact p2.elim
                  | some jv =>
                    obtain ⟨j, v'⟩ := jv
                    refine ⟨if c then .tuple #[v', .bool true] else v', by simp [Instr.lookup, hu, hget, hck, p1], ?_⟩
                    cases c with
                    | true => exact two p2.2
                    | false => exact p2.2
                | none =>
                  simp only at h
                  cases r' with
                  | some jv => exact p2.elim
                  | none =>
                    cases hz : zeroAV E et with
                    | none => rw [hz] at h; cases h
                    | some z =>
                      rw [hz] at h; cases h
                      obtain ⟨zv, z1, z2⟩ := zeroAV_ok ok (w := w) hz
                      refine ⟨if c then .tuple #[zv, .bool false] else zv, by simp [Instr.lookup, hu, hget, hck, p1, z1], ?_⟩
                      cases c with
                      | true => exact two (z2 ρ)
                      | false => exact z2 ρ
            · cases hes

/-- How many entries a map has. -/
noncomputable def aLenMap (E : Env) (hp : Hp) (t : Nat) (x : AV) : Option AV :=
  match E.und t with
  | none => none
  | some d => match isMapD d with
    | none => none
    | some _ => match x with
      | .map id => (match hp.get id with
        | some (.map es _) => some (.int .i64 (Int.ofNat es.length))
        | _ => none)
      | _ => none
theorem ER.length {ρ : Rho} : ∀ {l : List (AV × AV × Nat)} {es : List MapEntry}, ER ρ l es → es.length = l.length
  | [], es, h => by unfold ER at h; simp [h]
  | (k, v, b) :: l, es, h => by
    unfold ER at h
    obtain ⟨e, es', rfl, _, _, _, h4⟩ := h
    simp [ER.length h4]
include ok in
theorem aLenMap_ok {ρ : Rho} {hp : Hp} {nx : Nat} {w : World} {t ty : Nat} {ts : Array Nat} {vs : Array Value} {x z : AV} {v : Value} (r : E.R ρ hp nx w) (ht : ts[0]? = some t) (hvs : vs[0]? = some v) (hx : VR ρ x v)
    (h : aLenMap E hp t x = some z) : ∃ v', (Builtin.len_ ts ty vs).run E.P w = .ok v' w ∧ VR ρ z v' := by
  unfold aLenMap at h
  cases hd : E.und t with
  | none => rw [hd] at h; cases h
  | some d =>
    rw [hd] at h
    simp only at h
    have hu := run_und ok (w := w) hd
    cases hmd : isMapD d with
    | none => rw [hmd] at h; cases h
    | some p =>
      obtain ⟨kt, et⟩ := p
      rw [hmd] at h
      simp only at h
      have := isMapD_inv hmd; subst this
      cases x <;> simp only at h <;> try (cases h; done)
      unfold VR at hx
      obtain ⟨b, sh, e, hρ, rfl⟩ := hx
      split at h
      · rename_i es clock hg
        cases h
        obtain ⟨b', sh', e', q1, es1, q2, q3⟩ := r.hr _ _ hg
        rw [hρ] at q1; cases q1
        have hget : (getObj b).run E.P w = .ok (.map es1 clock) w := by simp [getObj, Sem.run, q2]
        refine ⟨.int .i64 es1.size, by simp [Builtin.len_, ht, hvs, hu, hget, goInt], ?_⟩
        unfold VR
        have := q3.length
        simp at this
        rw [this]; rfl
      · cases h

end Go.Evo
namespace Go.Evo

variable {E : Env} (ok : E.Ok)

/-- The operation is done: its value, and the heap behind it. -/
def Did (E : Env) (ρ : Rho) (h : Hp) (nx : Nat) (w : World) (z : AV) (h' : Hp) (nx' : Nat) (res : Result Next) : Prop :=
  ∃ vc w' ρ', (res = .ok (.value vc) w' ∨ (res = .ok .skip w' ∧ vc = undef)) ∧ VR ρ' z vc ∧ E.R ρ' h' nx' w' ∧ G ρ h nx w ρ' h' nx' w'

theorem vr_undef (ρ : Rho) : VR ρ (.tup []) undef := by unfold VR; exact ⟨#[], rfl, VRs.nil⟩

noncomputable def ofCells (l : List AV) : Tr AV := setN .nil l 0
theorem ofCells_get (l : List AV) (i : Nat) : (ofCells l).get i = l[i]? := by
  unfold ofCells
  rw [setN_get]
  by_cases h : 0 ≤ i ∧ i < 0 + l.length
  · rw [if_pos h]; rfl
  · rw [if_neg h, Tr.get_nil]
    rw [List.getElem?_eq_none (by omega)]

theorem rowMade {gs : Nat → Option (List AV)} {ng : Nat} {ρ : Rho} {h : Hp} {nx : Nat} {w w' : World} (r : Evo.R gs ng ρ h nx w) {id nx' elem : Nat} {cs : Array Value} {l : List AV} {fx : Bool} {tr : Tr AV} (htr : ∀ j, j < l.length → tr.get j = l[j]?) (hfree : ρ id = none) (hnx : nx ≤ nx')
    (hid : id < nx') (hl : l.length ≤ cs.size) (hv : VRs ρ l (cs.toList.take l.length)) (hfx : fx = true → cs.size = l.length) (hw : w'.heap = w.heap.push (.cells cs elem)) :
    Evo.R gs ng (ρ.put id (w.heap.size, 0, cs.size)) (h.set id (.cells fx elem tr l.length)) nx' w' := by
  refine r.alloc hfree hnx hid ?_ (by rw [hw]; simp) ?_
  · intro b hb
    rw [hw, Array.getElem?_push, if_neg (by omega)]
  · refine ⟨cs, (0, 0), by rw [hw]; simp, rfl, by omega, fun h => ⟨rfl, hfx h⟩, ?_, fun j _ h => by omega⟩
    intro j hj
    have hx : l[j]? = some l[j] := List.getElem?_eq_getElem hj
    obtain ⟨v, q1, q2⟩ := hv.get j _ hx
    refine ⟨l[j], v, by rw [htr j hj]; exact hx, ?_, VR.mono (Rho.le_put hfree) _ _ q2⟩
    rw [Nat.zero_add, ← Array.getElem?_toList]
    rw [List.getElem?_take_of_lt hj] at q1
    exact q1

/-- `n` copies of a row. -/
noncomputable def repl (z : List AV) (n : Nat) : List AV := Nat.rec (motive := fun _ => List AV) [] (fun _ ih => z ++ ih) n
theorem repl_succ (z : List AV) (n : Nat) : repl z (n + 1) = z ++ repl z n := rfl
theorem repl_length (z : List AV) : ∀ n, (repl z n).length = n * z.length
  | 0 => by rw [Nat.zero_mul]; rfl
  | n + 1 => by rw [repl_succ, List.length_append, repl_length z n, Nat.add_mul]; omega
theorem repl_get (z : List AV) (hz : 0 < z.length) : ∀ (n i : Nat), i < n * z.length → (repl z n)[i]? = z[i % z.length]?
  | 0, i, h => by omega
  | n + 1, i, h => by
    rw [repl_succ]
    by_cases hi : i < z.length
    · rw [List.getElem?_append_left hi, Nat.mod_eq_of_lt hi]
    · rw [List.getElem?_append_right (by omega), repl_get z hz n (i - z.length) (by rw [Nat.add_mul] at h; omega)]
      congr 1
      rw [Nat.mod_eq_sub_mod (show i ≥ z.length by omega)]

theorem VRs.repl {ρ : Rho} {z : List AV} {zc : Array Value} (hz : VRs ρ z zc.toList) (hz0 : 0 < z.length) (n m : Nat) (hm : m = n * z.length) :
    VRs ρ (repl z n) ((Array.range m).map (fun i => zc[i % zc.size]!)).toList := by
  have hs : zc.size = z.length := by simpa using hz.length
  refine VRs.of_get (by rw [repl_length]; simp [hm]) ?_
  intro i x hx
  have hi : i < n * z.length := by
    rcases Nat.lt_or_ge i (n * z.length) with h | h
    · exact h
    · rw [List.getElem?_eq_none (by rw [repl_length]; exact h)] at hx; cases hx
  rw [repl_get z hz0 n i hi] at hx
  obtain ⟨v, q1, q2⟩ := hz.get _ _ hx
  have hlt : i % zc.size < zc.size := Nat.mod_lt _ (by omega)
  refine ⟨v, ?_, q2⟩
  rw [← hs, Array.getElem?_toList, Array.getElem?_eq_getElem hlt] at q1
  cases q1
  rw [Array.getElem?_toList, Array.getElem?_map, Array.getElem?_range, if_pos (by omega)]
  simp [hlt]

noncomputable def mkA (k : Option Nat) (id : Nat) : AV := match k with | none => .ptr id 0 | some n => .sl id 0 n n
def mkV (k : Option Nat) (b : Nat) : Value := match k with | none => .pointer (some ⟨b, 0, none⟩) | some n => .slice (some ⟨b, 0, none⟩) n n
theorem mk_ok {ρ : Rho} {k : Option Nat} {id b e : Nat} (h : ρ id = some (b, 0, e)) : VR ρ (mkA k id) (mkV k b) := by
  cases k with
  | none => unfold mkA; unfold VR; exact ⟨b, 0, e, h, rfl⟩
  | some n => unfold mkA; unfold VR; exact ⟨b, 0, e, h, rfl⟩

/-- A block of known cells made: its type, its cells, what is handed out. -/
noncomputable def allocOf (E : Env) (tm : Tr AV) (o : Oper) : Option (Nat × List AV × Option Nat) :=
  (match o.op with
  | .alloc elem => fun E _tm => (match zeroOf E elem with
    | none => none
    | some z => some (elem, z, none))
  | .box elem x => fun _E tm => (match evO tm x with
    | none => none
    | some v => some (elem, v.cells, none))
  | .buildSlice t len parts => fun E tm => (match E.und t with
    | none => none
    | some d => match sliceElem d with
      | none => none
      | some e => match E.size e with
        | none => none
        | some z => match zeroOf E e with
          | none => none
          | some zc => cond (Nat.beq zc.length z) (cond (Nat.ble (Nat.mul len z) 100000) (cond (Nat.ble z 0) none (match evParts tm parts.toList with
            | none => none
            | some ps => match aFill (fun i => some (Nat.mul i z, z)) (repl zc len) ps with
              | none => none
              | some l => some (e, l, some len))) none) none)
  | _ => fun _E _tm => none) E tm

include ok in
theorem allocOf_ok {w : World} {ρ : Rho} {n : Nat} {tm : Tr AV} {a : Act} {o : Oper} {elem : Nat} {l : List AV} {k : Option Nat} (ht : TmR ρ n tm a.tmps) (h : allocOf E tm o = some (elem, l, k)) :
    ∃ cs : Array Value, VRs ρ l cs.toList ∧ (execOp a.eval o).run E.P w = .ok (.value (mkV k w.heap.size)) { w with heap := w.heap.push (.cells cs elem) } := by
  obtain ⟨dst, op, type, pos, after, guard⟩ := o
  unfold allocOf at h
  cases op <;> simp only at h <;> try (cases h; done)
  case alloc t =>
    cases hz : zeroOf E t with
    | none => rw [hz] at h; cases h
    | some z =>
      rw [hz] at h; cases h
      obtain ⟨zv, q1, q2⟩ := zeroOf_ok ok (w := w) hz
      refine ⟨zv.cells, q2 ρ, run_value ?_⟩
      simp [Instr.alloc, q1, newVar, newRow, mkV]
  case box t x =>
    cases h1 : evO tm x with
    | none => rw [h1] at h; cases h
    | some v =>
      rw [h1] at h; cases h
      refine ⟨(a.eval x).cells, (evO_ok ht h1).cells, run_value ?_⟩
      simp [Instr.box, newVar, newRow, mkV]
  case buildSlice t len parts =>
    cases hd : E.und t with
    | none => rw [hd] at h; cases h
    | some d =>
      rw [hd] at h; simp only at h
      have hu := run_und ok (w := w) hd
      cases he : sliceElem d with
      | none => rw [he] at h; cases h
      | some e =>
        rw [he] at h; simp only at h
        have := sliceElem_inv he; subst this
        cases hz : E.size e with
        | none => rw [hz] at h; cases h
        | some z =>
          rw [hz] at h; simp only at h
          cases hzc : zeroOf E e with
          | none => rw [hzc] at h; cases h
          | some zc =>
            rw [hzc] at h; simp only at h
            cases h1 : Nat.beq zc.length z with
            | false => rw [h1] at h; cases h
            | true =>
              rw [h1] at h; simp only [cond_true] at h
              cases h2 : Nat.ble (Nat.mul len z) 100000 with
              | false => rw [h2] at h; cases h
              | true =>
                rw [h2] at h; simp only [cond_true] at h
                cases h3 : Nat.ble z 0 with
                | true => rw [h3] at h; cases h
                | false =>
                  rw [h3] at h; simp only [cond_false] at h
                  cases h4 : evParts tm parts.toList with
                  | none => rw [h4] at h; cases h
                  | some ps =>
                    rw [h4] at h; simp only at h
                    cases h5 : aFill (fun i => some (Nat.mul i z, z)) (repl zc len) ps with
                    | none => rw [h5] at h; cases h
                    | some l' =>
                      rw [h5] at h; cases h
                      rw [Nat.beq_eq] at h1
                      rw [ble_iff] at h2
                      rw [ble_false] at h3
                      have h2' : len * z ≤ 100000 := h2
                      obtain ⟨zv, q1, q2⟩ := zeroOf_ok ok (w := w) hzc
                      have hp := evParts_ok ht h4
                      rw [← Array.toList_map] at hp
                      by_cases hlen : len = 0
                      · subst hlen
                        have hrep : VRs ρ (repl zc 0) (#[] : Array Value).toList := VRs.nil
                        obtain ⟨cs', p1, p2⟩ := aFill_ok hrep hp h5
                        refine ⟨cs', p2, run_value ?_⟩
                        have p1' : Instr.fill (fun i => some (i * z, z)) #[] (parts.map fun (p : Nat × Operand) => (p.1, a.eval p.2)).toList = some cs' := p1
                        simp at p1'
                        have e0 : ∀ f : Nat → Value, Array.map f (Array.range 0) = #[] := fun f => Array.eq_empty_of_size_eq_zero (by simp)
                        simp [Instr.buildSlice, hu, run_size ok hz, e0, p1', newRow, mkV]
                      · have hne : len * z ≠ 0 := by
                          intro h0
                          rcases Nat.mul_eq_zero.1 h0 with h | h <;> omega
                        have hrep := VRs.repl (q2 ρ) (by omega) len (len * z) (by rw [h1])
                        obtain ⟨cs', p1, p2⟩ := aFill_ok hrep hp h5
                        refine ⟨cs', p2, run_value ?_⟩
                        have p1' : Instr.fill (fun i => some (i * z, z)) ((Array.range (len * z)).map (fun i => zv.cells[i % zv.cells.size]!)) (parts.map fun (p : Nat × Operand) => (p.1, a.eval p.2)).toList = some cs' := p1
                        simp only [Array.toList_map] at p1'
                        have hbig : ¬ (len * z > 2 ^ 24) := by
                          have : (2 : Nat) ^ 24 = 16777216 := rfl
                          omega
                        simp only [Instr.buildSlice, Sem.run_bind, hu, Result.andThen_ok, run_size ok hz, Sem.run_ite, if_neg hbig, if_neg hne, q1, Sem.run_pure, Array.toList_map]
                        rw [p1']
                        simp [newRow, mkV]

/-- It made a row under the next number. -/
theorem did_alloc {ρ : Rho} {h : Hp} {nx : Nat} {w : World} {elem : Nat} {l : List AV} {k : Option Nat} {cs : Array Value} {res : Result Next} (r : E.R ρ h nx w) (hv : VRs ρ l cs.toList)
    (hr : res = .ok (.value (mkV k w.heap.size)) { w with heap := w.heap.push (.cells cs elem) }) :
    Did E ρ h nx w (mkA k nx) (h.set nx (.cells true elem (ofCells l) l.length)) (Nat.succ nx) res := by
  have hlen : cs.size = l.length := by simpa using hv.length
  have hr1 : E.R (ρ.put nx (w.heap.size, 0, cs.size)) (h.set nx (.cells true elem (ofCells l) l.length)) (Nat.succ nx) { w with heap := w.heap.push (.cells cs elem) } :=
    rowMade r (fun j _ => ofCells_get l j) (r.fresh nx (Nat.le_refl _)) (Nat.le_succ _) (Nat.lt_succ_self _) (by omega) (by rw [List.take_of_length_le (by simp; omega)]; exact hv) (fun _ => hlen) rfl
  refine ⟨_, _, ρ.put nx (w.heap.size, 0, cs.size), .inl hr, mk_ok (Rho.put_self _ _ _), hr1, ?_⟩
  refine G.alloc (w' := { w with heap := w.heap.push (.cells cs elem) }) r (Nat.lt_succ_self _) ?_ (by simp) ⟨rfl, rfl, rfl⟩
  intro b hb
  simp only [Array.getElem?_push]
  rw [if_neg (by omega)]

noncomputable def aStore (E : Env) (hp : Hp) (t : Nat) (x v : AV) : Option Hp :=
  match x with
  | .ptr id o => (match hp.get id with
    | some (.cells fx el cs n) => (match E.size t with
      | none => none
      | some z => cond (Nat.beq v.cells.length z) (cond (Nat.ble (Nat.add o z) n) (cond (allOne v.cells) (forceT (setN cs v.cells o) fun cs' => some (hp.set id (.cells fx el cs' n))) none) none) none)
    | _ => none)
  | _ => none

/-- Cells of a block written over. -/
theorem OR.written {ρ : Rho} {w' : World} {fx : Bool} {el n : Nat} {cs : Tr AV} {b sh e o : Nat} {c : Array Value} {fr : Nat × Nat} {l : List AV} {vs : List Value} (h2 : c.size = e) (h3 : sh + n ≤ e)
    (h3' : fx = true → sh = 0 ∧ e = n) (h4 : ∀ j, j < n → ∃ a v, cs.get j = some a ∧ c[sh + j]? = some v ∧ VR ρ a v) (h5 : ∀ j, j < e → ¬ (fr.1 ≤ j ∧ j < fr.2)) (hl : VRs ρ l vs) (hle : o + l.length ≤ n)
    (hw : w'.heap[b]? = some (.cells ((vs.zipIdx 0).foldl (fun cs (p : Value × Nat) => cs.setIfInBounds (sh + o + p.2) p.1) c) el fr)) : OR ρ w' (.cells fx el (setN cs l o) n) b sh e := by
  have hvl := hl.length
  refine ⟨_, fr, hw, by rw [fold_size]; exact h2, h3, h3', ?_, h5⟩
  intro j hj
  rw [setN_get]
  have hf := fold_get vs 0 (sh + o) c (by omega) (sh + j)
  rw [Nat.add_zero] at hf
  by_cases hin : o ≤ j ∧ j < o + l.length
  · rw [if_pos hin]
    rw [if_pos (by omega)] at hf
    have hx : l[j - o]? = some l[j - o] := List.getElem?_eq_getElem (by omega)
    obtain ⟨v, q1, q2⟩ := hl.get _ _ hx
    refine ⟨_, v, hx, ?_, q2⟩
    rw [hf]
    have : sh + j - (sh + o) = j - o := by omega
    rw [this]; exact q1
  · rw [if_neg hin]
    rw [if_neg (by omega)] at hf
    obtain ⟨a, v, q1, q2, q3⟩ := h4 j hj
    exact ⟨a, v, q1, by rw [hf]; exact q2, q3⟩

include ok in
theorem aStore_ok {ρ : Rho} {h h' : Hp} {nx : Nat} {w : World} {t : Nat} {x y : AV} {u v : Value} (r : E.R ρ h nx w) (hx : VR ρ x u) (hy : VR ρ y v) (hh : aStore E h t x y = some h') :
    Did E ρ h nx w (.tup []) h' nx ((do Instr.storeAt t u v; pure .skip : Sem Next).run E.P w) := by
  unfold aStore at hh
  cases x <;> simp only at hh <;> try (cases hh; done)
  case ptr id o =>
    unfold VR at hx
    obtain ⟨b, sh, e, hρ, rfl⟩ := hx
    split at hh
    · rename_i fx el cs n hg
      cases hz : E.size t with
      | none => rw [hz] at hh; cases hh
      | some z =>
        rw [hz] at hh; simp only at hh
        cases h1 : Nat.beq y.cells.length z with
        | false => rw [h1] at hh; cases hh
        | true =>
          rw [h1] at hh; simp only [cond_true] at hh
          cases h2 : Nat.ble (Nat.add o z) n with
          | false => rw [h2] at hh; cases hh
          | true =>
            rw [h2] at hh; simp only [cond_true] at hh
            cases h3 : allOne y.cells with
            | false => rw [h3] at hh; cases hh
            | true =>
              rw [h3] at hh
              simp only [cond_true, forceT_eq] at hh
              cases hh
              rw [Nat.beq_eq] at h1
              rw [ble_iff] at h2
              have h2' : o + z ≤ n := h2
              obtain ⟨b', sh', e', q1, c, fr, q2, q3, q4, q4', q5, q6⟩ := r.hr id _ hg
              rw [hρ] at q1; cases q1
              have hcl := hy.cells
              have hlen : v.cells.size = z := by have := hcl.length; simp at this; omega
              obtain ⟨w', p1, p2, p3, p4, p5⟩ := run_storeRow (P := E.P) b (sh + o) el fr v.cells.toList 0 c w q2 (by simp; omega) (by rw [q3]; exact q6) (allOne_ok hcl h3)
              have ho : OR ρ w' (.cells fx el (setN cs y.cells o) n) b sh e :=
                OR.written q3 q4 q4' q5 q6 hcl (by omega) p2
              obtain ⟨r1, r2⟩ := r.update hg hρ p3 p4 ho p5
              refine ⟨undef, w', ρ, .inr ⟨?_, rfl⟩, vr_undef ρ, r1, r2⟩
              have hne : ¬ (v.cells.size ≠ z) := by omega
              simp [Instr.storeAt, Instr.sureAddr, storeVar, run_size ok hz, hne, p1]
    · cases hh

end Go.Evo
namespace Go.Evo

variable {E : Env} (ok : E.Ok)

noncomputable def seqD : TypeDesc → Bool
  | .slice _ => true
  | .string => true
  | _ => false
theorem run_append_in {P : Program} {w w' : World} {t u ty e : Nat} {len cap n : Nat} {a : Addr} {x : Value} {new : Array Value} {i : TypeInfo} {d : TypeDesc} (ht : P.underlying t = some (.slice e)) (hu : P.underlying u = some d) (hd : seqD d = true) (hi : P.info? e = some i)
    (hn : (Builtin.lenOf x).run P w = .ok n w) (hnew : (Builtin.firstCells i.size n x).run P w = .ok new w) (hle : len + n ≤ cap)
    (hst : (storeCells (a.add (len * i.size)) new.toList).run P w = .ok () w') : (Builtin.append_ #[t, u] ty #[.slice (some a) len cap, x]).run P w = .ok (.slice (some a) (len + n) cap) w' := by
  cases d <;> simp only [seqD] at hd <;> first
    | (cases hd; done)
    | simp [Builtin.append_, run_underlying ht, run_underlying hu, sizeOf, typeInfo, hi, hn, hle, hnew, hst]
theorem run_append_none {P : Program} {w : World} {t u ty e : Nat} {len cap : Nat} {b : Option Addr} {x : Value} {i : TypeInfo} {d : TypeDesc} (ht : P.underlying t = some (.slice e)) (hu : P.underlying u = some d) (hd : seqD d = true) (hi : P.info? e = some i)
    (hn : (Builtin.lenOf x).run P w = .ok 0 w) (hnew : (Builtin.firstCells i.size 0 x).run P w = .ok #[] w) (hle : len ≤ cap) : (Builtin.append_ #[t, u] ty #[.slice b len cap, x]).run P w = .ok (.slice b len cap) w := by
  cases d <;> simp only [seqD] at hd <;> first
    | (cases hd; done)
    | (cases b <;> simp [Builtin.append_, run_underlying ht, run_underlying hu, sizeOf, typeInfo, hi, hn, hle, hnew, storeCells])
theorem run_append_out {P : Program} {w : World} {t u ty e : Nat} {len cap n : Nat} {b : Option Addr} {x : Value} {old new : Array Value} {z : Value} {i : TypeInfo} {d : TypeDesc} (ht : P.underlying t = some (.slice e)) (hu : P.underlying u = some d) (hd : seqD d = true) (hi : P.info? e = some i)
    (hz : i.zero = some z) (hn : (Builtin.lenOf x).run P w = .ok n w) (hold : (Builtin.firstCells i.size len (.slice b len cap)).run P w.drew = .ok old w.drew) (hnew : (Builtin.firstCells i.size n x).run P w.drew = .ok new w.drew) (hlt : cap < len + n) (h63 : len + n ≤ 1000000)
    (h48 : Builtin.nextslicecap (len + n) cap * i.bytes ≤ 281474976710656) :
    ∃ c, len + n ≤ c ∧ (Builtin.append_ #[t, u] ty #[.slice b len cap, x]).run P w = .ok (.slice (some ⟨w.heap.size, 0, none⟩) (len + n) c) (w.drew.alloc (.cells (old ++ new ++ Builtin.zeroCells z.cells (c - (len + n))) e)) := by
  have hn' : ¬ (len + n ≤ cap) := by omega
  have h63' : ¬ (9223372036854775807 < ((len : Int) + (n : Int))) := by omega
  have h48' : ¬ (281474976710656 < Builtin.nextslicecap (len + n) cap * i.bytes) := by omega
  refine ⟨(Question.appendCap (len + n) cap e).cut (w.tape w.drawn (.appendCap (len + n) cap e)), Nat.le_add_right _ _, ?_⟩
  cases d <;> simp only [seqD] at hd <;> first
    | (cases hd; done)
    | simp [Builtin.append_, run_underlying ht, run_underlying hu, sizeOf, typeInfo, zeroValue, hi, hz, hn, hn', h63', h48', Question.forced, hnew, hold, newRow]

theorem growBy_le (need : Nat) : ∀ (r c : Nat), Builtin.growBy need r c ≤ max c (need + (need + 768) / 4)
  | 0, c => Nat.le_max_left _ _
  | r + 1, c => by
    unfold Builtin.growBy
    split
    · exact Nat.le_max_left _ _
    · have := growBy_le need r (c + (c + 768) / 4)
      refine Nat.le_trans this ?_
      omega
theorem nextcap_le {need c : Nat} (h : c < need) : Builtin.nextslicecap need c ≤ 2 * need + 192 := by
  unfold Builtin.nextslicecap
  split
  · omega
  · split
    · omega
    · have := growBy_le need 4 c
      omega

/-- What is appended: how many elements, and their cells. -/
noncomputable def srcOf (E : Env) (hp : Hp) (z : Nat) (x : AV) : Option (Nat × List AV) :=
  match x with
  | .snil => some (0, [])
  | .str l => cond (Nat.beq z 1) (some (l.length, l.map fun b => .int .u8 (Int.ofNat b))) none
  | .sl id o n _ => cond (Nat.beq n 0) (some (0, [])) (match cellsAt E hp (.ptr id o) (Nat.mul n z) with
    | none => none
    | some l => some (n, l))
  | .slo id o n z' => cond (Nat.beq z z') (cond (Nat.beq n 0) (some (0, [])) (match cellsAt E hp (.ptr id o) (Nat.mul n z) with
    | none => none
    | some l => some (n, l))) none
  | _ => none

theorem cell_of_heap {w w' : World} (h : w'.heap = w.heap) (A : Addr) : w'.cell? A = w.cell? A := by unfold World.cell?; rw [h]

theorem srcOf_ok {ρ : Rho} {hp : Hp} {nx : Nat} {w : World} {z n : Nat} {x : AV} {v : Value} {l : List AV} (r : E.R ρ hp nx w) (hx : VR ρ x v) (h : srcOf E hp z x = some (n, l)) :
    (∀ w' : World, (Builtin.lenOf v).run E.P w' = .ok n w') ∧ l.length = n * z ∧ ∃ new : Array Value, VRs ρ l new.toList ∧ ∀ w' : World, w'.heap = w.heap → (Builtin.firstCells z n v).run E.P w' = .ok new w' := by
  have zero : ∀ (a : Addr) (m c : Nat) (w' : World), (Builtin.firstCells z 0 (.slice (some a) m c)).run E.P w' = .ok #[] w' := fun a m c w' => by
    simp [Builtin.firstCells, loadCells, loadCellsFrom]
  have cells : ∀ (id o n c b sh e : Nat) (m : Nat), ρ id = some (b, sh, e) → cellsAt E hp (.ptr id o) (Nat.mul n z) = some l → l.length = n * z ∧ ∃ new : Array Value, VRs ρ l new.toList ∧ ∀ w' : World, w'.heap = w.heap →
      (Builtin.firstCells z n (.slice (some ⟨b, sh + o, none⟩) m c)).run E.P w' = .ok new w' := by
    intro id o n c b sh e m hρ hc
    obtain ⟨A, hA, _, hl, vs, q1, q2⟩ := cellsAt_ok (v := .pointer (some ⟨b, sh + o, none⟩)) r (by unfold VR; exact ⟨b, sh, e, hρ, rfl⟩) hc
    cases hA
    refine ⟨hl, vs.toArray, q1, fun w' hw => ?_⟩
    have hlen : vs.length = n * z := by rw [q1.length, hl]; rfl
    have := run_firstCells_some (P := E.P) w' z n ⟨b, sh + o, none⟩ m c vs hlen (fun j u hu => by rw [cell_of_heap hw]; exact q2 j u hu)
    exact this
  unfold srcOf at h
  cases x <;> simp only at h <;> try (cases h; done)
  case snil =>
    cases h
    unfold VR at hx; subst hx
    exact ⟨fun w' => rfl, by simp, #[], VRs.nil, fun w' _ => by simp [Builtin.firstCells]⟩
  case str s =>
    unfold VR at hx
    obtain ⟨b, rfl, rfl⟩ := hx
    cases hz : Nat.beq z 1 with
    | false => rw [hz] at h; cases h
    | true =>
      rw [hz] at h
      rw [Nat.beq_eq] at hz
      subst hz
      cases h
      refine ⟨fun w' => by simp [Builtin.lenOf], by simp, b.data.map (fun x => .int .u8 x.toNat), ?_, fun w' _ => ?_⟩
      · refine VRs.of_get (by simp) ?_
        intro i y hy
        simp only [List.map_map, List.getElem?_map] at hy
        cases hb : b.data.toList[i]? with
        | none => rw [hb] at hy; cases hy
        | some c =>
          rw [hb] at hy; cases hy
          refine ⟨.int .u8 c.toNat, ?_, by unfold VR; rfl⟩
          rw [Array.toList_map, List.getElem?_map, hb]; rfl
      · have : b.extract 0 b.size = b := by
          have h1 : (b.extract 0 b.size).data = b.data := by
            rw [ByteArray.data_extract]
            exact Array.extract_eq_self_of_le (Nat.le_refl _)
          exact ByteArray.ext h1
        simp [Builtin.firstCells, this]
  case sl id o m c =>
    unfold VR at hx
    obtain ⟨b, sh, e, hρ, rfl⟩ := hx
    cases hn : Nat.beq m 0 with
    | true =>
      rw [hn] at h; cases h
      rw [Nat.beq_eq] at hn; subst hn
      exact ⟨fun w' => rfl, by simp, #[], VRs.nil, fun w' _ => zero _ _ _ w'⟩
    | false =>
      rw [hn] at h
      simp only [cond_false] at h
      cases hc : cellsAt E hp (.ptr id o) (Nat.mul m z) with
      | none => rw [hc] at h; cases h
      | some l' =>
        rw [hc] at h; cases h
        exact ⟨fun w' => rfl, cells id o n c b sh e n hρ hc⟩
  case slo id o m z' =>
    unfold VR at hx
    obtain ⟨b, sh, e, hρ, hx⟩ := hx
    cases hz : Nat.beq z z' with
    | false => rw [hz] at h; cases h
    | true =>
      rw [hz] at h
      simp only [cond_true] at h
      cases hn : Nat.beq m 0 with
      | true =>
        rw [hn] at h; cases h
        rw [Nat.beq_eq] at hn; subst hn
        rcases hx with ⟨c, rfl, _⟩ | ⟨_, a, rfl⟩
        · exact ⟨fun w' => rfl, by simp, #[], VRs.nil, fun w' _ => zero _ _ _ w'⟩
        · exact ⟨fun w' => rfl, by simp, #[], VRs.nil, fun w' _ => zero _ _ _ w'⟩
      | false =>
        rw [hn] at h
        simp only [cond_false] at h
        cases hc : cellsAt E hp (.ptr id o) (Nat.mul m z) with
        | none => rw [hc] at h; cases h
        | some l' =>
          rw [hc] at h; cases h
          rcases hx with ⟨c, rfl, _⟩ | ⟨h0, a, rfl⟩
          · exact ⟨fun w' => rfl, cells id o n c b sh e n hρ hc⟩
          · subst h0; simp at hn

/-- A new row, of open end. -/
noncomputable def growTo (E : Env) (hp : Hp) (nx e : Nat) (i : TypeInfo) (tr : Tr AV) (k need : Nat) : Option (AV × Hp × Nat) :=
  match zeroOf E e with
  | none => none
  | some zl => cond (Nat.beq zl.length i.size) (cond (Nat.blt 0 i.size) (cond (Nat.ble need 1000000) (cond (Nat.ble i.bytes 10000)
      (some (.slo nx 0 need i.size, hp.set nx (.cells false e tr k), Nat.succ nx)) none) none) none) none

theorem zeroCells_size (zc : Array Value) (n : Nat) : (Builtin.zeroCells zc n).size = n * zc.size := by simp [Builtin.zeroCells]

theorem growTo_ok (ok : E.Ok) {ρ : Rho} {hp hp' : Hp} {nx nx' : Nat} {w : World} {t u ty e len cap n : Nat} {b : Option Addr} {x : Value} {old new : List AV} {oldc newc : Array Value} {i : TypeInfo} {d : TypeDesc} {y : AV} {tr : Tr AV} (r : E.R ρ hp nx w) (htr : ∀ j, j < (old ++ new).length → tr.get j = (old ++ new)[j]?)
    (ht : E.und t = some (.slice e)) (hu : E.und u = some d) (hd : seqD d = true) (hi : E.T.get e = some i) (hn : (Builtin.lenOf x).run E.P w = .ok n w)
    (hold : (Builtin.firstCells i.size len (.slice b len cap)).run E.P w.drew = .ok oldc w.drew) (hnew : (Builtin.firstCells i.size n x).run E.P w.drew = .ok newc w.drew)
    (ho : VRs ρ old oldc.toList) (hol : old.length = len * i.size) (hv : VRs ρ new newc.toList) (hnl : new.length = n * i.size) (hlt : cap < len + n) (hg : growTo E hp nx e i tr (old ++ new).length (len + n) = some (y, hp', nx')) :
    Did E ρ hp nx w y hp' nx' ((do pure (Next.value (← Builtin.append_ #[t, u] ty #[.slice b len cap, x])) : Sem Next).run E.P w) := by
  unfold growTo at hg
  cases hz : zeroOf E e with
  | none => rw [hz] at hg; cases hg
  | some zl =>
    rw [hz] at hg; simp only at hg
    cases h1 : Nat.beq zl.length i.size with
    | false => rw [h1] at hg; cases hg
    | true =>
      rw [h1] at hg; simp only [cond_true] at hg
      cases h2 : Nat.blt 0 i.size with
      | false => rw [h2] at hg; cases hg
      | true =>
        rw [h2] at hg; simp only [cond_true] at hg
        cases h3 : Nat.ble (len + n) 1000000 with
        | false => rw [h3] at hg; cases hg
        | true =>
          rw [h3] at hg; simp only [cond_true] at hg
          cases h4 : Nat.ble i.bytes 10000 with
          | false => rw [h4] at hg; cases hg
          | true =>
            rw [h4] at hg; cases hg
            rw [Nat.beq_eq] at h1
            rw [blt_iff] at h2
            rw [ble_iff] at h3 h4
            have hinfo := ok.tok e i hi
            obtain ⟨zv, hzv, hzr⟩ : ∃ zv, i.zero = some zv ∧ VRs ρ zl zv.cells.toList := by
              unfold zeroOf at hz
              rw [hi] at hz
              simp only at hz
              cases hzz : i.zero with
              | none => rw [hzz] at hz; cases hz
              | some zv => rw [hzz] at hz; exact ⟨zv, rfl, ofVs_ok hz⟩
            have hzs : zv.cells.size = i.size := by have := hzr.length; simp at this; omega
            have hcap : Builtin.nextslicecap (len + n) cap * i.bytes ≤ 281474976710656 := by
              have h5 := nextcap_le hlt
              have h6 : Builtin.nextslicecap (len + n) cap * i.bytes ≤ 2000192 * 10000 := Nat.mul_le_mul (by omega) h4
              omega
            obtain ⟨c, hc, hrun⟩ := run_append_out (ty := ty) (und_ok ok ht) (und_ok ok hu) hd hinfo hzv hn hold hnew hlt h3 hcap
            have hos : oldc.size = len * i.size := by have := ho.length; simp at this; omega
            have hns : newc.size = n * i.size := by have := hv.length; simp at this; omega
            have hsum : oldc.size + newc.size = (len + n) * i.size := by rw [hos, hns, Nat.add_mul]
            have hall : (oldc ++ newc ++ Builtin.zeroCells zv.cells (c - (len + n))).size = c * i.size := by
              rw [Array.size_append, Array.size_append, zeroCells_size, hzs, hsum, ← Nat.add_mul]
              congr 1; omega
            have hll : (old ++ new).length = (len + n) * i.size := by rw [List.length_append, hol, hnl, Nat.add_mul]
            have htake : ((oldc ++ newc ++ Builtin.zeroCells zv.cells (c - (len + n))).toList.take (old ++ new).length) = oldc.toList ++ newc.toList := by
              rw [Array.toList_append, Array.toList_append]
              rw [List.take_append_of_le_length (by simp; omega), List.take_of_length_le (by simp; omega)]
            have hr1 : E.R (ρ.put nx (w.heap.size, 0, c * i.size)) (hp.set nx (.cells false e tr (old ++ new).length)) (Nat.succ nx) (w.drew.alloc (.cells (oldc ++ newc ++ Builtin.zeroCells zv.cells (c - (len + n))) e)) := by
              rw [← hall]
              refine rowMade (w := w) (cs := oldc ++ newc ++ Builtin.zeroCells zv.cells (c - (len + n))) r htr (r.fresh nx (Nat.le_refl _)) (Nat.le_succ _) (Nat.lt_succ_self _) ?_ ?_ (fun h => by cases h) rfl
              · rw [hll, hall]; exact Nat.mul_le_mul_right _ hc
              · rw [htake]; exact ho.append hv
            refine ⟨_, _, ρ.put nx (w.heap.size, 0, c * i.size), .inl (run_value hrun), ?_, hr1, ?_⟩
            · unfold VR
              exact ⟨w.heap.size, 0, c * i.size, Rho.put_self _ _ _, .inl ⟨c, rfl, by omega, hc⟩⟩
            · refine G.alloc (w' := w.drew.alloc (.cells (oldc ++ newc ++ Builtin.zeroCells zv.cells (c - (len + n))) e)) r (Nat.lt_succ_self _) ?_ ?_ ⟨rfl, rfl, rfl⟩
              · intro b hb
                show (w.heap.push _)[b]? = _
                rw [Array.getElem?_push, if_neg (by omega)]
              · show w.heap.size < (w.heap.push _).size
                simp

theorem G.weaken {ρ ρ' : Rho} {h h' h'' : Hp} {nx nx' : Nat} {w w' : World} (g : G ρ h nx w ρ' h' nx' w') (hs : ∀ id o, h''.get id = some o → h'.get id = some o) : G ρ h nx w ρ' h'' nx' w' :=
  ⟨g.ext, g.nx_le, g.keep, g.size, g.frame, fun id o b sh e h1 h2 => g.img id o b sh e (hs id o h1) h2, fun id o h1 h2 => g.live id o (hs id o h1) h2, g.tape, g.os, g.output⟩
theorem Did.weaken {ρ : Rho} {h h' h'' : Hp} {nx nx' : Nat} {w : World} {z : AV} {res : Result Next} (d : Did E ρ h nx w z h' nx' res) (hs : ∀ id o, h''.get id = some o → h'.get id = some o) : Did E ρ h nx w z h'' nx' res := by
  obtain ⟨vc, w', ρ', h1, h2, h3, h4⟩ := d
  exact ⟨vc, w', ρ', h1, h2, R.weaken h3 hs, h4.weaken hs⟩

/-- Cells written into a block that is known there. -/
theorem storeAtId {ρ : Rho} {hp : Hp} {nx : Nat} {w : World} {id b sh e o m el : Nat} {fx : Bool} {cs : Tr AV} {l : List AV} {vs : List Value} (r : E.R ρ hp nx w) (hg : hp.get id = some (.cells fx el cs m)) (hρ : ρ id = some (b, sh, e))
    (hv : VRs ρ l vs) (hle : o + l.length ≤ m) (h1 : allOne l = true) :
    ∃ w', (storeCells ⟨b, sh + o, none⟩ vs).run E.P w = .ok () w' ∧ E.R ρ (hp.set id (.cells fx el (setN cs l o) m)) nx w' ∧ G ρ hp nx w ρ (hp.set id (.cells fx el (setN cs l o) m)) nx w' := by
  obtain ⟨b', sh', e', q1, c, fr, q2, q3, q4, q4', q5, q6⟩ := r.hr id _ hg
  rw [hρ] at q1; cases q1
  have hlen := hv.length
  obtain ⟨w', p1, p2, p3, p4, p5⟩ := run_storeRow (P := E.P) b (sh + o) el fr vs 0 c w q2 (by omega) (by rw [q3]; exact q6) (allOne_ok hv h1)
  have ho : OR ρ w' (.cells fx el (setN cs l o) m) b sh e := OR.written q3 q4 q4' q5 q6 hv (by omega) p2
  obtain ⟨r1, r2⟩ := r.update hg hρ p3 p4 ho p5
  exact ⟨w', p1, r1, r2⟩

/-- Cells written behind all that is known of a block, by a slice that ends there: the row is known under a new number. -/
theorem moveOn {ρ : Rho} {hp : Hp} {nx : Nat} {w : World} {id b sh e o m el k : Nat} {fx : Bool} {cs tr : Tr AV} {old new : List AV} {vs : List Value} (r : E.R ρ hp nx w) (hg : hp.get id = some (.cells fx el cs m)) (hρ : ρ id = some (b, sh, e))
    (hold : ∀ j x, old[j]? = some x → cs.get (o + j) = some x) (ho : o + old.length = m) (hv : VRs ρ new vs) (hk : k = (old ++ new).length) (hle : sh + o + k ≤ e) (h1 : allOne new = true) (htr : ∀ j, j < (old ++ new).length → tr.get j = (old ++ new)[j]?) :
    ∃ w', (storeCells ⟨b, sh + o + old.length, none⟩ vs).run E.P w = .ok () w' ∧ E.R (ρ.put nx (b, sh + o, e)) ((hp.del id).set nx (.cells false el tr k)) (Nat.succ nx) w' ∧ G ρ hp nx w (ρ.put nx (b, sh + o, e)) ((hp.del id).set nx (.cells false el tr k)) (Nat.succ nx) w' := by
  obtain ⟨b', sh', e', q1, c, fr, q2, q3, q4, q4', q5, q6⟩ := r.hr id _ hg
  rw [hρ] at q1; cases q1
  have hlen := hv.length
  rw [List.length_append] at hk
  obtain ⟨w', p1, p2, p3, p4, p5⟩ := run_storeRow (P := E.P) b (sh + o + old.length) el fr vs 0 c w q2 (by omega) (by rw [q3]; exact q6) (allOne_ok hv h1)
  have hle' : ρ.le (ρ.put nx (b, sh + o, e)) := Rho.le_put (r.fresh nx (Nat.le_refl _))
  have hor : OR (ρ.put nx (b, sh + o, e)) w' (.cells false el tr k) b (sh + o) e := by
    refine ⟨_, fr, p2, by rw [fold_size]; exact q3, by omega, (fun h => by cases h), ?_, q6⟩
    intro j hj
    have hjl : j < (old ++ new).length := by rw [List.length_append]; omega
    have hx : (old ++ new)[j]? = some (old ++ new)[j] := List.getElem?_eq_getElem hjl
    have hf := fold_get vs 0 (sh + o + old.length) c (by omega) (sh + o + j)
    rw [Nat.add_zero] at hf
    by_cases hjo : j < old.length
    · rw [if_neg (by omega)] at hf
      rw [List.getElem?_append_left hjo] at hx
      have h2 := hold j _ hx
      obtain ⟨a, v, t1, t2, t3⟩ := q5 (o + j) (by omega)
      rw [h2] at t1; cases t1
      refine ⟨_, v, by rw [htr j hjl, List.getElem?_append_left hjo]; exact hx, ?_, VR.mono hle' _ _ t3⟩
      rw [hf, show sh + o + j = sh + (o + j) by omega]; exact t2
    · rw [if_pos (by omega)] at hf
      rw [List.getElem?_append_right (by omega)] at hx
      obtain ⟨v, t1, t2⟩ := hv.get _ _ hx
      refine ⟨_, v, by rw [htr j hjl, List.getElem?_append_right (by omega)]; exact hx, ?_, VR.mono hle' _ _ t2⟩
      rw [hf, show sh + o + j - (sh + o + old.length) = j - old.length by omega]; exact t1
  obtain ⟨r1, r2⟩ := r.move hg hρ p3 p4 hor p5
  exact ⟨w', p1, r1, r2⟩

noncomputable def aApp (E : Env) (hp : Hp) (nx t u : Nat) (s x : AV) : Option (AV × Hp × Nat) :=
  match E.und t with
  | none => none
  | some d => match E.und u with
    | none => none
    | some d' => match sliceElem d with
      | none => none
      | some e => match E.T.get e with
        | none => none
        | some i => match srcOf E hp i.size x with
          | none => none
          | some (n, new) => cond (seqD d') (match s with
            | .snil => cond (Nat.beq n 0) (some (.snil, hp, nx)) (growTo E hp nx e i (ofCells new) new.length n)
            | .sl id o len c => cond (Nat.beq n 0) (cond (Nat.ble len c) (some (.sl id o len c, hp, nx)) none) (cond (Nat.ble (Nat.add len n) c)
                (match hp.get id with
                | some (.cells fx el cs m) => cond (Nat.ble (Nat.add (Nat.add o (Nat.mul len i.size)) new.length) m) (cond (allOne new)
                    (some (.sl id o (Nat.add len n) c, hp.set id (.cells fx el (setN cs new (Nat.add o (Nat.mul len i.size))) m), nx)) none) none
                | _ => none)
                (match srcOf E hp i.size (.sl id o len c) with
                | none => none
                | some (_, old) => growTo E hp nx e i (ofCells (old ++ new)) (old ++ new).length (Nat.add len n)))
            | .slo id o len z => cond (Nat.beq z i.size) (cond (Nat.beq n 0) (some (.slo id o len z, hp, nx))
                (match hp.get id with
                | some (.cells fx el cs m) => cond (Nat.ble (Nat.add (Nat.add o (Nat.mul len z)) new.length) m)
                    (cond (Nat.beq len 0) none (cond (Nat.beq z 0) none (cond (allOne new)
                      (some (.slo id o (Nat.add len n) z, hp.set id (.cells fx el (setN cs new (Nat.add o (Nat.mul len z))) m), nx)) none)))
                    (cond (Nat.beq (Nat.add o (Nat.mul len z)) m) (cond (Nat.beq el e) (cond (allOne new) (match srcOf E hp i.size (.slo id o len z) with
                      | none => none
                      | some (_, old) => match growTo E hp nx e i (cond (Nat.beq o 0) (setN cs new (Nat.mul len z)) (ofCells (old ++ new))) (old ++ new).length (Nat.add len n) with
                        | none => none
                        | some (y, _, nx') => some (y, (hp.del id).set nx (.cells false e (cond (Nat.beq o 0) (setN cs new (Nat.mul len z)) (ofCells (old ++ new))) (old ++ new).length), nx')) none) none) none)
                | _ => none)) none
            | _ => none) none


theorem src_get {ρ : Rho} {hp : Hp} {nx : Nat} {w : World} {z n id o len c : Nat} {l : List AV} (r : E.R ρ hp nx w) {fx : Bool} {el m : Nat} {cs : Tr AV} (hg : hp.get id = some (.cells fx el cs m)) (h : srcOf E hp z (.slo id o len c) = some (n, l)) :
    n = len ∧ ∀ j x, l[j]? = some x → cs.get (o + j) = some x := by
  have _ := r
  unfold srcOf at h
  simp only at h
  cases hz : Nat.beq z c with
  | false => rw [hz] at h; cases h
  | true =>
    rw [hz] at h
    simp only [cond_true] at h
    cases hn : Nat.beq len 0 with
    | true => rw [hn] at h; cases h; rw [Nat.beq_eq] at hn; exact ⟨hn.symm, fun j x hx => by simp at hx⟩
    | false =>
      rw [hn] at h
      simp only [cond_false] at h
      cases hc : cellsAt E hp (.ptr id o) (Nat.mul len z) with
      | none => rw [hc] at h; cases h
      | some l' =>
        rw [hc] at h; cases h
        unfold cellsAt at hc
        simp only [hg] at hc
        cases hb : Nat.ble (Nat.add o (Nat.mul n z)) m with
        | false => rw [hb] at hc; cases hc
        | true => rw [hb] at hc; exact ⟨rfl, (getN_get hc).2⟩

theorem src_sl {hp : Hp} {z n id o len c : Nat} {l : List AV} (h : srcOf E hp z (.sl id o len c) = some (n, l)) : n = len := by
  unfold srcOf at h
  simp only at h
  cases hn : Nat.beq len 0 with
  | true => rw [hn] at h; cases h; rw [Nat.beq_eq] at hn; exact hn.symm
  | false =>
    rw [hn] at h
    simp only [cond_false] at h
    cases hc : cellsAt E hp (.ptr id o) (Nat.mul len z) with
    | none => rw [hc] at h; cases h
    | some l' => rw [hc] at h; cases h; rfl

theorem lenOf_slice {P : Program} {w : World} {b : Option Addr} {n m c : Nat} (h : (Builtin.lenOf (.slice b m c)).run P w = .ok n w) : n = m := by
  have h' : (Result.ok m w : Result Nat) = .ok n w := h
  cases h'; rfl

theorem did_plain {ρ ρ' : Rho} {hp hp' : Hp} {nx nx' : Nat} {w w' : World} {z : AV} {vc : Value} {s : Sem Value} (h : s.run E.P w = .ok vc w') (hv : VR ρ' z vc) (r : E.R ρ' hp' nx' w') (g : G ρ hp nx w ρ' hp' nx' w') :
    Did E ρ hp nx w z hp' nx' ((do pure (Next.value (← s)) : Sem Next).run E.P w) := ⟨vc, w', ρ', .inl (run_value h), hv, r, g⟩

set_option maxHeartbeats 1000000 in
include ok in
theorem aApp_ok {ρ : Rho} {hp hp' : Hp} {nx nx' : Nat} {w : World} {t u ty : Nat} {s x y : AV} {sv v : Value} (r : E.R ρ hp nx w) (hs : VR ρ s sv) (hx : VR ρ x v) (h : aApp E hp nx t u s x = some (y, hp', nx')) :
    Did E ρ hp nx w y hp' nx' ((do pure (Next.value (← Builtin.append_ #[t, u] ty #[sv, v])) : Sem Next).run E.P w) := by
  unfold aApp at h
  cases hd : E.und t with
  | none => rw [hd] at h; cases h
  | some d =>
    rw [hd] at h; simp only at h
    cases hd' : E.und u with
    | none => rw [hd'] at h; cases h
    | some d' =>
      rw [hd'] at h; simp only at h
      cases he : sliceElem d with
      | none => rw [he] at h; cases h
      | some e =>
        rw [he] at h; simp only at h
        have := sliceElem_inv he; subst this
        cases hi : E.T.get e with
        | none => rw [hi] at h; cases h
        | some i =>
          rw [hi] at h; simp only at h
          cases hsrc : srcOf E hp i.size x with
          | none => rw [hsrc] at h; cases h
          | some p =>
            obtain ⟨n, new⟩ := p
            rw [hsrc] at h; simp only at h
            cases hq : seqD d' with
            | false => rw [hq] at h; cases h
            | true =>
              rw [hq] at h; simp only [cond_true] at h
              obtain ⟨hlen, hnl, newc, hnv, hnr⟩ := srcOf_ok r hx hsrc
              have hu1 := und_ok ok hd
              have hu2 := und_ok ok hd'
              have hinfo := ok.tok e i hi
              have same : ∀ b len c, len ≤ c → n = 0 → (Builtin.append_ #[t, u] ty #[.slice b len c, v]).run E.P w = .ok (.slice b len c) w := by
                intro b len c hlc h0
                subst h0
                refine run_append_none hu1 hu2 hq hinfo (hlen w) ?_ hlc
                have := hnr w rfl
                have hne : newc = #[] := by
                  have h1 := hnv.length
                  rw [hnl] at h1
                  simp at h1
                  exact h1
                rw [hne] at this
                exact this
              have hdrew : (w.drew).heap = w.heap := rfl
              cases s <;> simp only at h <;> try (cases h; done)
              case snil =>
                unfold VR at hs; subst hs
                cases hn0 : Nat.beq n 0 with
                | true =>
                  rw [hn0] at h; cases h
                  rw [Nat.beq_eq] at hn0
                  exact did_plain (same none 0 0 (Nat.le_refl _) hn0) (by unfold VR; rfl) r (G.refl _ _ _ _)
                | false =>
                  rw [hn0] at h; simp only [cond_false] at h
                  have hnpos : 0 < n := by
                    rcases Nat.eq_zero_or_pos n with h1 | h1
                    · subst h1; simp at hn0
                    · exact h1
                  refine growTo_ok (len := 0) (n := n) (old := []) (new := new) (oldc := #[]) (newc := newc) (tr := ofCells new) ok r (fun j _ => ofCells_get _ j) hd hd' hq hi (hlen w) ?_ (hnr w.drew hdrew) VRs.nil (by simp) hnv hnl (by omega) ?_
                  · simp [Builtin.firstCells]
                  · simpa using h
              case sl id o len c =>
                have hs0 := hs
                unfold VR at hs
                obtain ⟨b, sh, e0, hρ, rfl⟩ := hs
                cases hn0 : Nat.beq n 0 with
                | true =>
                  rw [hn0] at h; simp only [cond_true] at h
                  rw [Nat.beq_eq] at hn0
                  cases hlc : Nat.ble len c with
                  | false => rw [hlc] at h; cases h
                  | true =>
                    rw [hlc] at h; cases h
                    rw [ble_iff] at hlc
                    exact did_plain (same _ len c hlc hn0) (by unfold VR; exact ⟨b, sh, e0, hρ, rfl⟩) r (G.refl _ _ _ _)
                | false =>
                  rw [hn0] at h; simp only [cond_false] at h
                  cases hfit : Nat.ble (Nat.add len n) c with
                  | true =>
                    rw [hfit] at h; simp only [cond_true] at h
                    rw [ble_iff] at hfit
                    have hfit' : len + n ≤ c := hfit
                    split at h
                    · rename_i fx el cs m hg
                      cases h1 : Nat.ble (Nat.add (Nat.add o (Nat.mul len i.size)) new.length) m with
                      | false => rw [h1] at h; cases h
                      | true =>
                        rw [h1] at h; simp only [cond_true] at h
                        cases h2 : allOne new with
                        | false => rw [h2] at h; cases h
                        | true =>
                          rw [h2] at h; cases h
                          rw [ble_iff] at h1
                          obtain ⟨w', p1, p2, p3⟩ := storeAtId (o := o + len * i.size) r hg hρ hnv h1 h2
                          refine did_plain (run_append_in hu1 hu2 hq hinfo (hlen w) (hnr w rfl) hfit' (w' := w') ?_) (by unfold VR; exact ⟨b, sh, e0, hρ, rfl⟩) p2 p3
                          rw [addr_add, Nat.add_assoc]; exact p1
                    · cases h
                  | false =>
                    rw [hfit] at h; simp only [cond_false] at h
                    rw [ble_false] at hfit
                    have hfit' : c < len + n := hfit
                    cases hso : srcOf E hp i.size (.sl id o len c) with
                    | none => rw [hso] at h; cases h
                    | some q =>
                      obtain ⟨k, old⟩ := q
                      rw [hso] at h; simp only at h
                      obtain ⟨a1, a2, oldc, a3, a4⟩ := srcOf_ok r hs0 hso
                      have hk : k = len := src_sl hso
                      subst hk
                      exact growTo_ok (len := k) (n := n) ok r (fun j _ => ofCells_get _ j) hd hd' hq hi (hlen w) (a4 w.drew hdrew) (hnr w.drew hdrew) a3 a2 hnv hnl hfit' h
              case slo id o len z =>
                have hs0 := hs
                unfold VR at hs
                obtain ⟨b, sh, e0, hρ, hs⟩ := hs
                cases hzz : Nat.beq z i.size with
                | false => rw [hzz] at h; cases h
                | true =>
                  rw [hzz] at h; simp only [cond_true] at h
                  rw [Nat.beq_eq] at hzz
                  cases hn0 : Nat.beq n 0 with
                  | true =>
                    rw [hn0] at h; cases h
                    rw [Nat.beq_eq] at hn0
                    rcases hs with ⟨c, rfl, hc1, hc2⟩ | ⟨h0, a, rfl⟩
                    · exact did_plain (same _ len c hc2 hn0) hs0 r (G.refl _ _ _ _)
                    · exact did_plain (same _ 0 0 (Nat.le_refl _) hn0) hs0 r (G.refl _ _ _ _)
                  | false =>
                    rw [hn0] at h; simp only [cond_false] at h
                    have hnpos : 0 < n := by
                      rcases Nat.eq_zero_or_pos n with h1 | h1
                      · subst h1; simp at hn0
                      · exact h1
                    split at h
                    · rename_i fx el cs m hg
                      cases h1 : Nat.ble (Nat.add (Nat.add o (Nat.mul len z)) new.length) m with
                      | true =>
                        rw [h1] at h; simp only [cond_true] at h
                        rw [ble_iff] at h1
                        cases hl0 : Nat.beq len 0 with
                        | true => rw [hl0] at h; cases h
                        | false =>
                          rw [hl0] at h; simp only [cond_false] at h
                          cases hz0 : Nat.beq z 0 with
                          | true => rw [hz0] at h; cases h
                          | false =>
                          rw [hz0] at h; simp only [cond_false] at h
                          cases h2 : allOne new with
                          | false => rw [h2] at h; cases h
                          | true =>
                            rw [h2] at h; cases h
                            rcases hs with ⟨c, rfl, hc1, hc2⟩ | ⟨h0, a, rfl⟩
                            · obtain ⟨w', p1, p2, p3⟩ := storeAtId (o := o + len * z) r hg hρ hnv h1 h2
                              obtain ⟨b', sh', e', t1, cc, fr, t2, t3, t4, _⟩ := r.hr id _ hg
                              rw [hρ] at t1; cases t1
                              have h1' : o + len * z + new.length ≤ m := h1
                              rw [hnl, ← hzz] at h1'
                              have hzpos : 0 < z := by
                                rcases Nat.eq_zero_or_pos z with hz | hz
                                · rw [hz] at hz0; cases hz0
                                · exact hz
                              have hfit' : len + n ≤ c := by
                                have h5 : (len + n) * z ≤ c * z := by rw [Nat.add_mul]; omega
                                exact Nat.le_of_mul_le_mul_right h5 hzpos
                              refine did_plain (run_append_in hu1 hu2 hq hinfo (hlen w) (hnr w rfl) hfit' (w' := w') ?_) ?_ p2 p3
                              · rw [addr_add, Nat.add_assoc, ← hzz]; exact p1
                              · unfold VR; exact ⟨b, sh, e0, hρ, .inl ⟨c, rfl, hc1, hfit'⟩⟩
                            · subst h0; simp at hl0
                      | false =>
                        rw [h1] at h; simp only [cond_false] at h
                        cases h3 : Nat.beq (Nat.add o (Nat.mul len z)) m with
                        | false => rw [h3] at h; cases h
                        | true =>
                          rw [h3] at h; simp only [cond_true] at h
                          cases h4 : Nat.beq el e with
                          | false => rw [h4] at h; cases h
                          | true =>
                            rw [h4] at h; simp only [cond_true] at h
                            cases h2 : allOne new with
                            | false => rw [h2] at h; cases h
                            | true =>
                              rw [h2] at h; simp only [cond_true] at h
                              cases hso : srcOf E hp i.size (.slo id o len z) with
                              | none => rw [hso] at h; cases h
                              | some q =>
                                obtain ⟨k, old⟩ := q
                                rw [hso] at h; simp only at h
                                obtain ⟨hk, hget⟩ := src_get r hg hso
                                subst hk
                                obtain ⟨a1, a2, oldc, a3, a4⟩ := srcOf_ok r hs0 hso
                                rw [Nat.beq_eq] at h3 h4
                                subst h4
                                have h3' : o + k * z = m := h3
                                generalize htrd : (cond (Nat.beq o 0) (setN cs new (Nat.mul k z)) (ofCells (old ++ new))) = tr at h
                                have hol : old.length = k * z := by rw [a2, hzz]
                                have htr : ∀ j, j < (old ++ new).length → tr.get j = (old ++ new)[j]? := by
                                  intro j hj
                                  rw [← htrd]
                                  cases ho0 : Nat.beq o 0 with
                                  | false => exact ofCells_get _ j
                                  | true =>
                                    rw [Nat.beq_eq] at ho0
                                    subst ho0
                                    show (setN cs new (k * z)).get j = _
                                    rw [setN_get]
                                    rw [List.length_append] at hj
                                    by_cases hjo : j < old.length
                                    · rw [if_neg (by omega), List.getElem?_append_left hjo]
                                      have hx1 : old[j]? = some old[j] := List.getElem?_eq_getElem hjo
                                      rw [hx1]
                                      have := hget j _ hx1
                                      rw [Nat.zero_add] at this
                                      exact this
                                    · rw [if_pos (by omega), List.getElem?_append_right (by omega), hol]
                                cases hgr : growTo E hp nx el i tr (old ++ new).length (Nat.add k n) with
                                | none => rw [hgr] at h; cases h
                                | some p =>
                                  obtain ⟨y1, hp1, nx1⟩ := p
                                  rw [hgr] at h
                                  cases h
                                  have hgrow : ∀ c', c' < k + n → sv = .slice (some (match sv with | .slice (some a) _ _ => a | _ => default)) k c' → Did E ρ hp nx w y ((hp.del id).set nx (.cells false el tr (old ++ new).length)) nx' ((do pure (Next.value (← Builtin.append_ #[t, u] ty #[sv, v])) : Sem Next).run E.P w) := by
                                    intro c' hc' hsv
                                    rw [hsv] at a4 ⊢
                                    have hD := growTo_ok (len := k) (n := n) (ty := ty) ok r htr hd hd' hq hi (hlen w) (a4 w.drew hdrew) (hnr w.drew hdrew) a3 a2 hnv hnl hc' hgr
                                    have hp1e : hp1 = hp.set nx (.cells false el tr (old ++ new).length) := by
                                      unfold growTo at hgr
                                      split at hgr
                                      · cases hgr
                                      · revert hgr
                                        generalize (Nat.beq _ _) = b1
                                        generalize (Nat.blt _ _) = b2
                                        generalize (Nat.ble _ _) = b3
                                        generalize (Nat.ble _ _) = b4
                                        cases b1 <;> cases b2 <;> cases b3 <;> cases b4 <;> intro hgr <;> first | (cases hgr; rfl) | cases hgr
                                    rw [hp1e] at hD
                                    refine hD.weaken ?_
                                    intro j oj hj
                                    rw [Tr.get_set] at hj ⊢
                                    by_cases hjn : nx = j
                                    · rw [if_pos hjn] at hj ⊢; exact hj
                                    · rw [if_neg hjn] at hj ⊢
                                      rw [Tr.get_del] at hj
                                      by_cases hji : id = j
                                      · rw [if_pos hji] at hj; cases hj
                                      · rw [if_neg hji] at hj; exact hj
                                  rcases hs with ⟨c, rfl, hc1, hc2⟩ | ⟨h0, a, rfl⟩
                                  · by_cases hfit : k + n ≤ c
                                    · have hyy : y = .slo nx 0 (k + n) z ∧ nx' = nx + 1 := by
                                        unfold growTo at hgr
                                        split at hgr
                                        · cases hgr
                                        · revert hgr
                                          generalize (Nat.beq _ _) = b1
                                          generalize (Nat.blt _ _) = b2
                                          generalize (Nat.ble _ _) = b3
                                          generalize (Nat.ble _ _) = b4
                                          cases b1 <;> cases b2 <;> cases b3 <;> cases b4 <;> intro hgr <;> first | (cases hgr; rw [hzz]; exact ⟨rfl, rfl⟩) | cases hgr
                                      obtain ⟨rfl, rfl⟩ := hyy
                                      have hkl : (old ++ new).length = (k + n) * z := by rw [List.length_append, hol, hnl, ← hzz, Nat.add_mul]
                                      have hle2 : (k + n) * z ≤ c * z := Nat.mul_le_mul_right _ hfit
                                      obtain ⟨w', p1, p2, p3⟩ := moveOn r hg hρ hget (by rw [hol]; exact h3') hnv rfl (by rw [hkl]; omega) h2 htr
                                      refine did_plain (run_append_in hu1 hu2 hq hinfo (hlen w) (hnr w rfl) hfit (w' := w') ?_) ?_ p2 p3
                                      · rw [addr_add, ← hzz, ← hol]; exact p1
                                      · unfold VR
                                        refine ⟨b, sh + o, e0, Rho.put_self _ _ _, .inl ⟨c, rfl, ?_, hfit⟩⟩
                                        exact hc1
                                    · exact hgrow c (by omega) rfl
                                  · subst h0
                                    exact hgrow 0 (by omega) rfl
                    · cases h

end Go.Evo
