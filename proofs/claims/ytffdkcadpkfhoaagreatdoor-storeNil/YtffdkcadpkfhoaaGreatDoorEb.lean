/- A verified evaluator for the model of Go, part 2: what it reckons of a call, the call does in every world that its abstract heap speaks of. Conditions: none. -/
import Derived.Test.YtffdkcadpkfhoaaGreatDoorEa
namespace Go.Evo

variable {E : Env} (ok : E.Ok)

noncomputable def fieldsOf : TypeDesc → Option (List Field)
  | .struct fs => some fs.toList
  | _ => none
theorem fieldsOf_inv {d : TypeDesc} {l : List Field} (h : fieldsOf d = some l) : ∃ fs, d = .struct fs ∧ fs.toList = l := by
  cases d <;> simp only [fieldsOf] at h <;> cases h; exact ⟨_, rfl, rfl⟩
noncomputable def arrOf : TypeDesc → Option (Nat × Nat)
  | .array n e => some (n, e)
  | _ => none
theorem arrOf_inv {d : TypeDesc} {n e : Nat} (h : arrOf d = some (n, e)) : d = .array n e := by
  cases d <;> simp only [arrOf] at h <;> cases h; rfl

/-- A field of a struct's type: its type and its offset in cells. -/
noncomputable def fieldAtT (E : Env) (s f : Nat) : Option (Nat × Nat) :=
  match E.und s with
  | none => none
  | some d => match fieldsOf d with
    | none => none
    | some l => match l[f]? with
      | none => none
      | some fd => some (fd.type, fd.offset)

/-- An address moved on by `n` cells. -/
noncomputable def moved (x : AV) (n : Nat) : Option AV :=
  match x with
  | .ptr id o => some (.ptr id (Nat.add o n))
  | .gptr g o => some (.gptr g (Nat.add o n))
  | _ => none
theorem moved_ok {ρ : Rho} {x y : AV} {v : Value} {n : Nat} (hv : VR ρ x v) (h : moved x n = some y) :
    ∃ A : Addr, v = .pointer (some A) ∧ A.spot = none ∧ VR ρ y (.pointer (some (A.add n))) := by
  cases x <;> simp only [moved] at h <;> try (cases h; done)
  case ptr id o =>
    cases h
    unfold VR at hv
    obtain ⟨b, sh, e, h1, rfl⟩ := hv
    refine ⟨_, rfl, rfl, ?_⟩
    unfold VR
    refine ⟨b, sh, e, h1, ?_⟩
    rw [addr_add, Nat.add_assoc]; rfl
  case gptr g o =>
    cases h
    unfold VR at hv
    subst hv
    refine ⟨_, rfl, rfl, ?_⟩
    unfold VR
    rw [addr_add]; rfl

noncomputable def aFieldAddr (E : Env) (s : Nat) (x : AV) (f : Nat) : Option AV :=
  match fieldAtT E s f with
  | none => none
  | some (t, off) => match E.size t with
    | none => none
    | some z => cond (Nat.beq z 0) none (moved x off)

include ok in
theorem fieldAtT_ok {s f t off : Nat} {w : World} (h : fieldAtT E s f = some (t, off)) :
    ∃ fs fd, (underlying s).run E.P w = .ok (.struct fs) w ∧ fs[f]? = some fd ∧ fd.type = t ∧ fd.offset = off := by
  unfold fieldAtT at h
  cases hd : E.und s with
  | none => rw [hd] at h; cases h
  | some d =>
    rw [hd] at h
    simp only at h
    cases hf : fieldsOf d with
    | none => rw [hf] at h; cases h
    | some l =>
      rw [hf] at h
      simp only at h
      obtain ⟨fs, rfl, rfl⟩ := fieldsOf_inv hf
      cases hg : fs.toList[f]? with
      | none => rw [hg] at h; cases h
      | some fd =>
        rw [hg] at h; cases h
        exact ⟨fs, fd, run_und ok hd, by simpa using hg, rfl, rfl⟩

include ok in
theorem aFieldAddr_ok {w : World} {ρ : Rho} {s f : Nat} {x y : AV} {v : Value} (hv : VR ρ x v) (h : aFieldAddr E s x f = some y) :
    ∃ v', (Instr.fieldAt s v f).run E.P w = .ok v' w ∧ VR ρ y v' := by
  unfold aFieldAddr at h
  cases hf : fieldAtT E s f with
  | none => rw [hf] at h; cases h
  | some p =>
    obtain ⟨t, off⟩ := p
    rw [hf] at h
    simp only at h
    obtain ⟨fs, fd, hu, hg, rfl, rfl⟩ := fieldAtT_ok ok (w := w) hf
    cases hz : E.size fd.type with
    | none => rw [hz] at h; cases h
    | some z =>
      rw [hz] at h
      simp only at h
      cases h0 : Nat.beq z 0 with
      | true => rw [h0] at h; cases h
      | false =>
        rw [h0] at h
        have hz0 : z ≠ 0 := by intro e; subst e; simp at h0
        obtain ⟨A, rfl, _, h2⟩ := moved_ok hv h
        refine ⟨_, ?_, h2⟩
        simp [Instr.fieldAt, hu, hg, Instr.sureAddr, fieldPlace, run_size ok hz, hz0]

noncomputable def aIndexAddr (E : Env) (t : Nat) (x ix : AV) : Option AV :=
  match natOf ix with
  | none => none
  | some i => match E.und t with
    | none => none
    | some d => match x with
      | .sl id o len _ => (match sliceElem d with
        | none => none
        | some e => match E.size e with
          | none => none
          | some z => cond (Nat.blt i len) (some (.ptr id (Nat.add o (Nat.mul i z)))) none)
      | .slo id o len z' => (match sliceElem d with
        | none => none
        | some e => match E.size e with
          | none => none
          | some z => cond (Nat.beq z z') (cond (Nat.blt i len) (some (.ptr id (Nat.add o (Nat.mul i z)))) none) none)
      | x => (match arrOf d with
        | none => none
        | some (n, e) => match E.size e with
          | none => none
          | some z => cond (Nat.blt i n) (moved x (Nat.mul i z)) none)

theorem blt_iff {a b : Nat} : Nat.blt a b = true ↔ a < b := by unfold Nat.blt; rw [ble_iff]; omega

include ok in
theorem aIndexAddr_ok {w : World} {ρ : Rho} {t : Nat} {x ix y : AV} {v vi : Value} (hv : VR ρ x v) (hvi : VR ρ ix vi) (h : aIndexAddr E t x ix = some y) :
    ∃ v', (Instr.indexAt t v vi).run E.P w = .ok v' w ∧ VR ρ y v' := by
  unfold aIndexAddr at h
  cases hn : natOf ix with
  | none => rw [hn] at h; cases h
  | some i =>
    rw [hn] at h
    simp only at h
    obtain ⟨k, rfl⟩ := natOf_inv hvi hn
    cases hd : E.und t with
    | none => rw [hd] at h; cases h
    | some d =>
      rw [hd] at h
      simp only at h
      have hu := run_und ok (w := w) hd
      have arr : (match arrOf d with
        | none => none
        | some (n, e) => match E.size e with
          | none => none
          | some z => cond (Nat.blt i n) (moved x (Nat.mul i z)) none) = some y →
          ∃ v', (Instr.indexAt t v (.int k i)).run E.P w = .ok v' w ∧ VR ρ y v' := by
        clear h
        intro hq
        cases ha : arrOf d with
        | none => rw [ha] at hq; cases hq
        | some p =>
          obtain ⟨n, e⟩ := p
          rw [ha] at hq
          simp only at hq
          have := arrOf_inv ha
          subst this
          cases hz : E.size e with
          | none => rw [hz] at hq; cases hq
          | some z =>
            rw [hz] at hq
            simp only at hq
            cases hb : Nat.blt i n with
            | false => rw [hb] at hq; cases hq
            | true =>
              rw [hb] at hq
              rw [blt_iff] at hb
              obtain ⟨A, rfl, hs, h2⟩ := moved_ok hv hq
              refine ⟨_, ?_, h2⟩
              simp [Instr.indexAt, asIntOf, hu, Instr.sureAddr, run_size ok hz, hb]
      cases x
      case sl id o len cap =>
        simp only at h
        unfold VR at hv
        obtain ⟨b, sh, e0, hρ, rfl⟩ := hv
        cases he : sliceElem d with
        | none => rw [he] at h; cases h
        | some e =>
          rw [he] at h
          have := sliceElem_inv he
          subst this
          simp only at h
          cases hz : E.size e with
          | none => rw [hz] at h; cases h
          | some z =>
            rw [hz] at h
            simp only at h
            cases hb : Nat.blt i len with
            | false => rw [hb] at h; cases h
            | true =>
              rw [hb] at h; cases h
              rw [blt_iff] at hb
              refine ⟨.pointer (some (Addr.add ⟨b, sh + o, none⟩ (i * z))), ?_, ?_⟩
              · simp [Instr.indexAt, asIntOf, hu, run_size ok hz, hb]
              · unfold VR; refine ⟨b, sh, e0, hρ, ?_⟩; rw [addr_add, Nat.add_assoc]; rfl
      case slo id o len z' =>
        simp only at h
        unfold VR at hv
        obtain ⟨b, sh, e0, hρ, hv⟩ := hv
        cases he : sliceElem d with
        | none => rw [he] at h; cases h
        | some e =>
          rw [he] at h
          have := sliceElem_inv he
          subst this
          simp only at h
          cases hz : E.size e with
          | none => rw [hz] at h; cases h
          | some z =>
            rw [hz] at h
            simp only at h
            cases hzz : Nat.beq z z' with
            | false => rw [hzz] at h; cases h
            | true =>
              rw [hzz] at h
              simp only [cond_true] at h
              cases hb : Nat.blt i len with
              | false => rw [hb] at h; cases h
              | true =>
                rw [hb] at h; cases h
                rw [blt_iff] at hb
                rcases hv with ⟨c, rfl, hce, hnc⟩ | ⟨h0, _⟩
                · refine ⟨.pointer (some (Addr.add ⟨b, sh + o, none⟩ (i * z))), ?_, ?_⟩
                  · simp [Instr.indexAt, asIntOf, hu, run_size ok hz, hb]
                  · unfold VR; refine ⟨b, sh, e0, hρ, ?_⟩; rw [addr_add, Nat.add_assoc]; rfl
                · omega
      all_goals exact arr h

noncomputable def aPart (E : Env) (t : Nat) (l : List AV) (off : Nat) : Option AV :=
  match E.agg t with
  | none => none
  | some true => (match E.size t with
    | none => none
    | some n => some (.agg ((l.drop off).take n)))
  | some false => l[off]?

include ok in
theorem aPart_ok {w : World} {ρ : Rho} {t off : Nat} {l : List AV} {cs : Array Value} {y : AV} (hv : VRs ρ l cs.toList) (h : aPart E t l off = some y) :
    ∃ v', (part t cs off).run E.P w = .ok v' w ∧ VR ρ y v' := by
  unfold aPart at h
  cases ha : E.agg t with
  | none => rw [ha] at h; cases h
  | some b =>
    rw [ha] at h
    cases b with
    | true =>
      simp only at h
      cases hz : E.size t with
      | none => rw [hz] at h; cases h
      | some n =>
        rw [hz] at h; cases h
        refine ⟨.agg (cs.extract off (off + n)), by simp [part, run_agg ok ha, run_size ok hz], ?_⟩
        unfold VR
        refine ⟨_, rfl, ?_⟩
        rw [Array.toList_extract, List.extract_eq_take_drop, Nat.add_sub_cancel_left]
        exact (hv.drop off).take n
    | false =>
      simp only at h
      obtain ⟨v, h1, h2⟩ := hv.get off y h
      refine ⟨v, ?_, h2⟩
      have h1' : cs[off]? = some v := by simpa using h1
      simp [part, run_agg ok ha, h1']

noncomputable def aField (E : Env) (s : Nat) (x : AV) (f : Nat) : Option AV :=
  match x with
  | .agg l => (match fieldAtT E s f with
    | none => none
    | some (t, off) => aPart E t l off)
  | _ => none
include ok in
theorem aField_ok {w : World} {ρ : Rho} {s f : Nat} {x y : AV} {v : Value} (hv : VR ρ x v) (h : aField E s x f = some y) :
    ∃ v', (Instr.field s v f).run E.P w = .ok v' w ∧ VR ρ y v' := by
  cases x <;> simp only [aField] at h <;> try (cases h; done)
  case agg l =>
    unfold VR at hv
    obtain ⟨vs, rfl, hvs⟩ := hv
    cases hf : fieldAtT E s f with
    | none => rw [hf] at h; cases h
    | some p =>
      obtain ⟨t, off⟩ := p
      rw [hf] at h
      simp only at h
      obtain ⟨fs, fd, hu, hg, rfl, rfl⟩ := fieldAtT_ok ok (w := w) hf
      obtain ⟨v', h1, h2⟩ := aPart_ok ok (w := w) hvs h
      exact ⟨v', by simp [Instr.field, hu, hg, asAgg, h1], h2⟩

noncomputable def aIndex (E : Env) (t : Nat) (x ix : AV) : Option AV :=
  match natOf ix with
  | none => none
  | some i => match E.und t with
    | none => none
    | some d => match x with
      | .str l => cond (isStr d) (match l[i]? with
          | none => none
          | some b => some (.int .u8 (Int.ofNat b))) none
      | .agg l => (match arrOf d with
        | none => none
        | some (n, e) => match E.size e with
          | none => none
          | some z => cond (Nat.blt i n) (aPart E e l (Nat.mul i z)) none)
      | _ => none
include ok in
theorem aIndex_ok {w : World} {ρ : Rho} {t : Nat} {x ix y : AV} {v vi : Value} (hv : VR ρ x v) (hvi : VR ρ ix vi) (h : aIndex E t x ix = some y) :
    ∃ v', (Instr.index t v vi).run E.P w = .ok v' w ∧ VR ρ y v' := by
  unfold aIndex at h
  cases hn : natOf ix with
  | none => rw [hn] at h; cases h
  | some i =>
    rw [hn] at h
    simp only at h
    obtain ⟨k, rfl⟩ := natOf_inv hvi hn
    cases hd : E.und t with
    | none => rw [hd] at h; cases h
    | some d =>
      rw [hd] at h
      simp only at h
      have hu := run_und ok (w := w) hd
      cases x <;> simp only at h <;> try (cases h; done)
      case str l =>
        unfold VR at hv
        obtain ⟨s, rfl, hs⟩ := hv
        cases hb : isStr d with
        | false => rw [hb] at h; cases h
        | true =>
          rw [hb] at h
          have := isStr_inv hb
          subst this
          simp only [cond_true] at h
          cases hg : l[i]? with
          | none => rw [hg] at h; cases h
          | some b =>
            rw [hg] at h; cases h
            have hlt : i < l.length := by
              rcases Nat.lt_or_ge i l.length with h1 | h1
              · exact h1
              · rw [List.getElem?_eq_none h1] at hg; cases hg
            have hsz : i < s.size := by
              have : s.size = l.length := by rw [← hs]; simp
              omega
            have hbv : s[i].toNat = b := by
              have h1 : (s.data.toList.map UInt8.toNat)[i]? = some b := by rw [hs]; exact hg
              rw [List.getElem?_map] at h1
              have h2 : s.data.toList[i]? = some s[i] := by
                rw [Array.getElem?_toList]
                exact Array.getElem?_eq_getElem hsz
              rw [h2] at h1
              exact Option.some.inj h1
            refine ⟨.int .u8 (b : Nat), ?_, by unfold VR; rfl⟩
            have hsome : s[i]? = some s[i] := getElem?_pos s i hsz
            simp [Instr.index, asIntOf, hu, hsome, hbv]
      case agg l =>
        unfold VR at hv
        obtain ⟨vs, rfl, hvs⟩ := hv
        cases ha : arrOf d with
        | none => rw [ha] at h; cases h
        | some p =>
          obtain ⟨n, e⟩ := p
          rw [ha] at h
          simp only at h
          have := arrOf_inv ha
          subst this
          cases hz : E.size e with
          | none => rw [hz] at h; cases h
          | some z =>
            rw [hz] at h
            simp only at h
            cases hb : Nat.blt i n with
            | false => rw [hb] at h; cases h
            | true =>
              rw [hb] at h
              rw [blt_iff] at hb
              obtain ⟨v', h1, h2⟩ := aPart_ok ok (w := w) hvs h
              have h1' : (part e vs (i * z)).run E.P w = .ok v' w := h1
              exact ⟨v', by simp [Instr.index, asIntOf, hu, run_size ok hz, hb, h1'], h2⟩

/-- `vs` over the list from `off` on. -/
noncomputable def splice (l : List AV) (off : Nat) (vs : List AV) : List AV := l.take off ++ vs ++ l.drop (Nat.add off vs.length)

noncomputable def aFill (place : Nat → Option (Nat × Nat)) (cells : List AV) : List (Nat × AV) → Option (List AV)
  | [] => some cells
  | (i, v) :: rest => match place i with
    | none => none
    | some (off, size) => cond (Nat.beq v.cells.length size) (cond (Nat.ble (Nat.add off size) cells.length) (aFill place (splice cells off v.cells) rest) none) none

theorem fold_get : ∀ (l : List Value) (j off : Nat) (cs : Array Value), off + j + l.length ≤ cs.size →
    ∀ i, ((l.zipIdx j).foldl (fun cs (p : Value × Nat) => cs.setIfInBounds (off + p.2) p.1) cs)[i]? =
      if off + j ≤ i ∧ i < off + j + l.length then l[i - (off + j)]? else cs[i]?
  | [], j, off, cs, _, i => by
    have : ¬ (off + j ≤ i ∧ i < off + j + ([] : List Value).length) := by simp only [List.length_nil]; omega
    rw [if_neg this]; rfl
  | v :: l, j, off, cs, hl, i => by
    simp only [List.length_cons] at hl
    simp only [List.zipIdx_cons, List.foldl_cons]
    rw [fold_get l (j + 1) off _ (by simp; omega) i]
    by_cases h : off + (j + 1) ≤ i ∧ i < off + (j + 1) + l.length
    · rw [if_pos h, if_pos (by simp only [List.length_cons]; omega)]
      have : i - (off + j) = (i - (off + (j + 1))) + 1 := by omega
      rw [this]; rfl
    · rw [if_neg h]
      by_cases h' : i = off + j
      · subst h'
        rw [if_pos (by simp only [List.length_cons]; omega)]
        rw [Array.getElem?_setIfInBounds_self_of_lt (by omega)]
        simp
      · rw [if_neg (by simp only [List.length_cons]; omega), Array.getElem?_setIfInBounds_ne (by omega)]
theorem fold_size : ∀ (l : List (Value × Nat)) (off : Nat) (cs : Array Value), (l.foldl (fun cs (p : Value × Nat) => cs.setIfInBounds (off + p.2) p.1) cs).size = cs.size
  | [], _, _ => rfl
  | p :: l, off, cs => by simp only [List.foldl_cons]; rw [fold_size l off]; simp

theorem VRs.splice {ρ : Rho} {xs ys : List AV} {cs vs : Array Value} {off : Nat} (h : VRs ρ xs cs.toList) (h' : VRs ρ ys vs.toList) (hle : off + ys.length ≤ xs.length) :
    VRs ρ (splice xs off ys) (vs.zipIdx.foldl (fun cs (p : Value × Nat) => cs.setIfInBounds (off + p.2) p.1) cs).toList := by
  have hl1 : cs.size = xs.length := by simpa using h.length
  have hl2 : vs.size = ys.length := by simpa using h'.length
  have e : vs.zipIdx.foldl (fun cs (p : Value × Nat) => cs.setIfInBounds (off + p.2) p.1) cs =
      (vs.toList.zipIdx 0).foldl (fun cs (p : Value × Nat) => cs.setIfInBounds (off + p.2) p.1) cs := by
    rw [← Array.foldl_toList, Array.toList_zipIdx]
  rw [e]
  have hvl : vs.toList.length = ys.length := by simpa using hl2
  refine VRs.of_get ?_ ?_
  · rw [Array.length_toList, fold_size]
    simp only [Evo.splice, List.length_append, List.length_take, List.length_drop]
    show cs.size = min off xs.length + ys.length + (xs.length - (off + ys.length))
    omega
  · intro i x hx
    have hg := fold_get vs.toList 0 off cs (by rw [hvl]; omega) i
    rw [Array.getElem?_toList, hg]
    simp only [Nat.add_zero, hvl]
    have hlt : i < (Evo.splice xs off ys).length := by
      rcases Nat.lt_or_ge i (Evo.splice xs off ys).length with h1 | h1
      · exact h1
      · rw [List.getElem?_eq_none h1] at hx; cases hx
    simp only [Evo.splice] at hx hlt
    have ha : Nat.add off ys.length = off + ys.length := rfl
    rw [ha] at hx hlt
    simp only [List.length_append, List.length_take, List.length_drop] at hlt
    by_cases h1 : i < off
    · rw [if_neg (by omega)]
      rw [List.append_assoc, List.getElem?_append_left (by simp; omega), List.getElem?_take_of_lt h1] at hx
      simpa using h.get i x hx
    · by_cases h2 : i < off + ys.length
      · rw [if_pos (by omega)]
        rw [List.append_assoc, List.getElem?_append_right (by simp; omega), List.getElem?_append_left (by simp; omega)] at hx
        have : (xs.take off).length = off := by simp; omega
        rw [this] at hx
        exact h'.get (i - off) x hx
      · rw [if_neg (by omega)]
        rw [List.getElem?_append_right (by simp; omega), List.getElem?_drop] at hx
        have : (xs.take off ++ ys).length = off + ys.length := by simp; omega
        rw [this] at hx
        have : off + ys.length + (i - (off + ys.length)) = i := by omega
        rw [this] at hx
        simpa using h.get i x hx

/-- Parts with their places. -/
def PR (ρ : Rho) : List (Nat × AV) → List (Nat × Value) → Prop
  | [], l => l = []
  | (i, x) :: xs, l => ∃ v l', l = (i, v) :: l' ∧ VR ρ x v ∧ PR ρ xs l'

theorem aFill_ok {ρ : Rho} {place : Nat → Option (Nat × Nat)} : ∀ {parts : List (Nat × AV)} {parts' : List (Nat × Value)} {xs ys : List AV} {cs : Array Value},
    VRs ρ xs cs.toList → PR ρ parts parts' → aFill place xs parts = some ys → ∃ cs', Instr.fill place cs parts' = some cs' ∧ VRs ρ ys cs'.toList
  | [], _, xs, ys, cs, h, hp, hf => by
    unfold PR at hp; subst hp
    unfold aFill at hf; cases hf
    exact ⟨cs, rfl, h⟩
  | (i, x) :: parts, _, xs, ys, cs, h, hp, hf => by
    unfold PR at hp
    obtain ⟨v, l', rfl, hx, hl⟩ := hp
    unfold aFill at hf
    cases hpl : place i with
    | none => rw [hpl] at hf; cases hf
    | some p =>
      obtain ⟨off, size⟩ := p
      rw [hpl] at hf
      simp only at hf
      cases h1 : Nat.beq x.cells.length size with
      | false => rw [h1] at hf; cases hf
      | true =>
        rw [h1] at hf
        simp only [cond_true] at hf
        cases h2 : Nat.ble (Nat.add off size) xs.length with
        | false => rw [h2] at hf; cases hf
        | true =>
          rw [h2] at hf
          simp only [cond_true] at hf
          rw [Nat.beq_eq] at h1
          rw [ble_iff] at h2
          have h2' : off + size ≤ xs.length := h2
          have hc := hx.cells
          have hcl : v.cells.size = x.cells.length := by simpa using hc.length
          have hcs : cs.size = xs.length := by simpa using h.length
          have hs := VRs.splice h hc (off := off) (by omega)
          obtain ⟨cs', q1, q2⟩ := aFill_ok hs hl hf
          refine ⟨cs', ?_, q2⟩
          unfold Instr.fill
          rw [hpl]
          simp only
          rw [if_neg]
          · exact q1
          · simp only [Bool.or_eq_true, decide_eq_true_eq]
            omega

noncomputable def evParts (tm : Tr AV) : List (Nat × Operand) → Option (List (Nat × AV))
  | [] => some []
  | (i, o) :: l => match evO tm o with
    | none => none
    | some x => match evParts tm l with
      | none => none
      | some xs => some ((i, x) :: xs)
theorem evParts_ok {ρ : Rho} {n : Nat} {tm : Tr AV} {a : Act} (ht : TmR ρ n tm a.tmps) : ∀ {l : List (Nat × Operand)} {xs : List (Nat × AV)}, evParts tm l = some xs →
    PR ρ xs (l.map fun (p : Nat × Operand) => (p.1, a.eval p.2))
  | [], xs, h => by unfold evParts at h; cases h; unfold PR; rfl
  | (i, o) :: l, xs, h => by
    unfold evParts at h
    cases h1 : evO tm o with
    | none => rw [h1] at h; cases h
    | some x =>
      cases h2 : evParts tm l with
      | none => rw [h1, h2] at h; cases h
      | some ys => rw [h1, h2] at h; cases h; unfold PR; exact ⟨_, _, rfl, evO_ok ht h1, evParts_ok ht h2⟩

noncomputable def zeroOf (E : Env) (t : Nat) : Option (List AV) :=
  match E.T.get t with
  | none => none
  | some i => match i.zero with
    | none => none
    | some z => ofVs z.cells.toList

include ok in
theorem zeroOf_ok {t : Nat} {l : List AV} {w : World} (h : zeroOf E t = some l) : ∃ z, (zeroValue t).run E.P w = .ok z w ∧ ∀ ρ, VRs ρ l z.cells.toList := by
  unfold zeroOf at h
  cases hi : E.T.get t with
  | none => rw [hi] at h; cases h
  | some i =>
    rw [hi] at h
    simp only at h
    cases hz : i.zero with
    | none => rw [hz] at h; cases h
    | some z =>
      rw [hz] at h
      exact ⟨z, by simp [zeroValue, run_info ok hi, hz], fun ρ => ofVs_ok h⟩

noncomputable def placesOf (E : Env) : List Field → Option (List (Nat × Nat))
  | [] => some []
  | f :: l => match E.size f.type with
    | none => none
    | some z => match placesOf E l with
      | none => none
      | some ps => some ((f.offset, z) :: ps)
include ok in
theorem placesOf_ok {w : World} : ∀ {l : List Field} {ps : List (Nat × Nat)}, placesOf E l = some ps →
    (l.mapM fun f => Prod.mk f.offset <$> sizeOf f.type : Sem (List (Nat × Nat))).run E.P w = .ok ps w
  | [], ps, h => by unfold placesOf at h; cases h; simp
  | f :: l, ps, h => by
    unfold placesOf at h
    cases h1 : E.size f.type with
    | none => rw [h1] at h; cases h
    | some z =>
      cases h2 : placesOf E l with
      | none => rw [h1, h2] at h; cases h
      | some qs =>
        rw [h1, h2] at h; cases h
        have ih := placesOf_ok (w := w) h2
        simp [List.mapM_cons, run_size ok h1, ih]

noncomputable def aBuild (E : Env) (t : Nat) (parts : List (Nat × AV)) : Option AV :=
  match zeroOf E t with
  | none => none
  | some z => match E.und t with
    | none => none
    | some d => match fieldsOf d with
      | some fs => (match placesOf E fs with
        | none => none
        | some ps => match aFill (fun i => ps[i]?) z parts with
          | none => none
          | some l => some (.agg l))
      | none => match arrOf d with
        | none => none
        | some (_, e) => match E.size e with
          | none => none
          | some s => match aFill (fun i => some (Nat.mul i s, s)) z parts with
            | none => none
            | some l => some (.agg l)

include ok in
theorem aBuild_ok {w : World} {ρ : Rho} {t : Nat} {parts : List (Nat × AV)} {parts' : Array (Nat × Value)} {y : AV} (hp : PR ρ parts parts'.toList) (h : aBuild E t parts = some y) :
    ∃ v', (Instr.build t parts').run E.P w = .ok v' w ∧ VR ρ y v' := by
  unfold aBuild at h
  cases hz : zeroOf E t with
  | none => rw [hz] at h; cases h
  | some z =>
    rw [hz] at h
    simp only at h
    obtain ⟨zv, hzr, hzv⟩ := zeroOf_ok ok (w := w) hz
    cases hd : E.und t with
    | none => rw [hd] at h; cases h
    | some d =>
      rw [hd] at h
      simp only at h
      have hu := run_und ok (w := w) hd
      cases hf : fieldsOf d with
      | some fs =>
        rw [hf] at h
        simp only at h
        obtain ⟨fa, rfl, rfl⟩ := fieldsOf_inv hf
        cases hps : placesOf E fa.toList with
        | none => rw [hps] at h; cases h
        | some ps =>
          rw [hps] at h
          simp only at h
          cases hfl : aFill (fun i => ps[i]?) z parts with
          | none => rw [hfl] at h; cases h
          | some l =>
            rw [hfl] at h; cases h
            obtain ⟨cs', q1, q2⟩ := aFill_ok (hzv ρ) hp hfl
            have hm := placesOf_ok ok (w := w) hps
            have hm' : (fa.mapM fun f => Prod.mk f.offset <$> sizeOf f.type : Sem (Array (Nat × Nat))).run E.P w = .ok ps.toArray w := by
              rw [Array.mapM_eq_mapM_toList]
              simp only [Sem.run_map, hm, Result.andThen_ok]
            refine ⟨.agg cs', ?_, by unfold VR; exact ⟨cs', rfl, q2⟩⟩
            simp [Instr.build, hzr, hu, hm', q1]
      | none =>
        rw [hf] at h
        simp only at h
        cases ha : arrOf d with
        | none => rw [ha] at h; cases h
        | some p =>
          obtain ⟨n, e⟩ := p
          rw [ha] at h
          simp only at h
          have := arrOf_inv ha
          subst this
          cases hs : E.size e with
          | none => rw [hs] at h; cases h
          | some s =>
            rw [hs] at h
            simp only at h
            cases hfl : aFill (fun i => some (Nat.mul i s, s)) z parts with
            | none => rw [hfl] at h; cases h
            | some l =>
              rw [hfl] at h; cases h
              obtain ⟨cs', q1, q2⟩ := aFill_ok (hzv ρ) hp hfl
              refine ⟨.agg cs', ?_, by unfold VR; exact ⟨cs', rfl, q2⟩⟩
              have q1' : Instr.fill (fun i => some (i * s, s)) zv.cells parts'.toList = some cs' := q1
              simp [Instr.build, hzr, hu, run_size ok hs, q1']

end Go.Evo
namespace Go.Evo

variable {E : Env} (ok : E.Ok)

noncomputable def atomD : TypeDesc → Bool
  | .bool => true
  | .int _ => true
  | .string => true
  | _ => false
noncomputable def aEqAtom (d : TypeDesc) (x y : AV) : Option Bool :=
  match d, x, y with
  | .bool, .bool a, .bool b => some (cond a b (!b))
  | .int _, .int k a, .int k' b => cond (Nat.beq (kix k) (kix k')) (some (ieq a b)) none
  | .string, .str a, .str b => some (leqN a b)
  | _, _, _ => none

theorem aEqAtom_inv {d : TypeDesc} {x y : AV} {r : Bool} (h : aEqAtom d x y = some r) :
    (∃ a b, d = .bool ∧ x = .bool a ∧ y = .bool b ∧ r = (a == b)) ∨ (∃ k' k a b, d = .int k' ∧ x = .int k a ∧ y = .int k b ∧ r = decide (a = b)) ∨ (∃ a b, d = .string ∧ x = .str a ∧ y = .str b ∧ r = leqN a b) := by
  unfold aEqAtom at h
  split at h
  · rename_i a b; left; refine ⟨a, b, rfl, rfl, rfl, ?_⟩; cases h; cases a <;> cases b <;> rfl
  · rename_i k0 k a k' b
    cases hk : Nat.beq (kix k) (kix k') with
    | false => rw [hk] at h; cases h
    | true =>
      rw [hk] at h; cases h
      have := kix_inj hk
      subst this
      right; left; exact ⟨_, _, _, _, rfl, rfl, rfl, ieq_eq _ _⟩
  · cases h; right; right; exact ⟨_, _, rfl, rfl, rfl, rfl⟩
  · cases h

theorem aEqAtom_agg {d : TypeDesc} {x y : AV} {r : Bool} (h : aEqAtom d x y = some r) : aggD d = false := by
  rcases aEqAtom_inv h with ⟨_, _, rfl, _⟩ | ⟨_, _, _, _, rfl, _⟩ | ⟨_, _, rfl, _⟩ <;> rfl

include ok in
theorem aEqAtom_ok {w : World} {ρ : Rho} {n : Nat} {t : Nat} {d : TypeDesc} {x y : AV} {v u : Value} {r : Bool} (hd : E.und t = some d) (hv : VR ρ x v) (hu : VR ρ y u) (h : aEqAtom d x y = some r) :
    (Op.equalIn (n + 1) t v u).run E.P w = .ok r w := by
  have hr := run_und ok (w := w) hd
  rcases aEqAtom_inv h with ⟨a, b, rfl, rfl, rfl, rfl⟩ | ⟨k', k, a, b, rfl, rfl, rfl, rfl⟩ | ⟨a, b, rfl, rfl, rfl, rfl⟩
  · unfold VR at hv hu; subst hv; subst hu
    simp [Op.equalIn, hr]
  · unfold VR at hv hu; subst hv; subst hu
    simp [Op.equalIn, hr]
    rfl
  · unfold VR at hv hu
    obtain ⟨s, rfl, rfl⟩ := hv
    obtain ⟨s', rfl, rfl⟩ := hu
    simp [Op.equalIn, hr, beq_bytes]

noncomputable def eqFields (E : Env) : List Field → List AV → List AV → Option Bool
  | [], _, _ => some true
  | f :: fs, l, m => cond (decide (f.name = "_")) (eqFields E fs l m) (match E.und f.type with
    | none => none
    | some d => match l[f.offset]? with
      | none => none
      | some x => match m[f.offset]? with
        | none => none
        | some y => match aEqAtom d x y with
          | none => none
          | some false => some false
          | some true => eqFields E fs l m)

include ok in
theorem eqFields_ok {w : World} {ρ : Rho} {n : Nat} : ∀ {fs : List Field} {l m : List AV} {xs ys : Array Value} {r : Bool}, VRs ρ l xs.toList → VRs ρ m ys.toList → eqFields E fs l m = some r →
    (Op.eqFields (n + 1) xs ys fs).run E.P w = .ok r w
  | [], l, m, xs, ys, r, _, _, h => by unfold eqFields at h; cases h; simp [Op.eqFields]
  | f :: fs, l, m, xs, ys, r, hl, hm, h => by
    unfold eqFields at h
    unfold Op.eqFields
    by_cases hn : f.name = "_"
    · rw [decide_eq_true hn] at h
      simp only [cond_true] at h
      rw [if_neg (by simp [hn])]
      exact eqFields_ok hl hm h
    · rw [decide_eq_false hn] at h
      simp only [cond_false] at h
      rw [if_pos (by simp [hn])]
      cases hd : E.und f.type with
      | none => rw [hd] at h; cases h
      | some d =>
        rw [hd] at h
        simp only at h
        cases h1 : l[f.offset]? with
        | none => rw [h1] at h; cases h
        | some x =>
          rw [h1] at h
          simp only at h
          cases h2 : m[f.offset]? with
          | none => rw [h2] at h; cases h
          | some y =>
            rw [h2] at h
            simp only at h
            cases h3 : aEqAtom d x y with
            | none => rw [h3] at h; cases h
            | some b =>
              rw [h3] at h
              have hag : E.agg f.type = some false := by unfold Env.agg; rw [hd]; simp only; rw [aEqAtom_agg h3]
              obtain ⟨v, q1, q2⟩ := hl.get _ _ h1
              obtain ⟨u, q3, q4⟩ := hm.get _ _ h2
              have q1' : xs[f.offset]? = some v := by simpa using q1
              have q3' : ys[f.offset]? = some u := by simpa using q3
              have e1 : (part f.type xs f.offset).run E.P w = .ok v w := by simp [part, run_agg ok hag, q1']
              have e2 : (part f.type ys f.offset).run E.P w = .ok u w := by simp [part, run_agg ok hag, q3']
              have e3 := aEqAtom_ok ok (w := w) (n := n) hd q2 q4 h3
              cases b with
              | false =>
                cases h
                simp [e1, e2, e3]
              | true =>
                simp only at h
                have ih := eqFields_ok (w := w) (n := n) hl hm h
                simp [e1, e2, e3, ih]

noncomputable def isPtrD : TypeDesc → Option Nat
  | .pointer e => some e
  | _ => none
theorem isPtrD_inv {d : TypeDesc} {e : Nat} (h : isPtrD d = some e) : d = .pointer e := by
  cases d <;> simp only [isPtrD] at h <;> cases h; rfl
noncomputable def isMapD : TypeDesc → Option (Nat × Nat)
  | .map k e => some (k, e)
  | _ => none
theorem isMapD_inv {d : TypeDesc} {k e : Nat} (h : isMapD d = some (k, e)) : d = .map k e := by
  cases d <;> simp only [isMapD] at h <;> cases h; rfl
noncomputable def isFuncD : TypeDesc → Bool
  | .func _ _ _ => true
  | _ => false
theorem isFuncD_inv {d : TypeDesc} (h : isFuncD d = true) : ∃ a b c, d = .func a b c := by
  cases d <;> simp only [isFuncD] at h <;> first | exact ⟨_, _, _, rfl⟩ | cases h
noncomputable def isIfaceD : TypeDesc → Bool
  | .interface _ => true
  | _ => false
theorem isIfaceD_inv {d : TypeDesc} (h : isIfaceD d = true) : ∃ a, d = .interface a := by
  cases d <;> simp only [isIfaceD] at h <;> first | exact ⟨_, rfl⟩ | cases h

/-- Are two values of a type equal? `lit`: one of the two operands is a constant. -/
noncomputable def aEq (E : Env) (lit : Bool) (t : Nat) (x y : AV) : Option Bool :=
  match E.und t with
  | none => none
  | some d => match x, y with
    | .bool a, .bool b => aEqAtom d (.bool a) (.bool b)
    | .pnil, .pnil => (match isPtrD d with | none => none | some _ => some true)
    | .pnil, .ptr _ _ => (match isPtrD d with | none => none | some _ => some false)
    | .ptr _ _, .pnil => (match isPtrD d with | none => none | some _ => some false)
    | .ptr i o, .ptr j p => (match isPtrD d with
      | none => none
      | some e => match E.size e with
        | none => none
        | some z => cond (Nat.beq z 0) none (cond (Nat.beq i j) (some (Nat.beq o p)) none))
    | .snil, .snil => (match sliceElem d with | none => none | some _ => some true)
    | .snil, .sl _ _ _ _ => (match sliceElem d with | none => none | some _ => some false)
    | .snil, .slo _ _ _ _ => (match sliceElem d with | none => none | some _ => some false)
    | .sl _ _ _ _, .snil => (match sliceElem d with | none => none | some _ => some false)
    | .slo _ _ _ _, .snil => (match sliceElem d with | none => none | some _ => some false)
    | .mnil, .mnil => (match isMapD d with | none => none | some _ => some true)
    | .mnil, .map _ => (match isMapD d with | none => none | some _ => some false)
    | .map _, .mnil => (match isMapD d with | none => none | some _ => some false)
    | .fnil, .fnil => cond (isFuncD d) (some true) none
    | .fnil, .fn _ _ => cond (isFuncD d) (some false) none
    | .fn _ _, .fnil => cond (isFuncD d) (some false) none
    | .inil, .inil => cond lit (cond (isIfaceD d) (some true) none) none
    | .inil, .iface _ _ => cond (isIfaceD d) (some false) none
    | .iface _ _, .inil => cond (isIfaceD d) (some false) none
    | .agg l, .agg m => cond (E.sk t) (match fieldsOf d with
      | none => none
      | some fs => eqFields E fs l m) none
    | _, _ => none

set_option maxHeartbeats 4000000 in
include ok in
theorem aEqIn_ok {n : Nat} {w : World} {ρ : Rho} {lit : Bool} {t : Nat} {x y : AV} {v u : Value} {r : Bool} (hv : VR ρ x v) (hu : VR ρ y u) (h : aEq E lit t x y = some r) :
    (Op.equalIn (n + 2) t v u).run E.P w = .ok r w := by
  unfold aEq at h
  cases hd : E.und t with
  | none => rw [hd] at h; cases h
  | some d =>
    rw [hd] at h
    have hr := run_und ok (w := w) hd
    simp only at h
    split at h
    · exact aEqAtom_ok ok hd hv hu h
    · unfold VR at hv hu; subst hv; subst hu
      cases he : isPtrD d with
      | none => rw [he] at h; cases h
      | some e => rw [he] at h; cases h; have := isPtrD_inv he; subst this; simp [Op.equalIn, hr]
    · unfold VR at hv hu; subst hv; obtain ⟨b, sh, e0, _, rfl⟩ := hu
      cases he : isPtrD d with
      | none => rw [he] at h; cases h
      | some e => rw [he] at h; cases h; have := isPtrD_inv he; subst this; simp [Op.equalIn, hr]
    · unfold VR at hv hu; subst hu; obtain ⟨b, sh, e0, _, rfl⟩ := hv
      cases he : isPtrD d with
      | none => rw [he] at h; cases h
      | some e => rw [he] at h; cases h; have := isPtrD_inv he; subst this; simp [Op.equalIn, hr]
    · rename_i i o j p
      unfold VR at hv hu
      obtain ⟨b, sh, e0, hρ, rfl⟩ := hv
      obtain ⟨b', sh', e0', hρ', rfl⟩ := hu
      cases he : isPtrD d with
      | none => rw [he] at h; cases h
      | some e =>
        rw [he] at h
        simp only at h
        have := isPtrD_inv he; subst this
        cases hz : E.size e with
        | none => rw [hz] at h; cases h
        | some z =>
          rw [hz] at h
          simp only at h
          cases hz0 : Nat.beq z 0 with
          | true => rw [hz0] at h; cases h
          | false =>
            rw [hz0] at h
            simp only [cond_false] at h
            cases hij : Nat.beq i j with
            | false => rw [hij] at h; cases h
            | true =>
              rw [hij] at h
              rw [Nat.beq_eq] at hij
              subst hij
              rw [hρ] at hρ'
              cases hρ'
              have hz1 : z ≠ 0 := by intro e1; subst e1; simp at hz0
              cases h
              have hop : ((⟨b, sh + o, none⟩ : Addr) == ⟨b, sh + p, none⟩) = Nat.beq o p := by
                rw [Bool.eq_iff_iff, beq_iff_eq, Nat.beq_eq]
                constructor
                · intro h1; have := (Addr.mk.inj h1).2.1; omega
                · intro h1; rw [h1]
              simp [Op.equalIn, hr, run_size ok hz, hz1, sameAddr, hop]
    · unfold VR at hv hu; subst hv; subst hu
      cases he : sliceElem d with
      | none => rw [he] at h; cases h
      | some e => rw [he] at h; cases h; have := sliceElem_inv he; subst this; simp [Op.equalIn, hr]
    · unfold VR at hv hu; subst hv; obtain ⟨b, sh, e0, _, rfl⟩ := hu
      cases he : sliceElem d with
      | none => rw [he] at h; cases h
      | some e => rw [he] at h; cases h; have := sliceElem_inv he; subst this; simp [Op.equalIn, hr]
    · unfold VR at hv hu; subst hv; obtain ⟨b, sh, e0, _, (⟨c, rfl, _⟩ | ⟨_, a, rfl⟩)⟩ := hu <;>
      · cases he : sliceElem d with
        | none => rw [he] at h; cases h
        | some e => rw [he] at h; cases h; have := sliceElem_inv he; subst this; simp [Op.equalIn, hr]
    · unfold VR at hv hu; subst hu; obtain ⟨b, sh, e0, _, rfl⟩ := hv
      cases he : sliceElem d with
      | none => rw [he] at h; cases h
      | some e => rw [he] at h; cases h; have := sliceElem_inv he; subst this; simp [Op.equalIn, hr]
    · unfold VR at hv hu; subst hu; obtain ⟨b, sh, e0, _, (⟨c, rfl, _⟩ | ⟨_, a, rfl⟩)⟩ := hv <;>
      · cases he : sliceElem d with
        | none => rw [he] at h; cases h
        | some e => rw [he] at h; cases h; have := sliceElem_inv he; subst this; simp [Op.equalIn, hr]
    · unfold VR at hv hu; subst hv; subst hu
      cases he : isMapD d with
      | none => rw [he] at h; cases h
      | some e => rw [he] at h; cases h; have := isMapD_inv he; subst this; simp [Op.equalIn, hr]
    · unfold VR at hv hu; subst hv; obtain ⟨b, sh, e0, _, rfl⟩ := hu
      cases he : isMapD d with
      | none => rw [he] at h; cases h
      | some e => rw [he] at h; cases h; have := isMapD_inv he; subst this; simp [Op.equalIn, hr]
    · unfold VR at hv hu; subst hu; obtain ⟨b, sh, e0, _, rfl⟩ := hv
      cases he : isMapD d with
      | none => rw [he] at h; cases h
      | some e => rw [he] at h; cases h; have := isMapD_inv he; subst this; simp [Op.equalIn, hr]
    · unfold VR at hv hu; subst hv; subst hu
      cases he : isFuncD d with
      | false => rw [he] at h; cases h
      | true => rw [he] at h; cases h; obtain ⟨_, _, _, rfl⟩ := isFuncD_inv he; simp [Op.equalIn, hr]
    · unfold VR at hv hu; subst hv; obtain ⟨vs, rfl, _⟩ := hu
      cases he : isFuncD d with
      | false => rw [he] at h; cases h
      | true => rw [he] at h; cases h; obtain ⟨_, _, _, rfl⟩ := isFuncD_inv he; simp [Op.equalIn, hr]
    · unfold VR at hv hu; subst hu; obtain ⟨vs, rfl, _⟩ := hv
      cases he : isFuncD d with
      | false => rw [he] at h; cases h
      | true => rw [he] at h; cases h; obtain ⟨_, _, _, rfl⟩ := isFuncD_inv he; simp [Op.equalIn, hr]
    · unfold VR at hv hu; subst hv; subst hu
      cases lit with
      | false => cases h
      | true =>
        simp only [cond_true] at h
        cases he : isIfaceD d with
        | false => rw [he] at h; cases h
        | true => rw [he] at h; cases h; obtain ⟨_, rfl⟩ := isIfaceD_inv he; simp [Op.equalIn, hr]
    · unfold VR at hv hu; subst hv; obtain ⟨vs, rfl, _⟩ := hu
      cases he : isIfaceD d with
      | false => rw [he] at h; cases h
      | true => rw [he] at h; cases h; obtain ⟨_, rfl⟩ := isIfaceD_inv he; simp [Op.equalIn, hr]
    · unfold VR at hv hu; subst hu; obtain ⟨vs, rfl, _⟩ := hv
      cases he : isIfaceD d with
      | false => rw [he] at h; cases h
      | true => rw [he] at h; cases h; obtain ⟨_, rfl⟩ := isIfaceD_inv he; simp [Op.equalIn, hr]
    · unfold VR at hv hu
      obtain ⟨xs, rfl, hl⟩ := hv
      obtain ⟨ys, rfl, hm⟩ := hu
      cases hs : E.sk t with
      | false => rw [hs] at h; cases h
      | true =>
        rw [hs] at h
        simp only [cond_true] at h
        cases hf : fieldsOf d with
        | none => rw [hf] at h; cases h
        | some fs =>
          rw [hf] at h
          obtain ⟨fa, rfl, rfl⟩ := fieldsOf_inv hf
          have hu := und_ok ok hd
          have hfo : E.P.fieldsOf t = fa := by unfold Program.fieldsOf; rw [hu]
          rw [run_equalIn_struct w (n + 1) t xs ys (by rw [hfo]; exact hu) (ok.sk t hs).1, hfo]
          exact eqFields_ok ok hl hm h
    · cases h

include ok in
theorem aEq_ok {w : World} {ρ : Rho} {lit : Bool} {t : Nat} {x y : AV} {v u : Value} {r : Bool} (hv : VR ρ x v) (hu : VR ρ y u) (h : aEq E lit t x y = some r) :
    (Op.equal t v u).run E.P w = .ok r w := aEqIn_ok ok (n := 9998) hv hu h

noncomputable def isConstO : Operand → Bool
  | .const _ => true
  | _ => false

noncomputable def aBin (E : Env) (lit : Bool) (op : BinOp) (t : Nat) (x y : AV) : Option AV :=
  match x, y with
  | .int k a, .int k' b => (match op with
    | .shl => shiftI .shl k a b
    | .shr => shiftI .shr k a b
    | op => cond (Nat.beq (kix k) (kix k')) (binI op k a b) none)
  | .str a, .str b => strBin op a b
  | x, y => match op with
    | .eql => (match aEq E lit t x y with | none => none | some r => some (.bool r))
    | .neq => (match aEq E lit t x y with | none => none | some r => some (.bool (!r)))
    | _ => none

end Go.Evo
