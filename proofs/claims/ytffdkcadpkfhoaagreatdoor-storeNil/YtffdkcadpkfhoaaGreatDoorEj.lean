/- A verified evaluator for the model of Go, part 10: what it reckons of a call, the call does in every world that its abstract heap speaks of. Conditions: none. -/
import Derived.Test.YtffdkcadpkfhoaaGreatDoorEi
namespace Go.Evo

noncomputable def lookT : List Nat → List AV → Tr AV → Nat → Option AV
  | [], _, tm, t => tm.get t
  | _ :: _, [], _, _ => none
  | d :: sh, x :: st, tm, t => cond (Nat.beq d t) (some x) (lookT sh st tm t)
noncomputable def fillT : List Nat → List AV → Tr AV → Tr AV
  | [], _, tm => tm
  | _ :: _, [], _ => .nil
  | d :: sh, x :: st, tm => (fillT sh st tm).set d x
theorem fillT_get : ∀ (sh : List Nat) (st : List AV) (tm : Tr AV) (t : Nat), (fillT sh st tm).get t = lookT sh st tm t
  | [], _, tm, t => rfl
  | _ :: _, [], tm, t => Tr.getP_nil _
  | d :: sh, x :: st, tm, t => by
    show ((fillT sh st tm).set d x).get t = cond (Nat.beq d t) (some x) (lookT sh st tm t)
    rw [Tr.get_set, fillT_get sh st tm t]
    by_cases h : d = t
    · rw [if_pos h]; subst h; simp
    · rw [if_neg h]
      have : Nat.beq d t = false := by rw [Bool.eq_false_iff]; intro h'; rw [Nat.beq_eq] at h'; exact h h'
      rw [this]; rfl

abbrev GF := List AV → Tr AV → (AV → Ev) → Ev
inductive GK where
  | mk (f : GF)
noncomputable def GK.app (c : GK) : GF := GK.rec (motive := fun _ => GF) (fun f => f) c

noncomputable def goV (r : Option AV) (k : AV → Ev) : Ev := match r with
  | none => .fail
  | some v => k v

noncomputable def g0 : GK := .mk (fun st _ k => List.rec (motive := fun _ => (AV → Ev) → Ev) (fun _ => .fail) (fun x _ _ k => k x) st k)
noncomputable def gS1 (g : GK) : GK := GK.rec (motive := fun _ => GK) (fun g => .mk (fun st tm k => List.rec (motive := fun _ => Tr AV → (AV → Ev) → Ev) (fun _ _ => .fail) (fun _ l _ tm k => g l tm k) st tm k)) g
noncomputable def gT (t : Nat) : List Nat → GK
  | [] => TG.rec (motive := fun _ => GK) (fun g => .mk (fun _ tm k => g tm k)) (tg (path t))
  | d :: sh => cond (Nat.beq d t) g0 (gS1 (gT t sh))
theorem gS1_app (g : GK) (st : List AV) (tm : Tr AV) (k : AV → Ev) : (gS1 g).app st tm k = match st with
    | [] => .fail
    | _ :: l => g.app l tm k := by
  obtain ⟨f⟩ := g
  cases st <;> rfl
theorem gT_ok (t : Nat) : ∀ (sh : List Nat) (st : List AV) (tm : Tr AV) (k : AV → Ev), (gT t sh).app st tm k = goV (lookT sh st tm t) k
  | [], st, tm, k => by
    have h := tg_ok (path t) tm k
    have he : gT t [] = TG.rec (motive := fun _ => GK) (fun g => .mk (fun _ tm k => g tm k)) (tg (path t)) := rfl
    rw [he]
    cases hg : tg (path t) with
    | mk g =>
      rw [hg] at h
      show g tm k = goV (tm.get t) k
      have h' : g tm k = goV (tm.get t) k := h
      exact h'
  | d :: sh, st, tm, k => by
    have h : gT t (d :: sh) = cond (Nat.beq d t) g0 (gS1 (gT t sh)) := rfl
    rw [h]
    cases st with
    | nil =>
      show GK.app _ [] tm k = .fail
      cases Nat.beq d t with
      | true => rfl
      | false =>
        simp only [cond_false]
        rw [gS1_app]
    | cons x st =>
      show GK.app _ (x :: st) tm k = goV (cond (Nat.beq d t) (some x) (lookT sh st tm t)) k
      cases Nat.beq d t with
      | true => rfl
      | false =>
        simp only [cond_false]
        rw [gS1_app]
        exact gT_ok t sh st tm k

/-- An operand, known once beside the places of the stack. -/
noncomputable def gS (sh : List Nat) (x : Operand) : GK :=
  match x with
  | .tmp t => gT t sh
  | .const v => (match ofV v with
    | none => .mk (fun _ _ _ => .fail)
    | some y => forceV y fun y => .mk (fun _ _ k => k y))
  | .global g => .mk (fun _ _ k => k (.gptr g 0))
  | .func f => .mk (fun _ _ k => k (.fn f []))
theorem gS_ok (sh : List Nat) (x : Operand) (st : List AV) (tm : Tr AV) (k : AV → Ev) : (gS sh x).app st tm k = goV (evO (fillT sh st tm) x) k := by
  cases x with
  | tmp t =>
    show (gT t sh).app st tm k = goV ((fillT sh st tm).get t) k
    rw [gT_ok, fillT_get]
  | const v =>
    show (GK.app (match ofV v with
      | none => .mk (fun _ _ _ => .fail)
      | some y => forceV y fun y => .mk (fun _ _ k => k y))) st tm k = goV (ofV v) k
    cases ofV v with
    | none => rfl
    | some y => simp only [forceV_eq]; rfl
  | global g => rfl
  | func f => rfl

/-- Lists of operands. -/
abbrev LF := List AV → Tr AV → (List AV → Ev) → Ev
inductive LK where
  | mk (f : LF)
noncomputable def LK.app (c : LK) : LF := LK.rec (motive := fun _ => LF) (fun f => f) c
noncomputable def goL (r : Option (List AV)) (k : List AV → Ev) : Ev := match r with
  | none => .fail
  | some v => k v
noncomputable def lS (sh : List Nat) : List Operand → LK
  | [] => .mk (fun _ _ k => k [])
  | x :: l => GK.rec (motive := fun _ => LK) (fun g => LK.rec (motive := fun _ => LK) (fun r => .mk (fun st tm k => g st tm (fun x => r st tm (fun xs => k (x :: xs))))) (lS sh l)) (gS sh x)
theorem lS_ok (sh : List Nat) : ∀ (l : List Operand) (st : List AV) (tm : Tr AV) (k : List AV → Ev), (lS sh l).app st tm k = goL (evOs (fillT sh st tm) l) k
  | [], st, tm, k => by unfold evOs; rfl
  | x :: l, st, tm, k => by
    have h : lS sh (x :: l) = GK.rec (motive := fun _ => LK) (fun g => LK.rec (motive := fun _ => LK) (fun r => .mk (fun st tm k => g st tm (fun x => r st tm (fun xs => k (x :: xs))))) (lS sh l)) (gS sh x) := rfl
    have h1 := gS_ok sh x st tm
    have h2 := lS_ok sh l st tm
    rw [h]
    cases hg : gS sh x with
    | mk g =>
      cases hr : lS sh l with
      | mk r =>
        rw [hg] at h1
        rw [hr] at h2
        show g st tm (fun x => r st tm (fun xs => k (x :: xs))) = _
        have h1' : ∀ k, g st tm k = goV (evO (fillT sh st tm) x) k := h1
        have h2' : ∀ k, r st tm k = goL (evOs (fillT sh st tm) l) k := h2
        rw [h1']
        conv => rhs; unfold evOs
        cases evO (fillT sh st tm) x with
        | none => rfl
        | some v =>
          show r st tm (fun xs => k (v :: xs)) = _
          rw [h2']
          cases evOs (fillT sh st tm) l <;> rfl

/-- Values of operations that hang on the temporaries alone. -/
abbrev SF := Env → List AV → Tr AV → (AV → Ev) → Ev
inductive SQ where
  | mk (f : SF)
noncomputable def SQ.app (c : SQ) : SF := SQ.rec (motive := fun _ => SF) (fun f => f) c

abbrev F1 := Env → AV → (AV → Ev) → Ev
abbrev F2 := Env → AV → AV → (AV → Ev) → Ev
def F1ok (f : F1) (r : Env → AV → Option AV) : Prop := ∀ E u k, f E u k = .fail ∨ ∃ v, r E u = some v ∧ f E u k = k v
def F2ok (f : F2) (r : Env → AV → AV → Option AV) : Prop := ∀ E u w k, f E u w k = .fail ∨ ∃ v, r E u w = some v ∧ f E u w k = k v
inductive F1K where
  | mk (f : F1)
inductive F2K where
  | mk (f : F2)
noncomputable def F1K.app (c : F1K) : F1 := F1K.rec (motive := fun _ => F1) (fun f => f) c
noncomputable def F2K.app (c : F2K) : F2 := F2K.rec (motive := fun _ => F2) (fun f => f) c

noncomputable def any1 (r : Env → AV → Option AV) : F1 := fun E u k => Option.rec (motive := fun _ => Ev) .fail (fun v => forceV v k) (r E u)
noncomputable def any2 (r : Env → AV → AV → Option AV) : F2 := fun E u w k => Option.rec (motive := fun _ => Ev) .fail (fun v => forceV v k) (r E u w)
theorem any1_ok (r : Env → AV → Option AV) : F1ok (any1 r) r := by
  intro E u k
  unfold any1
  cases r E u with
  | none => exact .inl rfl
  | some v => exact .inr ⟨v, rfl, forceV_eq v k⟩
theorem any2_ok (r : Env → AV → AV → Option AV) : F2ok (any2 r) r := by
  intro E u w k
  unfold any2
  cases r E u w with
  | none => exact .inl rfl
  | some v => exact .inr ⟨v, rfl, forceV_eq v k⟩

noncomputable def q1 (g : GK) (f : F1K) : SQ := GK.rec (motive := fun _ => SQ) (fun g => F1K.rec (motive := fun _ => SQ) (fun f => .mk (fun E st tm k => g st tm (fun u => f E u k))) f) g
noncomputable def q2 (g h : GK) (f : F2K) : SQ := GK.rec (motive := fun _ => SQ) (fun g => GK.rec (motive := fun _ => SQ) (fun h => F2K.rec (motive := fun _ => SQ) (fun f => .mk (fun E st tm k => g st tm (fun u => h st tm (fun w => f E u w k)))) f) h) g

def SQok (sh : List Nat) (op : Op) (c : SQ) : Prop := ∀ (E : Env) (st : List AV) (tm : Tr AV) (k : AV → Ev), c.app E st tm k = .fail ∨ ∃ v, (∀ o : Oper, o.op = op → quietOp E (fillT sh st tm) o = some v) ∧ c.app E st tm k = k v

theorem q1_ok {sh : List Nat} {op : Op} {x : Operand} {f : F1K} {r : Env → AV → Option AV} (hf : F1ok f.app r) (hq : ∀ (E : Env) (tm : Tr AV) (u v : AV), evO tm x = some u → r E u = some v → ∀ o : Oper, o.op = op → quietOp E tm o = some v) : SQok sh op (q1 (gS sh x) f) := by
  intro E st tm k
  have h1 := gS_ok sh x st tm
  unfold q1
  cases hg : gS sh x with
  | mk g =>
    obtain ⟨f⟩ := f
    rw [hg] at h1
    have h1' : ∀ k, g st tm k = goV (evO (fillT sh st tm) x) k := h1
    show g st tm (fun u => f E u k) = .fail ∨ ∃ v, _ ∧ g st tm (fun u => f E u k) = k v
    rw [h1']
    cases hx : evO (fillT sh st tm) x with
    | none => exact .inl rfl
    | some u =>
      rcases hf E u k with h | ⟨v, h2, h3⟩
      · exact .inl h
      · exact .inr ⟨v, hq E _ u v hx h2, h3⟩
theorem q2_ok {sh : List Nat} {op : Op} {x y : Operand} {f : F2K} {r : Env → AV → AV → Option AV} (hf : F2ok f.app r) (hq : ∀ (E : Env) (tm : Tr AV) (u w v : AV), evO tm x = some u → evO tm y = some w → r E u w = some v → ∀ o : Oper, o.op = op → quietOp E tm o = some v) : SQok sh op (q2 (gS sh x) (gS sh y) f) := by
  intro E st tm k
  have h1 := gS_ok sh x st tm
  have h2 := gS_ok sh y st tm
  unfold q2
  cases hg : gS sh x with
  | mk g =>
    cases hh : gS sh y with
    | mk h =>
      obtain ⟨f⟩ := f
      rw [hg] at h1
      rw [hh] at h2
      have h1' : ∀ k, g st tm k = goV (evO (fillT sh st tm) x) k := h1
      have h2' : ∀ k, h st tm k = goV (evO (fillT sh st tm) y) k := h2
      show g st tm (fun u => h st tm (fun w => f E u w k)) = .fail ∨ ∃ v, _ ∧ g st tm (fun u => h st tm (fun w => f E u w k)) = k v
      rw [h1']
      cases hx : evO (fillT sh st tm) x with
      | none => exact .inl rfl
      | some u =>
        simp only [goV]
        rw [h2']
        cases hy : evO (fillT sh st tm) y with
        | none => exact .inl rfl
        | some w =>
          rcases hf E u w k with h | ⟨v, h3, h4⟩
          · exact .inl h
          · exact .inr ⟨v, hq E _ u w v hx hy h3, h4⟩

end Go.Evo
namespace Go.Evo

/-- What an operation did, by whichever road. -/
def StepR (E : Env) (K : Kit E) (o : Oper) (tm : Tr AV) (hp : Hp) (nx : Nat) (df : List Nat) (v : AV) (hp' : Hp) (nx' : Nat) (df' : List Nat) : Prop :=
  (quietOp E tm o = some v ∧ hp' = hp ∧ nx' = nx ∧ df' = df) ∨
  (readOp E hp tm o = some v ∧ hp' = hp ∧ nx' = nx ∧ df' = df) ∨
  (effOp E hp nx tm o = some (v, hp', nx') ∧ df' = df) ∨
  (fastOp E K.X hp nx tm o = some (v, hp', nx') ∧ df' = df) ∨
  (xOp E K.X hp nx tm o = some (v, hp', nx') ∧ df' = df) ∨
  (∃ g xs, callee tm o = some (g, xs) ∧ K.cf g xs hp nx = some (v, hp', nx') ∧ df' = df) ∨
  (∃ g, deferOf K.dq tm o = some g ∧ v = .tup [] ∧ hp' = hp ∧ nx' = nx ∧ df' = g :: df)

/-- Any operation, the slow way. -/
noncomputable def slowV (E : Env) (K : Kit E) (o : Oper) (tm : Tr AV) (hp : Hp) (nx : Nat) (df : List Nat) : Option (AV × Hp × Nat × List Nat) :=
  match fastOp E K.X hp nx tm o with
  | some (v, hp, nx) => some (v, hp, nx, df)
  | none => match callee tm o with
    | some (g, xs) => (match K.cf g xs hp nx with
      | some (v, hp, nx) => some (v, hp, nx, df)
      | none => match xOp E K.X hp nx tm o with
        | none => none
        | some (v, hp, nx) => some (v, hp, nx, df))
    | none => match deferOf K.dq tm o with
      | none => none
      | some g => some (.tup [], hp, nx, g :: df)
theorem slowV_step {E : Env} {K : Kit E} {o : Oper} {tm : Tr AV} {hp : Hp} {nx : Nat} {df : List Nat} {v : AV} {hp' : Hp} {nx' : Nat} {df' : List Nat} (h : slowV E K o tm hp nx df = some (v, hp', nx', df')) : StepR E K o tm hp nx df v hp' nx' df' := by
  unfold slowV at h
  cases hf : fastOp E K.X hp nx tm o with
  | some p =>
    obtain ⟨v1, hp1, nx1⟩ := p
    rw [hf] at h; cases h
    exact .inr (.inr (.inr (.inl ⟨hf, rfl⟩)))
  | none =>
    rw [hf] at h
    simp only at h
    cases hcal : callee tm o with
    | some p =>
      obtain ⟨g, xs⟩ := p
      rw [hcal] at h
      simp only at h
      cases hcf : K.cf g xs hp nx with
      | some q =>
        obtain ⟨v1, hp1, nx1⟩ := q
        rw [hcf] at h; cases h
        exact .inr (.inr (.inr (.inr (.inr (.inl ⟨g, xs, hcal, hcf, rfl⟩)))))
      | none =>
        rw [hcf] at h
        simp only at h
        cases hx : xOp E K.X hp nx tm o with
        | none => rw [hx] at h; cases h
        | some q =>
          obtain ⟨v1, hp1, nx1⟩ := q
          rw [hx] at h; cases h
          exact .inr (.inr (.inr (.inr (.inl ⟨hx, rfl⟩))))
    | none =>
      rw [hcal] at h
      simp only at h
      cases hd : deferOf K.dq tm o with
      | none => rw [hd] at h; cases h
      | some g =>
        rw [hd] at h; cases h
        exact .inr (.inr (.inr (.inr (.inr (.inr ⟨g, hd, rfl, rfl, rfl, rfl⟩)))))

/-- Behind an operation: its value has been put. -/
def Did1 (E : Env) (ρ : Rho) (hp : Hp) (nx : Nat) (w : World) (o : Oper) (a : Act) (v : AV) (hp' : Hp) (nx' : Nat) (df' : List Nat) (a' : Act) (w' : World) : Prop :=
  ∃ vc ρ' a0, a' = Act.put a0 o.dst vc ∧ a0.tmps = a.tmps ∧ VR ρ' v vc ∧ E.R ρ' hp' nx' w' ∧ G ρ hp nx w ρ' hp' nx' w' ∧ DfR df' a0.defers

theorem stepR_ok {E : Env} (ok : E.Ok) {K : Kit E} (hc : CallOk E K.cf) (hen : Enters E K.cf) {n : Nat} {ρ : Rho} {o : Oper} {tm : Tr AV} {hp hp' : Hp} {nx nx' : Nat} {df df' : List Nat} {v : AV} {a : Act} {w : World} (r : E.R ρ hp nx w) (ht : TmR ρ n tm a.tmps) (hdf : DfR df a.defers)
    (h : StepR E K o tm hp nx df v hp' nx' df') (Q : Exit → Act → World → Prop) : o.wp E.P a w (Did1 E ρ hp nx w o a v hp' nx' df') Q := by
  have did : ∀ {v : AV} {hp' : Hp} {nx' : Nat}, Did E ρ hp nx w v hp' nx' ((execOp a.eval o).run E.P w) → o.wp E.P a w (Did1 E ρ hp nx w o a v hp' nx' df) Q := by
    rintro v hp' nx' ⟨vc, w', ρ', hres, hv, hr, hg⟩
    have fin : Did1 E ρ hp nx w o a v hp' nx' df (a.put o.dst vc) w' := ⟨vc, ρ', a, rfl, rfl, hv, hr, hg, hdf⟩
    unfold Oper.wp
    rcases hres with hres | ⟨hres, rfl⟩
    · rw [hres]; exact fin
    · rw [hres]; exact fin
  rcases h with ⟨h, rfl, rfl, rfl⟩ | ⟨h, rfl, rfl, rfl⟩ | ⟨h, rfl⟩ | ⟨h, rfl⟩ | ⟨h, rfl⟩ | ⟨g, xs, hcal, hcf, rfl⟩ | ⟨g, hd, rfl, rfl, rfl, rfl⟩
  · obtain ⟨v', q1, q2⟩ := quiet_ok ok (w := w) ht h
    exact did ⟨v', w, ρ, .inl q1, q2, r, G.refl _ _ _ _⟩
  · obtain ⟨v', q1, q2⟩ := read_ok ok r ht h
    exact did ⟨v', w, ρ, .inl q1, q2, r, G.refl _ _ _ _⟩
  · exact did (eff_ok ok r ht h)
  · exact did (fastOp_ok ok r ht h)
  · exact did (xOp_ok r ht h)
  · obtain ⟨vs, q1, q2⟩ := callee_ok hen hcf ht hcal w
    unfold Oper.wp
    rw [q1]
    refine (hc g xs hp nx v hp' nx' hcf ρ w vs r q2).mono ?_
    rintro e w' ⟨vc, ρ', rfl, hv, hr, hg⟩
    exact ⟨vc, ρ', a, rfl, rfl, hv, hr, hg, hdf⟩
  · obtain ⟨cap, args, q1⟩ := deferOf_ok (E := E) ht hd w
    unfold Oper.wp
    rw [q1]
    exact ⟨undef, ρ, { a with defers := { target := .fn (.func g) cap, args := args } :: a.defers }, rfl, rfl, vr_undef ρ, r, G.refl _ _ _ _, (.inl ⟨cap, args, a.defers, rfl, hdf⟩)⟩

/-- Temporaries of a trie that the stack and its trie hold. -/
def Val (sh : List Nat) (st : List AV) (tm tmX : Tr AV) : Prop := ∀ t x, tmX.get t = some x → (fillT sh st tm).get t = some x

abbrev KS := List AV → Tr AV → Hp → Nat → List Nat → Ev
abbrev OF := (E : Env) → Kit E → List AV → Tr AV → Hp → Nat → List Nat → KS → Ev
inductive SOp where
  | mk (f : OF)
noncomputable def SOp.app (c : SOp) : OF := SOp.rec (motive := fun _ => OF) (fun f => f) c

abbrev PF := AV → List AV → Tr AV → Hp → Nat → List Nat → KS → Ev
inductive PK where
  | mk (f : PF)
noncomputable def PK.app (c : PK) : PF := PK.rec (motive := fun _ => PF) (fun f => f) c

noncomputable def shPush (dst : Option Nat) (sh : List Nat) : List Nat := match dst with
  | none => sh
  | some d => d :: sh
noncomputable def stPush (dst : Option Nat) (v : AV) (st : List AV) : List AV := match dst with
  | none => st
  | some _ => v :: st
noncomputable def tmPush (V : Nat) (dst : Option Nat) (v : AV) (tm : Tr AV) : Tr AV := match dst with
  | none => tm
  | some d => cond (Nat.testBit V d) (tm.set d v) tm
noncomputable def pS (n V : Nat) (dst : Option Nat) : PK := match dst with
  | none => .mk (fun _ st tm hp nx df k => k st tm hp nx df)
  | some d => cond (Nat.blt d n) (cond (Nat.testBit V d)
      (TS.rec (motive := fun _ => PK) (fun g => .mk (fun v st tm hp nx df k => g (some v) tm fun tm => k (v :: st) tm hp nx df)) (ts (path d)))
      (.mk (fun v st tm hp nx df k => k (v :: st) tm hp nx df)))
    (.mk (fun _ _ _ _ _ _ _ => .fail))
theorem pS_ok (n V : Nat) (dst : Option Nat) (v : AV) (st : List AV) (tm : Tr AV) (hp : Hp) (nx : Nat) (df : List Nat) (k : KS) :
    (pS n V dst).app v st tm hp nx df k = .fail ∨ ((∀ d, dst = some d → d < n) ∧ (pS n V dst).app v st tm hp nx df k = k (stPush dst v st) (tmPush V dst v tm) hp nx df) := by
  cases dst with
  | none => exact .inr ⟨fun d h => (by cases h), rfl⟩
  | some d =>
    unfold pS tmPush stPush
    simp only
    cases h1 : Nat.blt d n with
    | false => exact .inl rfl
    | true =>
      refine .inr ⟨fun d' h => by cases h; exact blt_iff.1 h1, ?_⟩
      simp only [cond_true]
      cases h2 : Nat.testBit V d with
      | false => rfl
      | true =>
        simp only [cond_true]
        have h3 := ts_ok (path d) (some v) tm (fun tm => k (v :: st) tm hp nx df)
        cases hg : ts (path d) with
        | mk g =>
          rw [hg] at h3
          show g (some v) tm (fun tm => k (v :: st) tm hp nx df) = _
          have h3' : g (some v) tm (fun tm => k (v :: st) tm hp nx df) = _ := h3
          rw [h3']
          unfold Tr.set
          rw [Tr.setK_eq]

def SOk (n V : Nat) (sh : List Nat) (o : Oper) (c : SOp) : Prop := ∀ (E : Env) (K : Kit E) (st : List AV) (tm : Tr AV) (hp : Hp) (nx : Nat) (df : List Nat) (k : KS),
  c.app E K st tm hp nx df k = .fail ∨ ∃ tmX v hp' nx' df', Val sh st tm tmX ∧ StepR E K o tmX hp nx df v hp' nx' df' ∧ (∀ d, o.dst = some d → d < n) ∧
    c.app E K st tm hp nx df k = k (stPush o.dst v st) (tmPush V o.dst v tm) hp' nx' df'

theorem Val.fill (sh : List Nat) (st : List AV) (tm : Tr AV) : Val sh st tm (fillT sh st tm) := fun _ _ h => h

noncomputable def sQ (q : SQ) (p : PK) : SOp := SQ.rec (motive := fun _ => SOp) (fun q => PK.rec (motive := fun _ => SOp) (fun p => .mk (fun E _ st tm hp nx df k => q E st tm (fun v => p v st tm hp nx df k))) p) q
theorem sQ_ok {n V : Nat} {sh : List Nat} {o : Oper} {q : SQ} (hq : SQok sh o.op q) : SOk n V sh o (sQ q (pS n V o.dst)) := by
  intro E K st tm hp nx df k
  have hp' := pS_ok n V o.dst
  unfold sQ
  obtain ⟨q⟩ := q
  cases hps : pS n V o.dst with
  | mk p =>
    rw [hps] at hp'
    show q E st tm (fun v => p v st tm hp nx df k) = .fail ∨ ∃ tmX v hp' nx' df', _ ∧ _ ∧ _ ∧ q E st tm (fun v => p v st tm hp nx df k) = _
    rcases hq E st tm (fun v => p v st tm hp nx df k) with h | ⟨v, h1, h2⟩
    · exact .inl h
    · have h2' : q E st tm (fun v => p v st tm hp nx df k) = p v st tm hp nx df k := h2
      rw [h2']
      rcases hp' v st tm hp nx df k with h | ⟨h3, h4⟩
      · exact .inl h
      · exact .inr ⟨_, v, hp, nx, df, Val.fill sh st tm, .inl ⟨h1 o rfl, rfl, rfl, rfl⟩, h3, h4⟩

/-- The operands' own small trie. -/
noncomputable def opT : List Operand → List AV → Tr AV
  | .tmp t :: l, x :: xs => (opT l xs).set t x
  | _ :: l, _ :: xs => opT l xs
  | _, _ => .nil
theorem opT_val {sh : List Nat} {st : List AV} {tm : Tr AV} : ∀ {l : List Operand} {xs : List AV}, evOs (fillT sh st tm) l = some xs → Val sh st tm (opT l xs)
  | [], xs, h => by
    intro t x ht
    have : opT [] xs = .nil := by cases xs <;> rfl
    rw [this, Tr.get_nil] at ht; cases ht
  | o :: l, xs, h => by
    unfold evOs at h
    cases ho : evO (fillT sh st tm) o with
    | none => rw [ho] at h; cases h
    | some y =>
      rw [ho] at h
      simp only at h
      cases hl : evOs (fillT sh st tm) l with
      | none => rw [hl] at h; cases h
      | some ys =>
        rw [hl] at h; cases h
        have ih := opT_val (sh := sh) (st := st) (tm := tm) hl
        cases o with
        | tmp t =>
          intro t' x ht
          have ht' : ((opT l ys).set t y).get t' = some x := ht
          rw [Tr.get_set] at ht'
          by_cases h1 : t = t'
          · rw [if_pos h1] at ht'; cases ht'; subst h1; exact ho
          · rw [if_neg h1] at ht'; exact ih t' x ht'
        | const v => exact ih
        | global g => exact ih
        | func f => exact ih

noncomputable def sSlow (sh : List Nat) (o : Oper) (p : PK) : SOp := LK.rec (motive := fun _ => SOp) (fun l => PK.rec (motive := fun _ => SOp) (fun p => .mk (fun E K st tm hp nx df k => l st tm (fun xs =>
    Option.rec (motive := fun _ => Ev) .fail (fun r => Prod.rec (motive := fun _ => Ev) (fun v q => Prod.rec (motive := fun _ => Ev) (fun hp' q => Prod.rec (motive := fun _ => Ev) (fun nx' df' =>
      forceV v fun v => forceT hp' fun hp' => fN nx' fun nx' => p v st tm hp' nx' df' k) q) q) r) (slowV E K o (opT o.op.operands.toList xs) hp nx df)))) p) (lS sh o.op.operands.toList)
theorem sSlow_ok {n V : Nat} {sh : List Nat} {o : Oper} : SOk n V sh o (sSlow sh o (pS n V o.dst)) := by
  intro E K st tm hp nx df k
  have hp' := pS_ok n V o.dst
  have hl := lS_ok sh o.op.operands.toList
  unfold sSlow
  cases hls : lS sh o.op.operands.toList with
  | mk l =>
    cases hps : pS n V o.dst with
    | mk p =>
      rw [hps] at hp'
      rw [hls] at hl
      have hl' : ∀ k, l st tm k = goL (evOs (fillT sh st tm) o.op.operands.toList) k := hl st tm
      show l st tm _ = .fail ∨ ∃ tmX v hp' nx' df', _ ∧ _ ∧ _ ∧ l st tm _ = _
      rw [hl']
      cases hos : evOs (fillT sh st tm) o.op.operands.toList with
      | none => exact .inl rfl
      | some xs =>
        simp only [goL]
        cases hs : slowV E K o (opT o.op.operands.toList xs) hp nx df with
        | none => exact .inl rfl
        | some q =>
          obtain ⟨v, hp1, nx1, df1⟩ := q
          simp only [forceV_eq, forceT_eq, fN_eq]
          rcases hp' v st tm hp1 nx1 df1 k with h | ⟨h3, h4⟩
          · exact .inl h
          · exact .inr ⟨_, v, hp1, nx1, df1, opT_val hos, slowV_step hs, h3, h4⟩

/-- Loads. -/
abbrev LD := Env → Hp → AV → (AV → Ev) → Ev
def LDok (t : Nat) (f : LD) : Prop := ∀ E hp u k, f E hp u k = .fail ∨ ∃ v, aLoad E hp t u = some v ∧ f E hp u k = k v
noncomputable def ld0 (t : Nat) : LD := fun E hp u k => Option.rec (motive := fun _ => Ev) .fail k (aLoad E hp t u)
theorem ld0_ok (t : Nat) : LDok t (ld0 t) := by
  intro E hp u k
  unfold ld0
  cases aLoad E hp t u with
  | none => exact .inl rfl
  | some v => exact .inr ⟨v, rfl, rfl⟩
noncomputable def sL (g : GK) (f : LD) (p : PK) : SOp := GK.rec (motive := fun _ => SOp) (fun g => PK.rec (motive := fun _ => SOp) (fun p => .mk (fun E _ st tm hp nx df k => g st tm (fun u => f E hp u (fun v => p v st tm hp nx df k)))) p) g
theorem sL_ok {n V : Nat} {sh : List Nat} {dst : Option Nat} {t type : Nat} {x : Operand} {pos : String} {after : Array Edge} {gd : Option (Nat × Bool)} {f : LD} (hf : LDok t f) : SOk n V sh ⟨dst, .load t x, type, pos, after, gd⟩ (sL (gS sh x) f (pS n V dst)) := by
  intro E K st tm hp nx df k
  have hp' := pS_ok n V dst
  have hg := gS_ok sh x
  unfold sL
  cases hgs : gS sh x with
  | mk g =>
    cases hps : pS n V dst with
    | mk p =>
      rw [hps] at hp'
      rw [hgs] at hg
      have hg' : ∀ k, g st tm k = goV (evO (fillT sh st tm) x) k := hg st tm
      show g st tm _ = .fail ∨ ∃ tmX v hp' nx' df', _ ∧ _ ∧ _ ∧ g st tm _ = _
      rw [hg']
      cases hx : evO (fillT sh st tm) x with
      | none => exact .inl rfl
      | some u =>
        simp only [goV]
        rcases hf E hp u (fun v => p v st tm hp nx df k) with h | ⟨v, h1, h2⟩
        · exact .inl h
        · rw [h2]
          rcases hp' v st tm hp nx df k with h | ⟨h3, h4⟩
          · exact .inl h
          · refine .inr ⟨_, v, hp, nx, df, Val.fill sh st tm, .inr (.inl ⟨?_, rfl, rfl, rfl⟩), h3, h4⟩
            unfold readOp
            simp only [hx, h1]

/-- Stores. -/
noncomputable def sS (g h : GK) (t : Nat) (p : PK) : SOp := GK.rec (motive := fun _ => SOp) (fun g => GK.rec (motive := fun _ => SOp) (fun h => PK.rec (motive := fun _ => SOp) (fun p => .mk (fun E _ st tm hp nx df k => g st tm (fun u => h st tm (fun y =>
  Option.rec (motive := fun _ => Ev) .fail (fun hp' => forceT hp' fun hp' => p (.tup []) st tm hp' nx df k) (aStore E hp t u y))))) p) h) g
theorem sS_ok {n V : Nat} {sh : List Nat} {dst : Option Nat} {t type : Nat} {x y : Operand} {pos : String} {after : Array Edge} {gd : Option (Nat × Bool)} : SOk n V sh ⟨dst, .store t x y, type, pos, after, gd⟩ (sS (gS sh x) (gS sh y) t (pS n V dst)) := by
  intro E K st tm hp nx df k
  have hp' := pS_ok n V dst
  have hg := gS_ok sh x
  have hh := gS_ok sh y
  unfold sS
  cases hgs : gS sh x with
  | mk g =>
    cases hhs : gS sh y with
    | mk h =>
      cases hps : pS n V dst with
      | mk p =>
        rw [hps] at hp'
        rw [hgs] at hg
        rw [hhs] at hh
        have hg' : ∀ k, g st tm k = goV (evO (fillT sh st tm) x) k := hg st tm
        have hh' : ∀ k, h st tm k = goV (evO (fillT sh st tm) y) k := hh st tm
        show g st tm _ = .fail ∨ ∃ tmX v hp' nx' df', _ ∧ _ ∧ _ ∧ g st tm _ = _
        rw [hg']
        cases hx : evO (fillT sh st tm) x with
        | none => exact .inl rfl
        | some u =>
          simp only [goV]
          rw [hh']
          cases hy : evO (fillT sh st tm) y with
          | none => exact .inl rfl
          | some y' =>
            simp only [goV]
            cases hst : aStore E hp t u y' with
            | none => exact .inl rfl
            | some hp1 =>
              simp only [forceT_eq]
              rcases hp' (.tup []) st tm hp1 nx df k with h | ⟨h3, h4⟩
              · exact .inl h
              · refine .inr ⟨_, .tup [], hp1, nx, df, Val.fill sh st tm, .inr (.inr (.inr (.inl ⟨?_, rfl⟩))), h3, h4⟩
                show ((match evO (fillT sh st tm) x with
                  | none => none
                  | some u => match evO (fillT sh st tm) y with
                    | none => none
                    | some y => match aStore E hp t u y with
                      | none => none
                      | some hp' => some (AV.tup [], hp', nx)) : Option (AV × Hp × Nat)) = some (AV.tup [], hp1, nx)
                rw [hx, hy]
                simp only [hst]

/-- Calls of functions that the text names. -/
noncomputable def sC (sh : List Nat) (o : Oper) (g : Nat) (args : List Operand) (p : PK) : SOp := LK.rec (motive := fun _ => SOp) (fun l => PK.rec (motive := fun _ => SOp) (fun pf => SOp.rec (motive := fun _ => SOp) (fun sl => .mk (fun E K st tm hp nx df k => l st tm (fun xs =>
    Option.rec (motive := fun _ => Ev) (sl E K st tm hp nx df k) (fun r => Prod.rec (motive := fun _ => Ev) (fun v q => Prod.rec (motive := fun _ => Ev) (fun hp' nx' => pf v st tm hp' nx' df k) q) r) (K.cf g xs hp nx)))) (sSlow sh o p)) p) (lS sh args)
theorem sC_ok {n V : Nat} {sh : List Nat} {dst : Option Nat} {g type : Nat} {args : Array Operand} {ats : Array TypeId} {pos : String} {after : Array Edge} {gd : Option (Nat × Bool)} :
    SOk n V sh ⟨dst, .call ⟨.value (.func g), args, ats⟩, type, pos, after, gd⟩ (sC sh ⟨dst, .call ⟨.value (.func g), args, ats⟩, type, pos, after, gd⟩ g args.toList (pS n V dst)) := by
  intro E K st tm hp nx df k
  have hp' := pS_ok n V dst
  have hl := lS_ok sh args.toList
  have hsl := sSlow_ok (n := n) (V := V) (sh := sh) (o := ⟨dst, .call ⟨.value (.func g), args, ats⟩, type, pos, after, gd⟩)
  unfold sC
  cases hls : lS sh args.toList with
  | mk l =>
    cases hps : pS n V dst with
    | mk p =>
      rw [hps] at hp'
      rw [hls] at hl
      rw [show (⟨dst, .call ⟨.value (.func g), args, ats⟩, type, pos, after, gd⟩ : Oper).dst = dst from rfl, hps] at hsl
      cases hss : sSlow sh ⟨dst, .call ⟨.value (.func g), args, ats⟩, type, pos, after, gd⟩ (.mk p) with
      | mk sl =>
        rw [hss] at hsl
        have hl' : ∀ k, l st tm k = goL (evOs (fillT sh st tm) args.toList) k := hl st tm
        show l st tm _ = .fail ∨ ∃ tmX v hp' nx' df', _ ∧ _ ∧ _ ∧ l st tm _ = _
        rw [hl']
        cases hos : evOs (fillT sh st tm) args.toList with
        | none => exact .inl rfl
        | some xs =>
          simp only [goL]
          cases hcf : K.cf g xs hp nx with
          | none => exact hsl E K st tm hp nx df k
          | some r =>
            obtain ⟨v, hp1, nx1⟩ := r
            simp only
            rcases hp' v st tm hp1 nx1 df k with h | ⟨h3, h4⟩
            · exact .inl h
            · refine .inr ⟨_, v, hp1, nx1, df, Val.fill sh st tm, .inr (.inr (.inr (.inr (.inr (.inl ⟨g, xs, ?_, hcf, rfl⟩))))), h3, h4⟩
              show (match evOs (fillT sh st tm) args.toList with
                | none => none
                | some xs => some (g, xs ++ [])) = some (g, xs)
              rw [hos]
              simp only [List.append_nil]

end Go.Evo
namespace Go.Evo

abbrev NF := IntKind → Nat → Nat → Ev
noncomputable def nn2 (a b : Int) (k k' : IntKind) (f : NF) (d : Ev) : Ev :=
  Int.rec (motive := fun _ => Int → IntKind → IntKind → NF → Ev → Ev) (fun m b k k' f d => Int.rec (motive := fun _ => Nat → IntKind → IntKind → NF → Ev → Ev) (fun n m k k' f d => Bool.rec (motive := fun _ => Ev) d (f k m n) (Nat.beq (kix k) (kix k'))) (fun _ _ _ _ _ d => d) b m k k' f d) (fun _ _ _ _ _ d => d) a b k k' f d
noncomputable def nn1 (w : AV) (k : IntKind) (a : Int) (f : NF) (d : Ev) : Ev :=
  AV.rec (motive_1 := fun _ => IntKind → Int → NF → Ev → Ev) (motive_2 := fun _ => IntKind → Int → NF → Ev → Ev) (fun _ _ _ _ d => d) (fun k' b k a f d => nn2 a b k k' f d) (fun _ _ _ _ d => d) (fun _ _ _ d => d) (fun _ _ _ _ _ d => d) (fun _ _ _ _ _ d => d) (fun _ _ _ d => d) (fun _ _ _ _ _ _ _ d => d) (fun _ _ _ _ _ _ _ d => d) (fun _ _ _ d => d) (fun _ _ _ _ d => d) (fun _ _ _ _ _ _ d => d) (fun _ _ _ d => d) (fun _ _ _ d => d) (fun _ _ _ _ _ _ d => d) (fun _ _ _ _ _ d => d) (fun _ _ _ _ _ d => d) (fun _ _ _ d => d) (fun _ _ _ _ _ _ _ d => d) w k a f d
noncomputable def nn (u w : AV) (f : NF) (d : Ev) : Ev :=
  AV.rec (motive_1 := fun _ => AV → NF → Ev → Ev) (motive_2 := fun _ => AV → NF → Ev → Ev) (fun _ _ _ d => d) (fun k a w f d => nn1 w k a f d) (fun _ _ _ d => d) (fun _ _ d => d) (fun _ _ _ _ d => d) (fun _ _ _ _ d => d) (fun _ _ d => d) (fun _ _ _ _ _ _ d => d) (fun _ _ _ _ _ _ d => d) (fun _ _ d => d) (fun _ _ _ d => d) (fun _ _ _ _ _ d => d) (fun _ _ d => d) (fun _ _ d => d) (fun _ _ _ _ _ d => d) (fun _ _ _ _ d => d) (fun _ _ _ _ d => d) (fun _ _ d => d) (fun _ _ _ _ _ _ d => d) u w f d
theorem nn_cases (u w : AV) (f : IntKind → Nat → Nat → Ev) (d : Ev) : nn u w f d = d ∨ ∃ k m n, u = .int k (Int.ofNat m) ∧ w = .int k (Int.ofNat n) ∧ nn u w f d = f k m n := by
  cases u <;> try exact .inl rfl
  rename_i k a
  cases w <;> try exact .inl rfl
  rename_i k' b
  cases a <;> try exact .inl rfl
  rename_i m
  cases b <;> try exact .inl rfl
  rename_i n
  cases hk : Nat.beq (kix k) (kix k') with
  | false =>
    left
    show Bool.rec (motive := fun _ => Ev) d (f k m n) (Nat.beq (kix k) (kix k')) = d
    rw [hk]
  | true =>
    right
    have := kix_inj hk
    subst this
    refine ⟨k, m, n, rfl, rfl, ?_⟩
    show Bool.rec (motive := fun _ => Ev) d (f k m n) (Nat.beq (kix k) (kix k)) = f k m n
    rw [hk]

theorem aBin_int (E : Env) (c : Bool) (op : BinOp) (t : Nat) (k : IntKind) (a b : Int) (h1 : op ≠ .shl) (h2 : op ≠ .shr) : aBin E c op t (.int k a) (.int k b) = binI op k a b := by
  have hk : Nat.beq (kix k) (kix k) = true := by simp
  unfold aBin
  cases op <;> first | exact absurd rfl h1 | exact absurd rfl h2 | (simp only [hk]; rfl)

theorem wrapN_nat {k : IntKind} {m : Nat} (h : Nat.ble m (maxN k) = true) : wrapN k (Int.ofNat m) = Int.ofNat m := by
  show cond (Nat.ble m (maxN k)) (Int.ofNat m) (fixN k (Nat.mod m (modN k))) = _
  rw [h]; rfl

/-- A whole number that must fit. -/
noncomputable def fitK (k : IntKind) (r : Nat) (kk : AV → Ev) (d : Ev) : Ev := fN r fun r => Bool.rec (motive := fun _ => Ev) d (kk (.int k (Int.ofNat r))) (Nat.ble r (maxN k))
theorem fitK_cases (k : IntKind) (r : Nat) (kk : AV → Ev) (d : Ev) : fitK k r kk d = d ∨ (wrapN k (Int.ofNat r) = Int.ofNat r ∧ fitK k r kk d = kk (.int k (Int.ofNat r))) := by
  unfold fitK
  rw [fN_eq]
  cases h : Nat.ble r (maxN k) with
  | false => exact .inl rfl
  | true => exact .inr ⟨wrapN_nat h, rfl⟩
noncomputable def boolK (b : Bool) (kk : AV → Ev) : Ev := Bool.rec (motive := fun _ => Ev) (kk (.bool false)) (kk (.bool true)) b
theorem boolK_eq (b : Bool) (kk : AV → Ev) : boolK b kk = kk (.bool b) := by cases b <;> rfl

noncomputable def oldB (c : Bool) (b : BinOp) (t : Nat) : F2 := any2 (fun E u w => aBin E c b t u w)
theorem old_or {c : Bool} {b : BinOp} {t : Nat} {E : Env} {u w : AV} {k : AV → Ev} {x : Ev} (h : x = oldB c b t E u w k) : x = .fail ∨ ∃ v, aBin E c b t u w = some v ∧ x = k v := by
  subst h
  exact any2_ok (fun E u w => aBin E c b t u w) E u w k

noncomputable def binK (c : Bool) (b : BinOp) (t : Nat) : F2K :=
  match b with
  | .add => .mk (fun E u w kk => (fun d => nn u w (fun k m n => fitK k (Nat.add m n) kk d) d) (oldB c .add t E u w kk))
  | .mul => .mk (fun E u w kk => (fun d => nn u w (fun k m n => fitK k (Nat.mul m n) kk d) d) (oldB c .mul t E u w kk))
  | .sub => .mk (fun E u w kk => (fun d => nn u w (fun k m n => Bool.rec (motive := fun _ => Ev) d (fitK k (Nat.sub m n) kk d) (Nat.ble n m)) d) (oldB c .sub t E u w kk))
  | .eql => .mk (fun E u w kk => (fun d => nn u w (fun _ m n => boolK (Nat.beq m n) kk) d) (oldB c .eql t E u w kk))
  | .neq => .mk (fun E u w kk => (fun d => nn u w (fun _ m n => Bool.rec (motive := fun _ => Ev) (kk (.bool true)) (kk (.bool false)) (Nat.beq m n)) d) (oldB c .neq t E u w kk))
  | .lss => .mk (fun E u w kk => (fun d => nn u w (fun _ m n => Bool.rec (motive := fun _ => Ev) (kk (.bool true)) (kk (.bool false)) (Nat.ble n m)) d) (oldB c .lss t E u w kk))
  | .geq => .mk (fun E u w kk => (fun d => nn u w (fun _ m n => boolK (Nat.ble n m) kk) d) (oldB c .geq t E u w kk))
  | .gtr => .mk (fun E u w kk => (fun d => nn u w (fun _ m n => Bool.rec (motive := fun _ => Ev) (kk (.bool true)) (kk (.bool false)) (Nat.ble m n)) d) (oldB c .gtr t E u w kk))
  | .leq => .mk (fun E u w kk => (fun d => nn u w (fun _ m n => boolK (Nat.ble m n) kk) d) (oldB c .leq t E u w kk))
  | b => .mk (oldB c b t)
theorem ile_nat (m n : Nat) : ile (Int.ofNat m) (Int.ofNat n) = Nat.ble m n := rfl
theorem ieq_nat (m n : Nat) : ieq (Int.ofNat m) (Int.ofNat n) = Nat.beq m n := rfl
theorem binK_ok (c : Bool) (b : BinOp) (t : Nat) : F2ok (binK c b t).app (fun E u w => aBin E c b t u w) := by
  intro E u w kk
  have old : ∀ {x : Ev}, x = oldB c b t E u w kk → x = .fail ∨ ∃ v, aBin E c b t u w = some v ∧ x = kk v := fun h => old_or h
  cases b
  case add =>
    show nn u w (fun k m n => fitK k (Nat.add m n) kk (oldB c .add t E u w kk)) (oldB c .add t E u w kk) = .fail ∨ ∃ v, _ ∧ nn u w (fun k m n => fitK k (Nat.add m n) kk (oldB c .add t E u w kk)) (oldB c .add t E u w kk) = _
    rcases nn_cases u w (fun k m n => fitK k (Nat.add m n) kk (oldB c .add t E u w kk)) (oldB c .add t E u w kk) with h | ⟨k, m, n, hu, hw, h⟩
    · exact old h
    · rcases fitK_cases k (Nat.add m n) kk (oldB c .add t E u w kk) with h1 | ⟨h1, h2⟩
      · exact old (h.trans h1)
      · refine .inr ⟨_, ?_, h.trans h2⟩
        subst hu; subst hw
        refine (aBin_int E c .add t k _ _ (by simp) (by simp)).trans ?_
        exact congrArg (fun z => some (AV.int k z)) h1
  case mul =>
    show nn u w (fun k m n => fitK k (Nat.mul m n) kk (oldB c .mul t E u w kk)) (oldB c .mul t E u w kk) = .fail ∨ ∃ v, _ ∧ nn u w (fun k m n => fitK k (Nat.mul m n) kk (oldB c .mul t E u w kk)) (oldB c .mul t E u w kk) = _
    rcases nn_cases u w (fun k m n => fitK k (Nat.mul m n) kk (oldB c .mul t E u w kk)) (oldB c .mul t E u w kk) with h | ⟨k, m, n, hu, hw, h⟩
    · exact old h
    · rcases fitK_cases k (Nat.mul m n) kk (oldB c .mul t E u w kk) with h1 | ⟨h1, h2⟩
      · exact old (h.trans h1)
      · refine .inr ⟨_, ?_, h.trans h2⟩
        subst hu; subst hw
        refine (aBin_int E c .mul t k _ _ (by simp) (by simp)).trans ?_
        exact congrArg (fun z => some (AV.int k z)) h1
  case sub =>
    show nn u w (fun k m n => Bool.rec (motive := fun _ => Ev) (oldB c .sub t E u w kk) (fitK k (Nat.sub m n) kk (oldB c .sub t E u w kk)) (Nat.ble n m)) (oldB c .sub t E u w kk) = .fail ∨ ∃ v, _ ∧ nn u w (fun k m n => Bool.rec (motive := fun _ => Ev) (oldB c .sub t E u w kk) (fitK k (Nat.sub m n) kk (oldB c .sub t E u w kk)) (Nat.ble n m)) (oldB c .sub t E u w kk) = _
    rcases nn_cases u w (fun k m n => Bool.rec (motive := fun _ => Ev) (oldB c .sub t E u w kk) (fitK k (Nat.sub m n) kk (oldB c .sub t E u w kk)) (Nat.ble n m)) (oldB c .sub t E u w kk) with h | ⟨k, m, n, hu, hw, h⟩
    · exact old h
    · cases hb : Nat.ble n m with
      | false => rw [hb] at h; exact old h
      | true =>
        rw [hb] at h
        have h' : _ = fitK k (Nat.sub m n) kk (oldB c .sub t E u w kk) := h
        rcases fitK_cases k (Nat.sub m n) kk (oldB c .sub t E u w kk) with h1 | ⟨h1, h2⟩
        · exact old (h'.trans h1)
        · refine .inr ⟨_, ?_, h'.trans h2⟩
          subst hu; subst hw
          refine (aBin_int E c .sub t k _ _ (by simp) (by simp)).trans ?_
          have hs : Int.sub (Int.ofNat m) (Int.ofNat n) = Int.ofNat (Nat.sub m n) := by
            have := ble_iff.1 hb
            show (m : Int) - (n : Int) = ((m - n : Nat) : Int)
            omega
          show some (AV.int k (wrapN k (Int.sub (Int.ofNat m) (Int.ofNat n)))) = _
          rw [hs, h1]
  case eql =>
    show nn u w (fun _ m n => boolK (Nat.beq m n) kk) (oldB c .eql t E u w kk) = .fail ∨ ∃ v, _ ∧ nn u w (fun _ m n => boolK (Nat.beq m n) kk) (oldB c .eql t E u w kk) = _
    rcases nn_cases u w (fun _ m n => boolK (Nat.beq m n) kk) (oldB c .eql t E u w kk) with h | ⟨k, m, n, hu, hw, h⟩
    · exact old h
    · refine .inr ⟨_, ?_, h.trans (boolK_eq _ _)⟩
      subst hu; subst hw
      refine (aBin_int E c .eql t k _ _ (by simp) (by simp)).trans ?_
      rfl
  case geq =>
    show nn u w (fun _ m n => boolK (Nat.ble n m) kk) (oldB c .geq t E u w kk) = .fail ∨ ∃ v, _ ∧ nn u w (fun _ m n => boolK (Nat.ble n m) kk) (oldB c .geq t E u w kk) = _
    rcases nn_cases u w (fun _ m n => boolK (Nat.ble n m) kk) (oldB c .geq t E u w kk) with h | ⟨k, m, n, hu, hw, h⟩
    · exact old h
    · refine .inr ⟨_, ?_, h.trans (boolK_eq _ _)⟩
      subst hu; subst hw
      refine (aBin_int E c .geq t k _ _ (by simp) (by simp)).trans ?_
      rfl
  case leq =>
    show nn u w (fun _ m n => boolK (Nat.ble m n) kk) (oldB c .leq t E u w kk) = .fail ∨ ∃ v, _ ∧ nn u w (fun _ m n => boolK (Nat.ble m n) kk) (oldB c .leq t E u w kk) = _
    rcases nn_cases u w (fun _ m n => boolK (Nat.ble m n) kk) (oldB c .leq t E u w kk) with h | ⟨k, m, n, hu, hw, h⟩
    · exact old h
    · refine .inr ⟨_, ?_, h.trans (boolK_eq _ _)⟩
      subst hu; subst hw
      refine (aBin_int E c .leq t k _ _ (by simp) (by simp)).trans ?_
      rfl
  case neq =>
    show nn u w (fun _ m n => Bool.rec (motive := fun _ => Ev) (kk (.bool true)) (kk (.bool false)) (Nat.beq m n)) (oldB c .neq t E u w kk) = .fail ∨ ∃ v, _ ∧ nn u w (fun _ m n => Bool.rec (motive := fun _ => Ev) (kk (.bool true)) (kk (.bool false)) (Nat.beq m n)) (oldB c .neq t E u w kk) = _
    rcases nn_cases u w (fun _ m n => Bool.rec (motive := fun _ => Ev) (kk (.bool true)) (kk (.bool false)) (Nat.beq m n)) (oldB c .neq t E u w kk) with h | ⟨k, m, n, hu, hw, h⟩
    · exact old h
    · refine .inr ⟨.bool (!(Nat.beq m n)), ?_, h.trans (by cases Nat.beq m n <;> rfl)⟩
      subst hu; subst hw
      refine (aBin_int E c .neq t k _ _ (by simp) (by simp)).trans ?_
      rfl
  case lss =>
    show nn u w (fun _ m n => Bool.rec (motive := fun _ => Ev) (kk (.bool true)) (kk (.bool false)) (Nat.ble n m)) (oldB c .lss t E u w kk) = .fail ∨ ∃ v, _ ∧ nn u w (fun _ m n => Bool.rec (motive := fun _ => Ev) (kk (.bool true)) (kk (.bool false)) (Nat.ble n m)) (oldB c .lss t E u w kk) = _
    rcases nn_cases u w (fun _ m n => Bool.rec (motive := fun _ => Ev) (kk (.bool true)) (kk (.bool false)) (Nat.ble n m)) (oldB c .lss t E u w kk) with h | ⟨k, m, n, hu, hw, h⟩
    · exact old h
    · refine .inr ⟨.bool (!(Nat.ble n m)), ?_, h.trans (by cases Nat.ble n m <;> rfl)⟩
      subst hu; subst hw
      refine (aBin_int E c .lss t k _ _ (by simp) (by simp)).trans ?_
      rfl
  case gtr =>
    show nn u w (fun _ m n => Bool.rec (motive := fun _ => Ev) (kk (.bool true)) (kk (.bool false)) (Nat.ble m n)) (oldB c .gtr t E u w kk) = .fail ∨ ∃ v, _ ∧ nn u w (fun _ m n => Bool.rec (motive := fun _ => Ev) (kk (.bool true)) (kk (.bool false)) (Nat.ble m n)) (oldB c .gtr t E u w kk) = _
    rcases nn_cases u w (fun _ m n => Bool.rec (motive := fun _ => Ev) (kk (.bool true)) (kk (.bool false)) (Nat.ble m n)) (oldB c .gtr t E u w kk) with h | ⟨k, m, n, hu, hw, h⟩
    · exact old h
    · refine .inr ⟨.bool (!(Nat.ble m n)), ?_, h.trans (by cases Nat.ble m n <;> rfl)⟩
      subst hu; subst hw
      refine (aBin_int E c .gtr t k _ _ (by simp) (by simp)).trans ?_
      rfl
  all_goals exact old rfl

/-- The elements of a slice type. -/
noncomputable def Env.sle (E : Env) (t : Nat) : Option Nat := match E.und t with
  | none => none
  | some d => sliceElem d
noncomputable def Env.slz (E : Env) (t : Nat) : Option Nat := match E.und t with
  | none => none
  | some d => match sliceElem d with
    | none => none
    | some e => E.size e

/-- The length of a slice, or else. -/
noncomputable def lenC (E : Env) (t : Nat) (u : AV) (k : AV → Ev) (d : Ev) : Ev := slC u (fun _ _ n _ => Option.rec (motive := fun _ => Ev) d (fun _ => k (.int .i64 (Int.ofNat n))) (E.sle t)) (fun _ _ n _ => Option.rec (motive := fun _ => Ev) d (fun _ => k (.int .i64 (Int.ofNat n))) (E.sle t)) (Option.rec (motive := fun _ => Ev) d (fun v => forceV v k) (aLen E t u))
theorem lenC_ok (E : Env) (t : Nat) (u : AV) (k : AV → Ev) (d : Ev) : lenC E t u k d = d ∨ ∃ v, aLen E t u = some v ∧ lenC E t u k d = k v := by
  have rest : ∀ x : Ev, x = Option.rec (motive := fun _ => Ev) d (fun v => forceV v k) (aLen E t u) → x = d ∨ ∃ v, aLen E t u = some v ∧ x = k v := by
    rintro x rfl
    cases aLen E t u with
    | none => exact .inl rfl
    | some v => exact .inr ⟨v, rfl, forceV_eq v k⟩
  have sl : ∀ (n : Nat) (x : Ev), (∀ d' e, E.und t = some d' → sliceElem d' = some e → aLen E t u = some (.int .i64 (Int.ofNat n))) → x = Option.rec (motive := fun _ => Ev) d (fun _ => k (.int .i64 (Int.ofNat n))) (E.sle t) → x = d ∨ ∃ v, aLen E t u = some v ∧ x = k v := by
    rintro n x hx rfl
    unfold Env.sle
    cases hd : E.und t with
    | none => exact .inl rfl
    | some d' =>
      simp only
      cases he : sliceElem d' with
      | none => exact .inl rfl
      | some e => exact .inr ⟨_, hx d' e hd he, rfl⟩
  cases u <;> first
    | exact rest _ rfl
    | (refine sl _ _ (fun d' e hd he => ?_) rfl
       unfold aLen
       rw [hd]
       simp only [he])
noncomputable def sLen (g : GK) (t : Nat) (p : PK) (sl : SOp) : SOp := GK.rec (motive := fun _ => SOp) (fun g => PK.rec (motive := fun _ => SOp) (fun p => SOp.rec (motive := fun _ => SOp) (fun sl => .mk (fun E K st tm hp nx df k => g st tm (fun u => lenC E t u (fun v => p v st tm hp nx df k) (sl E K st tm hp nx df k)))) sl) p) g
theorem sLen_ok {n V : Nat} {sh : List Nat} {dst : Option Nat} {t type : Nat} {x : Operand} {args : Array Operand} {ats : Array TypeId} {ts : List Nat} {pos : String} {after : Array Edge} {gd : Option (Nat × Bool)} (ha : args.toList = [x]) (ht : ats.toList = t :: ts) :
    SOk n V sh ⟨dst, .call ⟨.builtin .len, args, ats⟩, type, pos, after, gd⟩ (sLen (gS sh x) t (pS n V dst) (sSlow sh ⟨dst, .call ⟨.builtin .len, args, ats⟩, type, pos, after, gd⟩ (pS n V dst))) := by
  intro E K st tm hp nx df k
  have hp' := pS_ok n V dst
  have hg := gS_ok sh x
  have hsl := sSlow_ok (n := n) (V := V) (sh := sh) (o := ⟨dst, .call ⟨.builtin .len, args, ats⟩, type, pos, after, gd⟩)
  unfold sLen
  cases hgs : gS sh x with
  | mk g =>
    cases hps : pS n V dst with
    | mk p =>
      rw [hps] at hp'
      rw [hgs] at hg
      rw [show (⟨dst, .call ⟨.builtin .len, args, ats⟩, type, pos, after, gd⟩ : Oper).dst = dst from rfl, hps] at hsl
      cases hss : sSlow sh ⟨dst, .call ⟨.builtin .len, args, ats⟩, type, pos, after, gd⟩ (.mk p) with
      | mk sl =>
        rw [hss] at hsl
        have hg' : ∀ k, g st tm k = goV (evO (fillT sh st tm) x) k := hg st tm
        show g st tm _ = .fail ∨ ∃ tmX v hp' nx' df', _ ∧ _ ∧ _ ∧ g st tm _ = _
        rw [hg']
        cases hx : evO (fillT sh st tm) x with
        | none => exact .inl rfl
        | some u =>
          simp only [goV]
          rcases lenC_ok E t u (fun v => p v st tm hp nx df k) (sl E K st tm hp nx df k) with h | ⟨v, h1, h2⟩
          · rw [h]; exact hsl E K st tm hp nx df k
          · rw [h2]
            rcases hp' v st tm hp nx df k with h | ⟨h3, h4⟩
            · exact .inl h
            · refine .inr ⟨_, v, hp, nx, df, Val.fill sh st tm, .inl ⟨?_, rfl, rfl, rfl⟩, h3, h4⟩
              unfold quietOp
              simp only [ha, ht, quietB]
              have : evOs (fillT sh st tm) [x] = some [u] := by
                unfold evOs; rw [hx]; simp only [evOs]
              rw [this]
              exact h1

/-- Places in slices. -/
noncomputable def ixS (E : Env) (t i : Nat) (k : AV → Ev) (id o len _c : Nat) : Ev := Option.rec (motive := fun _ => Ev) .fail (fun z => Bool.rec (motive := fun _ => Ev) .fail (fN (Nat.add o (Nat.mul i z)) fun a => k (.ptr id a)) (Nat.blt i len)) (E.slz t)
noncomputable def ixSo (E : Env) (t i : Nat) (k : AV → Ev) (id o len z' : Nat) : Ev := Option.rec (motive := fun _ => Ev) .fail (fun z => Bool.rec (motive := fun _ => Ev) .fail (Bool.rec (motive := fun _ => Ev) .fail (fN (Nat.add o (Nat.mul i z)) fun a => k (.ptr id a)) (Nat.blt i len)) (Nat.beq z z')) (E.slz t)
noncomputable def ixI (E : Env) (t : Nat) (u w : AV) (k : AV → Ev) (_kd : IntKind) (i : Int) : Ev := Int.rec (motive := fun _ => Env → Nat → AV → AV → (AV → Ev) → Ev) (fun i E t u w k => slC u (ixS E t i k) (ixSo E t i k) (any2 (fun E u w => aIndexAddr E t u w) E u w k)) (fun _ _ _ _ _ _ => .fail) i E t u w k
noncomputable def ixK (t : Nat) : F2K := .mk (fun E u w k => intC w (ixI E t u w k) .fail)
theorem ixK_ok (t : Nat) : F2ok (ixK t).app (fun E u w => aIndexAddr E t u w) := by
  intro E u w k
  cases w <;> try exact .inl rfl
  rename_i kk i
  cases i <;> try exact .inl rfl
  rename_i i
  have rest : ∀ x : Ev, x = any2 (fun E u w => aIndexAddr E t u w) E u (.int kk (Int.ofNat i)) k → x = .fail ∨ ∃ v, aIndexAddr E t u (.int kk (Int.ofNat i)) = some v ∧ x = k v := by
    rintro x rfl
    exact any2_ok (fun E u w => aIndexAddr E t u w) E u _ k
  cases u <;> try exact rest _ rfl
  · rename_i id o len cap
    show (Option.rec (motive := fun _ => Ev) .fail (fun z => Bool.rec (motive := fun _ => Ev) .fail (fN (Nat.add o (Nat.mul i z)) fun a => k (.ptr id a)) (Nat.blt i len)) (E.slz t)) = .fail ∨ ∃ v, _ ∧ (Option.rec (motive := fun _ => Ev) .fail (fun z => Bool.rec (motive := fun _ => Ev) .fail (fN (Nat.add o (Nat.mul i z)) fun a => k (.ptr id a)) (Nat.blt i len)) (E.slz t)) = _
    unfold Env.slz aIndexAddr natOf
    simp only
    cases E.und t with
    | none => exact .inl rfl
    | some d =>
      simp only
      cases sliceElem d with
      | none => exact .inl rfl
      | some e =>
        simp only
        cases E.size e with
        | none => exact .inl rfl
        | some z =>
          simp only
          cases Nat.blt i len with
          | false => exact .inl rfl
          | true => exact .inr ⟨_, rfl, fN_eq _ _⟩
  · rename_i id o len z'
    show (Option.rec (motive := fun _ => Ev) .fail (fun z => Bool.rec (motive := fun _ => Ev) .fail (Bool.rec (motive := fun _ => Ev) .fail (fN (Nat.add o (Nat.mul i z)) fun a => k (.ptr id a)) (Nat.blt i len)) (Nat.beq z z')) (E.slz t)) = .fail ∨ ∃ v, _ ∧ (Option.rec (motive := fun _ => Ev) .fail (fun z => Bool.rec (motive := fun _ => Ev) .fail (Bool.rec (motive := fun _ => Ev) .fail (fN (Nat.add o (Nat.mul i z)) fun a => k (.ptr id a)) (Nat.blt i len)) (Nat.beq z z')) (E.slz t)) = _
    unfold Env.slz aIndexAddr natOf
    simp only
    cases E.und t with
    | none => exact .inl rfl
    | some d =>
      simp only
      cases sliceElem d with
      | none => exact .inl rfl
      | some e =>
        simp only
        cases E.size e with
        | none => exact .inl rfl
        | some z =>
          simp only
          cases Nat.beq z z' with
          | false => exact .inl rfl
          | true =>
            cases Nat.blt i len with
            | false => exact .inl rfl
            | true => exact .inr ⟨_, rfl, fN_eq _ _⟩

/-- A load of one cell. -/
noncomputable def cellC (o : Option AObj) (f : Tr AV → Nat → Ev) (d : Ev) : Ev := Option.rec (motive := fun _ => (Tr AV → Nat → Ev) → Ev → Ev) (fun _ d => d) (fun b f d => AObj.rec (motive := fun _ => (Tr AV → Nat → Ev) → Ev → Ev) (fun _ _ cs m f _ => f cs m) (fun _ _ _ d => d) (fun _ _ _ d => d) (fun _ _ _ _ _ d => d) b f d) o f d
noncomputable def ldC (o : Nat) (k : AV → Ev) (cs : Tr AV) (m : Nat) : Ev := Bool.rec (motive := fun _ => Ev) .fail (Option.rec (motive := fun _ => Ev) .fail k (getQ (path o) cs)) (Nat.blt o m)
noncomputable def ldP (t : Nat) (E : Env) (hp : Hp) (u : AV) (k : AV → Ev) (id o : Nat) : Ev := Option.rec (motive := fun _ => Ev) .fail (fun ag => Bool.rec (motive := fun _ => Ev) (cellC (getQ (path id) hp) (ldC o k) .fail) (ld0 t E hp u k) ag) (E.agg t)
noncomputable def ld1 (t : Nat) : LD := fun E hp u k => ptrC u (ldP t E hp u k) (ld0 t E hp u k)
theorem ld1_ok (t : Nat) : LDok t (ld1 t) := by
  intro E hp u k
  have rest : ∀ x : Ev, x = ld0 t E hp u k → x = .fail ∨ ∃ v, aLoad E hp t u = some v ∧ x = k v := by
    rintro x rfl
    exact ld0_ok t E hp u k
  cases u <;> try exact rest _ rfl
  rename_i id o
  have h : ld1 t E hp (.ptr id o) k = Option.rec (motive := fun _ => Ev) .fail (fun ag => Bool.rec (motive := fun _ => Ev) (cellC (getQ (path id) hp) (ldC o k) .fail) (ld0 t E hp (.ptr id o) k) ag) (E.agg t) := rfl
  cases ha : E.agg t with
  | none => rw [ha] at h; exact .inl h
  | some ag =>
    rw [ha] at h
    cases ag with
    | true => exact rest _ h
    | false =>
      have hf : ldC o k = fun cs m => Bool.rec (motive := fun _ => Ev) .fail (Option.rec (motive := fun _ => Ev) .fail k (cs.get o)) (Nat.blt o m) := by
        funext cs m
        unfold ldC
        rw [getQ_eq]
        rfl
      have h' : ld1 t E hp (.ptr id o) k = cellC (hp.get id) (fun cs m => Bool.rec (motive := fun _ => Ev) .fail (Option.rec (motive := fun _ => Ev) .fail k (cs.get o)) (Nat.blt o m)) .fail := by
        rw [← hf]
        have h2 : ld1 t E hp (.ptr id o) k = cellC (getQ (path id) hp) (ldC o k) .fail := h
        rw [h2, getQ_eq]
        rfl
      rw [h']
      unfold aLoad
      rw [ha]
      simp only [cellsAt]
      cases hid : hp.get id with
      | none => exact .inl rfl
      | some b =>
        cases b with
        | cells fx el cs m =>
          show Bool.rec (motive := fun _ => Ev) .fail (Option.rec (motive := fun _ => Ev) .fail k (cs.get o)) (Nat.blt o m) = .fail ∨ ∃ v, _ ∧ Bool.rec (motive := fun _ => Ev) .fail (Option.rec (motive := fun _ => Ev) .fail k (cs.get o)) (Nat.blt o m) = _
          have hb : Nat.ble (Nat.add o 1) m = Nat.blt o m := rfl
          simp only [hb]
          cases Nat.blt o m with
          | false => exact .inl rfl
          | true =>
            simp only [cond_true]
            have hg1 : getN cs 1 o = match cs.get o with
              | none => none
              | some x => some [x] := by
              rw [getN_succ]
              cases cs.get o <;> rfl
            rw [hg1]
            cases cs.get o with
            | none => exact .inl rfl
            | some x => exact .inr ⟨x, rfl, rfl⟩
        | map es c => exact .inl rfl
        | siter a b => exact .inl rfl
        | miter a b c d => exact .inl rfl

end Go.Evo
namespace Go.Evo

noncomputable def raw1 (r : Env → AV → Option AV) : F1 := fun E u k => Option.rec (motive := fun _ => Ev) .fail k (r E u)
theorem raw1_ok (r : Env → AV → Option AV) : F1ok (raw1 r) r := by
  intro E u k
  unfold raw1
  cases r E u with
  | none => exact .inl rfl
  | some v => exact .inr ⟨v, rfl, rfl⟩
noncomputable def q0 (g : GK) : SQ := GK.rec (motive := fun _ => SQ) (fun g => .mk (fun _ st tm k => g st tm k)) g
theorem q0_ok {sh : List Nat} {op : Op} {x : Operand} (hq : ∀ (E : Env) (tm : Tr AV) (v : AV), evO tm x = some v → ∀ o : Oper, o.op = op → quietOp E tm o = some v) : SQok sh op (q0 (gS sh x)) := by
  intro E st tm k
  have h1 := gS_ok sh x st tm
  unfold q0
  cases hg : gS sh x with
  | mk g =>
    rw [hg] at h1
    have h1' : ∀ k, g st tm k = goV (evO (fillT sh st tm) x) k := h1
    show g st tm k = .fail ∨ ∃ v, _ ∧ g st tm k = k v
    rw [h1']
    cases hx : evO (fillT sh st tm) x with
    | none => exact .inl rfl
    | some v => exact .inr ⟨v, hq E _ v hx, rfl⟩
/-- One of two, the condition known. -/
noncomputable def qPick (g h j : GK) : SQ := GK.rec (motive := fun _ => SQ) (fun g => GK.rec (motive := fun _ => SQ) (fun h => GK.rec (motive := fun _ => SQ) (fun j => .mk (fun _ st tm k => g st tm (fun u => boolC u (fun t => Bool.rec (motive := fun _ => Ev) (j st tm k) (h st tm k) t) .fail .fail))) j) h) g
theorem qPick_ok {sh : List Nat} {c a b : Operand} : SQok sh (.pick c a b) (qPick (gS sh c) (gS sh a) (gS sh b)) := by
  intro E st tm k
  have h1 := gS_ok sh c st tm
  have h2 := gS_ok sh a st tm
  have h3 := gS_ok sh b st tm
  unfold qPick
  cases hg : gS sh c with
  | mk g =>
    cases hh : gS sh a with
    | mk h =>
      cases hj : gS sh b with
      | mk j =>
        rw [hg] at h1
        rw [hh] at h2
        rw [hj] at h3
        have h1' : ∀ k, g st tm k = goV (evO (fillT sh st tm) c) k := h1
        have h2' : h st tm k = goV (evO (fillT sh st tm) a) k := h2 k
        have h3' : j st tm k = goV (evO (fillT sh st tm) b) k := h3 k
        show g st tm _ = .fail ∨ ∃ v, _ ∧ g st tm _ = _
        rw [h1']
        cases hc : evO (fillT sh st tm) c with
        | none => exact .inl rfl
        | some u =>
          cases u <;> try exact .inl rfl
          rename_i t
          cases t with
          | true =>
            show h st tm k = .fail ∨ ∃ v, _ ∧ h st tm k = _
            rw [h2']
            cases ha : evO (fillT sh st tm) a with
            | none => exact .inl rfl
            | some v =>
              refine .inr ⟨v, fun o ho => ?_, rfl⟩
              unfold quietOp
              rw [ho]
              simp only [hc, cond_true, ha]
          | false =>
            show j st tm k = .fail ∨ ∃ v, _ ∧ j st tm k = _
            rw [h3']
            cases hb : evO (fillT sh st tm) b with
            | none => exact .inl rfl
            | some v =>
              refine .inr ⟨v, fun o ho => ?_, rfl⟩
              unfold quietOp
              rw [ho]
              simp only [hc, cond_false, hb]

/-- A value of the temporaries alone, or else the slow way. -/
noncomputable def sD (g : GK) (r : Env → AV → Option AV) (p : PK) (sl : SOp) : SOp := GK.rec (motive := fun _ => SOp) (fun g => PK.rec (motive := fun _ => SOp) (fun p => SOp.rec (motive := fun _ => SOp) (fun sl => .mk (fun E K st tm hp nx df k => g st tm (fun u => Option.rec (motive := fun _ => Ev) (sl E K st tm hp nx df k) (fun v => forceV v fun v => p v st tm hp nx df k) (r E u)))) sl) p) g
theorem sD_ok {n V : Nat} {sh : List Nat} {o : Oper} {x : Operand} {r : Env → AV → Option AV} (hq : ∀ (E : Env) (tm : Tr AV) (u v : AV), evO tm x = some u → r E u = some v → quietOp E tm o = some v) : SOk n V sh o (sD (gS sh x) r (pS n V o.dst) (sSlow sh o (pS n V o.dst))) := by
  intro E K st tm hp nx df k
  have hp' := pS_ok n V o.dst
  have hg := gS_ok sh x
  have hsl := sSlow_ok (n := n) (V := V) (sh := sh) (o := o)
  unfold sD
  cases hgs : gS sh x with
  | mk g =>
    cases hps : pS n V o.dst with
    | mk p =>
      rw [hps] at hp'
      rw [hgs] at hg
      rw [hps] at hsl
      cases hss : sSlow sh o (.mk p) with
      | mk sl =>
        rw [hss] at hsl
        have hg' : ∀ k, g st tm k = goV (evO (fillT sh st tm) x) k := hg st tm
        show g st tm _ = .fail ∨ ∃ tmX v hp' nx' df', _ ∧ _ ∧ _ ∧ g st tm _ = _
        rw [hg']
        cases hx : evO (fillT sh st tm) x with
        | none => exact .inl rfl
        | some u =>
          simp only [goV]
          cases hr : r E u with
          | none => exact hsl E K st tm hp nx df k
          | some v =>
            simp only [forceV_eq]
            rcases hp' v st tm hp nx df k with h | ⟨h3, h4⟩
            · exact .inl h
            · exact .inr ⟨_, v, hp, nx, df, Val.fill sh st tm, .inl ⟨hq E _ u v hx hr, rfl, rfl, rfl⟩, h3, h4⟩

noncomputable def sopU (n V : Nat) (sh : List Nat) (o : Oper) : SOp :=
  match o.op with
  | .move x => sQ (q0 (gS sh x)) (pS n V o.dst)
  | .assign x => sQ (q0 (gS sh x)) (pS n V o.dst)
  | .pick c a b => sQ (qPick (gS sh c) (gS sh a) (gS sh b)) (pS n V o.dst)
  | .binOp b t x y _ => sQ (q2 (gS sh x) (gS sh y) (binK (isConstO x || isConstO y) b t)) (pS n V o.dst)
  | .unOp b _ x => sQ (q1 (gS sh x) (.mk (any1 (fun _ u => aUn b u)))) (pS n V o.dst)
  | .nilCheck x => sQ (q1 (gS sh x) (.mk (any1 (fun _ u => aNil u)))) (pS n V o.dst)
  | .fieldAddr t x f => sQ (q1 (gS sh x) (.mk (any1 (fun E u => aFieldAddr E t u f)))) (pS n V o.dst)
  | .field t x f => sQ (q1 (gS sh x) (.mk (any1 (fun E u => aField E t u f)))) (pS n V o.dst)
  | .indexAddr t x y => sQ (q2 (gS sh x) (gS sh y) (ixK t)) (pS n V o.dst)
  | .index t x y => sQ (q2 (gS sh x) (gS sh y) (.mk (any2 (fun E u w => aIndex E t u w)))) (pS n V o.dst)
  | .extract x j => sQ (q1 (gS sh x) (.mk (raw1 (fun _ u => aExtract u j)))) (pS n V o.dst)
  | .slice t x none none none => sQ (q1 (gS sh x) (.mk (any1 (fun E u => aSlice E t u none none none)))) (pS n V o.dst)
  | .slice t x (some l) none none => sQ (q2 (gS sh x) (gS sh l) (.mk (any2 (fun E u w => aSlice E t u (some w) none none)))) (pS n V o.dst)
  | .slice t x none (some h) none => sQ (q2 (gS sh x) (gS sh h) (.mk (any2 (fun E u w => aSlice E t u none (some w) none)))) (pS n V o.dst)
  | .load t x => sL (gS sh x) (ld1 t) (pS n V o.dst)
  | .store t x y => sS (gS sh x) (gS sh y) t (pS n V o.dst)
  | .convert s d x => sD (gS sh x) (fun E u => aConv E s d u) (pS n V o.dst) (sSlow sh o (pS n V o.dst))
  | .call ⟨.builtin .len, args, ats⟩ => (match args.toList, ats.toList with
    | [x], t :: _ => sLen (gS sh x) t (pS n V o.dst) (sSlow sh o (pS n V o.dst))
    | _, _ => sSlow sh o (pS n V o.dst))
  | .call ⟨.value (.func g), args, _⟩ => sC sh o g args.toList (pS n V o.dst)
  | _ => sSlow sh o (pS n V o.dst)
theorem w1 {f : F1} {r : Env → AV → Option AV} (h : F1ok f r) : F1ok (F1K.mk f).app r := h
theorem w2 {f : F2} {r : Env → AV → AV → Option AV} (h : F2ok f r) : F2ok (F2K.mk f).app r := h
theorem sopU_ok (n V : Nat) (sh : List Nat) (o : Oper) : SOk n V sh o (sopU n V sh o) := by
  obtain ⟨dst, op, type, pos, after, gd⟩ := o
  cases op
  case move x => exact sQ_ok (o := ⟨dst, _, type, pos, after, gd⟩) (q0_ok fun E tm v hx o ho => by unfold quietOp; rw [ho]; exact hx)
  case assign x => exact sQ_ok (o := ⟨dst, _, type, pos, after, gd⟩) (q0_ok fun E tm v hx o ho => by unfold quietOp; rw [ho]; exact hx)
  case pick c a b => exact sQ_ok (o := ⟨dst, .pick c a b, type, pos, after, gd⟩) qPick_ok
  case binOp b t x y ty => exact sQ_ok (o := ⟨dst, _, type, pos, after, gd⟩) (q2_ok (binK_ok _ b t) fun E tm u w v hx hy hr o ho => by unfold quietOp; rw [ho]; simp only [hx, hy]; exact hr)
  case unOp b t x => exact sQ_ok (o := ⟨dst, _, type, pos, after, gd⟩) (q1_ok (w1 (any1_ok _)) fun E tm u v hx hr o ho => by unfold quietOp; rw [ho]; simp only [hx]; exact hr)
  case nilCheck x => exact sQ_ok (o := ⟨dst, _, type, pos, after, gd⟩) (q1_ok (w1 (any1_ok _)) fun E tm u v hx hr o ho => by unfold quietOp; rw [ho]; simp only [hx]; exact hr)
  case fieldAddr t x f => exact sQ_ok (o := ⟨dst, _, type, pos, after, gd⟩) (q1_ok (w1 (any1_ok _)) fun E tm u v hx hr o ho => by unfold quietOp; rw [ho]; simp only [hx]; exact hr)
  case field t x f => exact sQ_ok (o := ⟨dst, _, type, pos, after, gd⟩) (q1_ok (w1 (any1_ok _)) fun E tm u v hx hr o ho => by unfold quietOp; rw [ho]; simp only [hx]; exact hr)
  case indexAddr t x y => exact sQ_ok (o := ⟨dst, _, type, pos, after, gd⟩) (q2_ok (ixK_ok t) fun E tm u w v hx hy hr o ho => by unfold quietOp; rw [ho]; simp only [hx, hy]; exact hr)
  case index t x y => exact sQ_ok (o := ⟨dst, _, type, pos, after, gd⟩) (q2_ok (w2 (any2_ok _)) fun E tm u w v hx hy hr o ho => by unfold quietOp; rw [ho]; simp only [hx, hy]; exact hr)
  case extract x j => exact sQ_ok (o := ⟨dst, _, type, pos, after, gd⟩) (q1_ok (w1 (raw1_ok _)) fun E tm u v hx hr o ho => by unfold quietOp; rw [ho]; simp only [hx]; exact hr)
  case slice t x l h m =>
    cases m with
    | some m => cases l <;> cases h <;> exact sSlow_ok
    | none =>
      cases l with
      | none =>
        cases h with
        | none => exact sQ_ok (o := ⟨dst, _, type, pos, after, gd⟩) (q1_ok (w1 (any1_ok _)) fun E tm u v hx hr o ho => by unfold quietOp; rw [ho]; simp only [hx, evOo]; exact hr)
        | some h => exact sQ_ok (o := ⟨dst, _, type, pos, after, gd⟩) (q2_ok (w2 (any2_ok _)) fun E tm u w v hx hy hr o ho => by unfold quietOp; rw [ho]; simp only [hx, evOo, hy]; exact hr)
      | some l =>
        cases h with
        | none => exact sQ_ok (o := ⟨dst, _, type, pos, after, gd⟩) (q2_ok (w2 (any2_ok _)) fun E tm u w v hx hy hr o ho => by unfold quietOp; rw [ho]; simp only [hx, evOo, hy]; exact hr)
        | some h => exact sSlow_ok
  case load t x => exact sL_ok (ld1_ok t)
  case store t x y => exact sS_ok
  case convert s d x => exact sD_ok fun E tm u v hx hr => by unfold quietOp; simp only [hx]; exact hr
  case call c =>
    obtain ⟨cal, args, ats⟩ := c
    cases cal with
    | value f => cases f <;> first | exact sC_ok | exact sSlow_ok
    | builtin b =>
      cases b <;> try exact sSlow_ok
      show SOk n V sh _ (match args.toList, ats.toList with
        | [x], t :: _ => sLen (gS sh x) t (pS n V dst) (sSlow sh _ (pS n V dst))
        | _, _ => sSlow sh _ (pS n V dst))
      split
      · rename_i x t ts ha ht
        exact sLen_ok ha ht
      · exact sSlow_ok
    | _ => exact sSlow_ok
  all_goals exact sSlow_ok

/-- A region's operation with its guard. -/
noncomputable def sG (ops : Array Oper) (sh : List Nat) (o : Oper) (c : SOp) (p : PK) : SOp :=
  match o.guard with
  | none => c
  | some (j, b) => (match (ops[j]?).bind (·.dst) with
    | none => PK.rec (motive := fun _ => SOp) (fun p => .mk (fun _ _ st tm hp nx df k => p (.tup []) st tm hp nx df k)) p
    | some d => GK.rec (motive := fun _ => SOp) (fun g => SOp.rec (motive := fun _ => SOp) (fun c => PK.rec (motive := fun _ => SOp) (fun p =>
        cond b (.mk (fun E K st tm hp nx df k => g st tm (fun u => boolC u (fun t => Bool.rec (motive := fun _ => Ev) (p (.tup []) st tm hp nx df k) (c E K st tm hp nx df k) t) (p (.tup []) st tm hp nx df k) .fail)))
          (.mk (fun E K st tm hp nx df k => g st tm (fun u => boolC u (fun t => Bool.rec (motive := fun _ => Ev) (c E K st tm hp nx df k) (p (.tup []) st tm hp nx df k) t) (p (.tup []) st tm hp nx df k) .fail)))) p) c) (gT d sh))
def SGk (n V : Nat) (ops : Array Oper) (sh : List Nat) (o : Oper) (c : SOp) : Prop := ∀ (E : Env) (K : Kit E) (st : List AV) (tm : Tr AV) (hp : Hp) (nx : Nat) (df : List Nat) (k : KS),
  c.app E K st tm hp nx df k = .fail ∨ ∃ tmX v hp' nx' df', Val sh st tm tmX ∧ ((wantA ops o (fillT sh st tm) = some true ∧ StepR E K o tmX hp nx df v hp' nx' df') ∨ (wantA ops o (fillT sh st tm) = some false ∧ v = .tup [] ∧ hp' = hp ∧ nx' = nx ∧ df' = df)) ∧ (∀ d, o.dst = some d → d < n) ∧
    c.app E K st tm hp nx df k = k (stPush o.dst v st) (tmPush V o.dst v tm) hp' nx' df'
theorem sG_ok {n V : Nat} {ops : Array Oper} {sh : List Nat} {o : Oper} {c : SOp} (hc : SOk n V sh o c) : SGk n V ops sh o (sG ops sh o c (pS n V o.dst)) := by
  intro E K st tm hp nx df k
  have hp' := pS_ok n V o.dst
  have skip : wantA ops o (fillT sh st tm) = some false → ∀ x : Ev, x = (pS n V o.dst).app (.tup []) st tm hp nx df k → x = .fail ∨ ∃ tmX v hp' nx' df', Val sh st tm tmX ∧ ((wantA ops o (fillT sh st tm) = some true ∧ StepR E K o tmX hp nx df v hp' nx' df') ∨ (wantA ops o (fillT sh st tm) = some false ∧ v = .tup [] ∧ hp' = hp ∧ nx' = nx ∧ df' = df)) ∧ (∀ d, o.dst = some d → d < n) ∧
      x = k (stPush o.dst v st) (tmPush V o.dst v tm) hp' nx' df' := by
    rintro hw x rfl
    rcases hp' (.tup []) st tm hp nx df k with h | ⟨h1, h2⟩
    · exact .inl h
    · exact .inr ⟨_, .tup [], hp, nx, df, Val.fill sh st tm, .inr ⟨hw, rfl, rfl, rfl, rfl⟩, h1, h2⟩
  have run : wantA ops o (fillT sh st tm) = some true → ∀ x : Ev, x = c.app E K st tm hp nx df k → x = .fail ∨ ∃ tmX v hp' nx' df', Val sh st tm tmX ∧ ((wantA ops o (fillT sh st tm) = some true ∧ StepR E K o tmX hp nx df v hp' nx' df') ∨ (wantA ops o (fillT sh st tm) = some false ∧ v = .tup [] ∧ hp' = hp ∧ nx' = nx ∧ df' = df)) ∧ (∀ d, o.dst = some d → d < n) ∧
      x = k (stPush o.dst v st) (tmPush V o.dst v tm) hp' nx' df' := by
    rintro hw x rfl
    rcases hc E K st tm hp nx df k with h | ⟨tmX, v, hp1, nx1, df1, h1, h2, h3, h4⟩
    · exact .inl h
    · exact .inr ⟨tmX, v, hp1, nx1, df1, h1, .inl ⟨hw, h2⟩, h3, h4⟩
  unfold sG
  cases hg : o.guard with
  | none =>
    simp only
    refine run ?_ _ rfl
    unfold wantA; rw [hg]
  | some q =>
    obtain ⟨j, b⟩ := q
    simp only
    cases hd : (ops[j]?).bind (·.dst) with
    | none =>
      simp only
      have hw : wantA ops o (fillT sh st tm) = some false := by unfold wantA; rw [hg]; simp only [hd]
      cases hps : pS n V o.dst with
      | mk p => exact skip hw _ (by rw [hps]; rfl)
    | some d =>
      simp only
      have hwa : wantA ops o (fillT sh st tm) = match (fillT sh st tm).get d with
        | some (.bool t) => some (eqB t b)
        | some (.tup _) => some false
        | _ => none := by unfold wantA; rw [hg]; simp only [hd]; rfl
      have hgd := gT_ok d sh st tm
      rw [fillT_get] at hwa
      cases hgs : gT d sh with
      | mk g =>
        cases hcs : c with
        | mk cf =>
          cases hps : pS n V o.dst with
          | mk p =>
            rw [hgs] at hgd
            have hgd' : ∀ k, g st tm k = goV (lookT sh st tm d) k := hgd
            have skip' : wantA ops o (fillT sh st tm) = some false → ∀ x : Ev, x = p (.tup []) st tm hp nx df k → _ := fun hw x hx => skip hw x (by rw [hps]; exact hx)
            have run' : wantA ops o (fillT sh st tm) = some true → ∀ x : Ev, x = cf E K st tm hp nx df k → _ := fun hw x hx => run hw x (by rw [hcs]; exact hx)
            cases b with
            | true =>
              show g st tm (fun u => boolC u (fun t => Bool.rec (motive := fun _ => Ev) (p (.tup []) st tm hp nx df k) (cf E K st tm hp nx df k) t) (p (.tup []) st tm hp nx df k) .fail) = .fail ∨ ∃ tmX v hp' nx' df', _ ∧ _ ∧ _ ∧ g st tm (fun u => boolC u (fun t => Bool.rec (motive := fun _ => Ev) (p (.tup []) st tm hp nx df k) (cf E K st tm hp nx df k) t) (p (.tup []) st tm hp nx df k) .fail) = _
              rw [hgd']
              cases hu : lookT sh st tm d with
              | none => exact .inl rfl
              | some u =>
                rw [hu] at hwa
                cases u <;> try exact .inl rfl
                · rename_i t
                  cases t with
                  | true => exact run' hwa _ rfl
                  | false => exact skip' hwa _ rfl
                · exact skip' hwa _ rfl
            | false =>
              show g st tm (fun u => boolC u (fun t => Bool.rec (motive := fun _ => Ev) (cf E K st tm hp nx df k) (p (.tup []) st tm hp nx df k) t) (p (.tup []) st tm hp nx df k) .fail) = .fail ∨ ∃ tmX v hp' nx' df', _ ∧ _ ∧ _ ∧ g st tm (fun u => boolC u (fun t => Bool.rec (motive := fun _ => Ev) (cf E K st tm hp nx df k) (p (.tup []) st tm hp nx df k) t) (p (.tup []) st tm hp nx df k) .fail) = _
              rw [hgd']
              cases hu : lookT sh st tm d with
              | none => exact .inl rfl
              | some u =>
                rw [hu] at hwa
                cases u <;> try exact .inl rfl
                · rename_i t
                  cases t with
                  | true => exact skip' hwa _ rfl
                  | false => exact run' hwa _ rfl
                · exact skip' hwa _ rfl

end Go.Evo
