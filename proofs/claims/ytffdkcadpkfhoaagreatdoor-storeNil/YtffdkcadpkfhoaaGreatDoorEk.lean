/- A verified evaluator for the model of Go, part 11: what it reckons of a call, the call does in every world that its abstract heap speaks of. Conditions: none. -/
import Derived.Test.YtffdkcadpkfhoaaGreatDoorEj
namespace Go.Evo

abbrev RF := (E : Env) → Kit E → List AV → Tr AV → Hp → Nat → List Nat → Ev
inductive RC where
  | mk (f : RF)
noncomputable def RC.app (c : RC) : RF := RC.rec (motive := fun _ => RF) (fun f => f) c
noncomputable def regR (n V : Nat) (ops : Array Oper) : List Oper → List Nat → RC
  | [], _ => .mk (fun _ _ _ tm hp nx df => .norm ⟨tm, hp, nx, df⟩)
  | o :: l, sh => RC.rec (motive := fun _ => RC) (fun r => SOp.rec (motive := fun _ => RC) (fun f => .mk (fun E K st tm hp nx df => f E K st tm hp nx df (r E K))) (sG ops sh o (sopU n V sh o) (pS n V o.dst))) (regR n V ops l (shPush o.dst sh))

def DomV (V : Nat) (tm : Tr AV) : Prop := ∀ t x, tm.get t = some x → Nat.testBit V t = true
structure SRS (E : Env) (n V : Nat) (ρ : Rho) (sh : List Nat) (st : List AV) (tm : Tr AV) (hp : Hp) (nx : Nat) (df : List Nat) (a : Act) (w : World) : Prop where
  all : TmR ρ n (fillT sh st tm) a.tmps
  tv : TmR ρ n tm a.tmps
  dom : DomV V tm
  r : E.R ρ hp nx w
  df : DfR df a.defers

theorem TmR.put {ρ : Rho} {n d : Nat} {tm : Tr AV} {a : Act} {x : AV} {v : Value} (ht : TmR ρ n tm a.tmps) (hd : d < n) (hx : VR ρ x v) : TmR ρ n (tm.set d x) (a.put (some d) v).tmps :=
  putT_ok ht hx (by show cond (Nat.blt d n) (some (tm.set d x)) none = _; rw [blt_iff.2 hd]; rfl)
theorem TmR.put_none {ρ : Rho} {n d : Nat} {tm : Tr AV} {a : Act} {v : Value} (ht : TmR ρ n tm a.tmps) (hn : ∀ x, tm.get d ≠ some x) : TmR ρ n tm (a.put (some d) v).tmps := by
  refine ⟨by simp [Act.put, ht.size], fun i y hy => ?_⟩
  obtain ⟨v', q1, q2⟩ := ht.get i y hy
  refine ⟨v', ?_, q2⟩
  show (a.tmps.setIfInBounds d v)[i]? = some v'
  rw [Array.getElem?_setIfInBounds_ne (by rintro rfl; exact hn y hy)]
  exact q1

theorem lookT_set {t d : Nat} {x : AV} (h : d ≠ t) : ∀ (sh : List Nat) (st : List AV) (tm : Tr AV), lookT sh st (tm.set d x) t = lookT sh st tm t
  | [], st, tm => by show (tm.set d x).get t = tm.get t; rw [Tr.get_set, if_neg h]
  | _ :: _, [], tm => rfl
  | d' :: sh, y :: st, tm => by
    show cond (Nat.beq d' t) (some y) (lookT sh st (tm.set d x) t) = cond (Nat.beq d' t) (some y) (lookT sh st tm t)
    rw [lookT_set h sh st tm]

theorem SRS.push {E : Env} {n V : Nat} {ρ ρ' : Rho} {sh : List Nat} {st : List AV} {tm : Tr AV} {hp hp' : Hp} {nx nx' : Nat} {df df' : List Nat} {a a0 : Act} {w w' : World} {dst : Option Nat} {v : AV} {vc : Value}
    (h : SRS E n V ρ sh st tm hp nx df a w) (hr : ρ.le ρ') (ht : a0.tmps = a.tmps) (hv : VR ρ' v vc) (r : E.R ρ' hp' nx' w') (hdf : DfR df' a0.defers) (hd : ∀ d, dst = some d → d < n) :
    SRS E n V ρ' (shPush dst sh) (stPush dst v st) (tmPush V dst v tm) hp' nx' df' (a0.put dst vc) w' := by
  have h1 : TmR ρ' n (fillT sh st tm) a0.tmps := by rw [ht]; exact h.all.mono hr
  have h2 : TmR ρ' n tm a0.tmps := by rw [ht]; exact h.tv.mono hr
  cases dst with
  | none => exact ⟨h1, h2, h.dom, r, hdf⟩
  | some d =>
    have hd' := hd d rfl
    have hdf' : DfR df' (a0.put (some d) vc).defers := by rw [put_defers]; exact hdf
    show SRS E n V ρ' (d :: sh) (v :: st) (cond (Nat.testBit V d) (tm.set d v) tm) hp' nx' df' (a0.put (some d) vc) w'
    cases hV : Nat.testBit V d with
    | false =>
      refine ⟨TmR.put h1 hd' hv, TmR.put_none h2 (fun x hx => ?_), h.dom, r, hdf'⟩
      have := h.dom d x hx
      rw [hV] at this; cases this
    | true =>
      refine ⟨?_, TmR.put h2 hd' hv, ?_, r, hdf'⟩
      · have h3 := TmR.put (a := a0) h1 hd' hv
        refine ⟨h3.size, fun i y hy => h3.get i y ?_⟩
        have hy' : ((fillT sh st (tm.set d v)).set d v).get i = some y := hy
        rw [Tr.get_set] at hy' ⊢
        by_cases hdi : d = i
        · rw [if_pos hdi] at hy' ⊢; exact hy'
        · rw [if_neg hdi] at hy' ⊢
          rw [fillT_get, lookT_set hdi, ← fillT_get] at hy'
          exact hy'
      · intro t x hx
        have hx' : (tm.set d v).get t = some x := hx
        rw [Tr.get_set] at hx'
        by_cases hdt : d = t
        · subst hdt; exact hV
        · rw [if_neg hdt] at hx'; exact h.dom t x hx'

theorem Val.tmR {ρ : Rho} {n : Nat} {sh : List Nat} {st : List AV} {tm tmX : Tr AV} {tmps : Array Value} (h : Val sh st tm tmX) (ht : TmR ρ n (fillT sh st tm) tmps) : TmR ρ n tmX tmps :=
  ⟨ht.size, fun i x hx => ht.get i x (h i x hx)⟩

theorem DomV.push {V : Nat} {dst : Option Nat} {v : AV} {tm : Tr AV} (h : DomV V tm) : DomV V (tmPush V dst v tm) := by
  cases dst with
  | none => exact h
  | some d =>
    show DomV V (cond (Nat.testBit V d) (tm.set d v) tm)
    cases hV : Nat.testBit V d with
    | false => exact h
    | true =>
      intro t x hx
      have hx' : (tm.set d v).get t = some x := hx
      rw [Tr.get_set] at hx'
      by_cases hdt : d = t
      · subst hdt; exact hV
      · rw [if_neg hdt] at hx'; exact h t x hx'

theorem regR_cons {E : Env} {K : Kit E} {n V : Nat} {ops : Array Oper} (o : Oper) (l : List Oper) (sh : List Nat) (st : List AV) (tm : Tr AV) (hp : Hp) (nx : Nat) (df : List Nat) :
    (regR n V ops (o :: l) sh).app E K st tm hp nx df = (sG ops sh o (sopU n V sh o) (pS n V o.dst)).app E K st tm hp nx df ((regR n V ops l (shPush o.dst sh)).app E K) := by
  have hreg : regR n V ops (o :: l) sh = RC.rec (motive := fun _ => RC) (fun r => SOp.rec (motive := fun _ => RC) (fun f => .mk (fun E K st tm hp nx df => f E K st tm hp nx df (r E K))) (sG ops sh o (sopU n V sh o) (pS n V o.dst))) (regR n V ops l (shPush o.dst sh)) := rfl
  rw [hreg]
  cases regR n V ops l (shPush o.dst sh) with
  | mk r => cases sG ops sh o (sopU n V sh o) (pS n V o.dst) with
    | mk f => rfl

theorem regR_pure {E : Env} {K : Kit E} {n V : Nat} {ops : Array Oper} : ∀ (l : List Oper) (sh : List Nat) (st : List AV) (tm : Tr AV) (hp : Hp) (nx : Nat) (df : List Nat), DomV V tm →
    (regR n V ops l sh).app E K st tm hp nx df = .fail ∨ ∃ s', (regR n V ops l sh).app E K st tm hp nx df = .norm s' ∧ DomV V s'.tm
  | [], sh, st, tm, hp, nx, df, h => .inr ⟨⟨tm, hp, nx, df⟩, rfl, h⟩
  | o :: l, sh, st, tm, hp, nx, df, h => by
    rw [regR_cons]
    rcases sG_ok (ops := ops) (sopU_ok n V sh o) E K st tm hp nx df ((regR n V ops l (shPush o.dst sh)).app E K) with h1 | ⟨tmX, v, hp1, nx1, df1, _, _, _, h4⟩
    · exact .inl h1
    · rw [h4]
      exact regR_pure l _ _ _ _ _ _ h.push

theorem regR_ok {E : Env} (ok : E.Ok) {K : Kit E} (hc : CallOk E K.cf) (hen : Enters E K.cf) {n V : Nat} {ops : Array Oper} {s' : St} {Q : Exit → Act → World → Prop} : ∀ (l : List Oper) (i : Nat) {ρ : Rho} {sh : List Nat} {st : List AV} {tm : Tr AV} {hp : Hp} {nx : Nat} {df : List Nat} {a : Act} {w : World},
    (∀ j, j < l.length → ops[i + j]? = l[j]?) → SRS E n V ρ sh st tm hp nx df a w → (regR n V ops l sh).app E K st tm hp nx df = .norm s' →
    (∀ a' w', (∃ ρ', SR E n ρ' s' a' w' ∧ G ρ hp nx w ρ' s'.hp s'.nx w') → Q .normal a' w') → wpOps E.P ops Q (List.range' i l.length) a w
  | [], i, ρ, sh, st, tm, hp, nx, df, a, w, _, hs, h, hQ => by
    have h' : Ev.norm ⟨tm, hp, nx, df⟩ = .norm s' := h
    cases h'
    exact hQ a w ⟨ρ, ⟨hs.tv, hs.r, hs.df⟩, G.refl _ _ _ _⟩
  | o :: l, i, ρ, sh, st, tm, hp, nx, df, a, w, hl, hs, h, hQ => by
    have ho : ops[i]? = some o := by have := hl 0 (by simp); simpa using this
    have hl' : ∀ j, j < l.length → ops[i + 1 + j]? = l[j]? := fun j hj => by
      have := hl (j + 1) (by simp only [List.length_cons]; omega)
      rw [show i + 1 + j = i + (j + 1) by omega]
      simpa using this
    rw [regR_cons] at h
    rcases sG_ok (ops := ops) (sopU_ok n V sh o) E K st tm hp nx df ((regR n V ops l (shPush o.dst sh)).app E K) with h1 | ⟨tmX, v, hp1, nx1, df1, hX, hstep, hd, h4⟩
    · rw [h1] at h; cases h
    · rw [h4] at h
      simp only [List.length_cons, List.range'_succ]
      unfold wpOps
      rw [ho]
      simp only
      rcases hstep with ⟨hwa, hst⟩ | ⟨hwa, rfl, rfl, rfl, rfl⟩
      · rw [wantA_ok hs.all hwa]
        simp only [if_true]
        left
        refine Oper.wp_mono ?_ (stepR_ok ok hc hen hs.r (hX.tmR hs.all) hs.df hst Q)
        rintro a1 w1 ⟨vc, ρ1, a0, rfl, ht, hv, hr1, hg, hdf⟩
        exact regR_ok ok hc hen l (i + 1) hl' (hs.push hg.ext ht hv hr1 hdf hd) h fun a' w' ⟨ρ', q1, q2⟩ => hQ a' w' ⟨ρ', q1, hg.trans q2⟩
      · rw [wantA_ok hs.all hwa]
        simp only [Bool.false_eq_true, if_false]
        exact regR_ok ok hc hen l (i + 1) hl' (hs.push (G.refl ρ hp1 nx1 w).ext rfl (vr_undef ρ) hs.r hs.df hd) h hQ

/-- Where a temporary is looked at beyond its region. -/
noncomputable def bitO (m : Nat) (t : Nat) : Nat := Nat.lor m (Nat.shiftLeft 1 t)
noncomputable def opdM (D : Nat) : List Operand → Nat → Nat
  | [], acc => acc
  | .tmp t :: l, acc => cond (Nat.testBit D t) (opdM D l acc) (opdM D l (bitO acc t))
  | _ :: l, acc => opdM D l acc
noncomputable def regM : List Oper → Nat → Nat → Nat
  | [], _, acc => acc
  | o :: l, D, acc => regM l (match o.dst with
    | none => D
    | some d => bitO D d) (opdM D o.op.operands.toList acc)
noncomputable def drawM : List Oper → Nat → Nat
  | [], acc => acc
  | o :: l, acc => drawM l (opdM 0 o.op.operands.toList (match o.dst with
    | none => acc
    | some d => bitO acc d))
noncomputable def codeM : Code → Nat → Nat
  | .region _ ops true, acc => drawM ops.toList acc
  | .region _ ops false, acc => regM ops.toList 0 acc
  | .seq a b, acc => codeM b (codeM a acc)
  | .cond c a b, acc => codeM b (codeM a (opdM 0 [c] acc))
  | .block _ a, acc => codeM a acc
  | .loop a, acc => codeM a acc
  | .scope a, acc => codeM a acc
  | _, acc => acc
noncomputable def resM : List ResultVar → Nat → Nat
  | [], acc => acc
  | .tmp t :: l, acc => resM l (bitO acc t)
  | .cell t _ :: l, acc => resM l (bitO acc t)

noncomputable def regV (n V : Nat) (ops : Array Oper) : CF := RC.rec (motive := fun _ => CF) (fun r => .mk (fun E K _ s => St.rec (motive := fun _ => Ev) (fun tm hp nx df => r E K [] tm hp nx df) s)) (regR n V ops ops.toList [])
noncomputable def dstsIn (V : Nat) : List Oper → Bool
  | [] => true
  | o :: l => match o.dst with
    | none => dstsIn V l
    | some d => cond (Nat.testBit V d) (dstsIn V l) false
noncomputable def drawV (n V : Nat) (ops : Array Oper) : CF := cond (dstsIn V ops.toList) (drawC n ops) (.mk (fun _ _ _ _ => .fail))

noncomputable def cfV (n V : Nat) : Code → CF
  | .skip => .mk (fun _ _ _ s => .norm s)
  | .region _ ops true => drawV n V ops
  | .region _ ops false => regV n V ops
  | .seq a b => seqC (cfV n V a) (cfV n V b)
  | .cond c a b => condC c (cfV n V a) (cfV n V b)
  | .block id a => blockC id (cfV n V a)
  | .loop a => loopC (cfV n V a)
  | .exit id => .mk (fun _ _ _ s => .exit id s)
  | .ret => .mk (fun _ _ _ s => .ret s)
  | .scope a => cfV n V a
  | .label _ => .mk (fun _ _ _ s => .norm s)
  | _ => .mk (fun _ _ _ _ => .fail)

def DomE (V : Nat) : Ev → Prop
  | .fail => True
  | .norm s => DomV V s.tm
  | .exit _ s => DomV V s.tm
  | .ret s => DomV V s.tm
/-- The trie never holds another temporary than those of `V`. -/
def Keeps (E : Env) (K : Kit E) (V : Nat) (f : CF) : Prop := ∀ (fuel : Nat) (s : St), DomV V s.tm → DomE V (f.app E K fuel s)
def CfV (E : Env) (K : Kit E) (n V : Nat) (c : Code) (f : CF) : Prop := ∀ (fuel : Nat) (ρ : Rho) (s : St) (a : Act) (w : World) (r : Ev), SR E n ρ s a w → DomV V s.tm → f.app E K fuel s = r → r ≠ .fail → c.wp E.P (EvQ E n ρ s w r) a w

section
variable {E : Env} {K : Kit E} {n V : Nat}
theorem seqC_keeps {f g : CF} (hf : Keeps E K V f) (hg : Keeps E K V g) : Keeps E K V (seqC f g) := by
  intro fuel s h
  show DomE V (Ev.rec (motive := fun _ => Ev) .fail (fun s' => g.app E K fuel s') (fun id s' => .exit id s') (fun s' => .ret s') (f.app E K fuel s))
  have h1 := hf fuel s h
  cases hx : f.app E K fuel s with
  | fail => trivial
  | norm s' => rw [hx] at h1; exact hg fuel s' h1
  | exit id s' => rw [hx] at h1; exact h1
  | ret s' => rw [hx] at h1; exact h1
theorem condC_keeps {c : Operand} {f g : CF} (hf : Keeps E K V f) (hg : Keeps E K V g) : Keeps E K V (condC c f g) := by
  intro fuel s h
  show DomE V (match (gC c).app s.tm with
    | some (.bool t) => Bool.rec (motive := fun _ => Ev) (g.app E K fuel s) (f.app E K fuel s) t
    | _ => .fail)
  split
  · rename_i t _
    cases t with
    | true => exact hf fuel s h
    | false => exact hg fuel s h
  · trivial
theorem blockC_keeps {id : Nat} {f : CF} (hf : Keeps E K V f) : Keeps E K V (blockC id f) := by
  intro fuel s h
  show DomE V (Ev.rec (motive := fun _ => Ev) .fail (fun s' => .norm s') (fun id' s' => Bool.rec (motive := fun _ => Ev) (.exit id' s') (.norm s') (Nat.beq id' id)) (fun s' => .ret s') (f.app E K fuel s))
  have h1 := hf fuel s h
  cases hx : f.app E K fuel s with
  | fail => trivial
  | norm s' => rw [hx] at h1; exact h1
  | exit id' s' =>
    rw [hx] at h1
    show DomE V (Bool.rec (motive := fun _ => Ev) (.exit id' s') (.norm s') (Nat.beq id' id))
    cases Nat.beq id' id <;> exact h1
  | ret s' => rw [hx] at h1; exact h1
theorem loopC_keeps {f : CF} (hf : Keeps E K V f) : Keeps E K V (loopC f) := by
  intro fuel s h
  have main : ∀ (m : Nat) (s : St), DomV V s.tm → DomE V (loopR (f.app E K fuel) m s) := by
    intro m
    induction m with
    | zero => intro s _; trivial
    | succ m ih =>
      intro s h
      show DomE V (Ev.rec (motive := fun _ => Ev) .fail (loopR (f.app E K fuel) m) (fun id s' => .exit id s') (fun s' => .ret s') (f.app E K fuel s))
      have h1 := hf fuel s h
      cases hx : f.app E K fuel s with
      | fail => trivial
      | norm s' => rw [hx] at h1; exact ih s' h1
      | exit id s' => rw [hx] at h1; exact h1
      | ret s' => rw [hx] at h1; exact h1
  exact main fuel s h
theorem regV_app (ops : Array Oper) (fuel : Nat) (s : St) : (regV n V ops).app E K fuel s = (regR n V ops ops.toList []).app E K [] s.tm s.hp s.nx s.df := by
  unfold regV
  cases regR n V ops ops.toList [] with
  | mk r => rfl
theorem regV_keeps (ops : Array Oper) : Keeps E K V (regV n V ops) := by
  intro fuel s h
  rw [regV_app]
  rcases regR_pure (E := E) (K := K) (n := n) (ops := ops) ops.toList [] [] s.tm s.hp s.nx s.df h with h1 | ⟨s', h1, h2⟩
  · rw [h1]; trivial
  · rw [h1]; exact h2
theorem putT_dom {tm tm' : Tr AV} {dst : Option Nat} {v : AV} (h : DomV V tm) (hd : ∀ d, dst = some d → Nat.testBit V d = true) (hp : putT n tm dst v = some tm') : DomV V tm' := by
  unfold putT at hp
  cases dst with
  | none => cases hp; exact h
  | some d =>
    simp only at hp
    cases hb : Nat.blt d n with
    | false => rw [hb] at hp; cases hp
    | true =>
      rw [hb] at hp; cases hp
      intro t x hx
      rw [Tr.get_set] at hx
      by_cases hdt : d = t
      · subst hdt; exact hd d rfl
      · rw [if_neg hdt] at hx; exact h t x hx
theorem dstsIn_spec : ∀ {l : List Oper}, dstsIn V l = true → ∀ o ∈ l, ∀ d, o.dst = some d → Nat.testBit V d = true
  | [], _, o, ho, _, _ => by cases ho
  | o' :: l, h, o, ho, d, hd => by
    unfold dstsIn at h
    have h' : dstsIn V l = true := by
      cases hdst : o'.dst with
      | none => rw [hdst] at h; exact h
      | some d' => rw [hdst] at h; exact (cond_true_iff.1 h).2
    rcases List.mem_cons.1 ho with rfl | ho'
    · rw [hd] at h; exact (cond_true_iff.1 h).1
    · exact dstsIn_spec h' o ho' d hd

theorem ph_dom {ops : Array Oper} {nx0 : Nat} : ∀ (l : List Oper) (ms : List Nat) (i : Nat) (done : List Ent) (tm : Tr AV) (hp : Hp) (nx A : Nat) (L : List Ent) (vs : List Ver) (tF : Tr AV), ph E K n ops nx0 l ms i done tm hp nx A = some (L, vs, tF) →
    (∀ o ∈ l, ∀ d, o.dst = some d → Nat.testBit V d = true) → DomV V tm → DomV V tF
  | [], ms, i, done, tm, hp, nx, A, L, vs, tF, h, _, hd => by unfold ph at h; cases h; exact hd
  | o :: l, [], i, done, tm, hp, nx, A, L, vs, tF, h, _, _ => by unfold ph at h; cases h
  | o :: l, m :: ms, i, done, tm, hp, nx, A, L, vs, tF, h, hl, hd => by
    have tl : ∀ {v : AV} {tm' : Tr AV}, putT n tm o.dst v = some tm' → ∀ {done' : List Ent} {hp' : Hp} {nx' A' : Nat} {L' : List Ent} {vs' : List Ver} {tF' : Tr AV}, ph E K n ops nx0 l ms (Nat.succ i) done' tm' hp' nx' A' = some (L', vs', tF') → DomV V tF' :=
      by
        intro v tm' hp done' hp' nx' A' L' vs' tF' h
        exact ph_dom l ms _ _ _ _ _ _ _ _ _ h (fun o ho => hl o (List.mem_cons_of_mem _ ho)) (putT_dom hd (hl o List.mem_cons_self) hp)
    unfold ph at h
    simp only [forceT_eq, forceN_eq, forceA_eq] at h
    repeat' split at h
    all_goals first
      | (cases h; done)
      | (cases h; exact tl (by assumption) (by assumption))
      | skip
theorem evDraw_dom {ops : Array Oper} {s s' : St} (h : evDraw E K n ops s = some s') (hl : dstsIn V ops.toList = true) (hd : DomV V s.tm) : DomV V s'.tm := by
  unfold evDraw at h
  cases hst : stat ops with
  | false => rw [hst] at h; cases h
  | true =>
    rw [hst] at h
    simp only [cond_true] at h
    split at h
    · cases h
    · rename_i L vs tF hph
      have := ph_dom ops.toList _ _ _ _ _ _ _ _ _ _ hph (dstsIn_spec hl) hd
      simp only [mkSt_eq] at h
      revert h
      generalize (L.filter isEff).all _ = b1
      generalize L.all _ = b2
      generalize floatsOk _ _ _ _ = b3
      cases b1 <;> cases b2 <;> cases b3 <;> intro h <;> first | (cases h; done) | (cases h; exact this)
theorem drawV_keeps (ops : Array Oper) : Keeps E K V (drawV n V ops) := by
  intro fuel s h
  unfold drawV
  cases hd : dstsIn V ops.toList with
  | false => trivial
  | true =>
    show DomE V (match evDraw E K n ops s with | none => Ev.fail | some s' => .norm s')
    cases he : evDraw E K n ops s with
    | none => trivial
    | some s' => exact evDraw_dom he hd h
theorem cfV_keeps : ∀ c : Code, Keeps E K V (cfV n V c)
  | .skip => fun _ _ h => h
  | .region _ ops true => drawV_keeps ops
  | .region _ ops false => regV_keeps ops
  | .seq a b => seqC_keeps (cfV_keeps a) (cfV_keeps b)
  | .cond _c a b => condC_keeps (cfV_keeps a) (cfV_keeps b)
  | .block _id a => blockC_keeps (cfV_keeps a)
  | .loop a => loopC_keeps (cfV_keeps a)
  | .exit _ => fun _ _ h => h
  | .ret => fun _ _ h => h
  | .scope a => cfV_keeps a
  | .label _ => fun _ _ h => h
  | .rangeFunc _ _ _ _ => fun _ _ _ => trivial
  | .goto _ => fun _ _ _ => trivial
  | .refuse _ => fun _ _ _ => trivial

variable (ok : E.Ok) (hc : CallOk E K.cf) (hen : Enters E K.cf)
theorem cfV_seq {x y : Code} {f g : CF} (hx : CfV E K n V x f) (hkx : Keeps E K V f) (hy : CfV E K n V y g) : CfV E K n V (.seq x y) (seqC f g) := by
  intro fuel ρ s a w r hs hd h hr
  have h' : Ev.rec (motive := fun _ => Ev) .fail (fun s' => g.app E K fuel s') (fun id s' => .exit id s') (fun s' => .ret s') (f.app E K fuel s) = r := h
  have hk := hkx fuel s hd
  apply wp_seq
  cases hf : f.app E K fuel s with
  | fail => rw [hf] at h'; exact absurd h'.symm hr
  | norm s1 =>
    rw [hf] at h' hk
    refine wp_mono (hx fuel ρ s a w _ hs hd hf (by simp)) ?_
    rintro e a1 w1 ⟨rfl, ρ1, h1, h2⟩
    exact wp_mono (hy fuel ρ1 s1 a1 w1 r h1 hk h' hr) fun e a2 w2 h3 => h3.trans h2
  | exit id s1 =>
    rw [hf] at h'
    have h'' : Ev.exit id s1 = r := h'
    subst h''
    refine wp_mono (hx fuel ρ s a w _ hs hd hf (by simp)) ?_
    rintro e a1 w1 ⟨rfl, h1⟩
    exact ⟨rfl, h1⟩
  | ret s1 =>
    rw [hf] at h'
    have h'' : Ev.ret s1 = r := h'
    subst h''
    refine wp_mono (hx fuel ρ s a w _ hs hd hf (by simp)) ?_
    rintro e a1 w1 ⟨rfl, h1⟩
    exact ⟨rfl, h1⟩
theorem cfV_cond {c : Operand} {x y : Code} {f g : CF} (hx : CfV E K n V x f) (hy : CfV E K n V y g) : CfV E K n V (.cond c x y) (condC c f g) := by
  intro fuel ρ s a w r hs hd h hr
  have h' : (match (gC c).app s.tm with
    | some (.bool t) => Bool.rec (motive := fun _ => Ev) (g.app E K fuel s) (f.app E K fuel s) t
    | _ => .fail) = r := h
  rw [gC_eq] at h'
  split at h'
  · rename_i t hb
    have hv := evO_ok hs.tm hb
    unfold VR at hv
    cases t with
    | true => exact wp_cond hv (hx fuel ρ s a w r hs hd h' hr)
    | false => exact wp_cond hv (hy fuel ρ s a w r hs hd h' hr)
  · exact absurd h'.symm hr
theorem cfV_block {id : Nat} {x : Code} {f : CF} (hx : CfV E K n V x f) : CfV E K n V (.block id x) (blockC id f) := by
  intro fuel ρ s a w r hs hd h hr
  have h' : Ev.rec (motive := fun _ => Ev) .fail (fun s' => .norm s') (fun id' s' => Bool.rec (motive := fun _ => Ev) (.exit id' s') (.norm s') (Nat.beq id' id)) (fun s' => .ret s') (f.app E K fuel s) = r := h
  apply wp_block
  cases hf : f.app E K fuel s with
  | fail => rw [hf] at h'; exact absurd h'.symm hr
  | norm s1 =>
    rw [hf] at h'
    have h'' : Ev.norm s1 = r := h'
    subst h''
    refine wp_mono (hx fuel ρ s a w _ hs hd hf (by simp)) ?_
    rintro e a1 w1 ⟨rfl, h1⟩
    exact ⟨rfl, h1⟩
  | ret s1 =>
    rw [hf] at h'
    have h'' : Ev.ret s1 = r := h'
    subst h''
    refine wp_mono (hx fuel ρ s a w _ hs hd hf (by simp)) ?_
    rintro e a1 w1 ⟨rfl, h1⟩
    exact ⟨rfl, h1⟩
  | exit id' s1 =>
    rw [hf] at h'
    have h'' : Bool.rec (motive := fun _ => Ev) (.exit id' s1) (.norm s1) (Nat.beq id' id) = r := h'
    refine wp_mono (hx fuel ρ s a w _ hs hd hf (by simp)) ?_
    rintro e a1 w1 ⟨rfl, h1⟩
    show if id' = id then EvQ E n ρ s w r .normal a1 w1 else EvQ E n ρ s w r (.exit id') a1 w1
    cases hb : Nat.beq id' id with
    | true =>
      rw [hb] at h''
      rw [Nat.beq_eq] at hb
      rw [if_pos hb]
      have h3 : Ev.norm s1 = r := h''
      subst h3
      exact ⟨rfl, h1⟩
    | false =>
      rw [hb] at h''
      have hne : id' ≠ id := by
        intro he
        subst he
        simp at hb
      rw [if_neg hne]
      have h3 : Ev.exit id' s1 = r := h''
      subst h3
      exact ⟨rfl, h1⟩

theorem cfV_loop {x : Code} {f : CF} (hx : CfV E K n V x f) (hkx : Keeps E K V f) : CfV E K n V (.loop x) (loopC f) := by
  intro fuel ρ s a w r hs hd h hr
  have main : ∀ (m : Nat) (ρ : Rho) (s : St) (a : Act) (w : World), SR E n ρ s a w → DomV V s.tm → loopR (f.app E K fuel) m s = r → wpL E.P x (EvQ E n ρ s w r) a w := by
    intro m
    induction m with
    | zero => intro ρ s a w hs _ h; exact absurd h.symm hr
    | succ m ih =>
      intro ρ s a w hs hd h
      have h' : Ev.rec (motive := fun _ => Ev) .fail (loopR (f.app E K fuel) m) (fun id s' => .exit id s') (fun s' => .ret s') (f.app E K fuel s) = r := h
      have hk := hkx fuel s hd
      apply wpL_round
      cases hf : f.app E K fuel s with
      | fail => rw [hf] at h'; exact absurd h'.symm hr
      | norm s1 =>
        rw [hf] at h' hk
        refine wp_mono (hx fuel ρ s a w _ hs hd hf (by simp)) ?_
        rintro e a1 w1 ⟨rfl, ρ1, h1, h2⟩
        exact wpL_mono (ih ρ1 s1 a1 w1 h1 hk h') fun e a2 w2 h3 => h3.trans h2
      | exit id' s1 =>
        rw [hf] at h'
        have h'' : Ev.exit id' s1 = r := h'
        subst h''
        refine wp_mono (hx fuel ρ s a w _ hs hd hf (by simp)) ?_
        rintro e a1 w1 ⟨rfl, h1⟩
        exact ⟨rfl, h1⟩
      | ret s1 =>
        rw [hf] at h'
        have h'' : Ev.ret s1 = r := h'
        subst h''
        refine wp_mono (hx fuel ρ s a w _ hs hd hf (by simp)) ?_
        rintro e a1 w1 ⟨rfl, h1⟩
        exact ⟨rfl, h1⟩
  exact wp_of_wpL (main fuel ρ s a w hs hd h)

theorem cfV_scope {x : Code} {f : CF} (hx : CfV E K n V x f) : CfV E K n V (.scope x) f := by
  intro fuel ρ s a w r hs hd h hr
  refine wp_scope_straight (wp_mono (hx fuel ρ s a w r hs hd h hr) ?_)
  intro e a1 w1 hq
  cases e with
  | goto l => cases r with
    | fail => exact absurd rfl hr
    | norm s' => exact absurd hq.1 (by simp)
    | exit id s' => exact absurd hq.1 (by simp)
    | ret s' => exact absurd hq.1 (by simp)
  | _ => exact hq

include ok hc hen in
theorem cfV_reg (id : Nat) (ops : Array Oper) : CfV E K n V (.region id ops false) (regV n V ops) := by
  intro fuel ρ s a w r hs hd h hr
  rw [regV_app] at h
  rcases regR_pure (E := E) (K := K) (n := n) (ops := ops) ops.toList [] [] s.tm s.hp s.nx s.df hd with h1 | ⟨s', h1, h2⟩
  · rw [h1] at h; exact absurd h.symm hr
  · rw [h1] at h
    subst h
    refine wp_region ?_
    have := regR_ok ok hc hen (ops := ops) (V := V) (n := n) (s' := s') (Q := EvQ E n ρ s w (.norm s')) ops.toList 0 (sh := []) (st := []) (fun j _ => by simp) ⟨hs.tm, hs.tm, hd, hs.r, hs.df⟩ h1 (fun a' w' hb => ⟨rfl, hb⟩)
    rw [Array.length_toList] at this
    rwa [List.range_eq_range']

include ok hc hen in
theorem cfV_draw (id : Nat) (ops : Array Oper) : CfV E K n V (.region id ops true) (drawV n V ops) := by
  intro fuel ρ s a w r hs hd h hr
  unfold drawV at h
  cases hdst : dstsIn V ops.toList with
  | false => rw [hdst] at h; exact absurd h.symm hr
  | true =>
    rw [hdst] at h
    exact drawC_ok ok hc hen id ops fuel ρ s a w r hs h hr

include ok hc hen in
theorem cfV_ok : ∀ (c : Code), CfV E K n V c (cfV n V c)
  | .skip => fun fuel ρ s a w r hs _ h hr => by
    have h' : Ev.norm s = r := h
    subst h'
    exact wp_skip ⟨rfl, behind_refl hs⟩
  | .region id ops true => cfV_draw ok hc hen id ops
  | .region id ops false => cfV_reg ok hc hen id ops
  | .seq x y => cfV_seq (cfV_ok x) (cfV_keeps x) (cfV_ok y)
  | .cond c x y => cfV_cond (cfV_ok x) (cfV_ok y)
  | .block id x => cfV_block (cfV_ok x)
  | .loop x => cfV_loop (cfV_ok x) (cfV_keeps x)
  | .exit id => fun fuel ρ s a w r hs _ h hr => by
    have h' : Ev.exit id s = r := h
    subst h'
    exact wp_exit ⟨rfl, behind_refl hs⟩
  | .ret => fun fuel ρ s a w r hs _ h hr => by
    have h' : Ev.ret s = r := h
    subst h'
    exact wp_ret ⟨rfl, behind_refl hs⟩
  | .rangeFunc f p as body => fun fuel ρ s a w r hs _ h hr => absurd (show Ev.fail = r from h).symm hr
  | .scope body => cfV_scope (cfV_ok body)
  | .label l => fun fuel ρ s a w r hs _ h hr => by
    have h' : Ev.norm s = r := h
    subst h'
    exact wp_label ⟨rfl, behind_refl hs⟩
  | .goto l => fun fuel ρ s a w r hs _ h hr => absurd (show Ev.fail = r from h).symm hr
  | .refuse _ => fun fuel ρ s a w r hs _ h hr => absurd (show Ev.fail = r from h).symm hr
end
end Go.Evo
namespace Go.Evo

/-- What an operation is, by its text: 1 a value of the temporaries, 3 a load, 4 an effect, 9 none of them. -/
noncomputable def kindO (E : Env) (o : Oper) : Nat := match o.op with
  | .move _ => 1
  | .assign _ => 1
  | .pick _ _ _ => 1
  | .binOp _ _ _ _ _ => 1
  | .unOp _ _ _ => 1
  | .nilCheck _ => 1
  | .makeInterface _ _ => 1
  | .makeFunc _ _ _ => 1
  | .fieldAddr _ _ _ => 1
  | .field _ _ _ => 1
  | .indexAddr _ _ _ => 1
  | .index _ _ _ => 1
  | .extract _ _ => 1
  | .slice _ _ _ _ _ => 1
  | .build _ _ => 1
  | .convert s d _ => (match E.und s, E.und d with
    | some (.int _), some (.int _) => 1
    | _, _ => 9)
  | .load _ _ => (match o.dst with
    | none => 9
    | some _ => 3)
  | .store _ _ _ => 4
  | .call ⟨.builtin .len, args, ats⟩ => (match args.toList, ats.toList with
    | [_], t :: _ => (match E.sle t with
      | none => 9
      | some _ => 1)
    | _, _ => 9)
  | .call ⟨.builtin .append, _, _⟩ => 4
  | .call ⟨.value _, _, _⟩ => 4
  | _ => 9

/-- A value of the temporaries by the operands' own trie. -/
noncomputable def qSlow (sh : List Nat) (o : Oper) : SQ := LK.rec (motive := fun _ => SQ) (fun l => .mk (fun E st tm k => l st tm (fun xs => Option.rec (motive := fun _ => Ev) .fail (fun v => forceV v k) (quietOp E (opT o.op.operands.toList xs) o)))) (lS sh o.op.operands.toList)
theorem opT_ops {sh : List Nat} {st : List AV} {tm : Tr AV} : ∀ {l : List Operand} {xs : List AV}, evOs (fillT sh st tm) l = some xs → ∀ x ∈ l, evO (opT l xs) x = evO (fillT sh st tm) x
  | [], _, _, x, hx => by cases hx
  | o :: l, xs, h, x, hx => by
    unfold evOs at h
    cases ho : evO (fillT sh st tm) o with
    | none => rw [ho] at h; cases h
    | some y =>
      rw [ho] at h
      simp only at h
      cases hl : evOs (fillT sh st tm) l with
      | none => rw [hl] at h; cases h
      | some ys =>
        rw [hl] at h; cases h
        have ih := opT_ops hl
        cases o with
        | tmp t =>
          have hot : opT (.tmp t :: l) (y :: ys) = (opT l ys).set t y := rfl
          cases x with
          | tmp t' =>
            show (opT (.tmp t :: l) (y :: ys)).get t' = (fillT sh st tm).get t'
            rw [hot, Tr.get_set]
            by_cases h1 : t = t'
            · rw [if_pos h1]; subst h1; exact ho.symm
            · rw [if_neg h1]
              rcases List.mem_cons.1 hx with h2 | h2
              · cases h2; exact absurd rfl h1
              · exact ih _ h2
          | const v => rfl
          | global g => rfl
          | func f => rfl
        | const v =>
          rcases List.mem_cons.1 hx with h2 | h2
          · subst h2; rfl
          · exact ih _ h2
        | global v =>
          rcases List.mem_cons.1 hx with h2 | h2
          · subst h2; rfl
          · exact ih _ h2
        | func v =>
          rcases List.mem_cons.1 hx with h2 | h2
          · subst h2; rfl
          · exact ih _ h2
def SQok1 (sh : List Nat) (o : Oper) (c : SQ) : Prop := ∀ (E : Env) (st : List AV) (tm : Tr AV) (k : AV → Ev), c.app E st tm k = .fail ∨ ∃ v, quietOp E (fillT sh st tm) o = some v ∧ c.app E st tm k = k v
theorem qSlow_ok (sh : List Nat) (o : Oper) : SQok1 sh o (qSlow sh o) := by
  intro E st tm k
  have hl := lS_ok sh o.op.operands.toList
  unfold qSlow
  cases hls : lS sh o.op.operands.toList with
  | mk l =>
    rw [hls] at hl
    have hl' : ∀ k, l st tm k = goL (evOs (fillT sh st tm) o.op.operands.toList) k := hl st tm
    show l st tm _ = .fail ∨ ∃ v, _ ∧ l st tm _ = _
    rw [hl']
    cases hos : evOs (fillT sh st tm) o.op.operands.toList with
    | none => exact .inl rfl
    | some xs =>
      simp only [goL]
      have hc : quietOp E (opT o.op.operands.toList xs) o = quietOp E (fillT sh st tm) o := quiet_congr (fun x hx => opT_ops hos x (Array.mem_toList_iff.2 hx))
      rw [hc]
      cases quietOp E (fillT sh st tm) o with
      | none => exact .inl rfl
      | some v => exact .inr ⟨v, rfl, forceV_eq v k⟩
theorem SQok.one {sh : List Nat} {o : Oper} {c : SQ} (h : SQok sh o.op c) : SQok1 sh o c := by
  intro E st tm k
  rcases h E st tm k with h1 | ⟨v, h1, h2⟩
  · exact .inl h1
  · exact .inr ⟨v, h1 o rfl, h2⟩

noncomputable def qD (sh : List Nat) (o : Oper) : SQ :=
  match o.op with
  | .move x => q0 (gS sh x)
  | .assign x => q0 (gS sh x)
  | .pick c a b => qPick (gS sh c) (gS sh a) (gS sh b)
  | .binOp b t x y _ => q2 (gS sh x) (gS sh y) (binK (isConstO x || isConstO y) b t)
  | .fieldAddr t x f => q1 (gS sh x) (.mk (any1 (fun E u => aFieldAddr E t u f)))
  | .field t x f => q1 (gS sh x) (.mk (any1 (fun E u => aField E t u f)))
  | .indexAddr t x y => q2 (gS sh x) (gS sh y) (ixK t)
  | .extract x j => q1 (gS sh x) (.mk (raw1 (fun _ u => aExtract u j)))
  | .slice t x none (some h) none => q2 (gS sh x) (gS sh h) (.mk (any2 (fun E u w => aSlice E t u none (some w) none)))
  | .slice t x (some l) none none => q2 (gS sh x) (gS sh l) (.mk (any2 (fun E u w => aSlice E t u (some w) none none)))
  | .convert s d x => q1 (gS sh x) (.mk (any1 (fun E u => aConv E s d u)))
  | .call ⟨.builtin .len, args, ats⟩ => (match args.toList, ats.toList with
    | [x], t :: _ => q1 (gS sh x) (.mk (fun E u k => lenC E t u k .fail))
    | _, _ => qSlow sh o)
  | _ => qSlow sh o
theorem qD_ok (sh : List Nat) (o : Oper) : SQok1 sh o (qD sh o) := by
  obtain ⟨dst, op, type, pos, after, gd⟩ := o
  cases op
  case move x => exact SQok.one (o := ⟨dst, _, type, pos, after, gd⟩) (q0_ok fun E tm v hx o ho => by unfold quietOp; rw [ho]; exact hx)
  case assign x => exact SQok.one (o := ⟨dst, _, type, pos, after, gd⟩) (q0_ok fun E tm v hx o ho => by unfold quietOp; rw [ho]; exact hx)
  case pick c a b => exact SQok.one (o := ⟨dst, .pick c a b, type, pos, after, gd⟩) qPick_ok
  case binOp b t x y ty => exact SQok.one (o := ⟨dst, _, type, pos, after, gd⟩) (q2_ok (binK_ok _ b t) fun E tm u w v hx hy hr o ho => by unfold quietOp; rw [ho]; simp only [hx, hy]; exact hr)
  case fieldAddr t x f => exact SQok.one (o := ⟨dst, _, type, pos, after, gd⟩) (q1_ok (w1 (any1_ok _)) fun E tm u v hx hr o ho => by unfold quietOp; rw [ho]; simp only [hx]; exact hr)
  case field t x f => exact SQok.one (o := ⟨dst, _, type, pos, after, gd⟩) (q1_ok (w1 (any1_ok _)) fun E tm u v hx hr o ho => by unfold quietOp; rw [ho]; simp only [hx]; exact hr)
  case indexAddr t x y => exact SQok.one (o := ⟨dst, _, type, pos, after, gd⟩) (q2_ok (ixK_ok t) fun E tm u w v hx hy hr o ho => by unfold quietOp; rw [ho]; simp only [hx, hy]; exact hr)
  case extract x j => exact SQok.one (o := ⟨dst, _, type, pos, after, gd⟩) (q1_ok (w1 (raw1_ok _)) fun E tm u v hx hr o ho => by unfold quietOp; rw [ho]; simp only [hx]; exact hr)
  case slice t x l h m =>
    cases m with
    | some m => cases l <;> cases h <;> exact qSlow_ok sh _
    | none =>
      cases l with
      | none =>
        cases h with
        | none => exact qSlow_ok sh _
        | some h => exact SQok.one (o := ⟨dst, _, type, pos, after, gd⟩) (q2_ok (w2 (any2_ok _)) fun E tm u w v hx hy hr o ho => by unfold quietOp; rw [ho]; simp only [hx, evOo, hy]; exact hr)
      | some l =>
        cases h with
        | none => exact SQok.one (o := ⟨dst, _, type, pos, after, gd⟩) (q2_ok (w2 (any2_ok _)) fun E tm u w v hx hy hr o ho => by unfold quietOp; rw [ho]; simp only [hx, evOo, hy]; exact hr)
        | some h => exact qSlow_ok sh _
  case convert s d x => exact SQok.one (o := ⟨dst, _, type, pos, after, gd⟩) (q1_ok (w1 (any1_ok _)) fun E tm u v hx hr o ho => by unfold quietOp; rw [ho]; simp only [hx]; exact hr)
  case call c =>
    obtain ⟨cal, args, ats⟩ := c
    cases cal with
    | builtin b =>
      cases b <;> try exact qSlow_ok sh _
      show SQok1 sh _ (match args.toList, ats.toList with
        | [x], t :: _ => q1 (gS sh x) (.mk (fun E u k => lenC E t u k .fail))
        | _, _ => qSlow sh _)
      split
      · rename_i x t ts ha ht
        intro E st tm k
        have := q1_ok (sh := sh) (op := .call ⟨.builtin .len, args, ats⟩) (x := x) (f := .mk (fun E u k => lenC E t u k .fail)) (r := fun E u => aLen E t u) (fun E u k => lenC_ok E t u k .fail) (fun E tm u v hx hr o ho => by
          unfold quietOp
          rw [ho]
          simp only [ha, ht, quietB]
          have : evOs tm [x] = some [u] := by
            unfold evOs; rw [hx]; simp only [evOs]
          rw [this]
          exact hr) E st tm k
        rcases this with h1 | ⟨v, h1, h2⟩
        · exact .inl h1
        · exact .inr ⟨v, h1 _ rfl, h2⟩
      · exact qSlow_ok sh _
    | _ => exact qSlow_ok sh _
  all_goals exact qSlow_ok sh _

/-- The looks at the text of a region without floating objects. -/
noncomputable def effL (E : Env) : List (Nat × Oper × Nat) → List (Nat × Nat)
  | [] => []
  | (i, o, m) :: l => cond (Nat.beq (kindO E o) 4) ((i, m) :: effL E l) (effL E l)
noncomputable def vOkS (m i j : Nat) : List (Nat × Nat) → Nat → Bool
  | [], _ => true
  | (bi, bm) :: l, r => cond (cond (Nat.testBit m bi) (Nat.blt r j) true) (cond (cond (Nat.testBit bm i) (Nat.ble j r) true) (vOkS m i j l (Nat.succ r)) false) false
theorem vOkS_eq (e : Ent) (j : Nat) : ∀ (l : List Ent) (r : Nat), vOkS e.m e.i j (l.map fun b => (b.i, b.m)) r = vOk e j l r
  | [], r => rfl
  | b :: l, r => by
    show cond (cond (Nat.testBit e.m b.i) (Nat.blt r j) true) (cond (cond (Nat.testBit b.m e.i) (Nat.ble j r) true) (vOkS e.m e.i j (l.map fun b => (b.i, b.m)) (Nat.succ r)) false) false = _
    rw [vOkS_eq e j l]
    rfl
noncomputable def kindsOk (E : Env) (ops : Array Oper) (S : List (Nat × Oper × Nat)) : List (Nat × Oper × Nat) → Bool
  | [] => true
  | (i, o, m) :: l => cond (isNone' o.guard) (cond (Nat.beq (kindO E o) 9) false (cond (cond (Nat.beq (kindO E o) 3) ((o.looksAt ops).all (fun t => S.all (fun q => cond (dstIs q.2.1 t) (Nat.testBit m q.1) true)))
      (cond (Nat.beq (kindO E o) 4) ((effL E S).all (fun q => cond (Nat.blt q.1 i) (Nat.testBit m q.1) true)) true)) (kindsOk E ops S l) false)) false
noncomputable def okD (E : Env) (ops : Array Oper) : Bool := cond (stat ops) (kindsOk E ops (mkS ops.toList (masks ops.toList []) 0) (mkS ops.toList (masks ops.toList []) 0)) false
theorem kindsOk_spec {E : Env} {ops : Array Oper} {S : List (Nat × Oper × Nat)} : ∀ {l : List (Nat × Oper × Nat)}, kindsOk E ops S l = true → ∀ p ∈ l, p.2.1.guard = none ∧ kindO E p.2.1 ≠ 9 ∧
      (kindO E p.2.1 = 3 → ∀ t ∈ p.2.1.looksAt ops, ∀ q ∈ S, q.2.1.dst = some t → Nat.testBit p.2.2 q.1 = true) ∧ (kindO E p.2.1 = 4 → ∀ q ∈ effL E S, q.1 < p.1 → Nat.testBit p.2.2 q.1 = true)
  | [], _, p, hp => by cases hp
  | (i, o, m) :: l, h, p, hp => by
    unfold kindsOk at h
    rw [cond_true_iff] at h
    obtain ⟨h1, h2⟩ := h
    cases h9 : Nat.beq (kindO E o) 9 with
    | true => rw [h9] at h2; cases h2
    | false =>
      rw [h9] at h2
      simp only [cond_false] at h2
      rw [cond_true_iff] at h2
      obtain ⟨h3, h4⟩ := h2
      rcases List.mem_cons.1 hp with rfl | hp'
      · refine ⟨?_, ?_, ?_, ?_⟩
        · cases hg : o.guard with
          | none => rfl
          | some g => simp only [hg] at h1; cases h1
        · intro hk
          simp only at hk
          rw [hk] at h9; cases h9
        · intro hk t ht q hq hd
          simp only at hk ht ⊢
          rw [hk] at h3
          simp only [show Nat.beq 3 3 = true from rfl, cond_true] at h3
          have := List.all_eq_true.1 (List.all_eq_true.1 h3 t ht) q hq
          have hdi : dstIs q.2.1 t = true := by unfold dstIs; rw [hd]; simp
          rw [hdi] at this
          exact this
        · intro hk q hq hlt
          simp only at hk hlt ⊢
          rw [hk] at h3
          simp only [show Nat.beq 4 3 = false from rfl, show Nat.beq 4 4 = true from rfl, cond_false, cond_true] at h3
          have := List.all_eq_true.1 h3 q hq
          rw [blt_iff.2 hlt] at this
          exact this
      · exact kindsOk_spec h4 p hp'

end Go.Evo
namespace Go.Evo

abbrev DF := (E : Env) → Kit E → Nat → List AV → List Hp → Tr AV → Hp → Nat → List Nat → Ev
inductive DC where
  | mk (f : DF)
noncomputable def DC.app (c : DC) : DF := DC.rec (motive := fun _ => DF) (fun f => f) c

noncomputable def dQ (q : SQ) (p : PK) (r : DC) : DC := SQ.rec (motive := fun _ => DC) (fun q => PK.rec (motive := fun _ => DC) (fun p => DC.rec (motive := fun _ => DC) (fun r =>
  .mk (fun E K lim st hs tm hp nx df => q E st tm (fun v => p v st tm hp nx df (fun st tm hp nx df => r E K lim st hs tm hp nx df)))) r) p) q
noncomputable def dL (g : GK) (f : LD) (p : PK) (r : DC) : DC := GK.rec (motive := fun _ => DC) (fun g => PK.rec (motive := fun _ => DC) (fun p => DC.rec (motive := fun _ => DC) (fun r =>
  .mk (fun E K lim st hs tm hp nx df => g st tm (fun u => f E hp u (fun v => p v st tm hp nx df (fun st tm hp nx df => r E K lim st hs tm hp nx df))))) r) p) g
noncomputable def dE (l : LK) (o : Oper) (p : PK) (r : DC) : DC := LK.rec (motive := fun _ => DC) (fun l => PK.rec (motive := fun _ => DC) (fun p => DC.rec (motive := fun _ => DC) (fun r =>
  .mk (fun E K lim st hs tm hp nx df => l st tm (fun xs => Option.rec (motive := fun _ => Ev) .fail (fun res => Prod.rec (motive := fun _ => Ev) (fun v q => Prod.rec (motive := fun _ => Ev) (fun hp' nx' => forceV v fun v => forceT hp' fun hp' => fN nx' fun nx' =>
    Bool.rec (motive := fun _ => Ev) .fail (p v st tm hp' nx' df (fun st tm hp' nx' df => r E K lim st (hp :: hs) tm hp' nx' df)) (Nat.ble lim nx')) q) res) (effS E K hp nx (opT o.op.operands.toList xs) o)))) r) p) l

noncomputable def dR (E : Env) (n V : Nat) (T : List Nat → DC) : List (Nat × Oper × Nat) → List Nat → DC
  | [], sh => T sh
  | (_, o, _) :: l, sh => cond (Nat.beq (kindO E o) 1) (dQ (qD sh o) (pS n V o.dst) (dR E n V T l (shPush o.dst sh)))
      (cond (Nat.beq (kindO E o) 3) (match o.op with
        | .load t x => dL (gS sh x) (ld1 t) (pS n V o.dst) (dR E n V T l (shPush o.dst sh))
        | _ => .mk (fun _ _ _ _ _ _ _ _ _ => .fail))
      (cond (Nat.beq (kindO E o) 4) (dE (lS sh o.op.operands.toList) o (pS n V o.dst) (dR E n V T l (shPush o.dst sh))) (.mk (fun _ _ _ _ _ _ _ _ _ => .fail))))

/-- What holds on the way. -/
structure DInv (V : Nat) (tm0 : Tr AV) (done : List Ent) (sh : List Nat) (st : List AV) (tm : Tr AV) : Prop where
  lex : Lex tm0 done (fillT sh st tm)
  dom : DomV V tm
  sub : ∀ t x, tm.get t = some x → (fillT sh st tm).get t = some x
  obs : ∀ e ∈ done, e.ob = none

theorem Lex.congr {tm0 : Tr AV} {L : List Ent} {tm tm' : Tr AV} (h : Lex tm0 L tm) (hg : ∀ t, tm'.get t = tm.get t) : Lex tm0 L tm' :=
  ⟨fun e he t ht hu => by rw [hg]; exact h.hit e he t ht hu, fun t ht => by rw [hg]; exact h.miss t ht⟩

theorem DInv.push {n V : Nat} {tm0 : Tr AV} {done : List Ent} {sh : List Nat} {st : List AV} {tm : Tr AV} (h : DInv V tm0 done sh st tm) {e : Ent} (hi : ∀ e' ∈ done, e'.i ≠ e.i) (hd : ∀ d, e.o.dst = some d → d < n) (hob : e.ob = none) :
    DInv V tm0 (done ++ [e]) (shPush e.o.dst sh) (stPush e.o.dst e.val st) (tmPush V e.o.dst e.val tm) := by
  have hobs : ∀ e' ∈ done ++ [e], e'.ob = none := by
    intro e' he'
    rcases List.mem_append.1 he' with h1 | h1
    · exact h.obs e' h1
    · cases List.mem_singleton.1 h1; exact hob
  cases hdst : e.o.dst with
  | none =>
    refine ⟨?_, h.dom, h.sub, hobs⟩
    exact h.lex.snoc (n := n) hi (by rw [hdst]; rfl)
  | some d =>
    have hdn := hd d hdst
    have hput : putT n (fillT sh st tm) e.o.dst e.val = some ((fillT sh st tm).set d e.val) := by
      rw [hdst]
      show cond (Nat.blt d n) (some ((fillT sh st tm).set d e.val)) none = _
      rw [blt_iff.2 hdn]; rfl
    have hget : ∀ t, (fillT (d :: sh) (e.val :: st) (tmPush V (some d) e.val tm)).get t = ((fillT sh st tm).set d e.val).get t := by
      intro t
      show ((fillT sh st (tmPush V (some d) e.val tm)).set d e.val).get t = _
      rw [Tr.get_set, Tr.get_set]
      by_cases hdt : d = t
      · rw [if_pos hdt, if_pos hdt]
      · rw [if_neg hdt, if_neg hdt]
        show (fillT sh st (cond (Nat.testBit V d) (tm.set d e.val) tm)).get t = _
        cases Nat.testBit V d with
        | false => rfl
        | true =>
          simp only [cond_true]
          rw [fillT_get, lookT_set hdt, ← fillT_get]
    refine ⟨(h.lex.snoc hi hput).congr hget, h.dom.push, ?_, hobs⟩
    intro t x hx
    show (fillT (d :: sh) (e.val :: st) (tmPush V (some d) e.val tm)).get t = some x
    rw [hget, Tr.get_set]
    have hx' : (cond (Nat.testBit V d) (tm.set d e.val) tm).get t = some x := hx
    by_cases hdt : d = t
    · subst hdt
      rw [if_pos rfl]
      cases hV : Nat.testBit V d with
      | false =>
        rw [hV] at hx'
        have := h.dom d x hx'
        rw [hV] at this; cases this
      | true =>
        rw [hV] at hx'
        simp only [cond_true] at hx'
        rw [Tr.get_set, if_pos rfl] at hx'
        exact hx'
    · rw [if_neg hdt]
      refine h.sub t x ?_
      cases hV : Nat.testBit V d with
      | false => rw [hV] at hx'; exact hx'
      | true =>
        rw [hV] at hx'
        simp only [cond_true] at hx'
        rw [Tr.get_set, if_neg hdt] at hx'
        exact hx'

theorem pend_obs {nx0 : Nat} {sel : Nat → Bool} {L : List Ent} (h : ∀ e ∈ L, e.ob = none) : pend nx0 sel L = [] := by
  induction L with
  | nil => rfl
  | cons e l ih =>
    unfold pend
    rw [h e List.mem_cons_self]
    exact ih fun e' he' => h e' (List.mem_cons_of_mem _ he')
theorem addF_nil (hp : Hp) : addF hp [] = hp := rfl

section
variable {E : Env} {K : Kit E} {n V : Nat} {ops : Array Oper} {nx0 lim : Nat} {tm0 : Tr AV} {T : List Nat → DC}

/-- Where the run of the operations ends. -/
def DEnd (E : Env) (K : Kit E) (n V : Nat) (ops : Array Oper) (nx0 lim : Nat) (tm0 : Tr AV) (T : List Nat → DC) (l : List (Nat × Oper × Nat)) (i : Nat) (done : List Ent) (hs : List Hp) (hp : Hp) (nx A : Nat) (df : List Nat) (r : Ev) : Prop :=
  ∃ es vs shF stF hsF tmF hpF nxF, Facts E K n ops nx0 tm0 (l.map (fun p => p.2.1)) (l.map (fun p => p.2.2)) i done ⟨hp, nx, A⟩ es vs ∧ DInv V tm0 (done ++ es) shF stF tmF ∧ (∀ v ∈ vs, lim ≤ v.nx) ∧
    es.map (fun e => (e.i, e.o, e.m)) = l ∧ (∀ e ∈ es, e.tag = kindO E e.o) ∧ hpF :: hsF = (vs.map Ver.hp).reverse ++ hp :: hs ∧ (lastV vs ⟨hp, nx, A⟩).hp = hpF ∧ (lastV vs ⟨hp, nx, A⟩).nx = nxF ∧
    r = (T shF).app E K lim stF hsF tmF hpF nxF df

theorem beq_eq {a b : Nat} (h : Nat.beq a b = true) : a = b := by rwa [Nat.beq_eq] at h

theorem dR_ok : ∀ (l : List (Nat × Oper × Nat)) (i : Nat) (done : List Ent) (sh : List Nat) (st : List AV) (hs : List Hp) (tm : Tr AV) (hp : Hp) (nx A : Nat) (df : List Nat),
    (∀ (j : Nat) (p : Nat × Oper × Nat), l[j]? = some p → p.1 = i + j) → (∀ p ∈ l, p.2.1.guard = none) → (∀ e ∈ done, e.i < i) → DInv V tm0 done sh st tm →
    (dR E n V T l sh).app E K lim st hs tm hp nx df = .fail ∨ DEnd E K n V ops nx0 lim tm0 T l i done hs hp nx A df ((dR E n V T l sh).app E K lim st hs tm hp nx df)
  | [], i, done, sh, st, hs, tm, hp, nx, A, df, _, _, _, hinv =>
    .inr ⟨[], [], sh, st, hs, tm, hp, nx, ⟨rfl, rfl⟩, by rw [List.append_nil]; exact hinv, (fun v hv => by cases hv), rfl, (fun e he => by cases he), rfl, rfl, rfl, rfl⟩
  | (i', o, m) :: l, i, done, sh, st, hs, tm, hp, nx, A, df, hix, hgd, hlt, hinv => by
    have hi' : i' = i := by have := hix 0 _ rfl; simpa using this
    subst hi'
    have hg : o.guard = none := hgd _ List.mem_cons_self
    have hwant : wantA ops o (fillT sh st tm) = some true := by unfold wantA; rw [hg]
    have hpsS := pS_ok n V o.dst
    have hfresh : ∀ e' ∈ done, e'.i ≠ i' := fun e' he' => by have := hlt e' he'; omega
    have hlt' : ∀ e : Ent, e.i = i' → ∀ e' ∈ done ++ [e], e'.i < i' + 1 := by
      intro e he e' he'
      rcases List.mem_append.1 he' with h1 | h1
      · have := hlt e' h1; omega
      · cases List.mem_singleton.1 h1; omega
    have hix' : ∀ (j : Nat) (p : Nat × Oper × Nat), l[j]? = some p → p.1 = (i' + 1) + j := by
      intro j p hp
      have := hix (j + 1) p (by simpa using hp)
      omega
    have hgd' : ∀ p ∈ l, p.2.1.guard = none := fun p hp => hgd p (List.mem_cons_of_mem _ hp)
    -- one operation that leaves the heap as it is
    have still : ∀ (tag : Nat) (v : AV), (tag = kindO E o) → (tag = 1 ∧ quietOp E (fillT sh st tm) o = some v ∨ tag = 3) → (∀ d, o.dst = some d → d < n) →
        (dR E n V T l (shPush o.dst sh)).app E K lim (stPush o.dst v st) hs (tmPush V o.dst v tm) hp nx df = .fail ∨
        DEnd E K n V ops nx0 lim tm0 T ((i', o, m) :: l) i' done hs hp nx A df ((dR E n V T l (shPush o.dst sh)).app E K lim (stPush o.dst v st) hs (tmPush V o.dst v tm) hp nx df) := by
      intro tag v htag hcase hd
      have hinv' : DInv V tm0 (done ++ [⟨i', o, m, tag, v, none⟩]) (shPush o.dst sh) (stPush o.dst v st) (tmPush V o.dst v tm) := hinv.push (e := ⟨i', o, m, tag, v, none⟩) hfresh hd rfl
      rcases dR_ok l (i' + 1) (done ++ [⟨i', o, m, tag, v, none⟩]) (shPush o.dst sh) (stPush o.dst v st) hs (tmPush V o.dst v tm) hp nx A df hix' hgd' (hlt' _ rfl) hinv' with h | ⟨es, vs, shF, stF, hsF, tmF, hpF, nxF, f1, f2, f3, f4, f5, f6, f7, f8, f9⟩
      · exact .inl h
      · refine .inr ⟨⟨i', o, m, tag, v, none⟩ :: es, vs, shF, stF, hsF, tmF, hpF, nxF, ?_, ?_, f3, ?_, ?_, f6, f7, f8, f9⟩
        · refine ⟨⟨i', o, m, tag, v, none⟩, es, fillT sh st tm, rfl, rfl, rfl, rfl, hinv.lex, hd, ?_⟩
          rcases hcase with ⟨rfl, hq⟩ | rfl
          · exact .inr (.inl ⟨rfl, hwant, hq, rfl, f1⟩)
          · exact .inr (.inr (.inr (.inl ⟨rfl, hwant, rfl, f1⟩)))
        · rw [List.append_cons]; exact f2
        · rw [List.map_cons, f4]
        · intro e he
          rcases List.mem_cons.1 he with rfl | he'
          · exact htag
          · exact f5 e he'
    have hdr : dR E n V T ((i', o, m) :: l) sh = cond (Nat.beq (kindO E o) 1) (dQ (qD sh o) (pS n V o.dst) (dR E n V T l (shPush o.dst sh)))
      (cond (Nat.beq (kindO E o) 3) (match o.op with
        | .load t x => dL (gS sh x) (ld1 t) (pS n V o.dst) (dR E n V T l (shPush o.dst sh))
        | _ => .mk (fun _ _ _ _ _ _ _ _ _ => .fail))
      (cond (Nat.beq (kindO E o) 4) (dE (lS sh o.op.operands.toList) o (pS n V o.dst) (dR E n V T l (shPush o.dst sh))) (.mk (fun _ _ _ _ _ _ _ _ _ => .fail)))) := rfl
    rw [hdr]
    cases hrest : dR E n V T l (shPush o.dst sh) with
    | mk r =>
    rw [hrest] at still
    cases hps : pS n V o.dst with
    | mk p =>
    rw [hps] at hpsS
    cases k1 : Nat.beq (kindO E o) 1 with
    | true =>
      simp only [cond_true]
      have hq := qD_ok sh o
      cases hqd : qD sh o with
      | mk q =>
        rw [hqd] at hq
        show q E st tm (fun v => p v st tm hp nx df (fun st tm hp nx df => r E K lim st hs tm hp nx df)) = .fail ∨ DEnd E K n V ops nx0 lim tm0 T ((i', o, m) :: l) i' done hs hp nx A df (q E st tm (fun v => p v st tm hp nx df (fun st tm hp nx df => r E K lim st hs tm hp nx df)))
        rcases hq E st tm (fun v => p v st tm hp nx df (fun st tm hp nx df => r E K lim st hs tm hp nx df)) with h | ⟨v, h1, h2⟩
        · exact .inl h
        · have h2' : q E st tm (fun v => p v st tm hp nx df (fun st tm hp nx df => r E K lim st hs tm hp nx df)) = p v st tm hp nx df (fun st tm hp nx df => r E K lim st hs tm hp nx df) := h2
          rw [h2']
          rcases hpsS v st tm hp nx df (fun st tm hp nx df => r E K lim st hs tm hp nx df) with h | ⟨h3, h4⟩
          · exact .inl h
          · have h4' : p v st tm hp nx df (fun st tm hp nx df => r E K lim st hs tm hp nx df) = r E K lim (stPush o.dst v st) hs (tmPush V o.dst v tm) hp nx df := h4
            rw [h4']
            exact still 1 v (beq_eq k1).symm (.inl ⟨rfl, h1⟩) h3
    | false =>
      simp only [cond_false]
      cases k3 : Nat.beq (kindO E o) 3 with
      | true =>
        simp only [cond_true]
        split
        · rename_i t x hop
          have hg' := gS_ok sh x
          cases hgs : gS sh x with
          | mk g =>
            rw [hgs] at hg'
            have hg'' : ∀ k, g st tm k = goV (evO (fillT sh st tm) x) k := hg' st tm
            show g st tm (fun u => ld1 t E hp u (fun v => p v st tm hp nx df (fun st tm hp nx df => r E K lim st hs tm hp nx df))) = .fail ∨ DEnd E K n V ops nx0 lim tm0 T ((i', o, m) :: l) i' done hs hp nx A df (g st tm (fun u => ld1 t E hp u (fun v => p v st tm hp nx df (fun st tm hp nx df => r E K lim st hs tm hp nx df))))
            rw [hg'']
            cases evO (fillT sh st tm) x with
            | none => exact .inl rfl
            | some u =>
              simp only [goV]
              rcases ld1_ok t E hp u (fun v => p v st tm hp nx df (fun st tm hp nx df => r E K lim st hs tm hp nx df)) with h | ⟨v, h1, h2⟩
              · exact .inl h
              · rw [h2]
                rcases hpsS v st tm hp nx df (fun st tm hp nx df => r E K lim st hs tm hp nx df) with h | ⟨h3, h4⟩
                · exact .inl h
                · have h4' : p v st tm hp nx df (fun st tm hp nx df => r E K lim st hs tm hp nx df) = r E K lim (stPush o.dst v st) hs (tmPush V o.dst v tm) hp nx df := h4
                  rw [h4']
                  exact still 3 v (beq_eq k3).symm (.inr rfl) h3
        · exact .inl rfl
      | false =>
        simp only [cond_false]
        cases k4 : Nat.beq (kindO E o) 4 with
        | false => exact .inl rfl
        | true =>
          simp only [cond_true]
          have hl := lS_ok sh o.op.operands.toList
          cases hls : lS sh o.op.operands.toList with
          | mk lf =>
            rw [hls] at hl
            have hl' : ∀ k, lf st tm k = goL (evOs (fillT sh st tm) o.op.operands.toList) k := hl st tm
            show lf st tm _ = .fail ∨ DEnd E K n V ops nx0 lim tm0 T ((i', o, m) :: l) i' done hs hp nx A df (lf st tm _)
            rw [hl']
            cases hos : evOs (fillT sh st tm) o.op.operands.toList with
            | none => exact .inl rfl
            | some xs =>
              simp only [goL]
              have hc : effS E K hp nx (opT o.op.operands.toList xs) o = effS E K hp nx (fillT sh st tm) o := effS_congr (fun x hx => opT_ops hos x (Array.mem_toList_iff.2 hx))
              rw [hc]
              cases hef : effS E K hp nx (fillT sh st tm) o with
              | none => exact .inl rfl
              | some q =>
                obtain ⟨v, hp1, nx1⟩ := q
                simp only [forceV_eq, forceT_eq, fN_eq]
                cases hb : Nat.ble lim nx1 with
                | false => exact .inl rfl
                | true =>
                  simp only
                  rcases hpsS v st tm hp1 nx1 df (fun st tm hp' nx' df => r E K lim st (hp :: hs) tm hp' nx' df) with h | ⟨h3, h4⟩
                  · exact .inl h
                  · have h4' : p v st tm hp1 nx1 df (fun st tm hp' nx' df => r E K lim st (hp :: hs) tm hp' nx' df) = r E K lim (stPush o.dst v st) (hp :: hs) (tmPush V o.dst v tm) hp1 nx1 df := h4
                    rw [h4']
                    have hinv' : DInv V tm0 (done ++ [⟨i', o, m, 4, v, none⟩]) (shPush o.dst sh) (stPush o.dst v st) (tmPush V o.dst v tm) := hinv.push (e := ⟨i', o, m, 4, v, none⟩) hfresh h3 rfl
                    have ih := dR_ok l (i' + 1) (done ++ [⟨i', o, m, 4, v, none⟩]) (shPush o.dst sh) (stPush o.dst v st) (hp :: hs) (tmPush V o.dst v tm) hp1 nx1 (A ||| m) df hix' hgd' (hlt' _ rfl) hinv'
                    rw [hrest] at ih
                    rcases ih with h | ⟨es, vs, shF, stF, hsF, tmF, hpF, nxF, f1, f2, f3, f4, f5, f6, f7, f8, f9⟩
                    · exact .inl h
                    · refine .inr ⟨⟨i', o, m, 4, v, none⟩ :: es, ⟨hp1, nx1, A ||| m⟩ :: vs, shF, stF, hsF, tmF, hpF, nxF, ?_, ?_, ?_, ?_, ?_, ?_, f7, f8, f9⟩
                      · refine ⟨⟨i', o, m, 4, v, none⟩, es, fillT sh st tm, rfl, rfl, rfl, rfl, hinv.lex, h3, .inr (.inr (.inr (.inr ⟨rfl, hwant, rfl, ⟨hp1, nx1, A ||| m⟩, vs, rfl, rfl, ?_, f1⟩)))⟩
                        rw [pend_obs hinv.obs, addF_nil]
                        exact hef
                      · rw [List.append_cons]; exact f2
                      · intro v' hv'
                        rcases List.mem_cons.1 hv' with rfl | h5
                        · exact Nat.le_of_ble_eq_true hb
                        · exact f3 v' h5
                      · rw [List.map_cons, f4]
                      · intro e he
                        rcases List.mem_cons.1 he with rfl | he'
                        · exact (beq_eq k4).symm
                        · exact f5 e he'
                      · rw [f6, List.map_cons, List.reverse_cons, List.append_assoc]
                        rfl
end
end Go.Evo
