/- A verified evaluator for the model of Go, part 13: what it reckons of a call, the call does in every world that its abstract heap speaks of. Conditions: none. -/
import Derived.Test.YtffdkcadpkfhoaaGreatDoorEl
import Derived.OrdersIn
import Derived.ControlIn
import Derived.RangeFuncIn
namespace Go.Evo

/-- Every function, every depth; the round whose frame is spoken of. -/
def Fw (r : Option Nat) : Fence := { Fence.wide with round := r }
theorem fw_none : Fw none = Fence.wide := rfl
theorem fw_fenced (r : Option Nat) (P : Program) (m : Machine) : m.fenced P (Fw r) := fenced_wide P m
theorem fw_room (r : Option Nat) (n : Nat) : (Fw r).room n := room_wide n
theorem fw_calls {r : Option Nat} {n : Nat} {P : Program} {f : FuncId} {args : Array Value} {w : World} {R : Ending → World → Prop} (h : Calls P f args w R) : CallsIn (Fw r) n P f args w R :=
  (callsIn_wide (n := n)).2 h

theorem fw_rows {r : Option Nat} {n : Nat} {P : Program} {row : String} {args : Array Value} {w : World} {R : Value → World → Prop} (h : Rows P row args w R) : RowsIn (Fw r) n P row args w R :=
  fun c cs _ => let ⟨v, w', hr, hs⟩ := h c cs; ⟨v, w', hr, stepsIn_wide.2 hs⟩

theorem wp_in {r : Option Nat} {n : Nat} {P : Program} {o : Oper} {a : Act} {w : World} {K : Act → World → Prop} {Q : Exit → Act → World → Prop} (hd : ∀ c, o.op ≠ .defer c) (h : o.wp P a w K Q) : o.wpIn (Fw r) n P a w K Q := by
  refine ⟨fun _ _ => trivial, ?_⟩
  have he : o.semAt (Fw r).round a.eval = execOp a.eval o := Oper.semAt_eq _ _ _ hd
  rw [he]
  unfold Oper.wp at h
  generalize (execOp a.eval o).run P w = q at h ⊢
  cases q with
  | ok x w' =>
    cases x <;> simp only [Oper.upon, Oper.uponIn] at h ⊢ <;> first
      | exact h
      | exact ⟨(fun h => by cases h), fw_calls h⟩
      | exact ⟨(fun h => by cases h), fw_rows h⟩
  | halt x w' => cases x <;> simp only [Oper.upon, Oper.uponIn] at h ⊢ <;> exact h

theorem wpOp_in {r : Option Nat} {n : Nat} {P : Program} {ops : Array Oper} {i : Nat} {a : Act} {w : World} {K : Act → World → Prop} {Q : Exit → Act → World → Prop} (hd : ∀ o ∈ ops, ∀ c, o.op ≠ .defer c) (hQ : ¬ LetsOut Q) (h : wpOp P ops Q i K a w) : wpOpIn (Fw r) n P ops Q i K a w := by
  unfold wpOp at h
  unfold wpOpIn
  cases ho : ops[i]? with
  | none => rw [ho] at h; exact h
  | some o =>
    rw [ho] at h
    simp only at h ⊢
    split
    · rename_i hw
      rw [if_pos hw] at h
      rcases h with h | ⟨_, h⟩
      · exact wp_in (hd o (Array.mem_of_getElem? ho)) h
      · exact absurd h hQ
    · rename_i hw
      rw [if_neg hw] at h
      exact ⟨fun _ _ => trivial, h⟩

theorem wpOps_in {r : Option Nat} {n : Nat} {P : Program} {ops : Array Oper} {Q : Exit → Act → World → Prop} (hd : ∀ o ∈ ops, ∀ c, o.op ≠ .defer c) (hQ : ¬ LetsOut Q) : ∀ (l : List Nat) {a : Act} {w : World}, wpOps P ops Q l a w → wpOpsIn (Fw r) n P ops Q l a w
  | [], a, w, h => h
  | i :: l, a, w, h => by
    rw [wpOps_cons] at h
    rw [wpOpsIn_cons]
    exact wpOpIn_mono (fun a w h => wpOps_in hd hQ l h) (wpOp_in hd hQ h)

theorem wpAny_in {r : Option Nat} {n : Nat} {P : Program} {md : Region.Mode} {ops : Array Oper} {Q : Exit → Act → World → Prop} (hd : ∀ o ∈ ops, ∀ c, o.op ≠ .defer c) (hQ : ¬ LetsOut Q) : ∀ (fuel : Nat) {listed : Array Bool} {a : Act} {w : World}, wpAny P md ops Q fuel listed a w → wpAnyIn (Fw r) n P md ops Q fuel listed a w
  | 0, _, _, _, h => h
  | fuel + 1, _, _, _, h => ⟨h.1, fun i hi => wpOpIn_mono (fun _a _w h => wpAny_in hd hQ fuel h) (wpOp_in hd hQ (h.2 i hi))⟩

/-- No operation of a region is a defer statement. -/
noncomputable def noDef : List Oper → Bool
  | [] => true
  | o :: l => match o.op with
    | .defer _ => false
    | _ => noDef l
theorem noDef_spec : ∀ {l : List Oper}, noDef l = true → ∀ o ∈ l, ∀ c, o.op ≠ .defer c
  | [], _, o, ho, _ => by cases ho
  | o' :: l, h, o, ho, c => by
    unfold noDef at h
    intro hc
    split at h
    · cases h
    · rename_i hnd
      rcases List.mem_cons.1 ho with rfl | ho'
      · exact hnd _ hc
      · exact noDef_spec h o ho' c hc
/-- Code that is walked in a round. -/
noncomputable def roundOk (E : Env) : Code → Bool
  | .skip => true
  | .region _ ops true => cond (noDef ops.toList) (okD E ops) false
  | .region _ ops false => noDef ops.toList
  | .seq a b => cond (roundOk E a) (roundOk E b) false
  | .cond _ a b => cond (roundOk E a) (roundOk E b) false
  | .block _ a => roundOk E a
  | .exit _ => true
  | .ret => true
  | .label _ => true
  | _ => false

def CfI (r : Option Nat) (m : Nat) (E : Env) (K : Kit E) (n V : Nat) (c : Code) (f : CF) : Prop := ∀ (fuel : Nat) (ρ : Rho) (s : St) (a : Act) (w : World) (e : Ev), SR E n ρ s a w → DomV V s.tm → f.app E K fuel s = e → e ≠ .fail → c.wpIn (Fw r) m E.P (fun x a' w' => EvQ E n ρ s w e x a' w' ∧ a'.defers = a.defers) a w

theorem evq_out {E : Env} {n : Nat} {ρ : Rho} {s : St} {w : World} {e : Ev} {ds : List Deferred} (he : e ≠ .fail) : ¬ LetsOut (fun x a' w' => EvQ E n ρ s w e x a' w' ∧ a'.defers = ds) := by
  rintro ⟨a, w', h, _⟩
  cases e with
  | fail => exact he rfl
  | norm s' => cases h.1
  | exit id s' => cases h.1
  | ret s' => cases h.1

theorem stepR_keep {E : Env} (ok : E.Ok) {K : Kit E} (hc : CallOk E K.cf) (hen : Enters E K.cf) {n : Nat} {ρ : Rho} {o : Oper} {tm : Tr AV} {hp hp' : Hp} {nx nx' : Nat} {df df' : List Nat} {v : AV} {a : Act} {w : World} (r : E.R ρ hp nx w) (ht : TmR ρ n tm a.tmps) (hdf : DfR df a.defers) (hnd : ∀ c, o.op ≠ .defer c)
    (h : StepR E K o tm hp nx df v hp' nx' df') (Q : Exit → Act → World → Prop) : o.wp E.P a w (fun a' w' => ∃ vc ρ', a' = a.put o.dst vc ∧ VR ρ' v vc ∧ E.R ρ' hp' nx' w' ∧ G ρ hp nx w ρ' hp' nx' w' ∧ df' = df) Q := by
  have did : ∀ {v : AV} {hp' : Hp} {nx' : Nat}, Did E ρ hp nx w v hp' nx' ((execOp a.eval o).run E.P w) → o.wp E.P a w (fun a' w' => ∃ vc ρ', a' = a.put o.dst vc ∧ VR ρ' v vc ∧ E.R ρ' hp' nx' w' ∧ G ρ hp nx w ρ' hp' nx' w' ∧ df = df) Q := by
    rintro v hp' nx' ⟨vc, w', ρ', hres, hv, hr, hg⟩
    unfold Oper.wp
    rcases hres with hres | ⟨hres, rfl⟩
    · rw [hres]; exact ⟨vc, ρ', rfl, hv, hr, hg, rfl⟩
    · rw [hres]; exact ⟨undef, ρ', rfl, hv, hr, hg, rfl⟩
  rcases h with ⟨h, rfl, rfl, rfl⟩ | ⟨h, rfl, rfl, rfl⟩ | ⟨h, rfl⟩ | ⟨h, rfl⟩ | ⟨h, rfl⟩ | ⟨g, xs, hcal, hcf, rfl⟩ | ⟨g, hd, rfl, rfl, rfl, rfl⟩
  · obtain ⟨v', q1, q2⟩ := quiet_ok ok (w := w) ht h
    exact did ⟨v', w, ρ, .inl q1, q2, r, G.refl _ _ _ _⟩
  · obtain ⟨v', q1, q2⟩ := read_ok ok r ht h
    exact did ⟨v', w, ρ, .inl q1, q2, r, G.refl _ _ _ _⟩
  · exact did (eff_ok ok r ht h)
  · exact did (fastOp_ok ok r ht h)
  · exact did (xOp_ok r ht h)
  · obtain ⟨vs, q1, q2⟩ := callee_ok hen hcf ht hcal w
    unfold Oper.wp
    rw [q1]
    refine (hc g xs hp nx v hp' nx' hcf ρ w vs r q2).mono ?_
    rintro e w' ⟨vc, ρ', rfl, hv, hr, hg⟩
    exact ⟨vc, ρ', rfl, hv, hr, hg, rfl⟩
  · exfalso
    unfold deferOf at hd
    split at hd
    · rename_i c hop; exact hnd c hop
    · cases hd

theorem regR_keep {E : Env} (ok : E.Ok) {K : Kit E} (hc : CallOk E K.cf) (hen : Enters E K.cf) {n V : Nat} {ops : Array Oper} (hnd : ∀ o ∈ ops, ∀ c, o.op ≠ .defer c) {s' : St} {Q : Exit → Act → World → Prop} : ∀ (l : List Oper) (i : Nat) {ρ : Rho} {sh : List Nat} {st : List AV} {tm : Tr AV} {hp : Hp} {nx : Nat} {df : List Nat} {a : Act} {w : World},
    (∀ j, j < l.length → ops[i + j]? = l[j]?) → SRS E n V ρ sh st tm hp nx df a w → (regR n V ops l sh).app E K st tm hp nx df = .norm s' →
    (∀ a' w', (∃ ρ', SR E n ρ' s' a' w' ∧ G ρ hp nx w ρ' s'.hp s'.nx w') → a'.defers = a.defers → Q .normal a' w') → wpOps E.P ops Q (List.range' i l.length) a w
  | [], i, ρ, sh, st, tm, hp, nx, df, a, w, _, hs, h, hQ => by
    have h' : Ev.norm ⟨tm, hp, nx, df⟩ = .norm s' := h
    cases h'
    exact hQ a w ⟨ρ, ⟨hs.tv, hs.r, hs.df⟩, G.refl _ _ _ _⟩ rfl
  | o :: l, i, ρ, sh, st, tm, hp, nx, df, a, w, hl, hs, h, hQ => by
    have ho : ops[i]? = some o := by have := hl 0 (by simp); simpa using this
    have hl' : ∀ j, j < l.length → ops[i + 1 + j]? = l[j]? := fun j hj => by
      have := hl (j + 1) (by simp only [List.length_cons]; omega)
      rw [show i + 1 + j = i + (j + 1) by omega]
      simpa using this
    rw [regR_cons] at h
    rcases sG_ok (ops := ops) (sopU_ok n V sh o) E K st tm hp nx df ((regR n V ops l (shPush o.dst sh)).app E K) with h1 | ⟨tmX, v, hp1, nx1, df1, hX, hstep, hd, h4⟩
    · rw [h1] at h; cases h
    · rw [h4] at h
      simp only [List.length_cons, List.range'_succ]
      unfold wpOps
      rw [ho]
      simp only
      rcases hstep with ⟨hwa, hst⟩ | ⟨hwa, rfl, rfl, rfl, rfl⟩
      · rw [wantA_ok hs.all hwa]
        simp only [if_true]
        left
        refine Oper.wp_mono ?_ (stepR_keep ok hc hen hs.r (hX.tmR hs.all) hs.df (hnd o (Array.mem_of_getElem? ho)) hst Q)
        rintro a1 w1 ⟨vc, ρ1, rfl, hv, hr1, hg, rfl⟩
        exact regR_keep ok hc hen hnd l (i + 1) hl' (hs.push hg.ext rfl hv hr1 hs.df hd) h fun a' w' hb hdd => by
          obtain ⟨ρ', q1, q2⟩ := hb
          exact hQ a' w' ⟨ρ', q1, hg.trans q2⟩ (hdd.trans (put_defers _ _ _))
      · rw [wantA_ok hs.all hwa]
        simp only [Bool.false_eq_true, if_false]
        exact regR_keep ok hc hen hnd l (i + 1) hl' (hs.push (G.refl ρ hp1 nx1 w).ext rfl (vr_undef ρ) hs.r hs.df hd) h fun a' w' hb hdd => hQ a' w' hb (hdd.trans (put_defers _ _ _))

section
variable {r : Option Nat} {m : Nat} {E : Env} {K : Kit E} {n V : Nat} (ok : E.Ok) (hc : CallOk E K.cf) (hen : Enters E K.cf)
theorem cfI_seq {x y : Code} {f g : CF} (hx : CfI r m E K n V x f) (hkx : Keeps E K V f) (hy : CfI r m E K n V y g) : CfI r m E K n V (.seq x y) (seqC f g) := by
  intro fuel ρ s a w e hs hd h hr
  have h' : Ev.rec (motive := fun _ => Ev) .fail (fun s' => g.app E K fuel s') (fun id s' => .exit id s') (fun s' => .ret s') (f.app E K fuel s) = e := h
  have hk := hkx fuel s hd
  apply wpIn_seq
  cases hf : f.app E K fuel s with
  | fail => rw [hf] at h'; exact absurd h'.symm hr
  | norm s1 =>
    rw [hf] at h' hk
    refine wpIn_mono (hx fuel ρ s a w _ hs hd hf (by simp)) ?_
    rintro e a1 w1 ⟨⟨rfl, ρ1, h1, h2⟩, hdd⟩
    exact wpIn_mono (hy fuel ρ1 s1 a1 w1 _ h1 hk h' hr) fun e a2 w2 h3 => ⟨h3.1.trans h2, h3.2.trans hdd⟩
  | exit id s1 =>
    rw [hf] at h'
    have h'' : Ev.exit id s1 = e := h'
    subst h''
    refine wpIn_mono (hx fuel ρ s a w _ hs hd hf (by simp)) ?_
    rintro e a1 w1 ⟨⟨rfl, h1⟩, hdd⟩
    exact ⟨⟨rfl, h1⟩, hdd⟩
  | ret s1 =>
    rw [hf] at h'
    have h'' : Ev.ret s1 = e := h'
    subst h''
    refine wpIn_mono (hx fuel ρ s a w _ hs hd hf (by simp)) ?_
    rintro e a1 w1 ⟨⟨rfl, h1⟩, hdd⟩
    exact ⟨⟨rfl, h1⟩, hdd⟩
theorem cfI_cond {c : Operand} {x y : Code} {f g : CF} (hx : CfI r m E K n V x f) (hy : CfI r m E K n V y g) : CfI r m E K n V (.cond c x y) (condC c f g) := by
  intro fuel ρ s a w e hs hd h hr
  have h' : (match (gC c).app s.tm with
    | some (.bool t) => Bool.rec (motive := fun _ => Ev) (g.app E K fuel s) (f.app E K fuel s) t
    | _ => .fail) = e := h
  rw [gC_eq] at h'
  split at h'
  · rename_i t hb
    have hv := evO_ok hs.tm hb
    unfold VR at hv
    cases t with
    | true => exact wpIn_cond hv (hx fuel ρ s a w e hs hd h' hr)
    | false => exact wpIn_cond hv (hy fuel ρ s a w e hs hd h' hr)
  · exact absurd h'.symm hr
theorem cfI_block {id : Nat} {x : Code} {f : CF} (hx : CfI r m E K n V x f) : CfI r m E K n V (.block id x) (blockC id f) := by
  intro fuel ρ s a w e hs hd h hr
  have h' : Ev.rec (motive := fun _ => Ev) .fail (fun s' => .norm s') (fun id' s' => Bool.rec (motive := fun _ => Ev) (.exit id' s') (.norm s') (Nat.beq id' id)) (fun s' => .ret s') (f.app E K fuel s) = e := h
  apply wpIn_block
  cases hf : f.app E K fuel s with
  | fail => rw [hf] at h'; exact absurd h'.symm hr
  | norm s1 =>
    rw [hf] at h'
    have h'' : Ev.norm s1 = e := h'
    subst h''
    refine wpIn_mono (hx fuel ρ s a w _ hs hd hf (by simp)) ?_
    rintro e a1 w1 ⟨⟨rfl, h1⟩, hdd⟩
    exact ⟨⟨rfl, h1⟩, hdd⟩
  | ret s1 =>
    rw [hf] at h'
    have h'' : Ev.ret s1 = e := h'
    subst h''
    refine wpIn_mono (hx fuel ρ s a w _ hs hd hf (by simp)) ?_
    rintro e a1 w1 ⟨⟨rfl, h1⟩, hdd⟩
    exact ⟨⟨rfl, h1⟩, hdd⟩
  | exit id' s1 =>
    rw [hf] at h'
    have h'' : Bool.rec (motive := fun _ => Ev) (.exit id' s1) (.norm s1) (Nat.beq id' id) = e := h'
    refine wpIn_mono (hx fuel ρ s a w _ hs hd hf (by simp)) ?_
    rintro e1 a1 w1 ⟨⟨rfl, h1⟩, hdd⟩
    show if id' = id then (EvQ E n ρ s w e .normal a1 w1 ∧ a1.defers = a.defers) else (EvQ E n ρ s w e (.exit id') a1 w1 ∧ a1.defers = a.defers)
    cases hb : Nat.beq id' id with
    | true =>
      rw [hb] at h''
      rw [Nat.beq_eq] at hb
      rw [if_pos hb]
      have h3 : Ev.norm s1 = e := h''
      subst h3
      exact ⟨⟨rfl, h1⟩, hdd⟩
    | false =>
      rw [hb] at h''
      have hne : id' ≠ id := by
        intro he
        subst he
        simp at hb
      rw [if_neg hne]
      have h3 : Ev.exit id' s1 = e := h''
      subst h3
      exact ⟨⟨rfl, h1⟩, hdd⟩
include ok hc hen in
theorem cfI_reg (id : Nat) {ops : Array Oper} (hnd : noDef ops.toList = true) : CfI r m E K n V (.region id ops false) (regV n V ops) := by
  intro fuel ρ s a w e hs hd h hr
  have hd' : ∀ o ∈ ops, ∀ c, o.op ≠ .defer c := fun o ho => noDef_spec hnd o (Array.mem_toList_iff.2 ho)
  rw [regV_app] at h
  rcases regR_pure (E := E) (K := K) (n := n) (ops := ops) ops.toList [] [] s.tm s.hp s.nx s.df hd with h1 | ⟨s', h1, h2⟩
  · rw [h1] at h; exact absurd h.symm hr
  · rw [h1] at h
    subst h
    refine wpIn_region ?_
    have := regR_keep ok hc hen hd' (V := V) (n := n) (s' := s') (Q := fun x a' w' => EvQ E n ρ s w (.norm s') x a' w' ∧ a'.defers = a.defers) ops.toList 0 (sh := []) (st := []) (fun j _ => by simp) ⟨hs.tm, hs.tm, hd, hs.r, hs.df⟩ h1 (fun a' w' hb hdd => ⟨⟨rfl, hb⟩, hdd⟩)
    rw [Array.length_toList] at this
    rw [List.range_eq_range']
    exact wpOps_in hd' (evq_out (by simp)) _ this
include ok hc hen in
theorem cfI_draw (id : Nat) {ops : Array Oper} (hnd : noDef ops.toList = true) (hok : okD E ops = true) : CfI r m E K n V (.region id ops true) (drawD E n V ops) := by
  intro fuel ρ s a w e hs hd h hr
  have hd' : ∀ o ∈ ops, ∀ c, o.op ≠ .defer c := fun o ho => noDef_spec hnd o (Array.mem_toList_iff.2 ho)
  exact wpIn_region_any ok.mixed (wpAny_in hd' (evq_out hr) _ (drawD_any ok hc hen hok fuel ρ s a w e hs hd h hr))
include ok hc hen in
theorem cfI_ok : ∀ (c : Code), roundOk E c = true → CfI r m E K n V c (cfW E n V c)
  | .skip, _ => fun fuel ρ s a w e hs _ h hr => by
    have h' : Ev.norm s = e := h
    subst h'
    exact wpIn_skip ⟨⟨rfl, behind_refl hs⟩, rfl⟩
  | .region id ops true, h => by
    have h' : cond (noDef ops.toList) (okD E ops) false = true := h
    rw [cond_true_iff] at h'
    show CfI r m E K n V (.region id ops true) (cond (okD E ops) (drawD E n V ops) (drawV n V ops))
    rw [h'.2]
    exact cfI_draw ok hc hen id h'.1 h'.2
  | .region id ops false, h => cfI_reg ok hc hen id h
  | .seq x y, h => by
    have h' : cond (roundOk E x) (roundOk E y) false = true := h
    rw [cond_true_iff] at h'
    exact cfI_seq (cfI_ok x h'.1) (cfW_keeps x) (cfI_ok y h'.2)
  | .cond c x y, h => by
    have h' : cond (roundOk E x) (roundOk E y) false = true := h
    rw [cond_true_iff] at h'
    exact cfI_cond (cfI_ok x h'.1) (cfI_ok y h'.2)
  | .block id x, h => cfI_block (cfI_ok x h)
  | .exit id, _ => fun fuel ρ s a w e hs _ h hr => by
    have h' : Ev.exit id s = e := h
    subst h'
    exact wpIn_exit ⟨⟨rfl, behind_refl hs⟩, rfl⟩
  | .ret, _ => fun fuel ρ s a w e hs _ h hr => by
    have h' : Ev.ret s = e := h
    subst h'
    exact wpIn_ret ⟨⟨rfl, behind_refl hs⟩, rfl⟩
  | .label l, _ => fun fuel ρ s a w e hs _ h hr => by
    have h' : Ev.norm s = e := h
    subst h'
    exact wpIn_label ⟨⟨rfl, behind_refl hs⟩, rfl⟩
  | .loop x, h => by cases h
  | .scope x, h => by cases h
  | .rangeFunc f p as body, h => by cases h
  | .goto l, h => by cases h
  | .refuse _, h => by cases h
end
end Go.Evo
namespace Go.Evo

/-- What a round comes to: the arguments, the heap; the heap behind it. -/
abbrev YH := List AV → Hp → Nat → Option (Hp × Nat)
noncomputable def memN (y : Nat) : List Nat → Bool
  | [] => false
  | z :: l => cond (Nat.beq z y) true (memN y l)
theorem memN_iff {y : Nat} : ∀ {l : List Nat}, memN y l = true ↔ y ∈ l
  | [] => by simp [memN]
  | z :: l => by
    unfold memN
    cases h : Nat.beq z y with
    | true => have := beq_eq h; subst this; simp
    | false =>
      simp only [cond_false, List.mem_cons]
      rw [memN_iff]
      constructor
      · exact .inr
      · rintro (rfl | h')
        · simp at h
        · exact h'
/-- A move of the yield to a fresh temporary. -/
noncomputable def moveY (n V : Nat) (Y sh : List Nat) (o : Oper) : Option (Nat × Nat) := match o.guard with
  | some _ => none
  | none => (match o.op, o.dst with
    | .move (.tmp y), some d => cond (memN y Y) (cond (memN d Y) none (cond (memN d sh) none (cond (Nat.testBit V d) none (cond (Nat.blt d n) (some (y, d)) none)))) none
    | _, _ => none)
/-- A call of it. -/
noncomputable def callY (Y : List Nat) (o : Oper) : Option (Nat × List Operand) := match o.guard with
  | some _ => none
  | none => (match o.op with
    | .call ⟨.value (.tmp y), args, _⟩ => cond (memN y Y) (some (y, args.toList)) none
    | _ => none)
noncomputable def dstOut (Y : List Nat) (o : Oper) : Bool := match o.dst with
  | none => true
  | some d => cond (memN d Y) false true

abbrev YF := (E : Env) → Kit E → YH → List AV → Tr AV → Hp → Nat → List Nat → Ev
inductive YC where
  | mk (f : YF)
noncomputable def YC.app (c : YC) : YF := YC.rec (motive := fun _ => YF) (fun f => f) c
noncomputable def yFail : YC := .mk (fun _ _ _ _ _ _ _ _ => .fail)
noncomputable def yPlain (c : SOp) (r : YC) : YC := SOp.rec (motive := fun _ => YC) (fun c => YC.rec (motive := fun _ => YC) (fun r => .mk (fun E K y st tm hp nx df => c E K st tm hp nx df (fun st tm hp nx df => r E K y st tm hp nx df))) r) c
noncomputable def yCall (l : LK) (p : PK) (r : YC) : YC := LK.rec (motive := fun _ => YC) (fun l => PK.rec (motive := fun _ => YC) (fun p => YC.rec (motive := fun _ => YC) (fun r =>
  .mk (fun E K y st tm hp nx df => l st tm (fun xs => Option.rec (motive := fun _ => Ev) .fail (fun q => Prod.rec (motive := fun _ => Ev) (fun hp' nx' => p (.bool true) st tm hp' nx' df (fun st tm hp nx df => r E K y st tm hp nx df)) q) (y xs hp nx)))) r) p) l
noncomputable def regY (n V : Nat) (ops : Array Oper) : List Oper → List Nat → List Nat → YC
  | [], _, _ => .mk (fun _ _ _ _ tm hp nx df => .norm ⟨tm, hp, nx, df⟩)
  | o :: l, Y, sh => match moveY n V Y sh o with
    | some (_, d) => regY n V ops l (d :: Y) sh
    | none => cond (dstOut Y o) (match callY Y o with
      | some (_, args) => yCall (lS sh args) (pS n V o.dst) (regY n V ops l Y (shPush o.dst sh))
      | none => yPlain (sG ops sh o (sopU n V sh o) (pS n V o.dst)) (regY n V ops l Y (shPush o.dst sh))) yFail

def Yv (l : Nat) : Value := .func (.yield l) #[] #[]
/-- The handler serves, from a state on. -/
def YOk (E : Env) (m l : Nat) (ρ0 : Rho) (hp0 : Hp) (nx0 : Nat) (w0 : World) (y : YH) : Prop := ∀ xs hp nx hp' nx', y xs hp nx = some (hp', nx') → ∀ ρ w (vs : Array Value), G ρ0 hp0 nx0 w0 ρ hp nx w → E.R ρ hp nx w → VRs ρ xs vs.toList →
  ∃ fn tmps assign body, (Instr.yield l vs).run E.P w = .ok (.round l fn tmps assign body) w ∧ RoundIn (Fw none) m E.P l fn tmps assign body w (fun e w' => e = .returned (.bool true) ∧ ∃ ρ', E.R ρ' hp' nx' w' ∧ G ρ hp nx w ρ' hp' nx' w')

theorem fillT_none {sh : List Nat} {d : Nat} (hd : memN d sh = false) : ∀ {st : List AV} {tm : Tr AV}, (∀ x, tm.get d ≠ some x) → ∀ x, (fillT sh st tm).get d ≠ some x := by
  induction sh with
  | nil => intro st tm h; exact h
  | cons z sh ih =>
    intro st tm h x hx
    unfold memN at hd
    cases hz : Nat.beq z d with
    | true => rw [hz] at hd; cases hd
    | false =>
      rw [hz] at hd
      rw [fillT_get] at hx
      cases st with
      | nil => cases hx
      | cons v st =>
        have hx' : cond (Nat.beq z d) (some v) (lookT sh st tm d) = some x := hx
        rw [hz] at hx'
        exact ih hd h x (by rw [fillT_get]; exact hx')

section
variable {E : Env} (ok : E.Ok) {K : Kit E} (hc : CallOk E K.cf) (hen : Enters E K.cf) {n V m l0 : Nat} {ops : Array Oper} {y : YH} {ρ0 : Rho} {hp0 : Hp} {nx0 : Nat} {w0 : World}

theorem yPlain_app (c : SOp) (r : YC) (st : List AV) (tm : Tr AV) (hp : Hp) (nx : Nat) (df : List Nat) : (yPlain c r).app E K y st tm hp nx df = c.app E K st tm hp nx df (r.app E K y) := by
  cases c; cases r; rfl

theorem regY_norm : ∀ (l : List Oper) (Y sh : List Nat) (st : List AV) (tm : Tr AV) (hp : Hp) (nx : Nat) (df : List Nat), (regY n V ops l Y sh).app E K y st tm hp nx df = .fail ∨ ∃ s', (regY n V ops l Y sh).app E K y st tm hp nx df = .norm s'
  | [], Y, sh, st, tm, hp, nx, df => .inr ⟨_, rfl⟩
  | o :: l, Y, sh, st, tm, hp, nx, df => by
    have heq : regY n V ops (o :: l) Y sh = match moveY n V Y sh o with
      | some (_, d) => regY n V ops l (d :: Y) sh
      | none => cond (dstOut Y o) (match callY Y o with
        | some (_, args) => yCall (lS sh args) (pS n V o.dst) (regY n V ops l Y (shPush o.dst sh))
        | none => yPlain (sG ops sh o (sopU n V sh o) (pS n V o.dst)) (regY n V ops l Y (shPush o.dst sh))) yFail := rfl
    rw [heq]
    cases moveY n V Y sh o with
    | some q => exact regY_norm l _ _ st tm hp nx df
    | none =>
      simp only
      cases dstOut Y o with
      | false => exact .inl rfl
      | true =>
        simp only [cond_true]
        cases callY Y o with
        | some q =>
          obtain ⟨yy, args⟩ := q
          simp only
          have hl1 := lS_ok sh args
          have hpp := pS_ok n V o.dst
          have ih := regY_norm l Y (shPush o.dst sh)
          cases hls : lS sh args with
          | mk lf => cases hps : pS n V o.dst with
            | mk p => cases hrr : regY n V ops l Y (shPush o.dst sh) with
              | mk r =>
                rw [hls] at hl1
                rw [hps] at hpp
                rw [hrr] at ih
                have hl2 : ∀ k, lf st tm k = goL (evOs (fillT sh st tm) args) k := hl1 st tm
                show lf st tm _ = .fail ∨ ∃ s', lf st tm _ = .norm s'
                rw [hl2]
                cases evOs (fillT sh st tm) args with
                | none => exact .inl rfl
                | some xs =>
                  simp only [goL]
                  cases y xs hp nx with
                  | none => exact .inl rfl
                  | some q =>
                    obtain ⟨hp1, nx1⟩ := q
                    simp only
                    rcases hpp (.bool true) st tm hp1 nx1 df (fun st tm hp nx df => r E K y st tm hp nx df) with h | ⟨_, h⟩
                    · exact .inl h
                    · have h' : p (.bool true) st tm hp1 nx1 df (fun st tm hp nx df => r E K y st tm hp nx df) = r E K y (stPush o.dst (.bool true) st) (tmPush V o.dst (.bool true) tm) hp1 nx1 df := h
                      rw [h']
                      exact ih _ _ _ _ _
        | none =>
          simp only
          rw [yPlain_app]
          rcases sG_ok (ops := ops) (sopU_ok n V sh o) E K st tm hp nx df ((regY n V ops l Y (shPush o.dst sh)).app E K y) with h1 | ⟨_, v, hp1, nx1, df1, _, _, _, h4⟩
          · exact .inl h1
          · rw [h4]; exact regY_norm l _ _ _ _ _ _ _

include ok hc hen in
theorem regY_ok (hy : YOk E m l0 ρ0 hp0 nx0 w0 y) {s' : St} {Q : Exit → Act → World → Prop} (hnd : ∀ o ∈ ops, ∀ c, o.op ≠ .defer c) (hQo : ¬ LetsOut Q) {y0 : Nat} : ∀ (l : List Oper) (i : Nat) {Y : List Nat} {ρ : Rho} {sh : List Nat} {st : List AV} {tm : Tr AV} {hp : Hp} {nx : Nat} {df : List Nat} {a : Act} {w : World},
    (∀ j, j < l.length → ops[i + j]? = l[j]?) → SRS E n V ρ sh st tm hp nx df a w → G ρ0 hp0 nx0 w0 ρ hp nx w → y0 ∈ Y → (∀ t ∈ Y, a.tmps[t]? = some (Yv l0)) → (regY n V ops l Y sh).app E K y st tm hp nx df = .norm s' →
    (∀ a' w', DomV V s'.tm → a'.tmps[y0]? = some (Yv l0) → (∃ ρ', SR E n ρ' s' a' w' ∧ G ρ hp nx w ρ' s'.hp s'.nx w') → Q .normal a' w') → wpOpsIn (Fw none) (m + 1) E.P ops Q (List.range' i l.length) a w
  | [], i, Y, ρ, sh, st, tm, hp, nx, df, a, w, _, hs, _, hy0, hY, h, hQ => by
    have h' : Ev.norm ⟨tm, hp, nx, df⟩ = .norm s' := h
    cases h'
    exact hQ a w hs.dom (hY y0 hy0) ⟨ρ, ⟨hs.tv, hs.r, hs.df⟩, G.refl _ _ _ _⟩
  | o :: l, i, Y, ρ, sh, st, tm, hp, nx, df, a, w, hl, hs, hG, hy0, hY, h, hQ => by
    have ho : ops[i]? = some o := by have := hl 0 (by simp); simpa using this
    have hl' : ∀ j, j < l.length → ops[i + 1 + j]? = l[j]? := fun j hj => by
      have := hl (j + 1) (by simp only [List.length_cons]; omega)
      rw [show i + 1 + j = i + (j + 1) by omega]
      simpa using this
    simp only [List.length_cons, List.range'_succ]
    rw [wpOpsIn_cons]
    unfold wpOpIn
    rw [ho]
    simp only
    have heq : regY n V ops (o :: l) Y sh = match moveY n V Y sh o with
      | some (_, d) => regY n V ops l (d :: Y) sh
      | none => cond (dstOut Y o) (match callY Y o with
        | some (_, args) => yCall (lS sh args) (pS n V o.dst) (regY n V ops l Y (shPush o.dst sh))
        | none => yPlain (sG ops sh o (sopU n V sh o) (pS n V o.dst)) (regY n V ops l Y (shPush o.dst sh))) yFail := rfl
    rw [heq] at h
    cases hmv : moveY n V Y sh o with
    | some q =>
      obtain ⟨yy, d⟩ := q
      rw [hmv] at h
      simp only at h
      -- the move of the yield
      have inv : o.guard = none ∧ o.op = .move (.tmp yy) ∧ o.dst = some d ∧ yy ∈ Y ∧ memN d Y = false ∧ memN d sh = false ∧ Nat.testBit V d = false ∧ d < n := by
        unfold moveY at hmv
        cases hg : o.guard with
        | some _ => rw [hg] at hmv; cases hmv
        | none =>
          rw [hg] at hmv
          simp only at hmv
          split at hmv
          · rename_i y' d' hop hdst
            cases e1 : memN y' Y <;> rw [e1] at hmv <;> simp only [cond_true, cond_false] at hmv <;> try (cases hmv; done)
            cases e2 : memN d' Y <;> rw [e2] at hmv <;> simp only [cond_true, cond_false] at hmv <;> try (cases hmv; done)
            cases e3 : memN d' sh <;> rw [e3] at hmv <;> simp only [cond_true, cond_false] at hmv <;> try (cases hmv; done)
            cases e4 : Nat.testBit V d' <;> rw [e4] at hmv <;> simp only [cond_true, cond_false] at hmv <;> try (cases hmv; done)
            cases e5 : Nat.blt d' n <;> rw [e5] at hmv <;> simp only [cond_true, cond_false] at hmv <;> try (cases hmv; done)
            cases hmv
            exact ⟨rfl, hop, hdst, memN_iff.1 e1, e2, e3, e4, blt_iff.1 e5⟩
          · cases hmv
      obtain ⟨hg, hop, hdst, hyY, hdY, hdsh, hVd, hdn⟩ := inv
      have hw : Region.wanted o (yielded ops a.tmps) = true := by unfold Region.wanted; rw [hg]
      rw [if_pos hw]
      have hval : a.eval (.tmp yy) = Yv l0 := by
        show a.tmps.getD yy undef = _
        rw [Array.getD_eq_getD_getElem?, hY yy hyY]; rfl
      have hrun : (o.semAt (Fw none).round a.eval).run E.P w = .ok (.value (Yv l0)) w := by
        show (execOp a.eval o).run E.P w = _
        unfold execOp
        rw [hop]
        simp only [hval]
        rfl
      refine ⟨fun _ _ => trivial, ?_⟩
      rw [hrun]
      show wpOpsIn (Fw none) (m + 1) E.P ops Q (List.range' (i + 1) l.length) (a.put o.dst (Yv l0)) w
      rw [hdst]
      have htn : ∀ x, tm.get d ≠ some x := fun x hx => by have := hs.dom d x hx; rw [hVd] at this; cases this
      have hs' : SRS E n V ρ sh st tm hp nx df (a.put (some d) (Yv l0)) w :=
        ⟨TmR.put_none hs.all (fillT_none hdsh htn), TmR.put_none hs.tv htn, hs.dom, hs.r, by rw [put_defers]; exact hs.df⟩
      refine regY_ok hy hnd hQo l (i + 1) hl' hs' hG (List.mem_cons_of_mem d hy0) ?_ h (fun a' w' hd ha hb => hQ a' w' hd ha hb)
      intro t ht
      show (a.tmps.setIfInBounds d (Yv l0))[t]? = _
      rcases List.mem_cons.1 ht with rfl | ht'
      · exact Array.getElem?_setIfInBounds_self_of_lt (by rw [hs.tv.size]; exact hdn)
      · have hne : d ≠ t := by rintro rfl; rw [← Bool.not_eq_true, memN_iff] at hdY; exact hdY ht'
        rw [Array.getElem?_setIfInBounds_ne hne]
        exact hY t ht'
    | none =>
      rw [hmv] at h
      simp only at h
      cases hdo : dstOut Y o with
      | false => rw [hdo] at h; cases h
      | true =>
        rw [hdo] at h
        simp only [cond_true] at h
        have keepY : ∀ (a0 : Act) (vc : Value), a0.tmps = a.tmps → ∀ t ∈ Y, (a0.put o.dst vc).tmps[t]? = some (Yv l0) := by
          intro a0 vc ht0 t ht
          unfold dstOut at hdo
          cases hdst : o.dst with
          | none => show a0.tmps[t]? = _; rw [ht0]; exact hY t ht
          | some d =>
            rw [hdst] at hdo
            simp only at hdo
            have hne : d ≠ t := by
              rintro rfl
              rw [memN_iff.2 ht] at hdo
              cases hdo
            show (a0.tmps.setIfInBounds d vc)[t]? = _
            rw [Array.getElem?_setIfInBounds_ne hne, ht0]
            exact hY t ht
        cases hcy : callY Y o with
        | some q =>
          obtain ⟨yy, args⟩ := q
          rw [hcy] at h
          simp only at h
          have inv : o.guard = none ∧ (∃ as ts, o.op = .call ⟨.value (.tmp yy), as, ts⟩ ∧ args = as.toList) ∧ yy ∈ Y := by
            unfold callY at hcy
            cases hg : o.guard with
            | some _ => rw [hg] at hcy; cases hcy
            | none =>
              rw [hg] at hcy
              simp only at hcy
              split at hcy
              · rename_i y' as ts hop
                cases e1 : memN y' Y <;> rw [e1] at hcy <;> simp only [cond_true, cond_false] at hcy <;> try (cases hcy; done)
                cases hcy
                exact ⟨rfl, ⟨as, ts, hop, rfl⟩, memN_iff.1 e1⟩
              · cases hcy
          obtain ⟨hg, ⟨as, ts, hop, rfl⟩, hyY⟩ := inv
          have hw : Region.wanted o (yielded ops a.tmps) = true := by unfold Region.wanted; rw [hg]
          rw [if_pos hw]
          have hl1 := lS_ok sh as.toList
          cases hls : lS sh as.toList with
          | mk lf =>
            cases hps : pS n V o.dst with
            | mk p =>
              cases hrr : regY n V ops l Y (shPush o.dst sh) with
              | mk r =>
                rw [hls, hps, hrr] at h
                rw [hls] at hl1
                have hpp := pS_ok n V o.dst
                rw [hps] at hpp
                have hl2 : ∀ k, lf st tm k = goL (evOs (fillT sh st tm) as.toList) k := hl1 st tm
                have h' : lf st tm (fun xs => Option.rec (motive := fun _ => Ev) .fail (fun q => Prod.rec (motive := fun _ => Ev) (fun hp' nx' => p (.bool true) st tm hp' nx' df (fun st tm hp nx df => r E K y st tm hp nx df)) q) (y xs hp nx)) = .norm s' := h
                rw [hl2] at h'
                cases hos : evOs (fillT sh st tm) as.toList with
                | none => rw [hos] at h'; cases h'
                | some xs =>
                  rw [hos] at h'
                  simp only [goL] at h'
                  cases hyx : y xs hp nx with
                  | none => rw [hyx] at h'; cases h'
                  | some q =>
                    obtain ⟨hp1, nx1⟩ := q
                    rw [hyx] at h'
                    simp only at h'
                    rcases hpp (.bool true) st tm hp1 nx1 df (fun st tm hp nx df => r E K y st tm hp nx df) with h3 | ⟨h3, h4⟩
                    · have h3' : p (.bool true) st tm hp1 nx1 df (fun st tm hp nx df => r E K y st tm hp nx df) = .fail := h3
                      rw [h3'] at h'; cases h'
                    · have h4' : p (.bool true) st tm hp1 nx1 df (fun st tm hp nx df => r E K y st tm hp nx df) = r E K y (stPush o.dst (.bool true) st) (tmPush V o.dst (.bool true) tm) hp1 nx1 df := h4
                      rw [h4'] at h'
                      have hvs := evOs_ok hs.all hos
                      rw [← Array.toList_map] at hvs
                      obtain ⟨fn, tmps, assign, body, q1, q2⟩ := hy xs hp nx hp1 nx1 hyx ρ w (as.map a.eval) hG hs.r hvs
                      have hval : a.eval (.tmp yy) = Yv l0 := by
                        show a.tmps.getD yy undef = _
                        rw [Array.getD_eq_getD_getElem?, hY yy hyY]; rfl
                      have hrun : (o.semAt (Fw none).round a.eval).run E.P w = .ok (.round l0 fn tmps assign body) w := by
                        show (execOp a.eval o).run E.P w = _
                        obtain ⟨dst, op, type, pos, after, guard⟩ := o
                        simp only at hop
                        subst hop
                        simp only [execOp, resolve, hval, Yv, Deferred.ofValue, Sem.run_bind, Sem.run_pure, Result.andThen_ok, invoke, Array.empty_append]
                        exact q1
                      refine ⟨fun _ _ => trivial, ?_⟩
                      rw [hrun]
                      refine ⟨(fun hh => by cases hh), ?_⟩
                      rw [Nat.add_sub_cancel]
                      refine RoundIn.mono q2 ?_
                      rintro e w' ⟨rfl, ρ', r', g'⟩
                      show wpOpsIn (Fw none) (m + 1) E.P ops Q (List.range' (i + 1) l.length) (a.put o.dst (.bool true)) w'
                      have hs' := hs.push (a0 := a) (v := .bool true) (vc := .bool true) g'.ext rfl (by simp only [VR]) r' hs.df h3
                      refine regY_ok hy hnd hQo l (i + 1) hl' hs' (hG.trans g') hy0 (keepY a _ rfl) (by rw [hrr]; exact h') (fun a' w' hd ha hb => hQ a' w' hd ha ?_)
                      obtain ⟨ρ2, k1, k2⟩ := hb
                      exact ⟨ρ2, k1, g'.trans k2⟩
        | none =>
          rw [hcy] at h
          simp only at h
          rw [yPlain_app] at h
          rcases sG_ok (ops := ops) (sopU_ok n V sh o) E K st tm hp nx df ((regY n V ops l Y (shPush o.dst sh)).app E K y) with h1 | ⟨tmX, v, hp1, nx1, df1, hX, hstep, hd, h4⟩
          · rw [h1] at h; cases h
          · rw [h4] at h
            have hdef : ∀ c, o.op ≠ .defer c := hnd o (Array.mem_of_getElem? ho)
            rcases hstep with ⟨hwa, hst⟩ | ⟨hwa, rfl, rfl, rfl, rfl⟩
            · rw [if_pos (wantA_ok hs.all hwa)]
              refine Oper.wpIn_mono ?_ (wp_in hdef (stepR_ok ok hc hen hs.r (hX.tmR hs.all) hs.df hst Q))
              rintro a1 w1 ⟨vc, ρ1, a0, rfl, ht, hv, hr1, hg, hdf⟩
              refine regY_ok hy hnd hQo l (i + 1) hl' (hs.push hg.ext ht hv hr1 hdf hd) (hG.trans hg) hy0 (keepY a0 vc ht) h (fun a' w' hd ha hb => hQ a' w' hd ha ?_)
              obtain ⟨ρ2, k1, k2⟩ := hb
              exact ⟨ρ2, k1, hg.trans k2⟩
            · have hw := wantA_ok hs.all hwa
              rw [if_neg (by rw [hw]; simp)]
              refine ⟨fun _ _ => trivial, ?_⟩
              exact regY_ok hy hnd hQo l (i + 1) hl' (hs.push (G.refl ρ hp1 nx1 w).ext rfl (vr_undef ρ) hs.r hs.df hd) hG hy0 (keepY a _ rfl) h (fun a' w' hd ha hb => hQ a' w' hd ha hb)
end
end Go.Evo
namespace Go.Evo

inductive YCF where
  | mk (f : (E : Env) → Kit E → YH → Nat → St → Ev)
noncomputable def YCF.app (c : YCF) : (E : Env) → Kit E → YH → Nat → St → Ev := YCF.rec (motive := fun _ => (E : Env) → Kit E → YH → Nat → St → Ev) (fun f => f) c
noncomputable def cfY (n V : Nat) : Code → YCF
  | .skip => .mk (fun _ _ _ _ s => .norm s)
  | .region _ ops false => .mk (fun E K y _ s => cond (noDef ops.toList) ((regY n V ops ops.toList [0] []).app E K y [] s.tm s.hp s.nx s.df) .fail)
  | .seq a b => .mk (fun E K y fuel s => Ev.rec (motive := fun _ => Ev) .fail (fun s' => (cfY n V b).app E K y fuel s') (fun id s' => .exit id s') (fun s' => .ret s') ((cfY n V a).app E K y fuel s))
  | .cond c a b => .mk (fun E K y fuel s => match evO s.tm c with
    | some (.bool true) => (cfY n V a).app E K y fuel s
    | some (.bool false) => (cfY n V b).app E K y fuel s
    | _ => .fail)
  | .block id a => .mk (fun E K y fuel s => Ev.rec (motive := fun _ => Ev) .fail (fun s' => .norm s') (fun id' s' => Bool.rec (motive := fun _ => Ev) (.exit id' s') (.norm s') (Nat.beq id' id)) (fun s' => .ret s') ((cfY n V a).app E K y fuel s))
  | .loop a => .mk (fun E K y fuel s => loopR ((cfY n V a).app E K y fuel) fuel s)
  | .exit id => .mk (fun _ _ _ _ s => .exit id s)
  | .ret => .mk (fun _ _ _ _ s => .ret s)
  | _ => .mk (fun _ _ _ _ _ => .fail)

section
variable {E : Env} (ok : E.Ok) {K : Kit E} (hc : CallOk E K.cf) (hen : Enters E K.cf) {n V m l0 : Nat} {y : YH} {ρ0 : Rho} {hp0 : Hp} {nx0 : Nat} {w0 : World}

/-- Where the code ends; the yield is still in the first temporary. -/
def EvY (E : Env) (n V l0 : Nat) (ρ : Rho) (s : St) (w : World) (e : Ev) : Exit → Act → World → Prop := fun x a' w' => EvQ E n ρ s w e x a' w' ∧ DomE V e ∧ a'.tmps[0]? = some (Yv l0)
def CfYok (E : Env) (K : Kit E) (n V l0 : Nat) (y : YH) (ρ0 : Rho) (hp0 : Hp) (nx0 : Nat) (w0 : World) (c : Code) (f : YCF) : Prop := ∀ (fuel : Nat) (ρ : Rho) (s : St) (a : Act) (w : World) (e : Ev), SR E n ρ s a w → DomV V s.tm → G ρ0 hp0 nx0 w0 ρ s.hp s.nx w → a.tmps[0]? = some (Yv l0) → f.app E K y fuel s = e → e ≠ .fail → c.wp E.P (EvY E n V l0 ρ s w e) a w

theorem EvY.trans {ρ ρ1 : Rho} {s s1 : St} {w w1 : World} {r : Ev} {e : Exit} {a' : Act} {w' : World} (hg : G ρ s.hp s.nx w ρ1 s1.hp s1.nx w1) (h : EvY E n V l0 ρ1 s1 w1 r e a' w') : EvY E n V l0 ρ s w r e a' w' := ⟨h.1.trans hg, h.2⟩

include ok hc hen in
theorem cfY_ok (hy : YOk E m l0 ρ0 hp0 nx0 w0 y) : ∀ (c : Code), CfYok E K n V l0 y ρ0 hp0 nx0 w0 c (cfY n V c)
  | .skip => fun fuel ρ s a w e hs hd _ h0 h hr => by
    have h' : Ev.norm s = e := h
    subst h'
    exact wp_skip ⟨⟨rfl, behind_refl hs⟩, hd, h0⟩
  | .exit id => fun fuel ρ s a w e hs hd _ h0 h hr => by
    have h' : Ev.exit id s = e := h
    subst h'
    exact wp_exit ⟨⟨rfl, behind_refl hs⟩, hd, h0⟩
  | .ret => fun fuel ρ s a w e hs hd _ h0 h hr => by
    have h' : Ev.ret s = e := h
    subst h'
    exact wp_ret ⟨⟨rfl, behind_refl hs⟩, hd, h0⟩
  | .region id ops false => fun fuel ρ s a w e hs hd hG h0 h hr => by
    have h' : cond (noDef ops.toList) ((regY n V ops ops.toList [0] []).app E K y [] s.tm s.hp s.nx s.df) .fail = e := h
    cases hnd : noDef ops.toList with
    | false => rw [hnd] at h'; exact absurd h'.symm hr
    | true =>
      rw [hnd] at h'
      simp only [cond_true] at h'
      have hd' : ∀ o ∈ ops, ∀ c, o.op ≠ .defer c := fun o ho => noDef_spec hnd o (Array.mem_toList_iff.2 ho)
      rcases regY_norm (E := E) (K := K) (n := n) (V := V) (y := y) (ops := ops) ops.toList [0] [] [] s.tm s.hp s.nx s.df with h1 | ⟨s', h1⟩
      · rw [h1] at h'; exact absurd h'.symm hr
      · rw [h1] at h'
        subst h'
        refine (wpIn_wide (n := m + 1)).1 (wpIn_region ?_)
        have := regY_ok ok hc hen hy (ops := ops) (V := V) (n := n) (s' := s') (Q := EvY E n V l0 ρ s w (.norm s')) hd' (by rintro ⟨a, w', h, _⟩; cases h.1) (y0 := 0) ops.toList 0 (Y := [0]) (sh := []) (st := []) (fun j _ => by simp) ⟨hs.tm, hs.tm, hd, hs.r, hs.df⟩ hG (by simp) (fun t ht => by cases List.mem_singleton.1 ht; exact h0) h1 (fun a' w' hdm ha hb => ⟨⟨rfl, hb⟩, hdm, ha⟩)
        rw [Array.length_toList] at this
        rw [List.range_eq_range']
        exact this
  | .seq x z => fun fuel ρ s a w e hs hd hG h0 h hr => by
    have h' : Ev.rec (motive := fun _ => Ev) .fail (fun s' => (cfY n V z).app E K y fuel s') (fun id s' => .exit id s') (fun s' => .ret s') ((cfY n V x).app E K y fuel s) = e := h
    apply wp_seq
    cases hf : (cfY n V x).app E K y fuel s with
    | fail => rw [hf] at h'; exact absurd h'.symm hr
    | norm s1 =>
      rw [hf] at h'
      refine wp_mono (cfY_ok hy x fuel ρ s a w _ hs hd hG h0 hf (by simp)) ?_
      rintro e1 a1 w1 ⟨⟨rfl, ρ1, h1, h2⟩, h3, h4⟩
      exact wp_mono (cfY_ok hy z fuel ρ1 s1 a1 w1 _ h1 h3 (hG.trans h2) h4 h' hr) fun e a2 w2 h5 => h5.trans h2
    | exit id s1 =>
      rw [hf] at h'
      have h'' : Ev.exit id s1 = e := h'
      subst h''
      refine wp_mono (cfY_ok hy x fuel ρ s a w _ hs hd hG h0 hf (by simp)) ?_
      rintro e1 a1 w1 ⟨⟨rfl, h1⟩, h3⟩
      exact ⟨⟨rfl, h1⟩, h3⟩
    | ret s1 =>
      rw [hf] at h'
      have h'' : Ev.ret s1 = e := h'
      subst h''
      refine wp_mono (cfY_ok hy x fuel ρ s a w _ hs hd hG h0 hf (by simp)) ?_
      rintro e1 a1 w1 ⟨⟨rfl, h1⟩, h3⟩
      exact ⟨⟨rfl, h1⟩, h3⟩
  | .cond c x z => fun fuel ρ s a w e hs hd hG h0 h hr => by
    have h' : (match evO s.tm c with
      | some (.bool true) => (cfY n V x).app E K y fuel s
      | some (.bool false) => (cfY n V z).app E K y fuel s
      | _ => .fail) = e := h
    split at h'
    · rename_i hb
      have hv := evO_ok hs.tm hb
      unfold VR at hv
      exact wp_cond hv (cfY_ok hy x fuel ρ s a w e hs hd hG h0 h' hr)
    · rename_i hb
      have hv := evO_ok hs.tm hb
      unfold VR at hv
      exact wp_cond hv (cfY_ok hy z fuel ρ s a w e hs hd hG h0 h' hr)
    · exact absurd h'.symm hr
  | .block id x => fun fuel ρ s a w e hs hd hG h0 h hr => by
    have h' : Ev.rec (motive := fun _ => Ev) .fail (fun s' => .norm s') (fun id' s' => Bool.rec (motive := fun _ => Ev) (.exit id' s') (.norm s') (Nat.beq id' id)) (fun s' => .ret s') ((cfY n V x).app E K y fuel s) = e := h
    apply wp_block
    cases hf : (cfY n V x).app E K y fuel s with
    | fail => rw [hf] at h'; exact absurd h'.symm hr
    | norm s1 =>
      rw [hf] at h'
      have h'' : Ev.norm s1 = e := h'
      subst h''
      refine wp_mono (cfY_ok hy x fuel ρ s a w _ hs hd hG h0 hf (by simp)) ?_
      rintro e1 a1 w1 ⟨⟨rfl, h1⟩, h3⟩
      exact ⟨⟨rfl, h1⟩, h3⟩
    | ret s1 =>
      rw [hf] at h'
      have h'' : Ev.ret s1 = e := h'
      subst h''
      refine wp_mono (cfY_ok hy x fuel ρ s a w _ hs hd hG h0 hf (by simp)) ?_
      rintro e1 a1 w1 ⟨⟨rfl, h1⟩, h3⟩
      exact ⟨⟨rfl, h1⟩, h3⟩
    | exit id' s1 =>
      rw [hf] at h'
      have h'' : Bool.rec (motive := fun _ => Ev) (.exit id' s1) (.norm s1) (Nat.beq id' id) = e := h'
      refine wp_mono (cfY_ok hy x fuel ρ s a w _ hs hd hG h0 hf (by simp)) ?_
      rintro e1 a1 w1 ⟨⟨rfl, h1⟩, h3, h4⟩
      show if id' = id then EvY E n V l0 ρ s w e .normal a1 w1 else EvY E n V l0 ρ s w e (.exit id') a1 w1
      cases hb : Nat.beq id' id with
      | true =>
        rw [hb] at h''
        rw [Nat.beq_eq] at hb
        rw [if_pos hb]
        have h5 : Ev.norm s1 = e := h''
        subst h5
        exact ⟨⟨rfl, h1⟩, h3, h4⟩
      | false =>
        rw [hb] at h''
        have hne : id' ≠ id := by
          intro he
          subst he
          simp at hb
        rw [if_neg hne]
        have h5 : Ev.exit id' s1 = e := h''
        subst h5
        exact ⟨⟨rfl, h1⟩, h3, h4⟩
  | .loop x => fun fuel ρ s a w e hs hd hG h0 h hr => by
    have main : ∀ (k : Nat) (ρ : Rho) (s : St) (a : Act) (w : World), SR E n ρ s a w → DomV V s.tm → G ρ0 hp0 nx0 w0 ρ s.hp s.nx w → a.tmps[0]? = some (Yv l0) → loopR ((cfY n V x).app E K y fuel) k s = e → wpL E.P x (EvY E n V l0 ρ s w e) a w := by
      intro k
      induction k with
      | zero => intro ρ s a w _ _ _ _ h; exact absurd h.symm hr
      | succ k ih =>
        intro ρ s a w hs hd hG h0 h
        have h' : Ev.rec (motive := fun _ => Ev) .fail (loopR ((cfY n V x).app E K y fuel) k) (fun id s' => .exit id s') (fun s' => .ret s') ((cfY n V x).app E K y fuel s) = e := h
        apply wpL_round
        cases hf : (cfY n V x).app E K y fuel s with
        | fail => rw [hf] at h'; exact absurd h'.symm hr
        | norm s1 =>
          rw [hf] at h'
          refine wp_mono (cfY_ok hy x fuel ρ s a w _ hs hd hG h0 hf (by simp)) ?_
          rintro e1 a1 w1 ⟨⟨rfl, ρ1, h1, h2⟩, h3, h4⟩
          exact wpL_mono (ih ρ1 s1 a1 w1 h1 h3 (hG.trans h2) h4 h') fun e a2 w2 h5 => h5.trans h2
        | exit id' s1 =>
          rw [hf] at h'
          have h'' : Ev.exit id' s1 = e := h'
          subst h''
          refine wp_mono (cfY_ok hy x fuel ρ s a w _ hs hd hG h0 hf (by simp)) ?_
          rintro e1 a1 w1 ⟨⟨rfl, h1⟩, h3⟩
          exact ⟨⟨rfl, h1⟩, h3⟩
        | ret s1 =>
          rw [hf] at h'
          have h'' : Ev.ret s1 = e := h'
          subst h''
          refine wp_mono (cfY_ok hy x fuel ρ s a w _ hs hd hG h0 hf (by simp)) ?_
          rintro e1 a1 w1 ⟨⟨rfl, h1⟩, h3⟩
          exact ⟨⟨rfl, h1⟩, h3⟩
    exact wp_of_wpL (main fuel ρ s a w hs hd hG h0 h)
  | .region id ops true => fun fuel ρ s a w e _ _ _ _ h hr => absurd (show Ev.fail = e from h).symm hr
  | .scope x => fun fuel ρ s a w e _ _ _ _ h hr => absurd (show Ev.fail = e from h).symm hr
  | .label l => fun fuel ρ s a w e _ _ _ _ h hr => absurd (show Ev.fail = e from h).symm hr
  | .goto l => fun fuel ρ s a w e _ _ _ _ h hr => absurd (show Ev.fail = e from h).symm hr
  | .refuse l => fun fuel ρ s a w e _ _ _ _ h hr => absurd (show Ev.fail = e from h).symm hr
  | .rangeFunc f p as body => fun fuel ρ s a w e _ _ _ _ h hr => absurd (show Ev.fail = e from h).symm hr

/-- A call of an iterator with a yield. -/
noncomputable def isNil : List Nat → Bool
  | [] => true
  | _ :: _ => false
noncomputable def iterC (E : Env) (K : Kit E) (y : YH) (cfuel V : Nat) (c : YCF) (cs : List AV) (hp : Hp) (nx : Nat) : Option (Hp × Nat) :=
  forceT (argsV V cs 1 .nil) fun tm => match c.app E K y cfuel ⟨tm, hp, nx, []⟩ with
  | .norm s => cond (isNil s.df) (some (s.hp, s.nx)) none
  | .ret s => cond (isNil s.df) (some (s.hp, s.nx)) none
  | _ => none
include ok hc hen in
theorem iter_ok (hy : YOk E m l0 ρ0 hp0 nx0 w0 y) {g cfuel : Nat} {fn : Func} {c : Code} (hf : E.P.funcs[g]? = some fn) (hb : fn.body = some c) (hres : fn.results.toList = []) {cs : List AV} (hle : cs.length + 1 ≤ fn.ntmps) {hp' : Hp} {nx' : Nat}
    (h : iterC E K y cfuel V (cfY fn.ntmps V c) cs hp0 nx0 = some (hp', nx')) (r : E.R ρ0 hp0 nx0 w0) {vs : Array Value} (hv : VRs ρ0 cs vs.toList) :
    Calls E.P g (#[Yv l0] ++ vs) w0 (fun e w' => e = .returned (.tuple #[]) ∧ ∃ ρ', E.R ρ' hp' nx' w' ∧ G ρ0 hp0 nx0 w0 ρ' hp' nx' w') := by
  unfold iterC at h
  simp only [forceT_eq] at h
  have hlen : vs.size = cs.length := by simpa using hv.length
  refine calls_of_wp_defers hf hb ?_
  have hd : DomV V (argsV V cs 1 .nil) := by
    intro t x hx
    rcases argsV_get V cs 1 .nil t x hx with ⟨_, _, h3⟩ | h1
    · exact h3
    · rw [Tr.get_nil] at h1; cases h1
  have hsz : (#[Yv l0] ++ vs).size = vs.size + 1 := by rw [Array.size_append]; simp; omega
  have hs : SR E fn.ntmps ρ0 ⟨argsV V cs 1 .nil, hp0, nx0, []⟩ { tmps := (#[Yv l0] ++ vs) ++ Array.replicate (fn.ntmps - (#[Yv l0] ++ vs).size) undef, defers := [] } w0 := by
    refine ⟨⟨?_, ?_⟩, r, rfl⟩
    · rw [Array.size_append, hsz, Array.size_replicate, hlen]; omega
    · intro i x hx
      rcases argsV_get V cs 1 .nil i x hx with ⟨h0, h2, _⟩ | h1
      · obtain ⟨v, q1, q2⟩ := hv.get (i - 1) x h2
        have hi : i - 1 < vs.size := by
          rw [← Array.length_toList]
          rcases Nat.lt_or_ge (i - 1) vs.toList.length with h4 | h4
          · exact h4
          · rw [List.getElem?_eq_none h4] at q1; cases q1
        refine ⟨v, ?_, q2⟩
        rw [Array.getElem?_append_left (by rw [hsz]; omega), Array.getElem?_append_right (by simpa using h0)]
        simpa using q1
      · rw [Tr.get_nil] at h1; cases h1
  have h00 : ((#[Yv l0] ++ vs) ++ Array.replicate (fn.ntmps - (#[Yv l0] ++ vs).size) undef)[0]? = some (Yv l0) := by
    rw [Array.getElem?_append_left (by rw [hsz]; omega), Array.getElem?_append_left (by simp)]
    rfl
  have leave : ∀ (s : St) (a' : Act) (w' : World), Behind E fn.ntmps ρ0 ⟨argsV V cs 1 .nil, hp0, nx0, []⟩ w0 s a' w' → cond (isNil s.df) (some (s.hp, s.nx)) none = some (hp', nx') →
      Leaves E.P fn a'.tmps (fun e w' => e = .returned (.tuple #[]) ∧ ∃ ρ', E.R ρ' hp' nx' w' ∧ G ρ0 hp0 nx0 w0 ρ' hp' nx' w') a'.defers .returning w' := by
    rintro s a' w' ⟨ρ', hs', hg⟩ hcd
    cases hdf : s.df with
    | cons z zs => rw [hdf] at hcd; cases hcd
    | nil =>
      rw [hdf] at hcd
      have hcd' : some (s.hp, s.nx) = some (hp', nx') := hcd
      cases hcd'
      have := hs'.df
      rw [hdf] at this
      unfold DfR at this
      rw [this]
      refine ⟨.tuple #[], ?_, rfl, ρ', hs'.r, hg⟩
      have hr0 : fn.results = #[] := by rw [← Array.toList_inj]; exact hres
      rw [results_eq, hr0]
      simp
  cases hev : (cfY fn.ntmps V c).app E K y cfuel ⟨argsV V cs 1 .nil, hp0, nx0, []⟩ with
  | fail => rw [hev] at h; cases h
  | exit id s' => rw [hev] at h; cases h
  | norm s' =>
    rw [hev] at h
    refine wp_mono (cfY_ok ok hc hen hy c cfuel ρ0 _ _ w0 _ hs hd (G.refl _ _ _ _) h00 hev (by simp)) ?_
    rintro e a' w' ⟨⟨rfl, hb'⟩, _⟩
    exact leave s' a' w' hb' h
  | ret s' =>
    rw [hev] at h
    refine wp_mono (cfY_ok ok hc hen hy c cfuel ρ0 _ _ w0 _ hs hd (G.refl _ _ _ _) h00 hev (by simp)) ?_
    rintro e a' w' ⟨⟨rfl, hb'⟩, _⟩
    exact leave s' a' w' hb' h
end
end Go.Evo
