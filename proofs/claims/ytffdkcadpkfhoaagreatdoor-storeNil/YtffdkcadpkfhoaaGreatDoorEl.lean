/- A verified evaluator for the model of Go, part 12: what it reckons of a call, the call does in every world that its abstract heap speaks of. Conditions: none. -/
import Derived.Test.YtffdkcadpkfhoaaGreatDoorEk
import Derived.RowKit3
namespace Go.Evo

abbrev HF := List Hp → (Hp → Ev) → Ev
inductive HK where
  | mk (f : HF)
noncomputable def HK.app (c : HK) : HF := HK.rec (motive := fun _ => HF) (fun f => f) c
noncomputable def hk : Nat → HK
  | 0 => .mk (fun hs k => List.rec (motive := fun _ => Ev) .fail (fun h _ _ => k h) hs)
  | p + 1 => HK.rec (motive := fun _ => HK) (fun f => .mk (fun hs k => List.rec (motive := fun _ => Ev) .fail (fun _ l _ => f l k) hs)) (hk p)
theorem hk_ok : ∀ (p : Nat) (hs : List Hp) (k : Hp → Ev), (hk p).app hs k = .fail ∨ ∃ h, hs[p]? = some h ∧ (hk p).app hs k = k h
  | 0, [], k => .inl rfl
  | 0, h :: hs, k => .inr ⟨h, rfl, rfl⟩
  | p + 1, hs, k => by
    have ih := hk_ok p
    have he : hk (p + 1) = HK.rec (motive := fun _ => HK) (fun f => .mk (fun hs k => List.rec (motive := fun _ => Ev) .fail (fun _ l _ => f l k) hs)) (hk p) := rfl
    rw [he]
    cases hp : hk p with
    | mk f =>
      rw [hp] at ih
      cases hs with
      | nil => exact .inl rfl
      | cons h hs => exact ih hs k

noncomputable def eqK (x v : AV) (k : Ev) : Ev := nn x v (fun _ m n => Bool.rec (motive := fun _ => Ev) .fail k (Nat.beq m n)) (Bool.rec (motive := fun _ => Ev) .fail k (aeq x v))
theorem eqK_ok (x v : AV) (k : Ev) : eqK x v k = .fail ∨ (x = v ∧ eqK x v k = k) := by
  unfold eqK
  rcases nn_cases x v (fun _ m n => Bool.rec (motive := fun _ => Ev) .fail k (Nat.beq m n)) (Bool.rec (motive := fun _ => Ev) .fail k (aeq x v)) with h | ⟨kk, m, n, h1, h2, h⟩
  · rw [h]
    cases ha : aeq x v with
    | false => exact .inl rfl
    | true => exact .inr ⟨aeq_ok ha, rfl⟩
  · rw [h]
    cases hb : Nat.beq m n with
    | false => exact .inl rfl
    | true =>
      have := beq_eq hb
      subst this
      exact .inr ⟨h1.trans h2.symm, rfl⟩

abbrev CKF := Env → List AV → Tr AV → List Hp → Ev → Ev
inductive CK where
  | mk (f : CKF)
noncomputable def CK.app (c : CK) : CKF := CK.rec (motive := fun _ => CKF) (fun f => f) c
noncomputable def ckId : CK := .mk (fun _ _ _ _ k => k)
noncomputable def ckAnd (a b : CK) : CK := CK.rec (motive := fun _ => CK) (fun a => CK.rec (motive := fun _ => CK) (fun b => .mk (fun E st tm hs k => a E st tm hs (b E st tm hs k))) b) a
noncomputable def ck1 (gx gv : GK) (t : Nat) (h : HK) : CK := GK.rec (motive := fun _ => CK) (fun gx => GK.rec (motive := fun _ => CK) (fun gv => HK.rec (motive := fun _ => CK) (fun h =>
  .mk (fun E st tm hs k => gx st tm (fun u => gv st tm (fun v => h hs (fun hp => ld1 t E hp u (fun x => eqK x v k)))))) h) gv) gx
/-- A check and what it says. -/
def CkOk (c : CK) (P : Env → List AV → Tr AV → List Hp → Prop) : Prop := ∀ E st tm hs k, c.app E st tm hs k = .fail ∨ (P E st tm hs ∧ c.app E st tm hs k = k)
theorem ckId_ok : CkOk ckId (fun _ _ _ _ => True) := fun _ _ _ _ _ => .inr ⟨trivial, rfl⟩
theorem ckAnd_ok {a b : CK} {P Q : Env → List AV → Tr AV → List Hp → Prop} (ha : CkOk a P) (hb : CkOk b Q) : CkOk (ckAnd a b) (fun E st tm hs => P E st tm hs ∧ Q E st tm hs) := by
  intro E st tm hs k
  cases a with
  | mk a => cases b with
    | mk b =>
      show a E st tm hs (b E st tm hs k) = .fail ∨ (_ ∧ a E st tm hs (b E st tm hs k) = k)
      rcases ha E st tm hs (b E st tm hs k) with h | ⟨h1, h2⟩
      · exact .inl h
      · have h2' : a E st tm hs (b E st tm hs k) = b E st tm hs k := h2
        rw [h2']
        rcases hb E st tm hs k with h | ⟨h3, h4⟩
        · exact .inl h
        · exact .inr ⟨⟨h1, h3⟩, h4⟩
def CkP (sh : List Nat) (t : Nat) (x : Operand) (d p : Nat) (E : Env) (st : List AV) (tm : Tr AV) (hs : List Hp) : Prop :=
  ∃ u v hp, evO (fillT sh st tm) x = some u ∧ (fillT sh st tm).get d = some v ∧ hs[p]? = some hp ∧ aLoad E hp t u = some v
theorem ck1_ok (sh : List Nat) (t : Nat) (x : Operand) (d p : Nat) : CkOk (ck1 (gS sh x) (gT d sh) t (hk p)) (CkP sh t x d p) := by
  intro E st tm hs k
  have h1 := gS_ok sh x st tm
  have h2 := gT_ok d sh st tm
  have h3 := hk_ok p hs
  unfold ck1
  cases hgx : gS sh x with
  | mk gx => cases hgv : gT d sh with
    | mk gv => cases hh : hk p with
      | mk h =>
        rw [hgx] at h1
        rw [hgv] at h2
        rw [hh] at h3
        have h1' : ∀ k, gx st tm k = goV (evO (fillT sh st tm) x) k := h1
        have h2' : ∀ k, gv st tm k = goV (lookT sh st tm d) k := h2
        show gx st tm _ = .fail ∨ (_ ∧ gx st tm _ = k)
        rw [h1']
        cases hx : evO (fillT sh st tm) x with
        | none => exact .inl rfl
        | some u =>
          simp only [goV]
          rw [h2']
          cases hv : lookT sh st tm d with
          | none => exact .inl rfl
          | some v =>
            simp only [goV]
            rcases h3 (fun hp => ld1 t E hp u (fun x => eqK x v k)) with h4 | ⟨hp, h4, h5⟩
            · exact .inl h4
            · have h5' : h hs (fun hp => ld1 t E hp u (fun x => eqK x v k)) = ld1 t E hp u (fun x => eqK x v k) := h5
              rw [h5']
              rcases ld1_ok t E hp u (fun x => eqK x v k) with h6 | ⟨y, h6, h7⟩
              · exact .inl h6
              · rw [h7]
                rcases eqK_ok y v k with h8 | ⟨h8, h9⟩
                · exact .inl h8
                · subst h8
                  exact .inr ⟨⟨u, y, hp, hx, by rw [fillT_get]; exact hv, h4, h6⟩, h9⟩

noncomputable def ckR (sh : List Nat) (t : Nat) (x : Operand) (d m i : Nat) (EL : List (Nat × Nat)) (cnt : Nat) : Nat → CK
  | 0 => ckId
  | r + 1 => cond (vOkS m i r EL 0) (ckAnd (ck1 (gS sh x) (gT d sh) t (hk (Nat.sub cnt r))) (ckR sh t x d m i EL cnt r)) (ckR sh t x d m i EL cnt r)
theorem ckR_ok (sh : List Nat) (t : Nat) (x : Operand) (d m i : Nat) (EL : List (Nat × Nat)) (cnt : Nat) : ∀ R : Nat, CkOk (ckR sh t x d m i EL cnt R) (fun E st tm hs => ∀ r, r < R → vOkS m i r EL 0 = true → CkP sh t x d (cnt - r) E st tm hs)
  | 0 => fun E st tm hs k => .inr ⟨fun r hr => by omega, rfl⟩
  | R + 1 => by
    intro E st tm hs k
    have ih := ckR_ok sh t x d m i EL cnt R
    have he : ckR sh t x d m i EL cnt (R + 1) = cond (vOkS m i R EL 0) (ckAnd (ck1 (gS sh x) (gT d sh) t (hk (Nat.sub cnt R))) (ckR sh t x d m i EL cnt R)) (ckR sh t x d m i EL cnt R) := rfl
    rw [he]
    cases hv : vOkS m i R EL 0 with
    | false =>
      simp only [cond_false]
      rcases ih E st tm hs k with h | ⟨h1, h2⟩
      · exact .inl h
      · refine .inr ⟨fun r hr hvr => ?_, h2⟩
        by_cases hrR : r = R
        · subst hrR; rw [hv] at hvr; cases hvr
        · exact h1 r (by omega) hvr
    | true =>
      simp only [cond_true]
      rcases ckAnd_ok (ck1_ok sh t x d (Nat.sub cnt R)) ih E st tm hs k with h | ⟨⟨h0, h1⟩, h2⟩
      · exact .inl h
      · refine .inr ⟨fun r hr hvr => ?_, h2⟩
        by_cases hrR : r = R
        · subst hrR; exact h0
        · exact h1 r (by omega) hvr

noncomputable def ckS (E0 : Env) (sh : List Nat) (EL : List (Nat × Nat)) (cnt : Nat) : List (Nat × Oper × Nat) → CK
  | [] => ckId
  | (i, o, m) :: l => (match o.op with
    | .load t x => (match o.dst with
      | some d => cond (Nat.beq (kindO E0 o) 3) (ckAnd (ckR sh t x d m i EL cnt (Nat.succ cnt)) (ckS E0 sh EL cnt l)) (ckS E0 sh EL cnt l)
      | none => ckS E0 sh EL cnt l)
    | _ => ckS E0 sh EL cnt l)
def CkSP (E0 : Env) (sh : List Nat) (EL : List (Nat × Nat)) (cnt : Nat) (l : List (Nat × Oper × Nat)) (E : Env) (st : List AV) (tm : Tr AV) (hs : List Hp) : Prop :=
  ∀ p ∈ l, ∀ t x d, p.2.1.op = .load t x → p.2.1.dst = some d → kindO E0 p.2.1 = 3 → ∀ r, r ≤ cnt → vOkS p.2.2 p.1 r EL 0 = true → CkP sh t x d (cnt - r) E st tm hs
theorem ckS_ok (E0 : Env) (sh : List Nat) (EL : List (Nat × Nat)) (cnt : Nat) : ∀ l : List (Nat × Oper × Nat), CkOk (ckS E0 sh EL cnt l) (CkSP E0 sh EL cnt l)
  | [] => fun E st tm hs k => .inr ⟨(fun p hp => by cases hp), rfl⟩
  | (i, o, m) :: l => by
    intro E st tm hs k
    have ih := ckS_ok E0 sh EL cnt l
    have skip : (∀ t x d, o.op = .load t x → o.dst = some d → kindO E0 o = 3 → False) → ckS E0 sh EL cnt ((i, o, m) :: l) = ckS E0 sh EL cnt l → (ckS E0 sh EL cnt ((i, o, m) :: l)).app E st tm hs k = .fail ∨ (CkSP E0 sh EL cnt ((i, o, m) :: l) E st tm hs ∧ (ckS E0 sh EL cnt ((i, o, m) :: l)).app E st tm hs k = k) := by
      intro hno he
      rw [he]
      rcases ih E st tm hs k with h | ⟨h1, h2⟩
      · exact .inl h
      · refine .inr ⟨fun p hp t x d h3 h4 h5 => ?_, h2⟩
        rcases List.mem_cons.1 hp with rfl | hp'
        · exact (hno t x d h3 h4 h5).elim
        · exact h1 p hp' t x d h3 h4 h5
    cases hop : o.op
    case load t x =>
      cases hd : o.dst with
      | none => exact skip (fun _ _ _ _ h => by rw [hd] at h; cases h) (by simp only [ckS, hop, hd])
      | some d =>
        cases hk : Nat.beq (kindO E0 o) 3 with
        | false => exact skip (fun _ _ _ _ _ h => by rw [h] at hk; cases hk) (by simp only [ckS, hop, hd, hk, cond_false])
        | true =>
          have he : ckS E0 sh EL cnt ((i, o, m) :: l) = ckAnd (ckR sh t x d m i EL cnt (Nat.succ cnt)) (ckS E0 sh EL cnt l) := by simp only [ckS, hop, hd, hk, cond_true]
          rw [he]
          rcases ckAnd_ok (ckR_ok sh t x d m i EL cnt (Nat.succ cnt)) ih E st tm hs k with h | ⟨⟨h0, h1⟩, h2⟩
          · exact .inl h
          · refine .inr ⟨fun p hp t' x' d' h3 h4 h5 r hr hv => ?_, h2⟩
            rcases List.mem_cons.1 hp with rfl | hp'
            · simp only at h3 h4
              rw [hop] at h3; cases h3
              rw [hd] at h4; cases h4
              exact h0 r (by simp only [Nat.succ_eq_add_one]; omega) hv
            · exact h1 p hp' t' x' d' h3 h4 h5 r hr hv
    all_goals exact skip (fun _ _ _ h => by rw [hop] at h; cases h) (by simp only [ckS, hop])

noncomputable def dT (E0 : Env) (S : List (Nat × Oper × Nat)) (sh : List Nat) : DC := CK.rec (motive := fun _ => DC) (fun c => .mk (fun E _ _ st hs tm hp nx df => c E st tm (hp :: hs) (.norm ⟨tm, hp, nx, df⟩))) (ckS E0 sh (effL E0 S) (effL E0 S).length S)
theorem dT_app (E0 : Env) (S : List (Nat × Oper × Nat)) (sh : List Nat) (E : Env) (K : Kit E) (lim : Nat) (st : List AV) (hs : List Hp) (tm : Tr AV) (hp : Hp) (nx : Nat) (df : List Nat) :
    (dT E0 S sh).app E K lim st hs tm hp nx df = .fail ∨ (CkSP E0 sh (effL E0 S) (effL E0 S).length S E st tm (hp :: hs) ∧ (dT E0 S sh).app E K lim st hs tm hp nx df = .norm ⟨tm, hp, nx, df⟩) := by
  have h := ckS_ok E0 sh (effL E0 S) (effL E0 S).length S E st tm (hp :: hs) (.norm ⟨tm, hp, nx, df⟩)
  unfold dT
  cases hc : ckS E0 sh (effL E0 S) (effL E0 S).length S with
  | mk c => rw [hc] at h; exact h

noncomputable def drawD (E0 : Env) (n V : Nat) (ops : Array Oper) : CF := DC.rec (motive := fun _ => CF) (fun r => .mk (fun E K _ s => St.rec (motive := fun _ => Ev) (fun tm hp nx df => fN (Nat.add nx ops.toList.length) fun lim => r E K lim [] [] tm hp lim df) s)) (dR E0 n V (dT E0 (mkS ops.toList (masks ops.toList []) 0)) (mkS ops.toList (masks ops.toList []) 0) [])

end Go.Evo
namespace Go.Evo

theorem looked_facts {E : Env} {K : Kit E} {n : Nat} {ops : Array Oper} {s : St} {L : List Ent} {vs : List Ver} {tF : Tr AV} (hst : stat ops = true)
    (hfacts : Facts E K n ops s.nx s.tm ops.toList (masks ops.toList []) 0 [] ⟨s.hp, s.nx + ops.toList.length, 0⟩ L vs) (hlexF : Lex s.tm L tF)
    (hch : ∀ a ∈ L, ∀ b ∈ L, isEff a = true → isEff b = true → a.i < b.i → Nat.testBit b.m a.i = true)
    (hstrict : ∀ e ∈ L, e.tag = 3 → ∀ t ∈ e.o.looksAt ops, ∀ e' ∈ L, e'.o.dst = some t → Nat.testBit e.m e'.i = true)
    (hreads : ∀ e ∈ L, e.tag = 3 → ∀ (r : Nat) (v : Ver), (⟨s.hp, s.nx + ops.toList.length, 0⟩ :: vs)[r]? = some v → vOk e r (L.filter isEff) 0 = true → readOp E (addF v.hp (pend s.nx (selM e.m v.A) L)) tF e.o = some e.val)
    (hfloats : ∀ v ∈ (⟨s.hp, s.nx + ops.toList.length, 0⟩ :: vs : List Ver), s.nx + ops.size ≤ v.nx ∧ ∀ e ∈ L, ∀ ob, e.ob = some ob → Nat.testBit v.A e.i = false → v.hp.get (s.nx + e.i) = none) :
    Looked E K n ops s L (⟨s.hp, s.nx + ops.toList.length, 0⟩ :: vs) tF := by
  obtain ⟨h1, h2, h3⟩ := facts_idx (done := []) _ _ _ _ _ hfacts [] rfl
  rw [List.nil_append] at h2 h3
  have idx : ∀ (j : Nat) (e : Ent), L[j]? = some e → e.i = j ∧ ops.toList[j]? = some e.o ∧ (masks ops.toList [])[j]? = some e.m ∧ ∃ tm, Lex s.tm (L.take j) tm ∧ (∀ d, e.o.dst = some d → d < n) ∧
      TagF E K ops s.nx (L.take j) (⟨s.hp, s.nx + ops.toList.length, 0⟩ :: vs) tm e := by
    intro j e he
    have := h3 j e (Nat.zero_le _) he
    simpa using this
  have num : Numbered L := fun j e he => (idx j e he).1
  have inS : ∀ e ∈ L, (e.i, e.o, e.m) ∈ mkS ops.toList (masks ops.toList []) 0 := by
    intro e he
    obtain ⟨_, q1, q2, _⟩ := idx e.i e (num.mem he)
    have := mkS_get (i := 0) q1 q2
    rw [Nat.zero_add] at this
    exact List.mem_of_getElem? this
  have one : ∀ e ∈ L, statOne ops (masks ops.toList []) (mkS ops.toList (masks ops.toList []) 0) (e.i, e.o, e.m) = true := by
    intro e he
    unfold stat at hst
    exact List.all_eq_true.1 hst _ (inS e he)
  have par : ∀ e ∈ L, e.m = maskOf (masks ops.toList []) e.o.after.toList ∧ (∀ ed ∈ e.o.after, Region.binds .any ed = true → ed.on < e.i) ∧
      (∀ t ∈ e.o.looksAt ops, ∀ e' ∈ L, e'.o.dst = some t → Nat.testBit e.m e'.i = true ∨ Nat.testBit e'.m e.i = true) ∧ (∀ d, e.o.dst = some d → ∀ e' ∈ L, e'.o.dst = some d → e'.i = e.i) := by
    intro e he
    have h := one e he
    unfold statOne at h
    simp only [cond_true_iff] at h
    obtain ⟨k1, k2, k3, k4⟩ := h
    refine ⟨by rwa [Nat.beq_eq] at k1, ?_, ?_, ?_⟩
    · intro ed hed hb
      have := List.all_eq_true.1 k2 ed (by simpa using hed)
      rw [hb] at this
      exact blt_iff.1 this
    · intro t ht e' he' hd
      have := List.all_eq_true.1 (List.all_eq_true.1 k3 t ht) _ (inS e' he')
      have hdi : dstIs e'.o t = true := by unfold dstIs; rw [hd]; simp
      simp only [hdi, cond_true] at this
      cases hb : Nat.testBit e.m e'.i with
      | true => exact .inl rfl
      | false => rw [hb] at this; exact .inr this
    · intro d hd e' he' hd'
      rw [hd] at k4
      have := List.all_eq_true.1 k4 _ (inS e' he')
      have hdi : dstIs e'.o d = true := by unfold dstIs; rw [hd']; simp
      simp only [hdi, cond_true] at this
      rwa [Nat.beq_eq] at this
  refine ⟨num, by rw [h1]; simp, ?_, ?_, ?_, hlexF, ?_, ?_, ?_, ?_, ?_, ?_, ?_, ?_⟩
  · simp only [List.length_cons]
    have : cntE ([] : List Ent) = 0 := rfl
    rw [this] at h2; omega
  · intro j e he
    have := (idx j e he).2.1
    simpa using this
  · intro j e he
    exact (idx j e he).2.2.2
  · intro j e he k hk
    have heL := List.mem_of_getElem? he
    obtain ⟨p1, p2, _, _⟩ := par e heL
    rw [p1] at hk
    obtain ⟨ed, q1, q2, q3⟩ := maskOf_bit hk
    have q1' : ed ∈ e.o.after := by simpa using q1
    refine ⟨ed, q1', q2, ?_⟩
    rcases q3 with q3 | q3
    · exact .inl q3
    · right
      have hlt := p2 ed q1' q2
      rw [num j e he] at hlt
      have hj : j < L.length := by
        rcases Nat.lt_or_ge j L.length with h4 | h4
        · exact h4
        · rw [List.getElem?_eq_none h4] at he; cases he
      have hget : L[ed.on]? = some (L[ed.on]'(by omega)) := List.getElem?_eq_getElem _
      refine ⟨_, hget, ?_⟩
      have := (idx _ _ hget).2.2.1
      rw [List.getD_eq_getElem?_getD, this] at q3
      exact q3
  · intro j e he ed hed hb
    have heL := List.mem_of_getElem? he
    have := (par e heL).2.1 ed hed hb
    rwa [num j e he] at this
  · intro e he t ht e' he' hd
    exact (par e he).2.2.1 t ht e' he' hd
  · exact hstrict
  · intro e he e' he' d hd hd'
    exact (par e he).2.2.2 d hd e' he' hd'
  · exact hch
  · exact hreads
  · exact hfloats

theorem mkS_ops : ∀ (l : List Oper) (ms : List Nat) (i : Nat), ms.length = l.length → (mkS l ms i).map (fun p => p.2.1) = l ∧ (mkS l ms i).map (fun p => p.2.2) = ms
  | [], [], i, _ => ⟨rfl, rfl⟩
  | [], _ :: _, i, h => by simp at h
  | _ :: _, [], i, h => by simp at h
  | o :: l, m :: ms, i, h => by
    obtain ⟨h1, h2⟩ := mkS_ops l ms (Nat.succ i) (by simpa using h)
    exact ⟨congrArg (o :: ·) h1, congrArg (m :: ·) h2⟩
theorem mkS_fst : ∀ (l : List Oper) (ms : List Nat) (i j : Nat) (p : Nat × Oper × Nat), (mkS l ms i)[j]? = some p → p.1 = i + j
  | [], ms, i, j, p, h => by simp [mkS] at h
  | _ :: _, [], i, j, p, h => by simp [mkS] at h
  | o :: l, m :: ms, i, 0, p, h => by
    have h' : some (i, o, m) = some p := h
    cases h'; rfl
  | o :: l, m :: ms, i, j + 1, p, h => by
    have h' : (mkS l ms (Nat.succ i))[j]? = some p := h
    have := mkS_fst l ms (Nat.succ i) j p h'
    simp only [Nat.succ_eq_add_one] at this
    omega

theorem effL_of {E : Env} : ∀ {L : List Ent}, (∀ e ∈ L, e.tag = kindO E e.o) → effL E (L.map fun e => (e.i, e.o, e.m)) = (L.filter isEff).map fun b => (b.i, b.m)
  | [], _ => rfl
  | e :: l, h => by
    have ih := effL_of (L := l) fun e' he' => h e' (List.mem_cons_of_mem _ he')
    have ht := h e List.mem_cons_self
    show cond (Nat.beq (kindO E e.o) 4) ((e.i, e.m) :: effL E (l.map fun e => (e.i, e.o, e.m))) (effL E (l.map fun e => (e.i, e.o, e.m))) = _
    rw [ih, ← ht]
    show cond (isEff e) _ _ = _
    rw [List.filter_cons]
    cases isEff e <;> rfl

theorem drawD_app (E0 : Env) (n V : Nat) (ops : Array Oper) (E : Env) (K : Kit E) (fuel : Nat) (s : St) : (drawD E0 n V ops).app E K fuel s =
    (dR E0 n V (dT E0 (mkS ops.toList (masks ops.toList []) 0)) (mkS ops.toList (masks ops.toList []) 0) []).app E K (s.nx + ops.toList.length) [] [] s.tm s.hp (s.nx + ops.toList.length) s.df := by
  unfold drawD
  cases dR E0 n V (dT E0 (mkS ops.toList (masks ops.toList []) 0)) (mkS ops.toList (masks ops.toList []) 0) [] with
  | mk r =>
    show fN (Nat.add s.nx ops.toList.length) (fun lim => r E K lim [] [] s.tm s.hp lim s.df) = _
    rw [fN_eq]
    rfl

/-- What the run of a region found. -/
theorem drawD_run {E : Env} {K : Kit E} {n V : Nat} {ops : Array Oper} (hok : okD E ops = true) {s : St} (hd : DomV V s.tm) :
    (drawD E n V ops).app E K 0 s = .fail ∨ ∃ L vs tF s', Looked E K n ops s L (⟨s.hp, s.nx + ops.toList.length, 0⟩ :: vs) tF ∧ (drawD E n V ops).app E K 0 s = .norm s' ∧ DomV V s'.tm ∧ (∀ t x, s'.tm.get t = some x → tF.get t = some x) ∧ (∀ e ∈ L, e.ob = none) ∧
      s'.hp = (lastV vs ⟨s.hp, s.nx + ops.toList.length, 0⟩).hp ∧ s'.nx = (lastV vs ⟨s.hp, s.nx + ops.toList.length, 0⟩).nx ∧ s'.df = s.df := by
  rw [drawD_app]
  unfold okD at hok
  rw [cond_true_iff] at hok
  obtain ⟨hst, hk⟩ := hok
  generalize hS : mkS ops.toList (masks ops.toList []) 0 = S at hk ⊢
  have hml : (masks ops.toList []).length = ops.toList.length := by rw [masks_length]; simp
  obtain ⟨hS1, hS2⟩ := mkS_ops ops.toList (masks ops.toList []) 0 hml
  rw [hS] at hS1 hS2
  have hspec := kindsOk_spec hk
  have hfst : ∀ (j : Nat) (p : Nat × Oper × Nat), S[j]? = some p → p.1 = 0 + j := by
    intro j p hp; rw [← hS] at hp; exact mkS_fst _ _ _ _ _ hp
  rcases dR_ok (E := E) (K := K) (n := n) (V := V) (ops := ops) (nx0 := s.nx) (lim := s.nx + ops.toList.length) (tm0 := s.tm) (T := dT E S) S 0 [] [] [] [] s.tm s.hp (s.nx + ops.toList.length) 0 s.df hfst (fun p hp => (hspec p hp).1) (fun e he => by cases he)
      ⟨⟨(fun e he => by cases he), fun _ _ => rfl⟩, hd, fun t x h => h, (fun e he => by cases he)⟩ with h | ⟨L, vs, shF, stF, hsF, tmF, hpF, nxF, f1, f2, f3, f4, f5, f6, f7, f8, f9⟩
  · exact .inl h
  · rw [f9]
    rcases dT_app E S shF E K (s.nx + ops.toList.length) stF hsF tmF hpF nxF s.df with h | ⟨hck, h⟩
    · exact .inl h
    · right
      rw [hS1, hS2] at f1
      rw [List.nil_append] at f2
      have hmem : ∀ e ∈ L, (e.i, e.o, e.m) ∈ S := fun e he => by rw [← f4]; exact List.mem_map.2 ⟨e, he, rfl⟩
      have hel : effL E S = (L.filter isEff).map fun b => (b.i, b.m) := by rw [← f4]; exact effL_of f5
      have eff4 : ∀ e ∈ L, isEff e = true → kindO E e.o = 4 := by
        intro e he h4
        rw [← f5 e he]
        exact beq_eq h4
      have num : ∀ (j : Nat) (e : Ent), L[j]? = some e → e.i = j := by
        intro j e he
        have : S[j]? = some (e.i, e.o, e.m) := by rw [← f4, List.getElem?_map, he]; rfl
        have := hfst j _ this
        simpa using this
      have hvlen : vs.length = (effL E S).length := by
        have := facts_idx (done := []) _ _ _ _ _ f1 [] rfl
        obtain ⟨_, g2, _⟩ := this
        rw [List.nil_append] at g2
        have h0 : cntE ([] : List Ent) = 0 := rfl
        rw [h0] at g2
        rw [hel, List.length_map]
        exact g2
      have hlk : Looked E K n ops s L (⟨s.hp, s.nx + ops.toList.length, 0⟩ :: vs) (fillT shF stF tmF) := by
        refine looked_facts hst f1 f2.lex ?_ ?_ ?_ ?_
        · intro a ha b hb hea heb hlt
          refine (hspec _ (hmem b hb)).2.2.2 (eff4 b hb heb) (a.i, a.m) ?_ hlt
          rw [hel]
          exact List.mem_map.2 ⟨a, List.mem_filter.2 ⟨ha, hea⟩, rfl⟩
        · intro e he ht t htl e' he' hdd
          exact (hspec _ (hmem e he)).2.2.1 (by rw [← f5 e he]; exact ht) t htl _ (hmem e' he') hdd
        · intro e he ht r v hv hvok
          have hk3 : kindO E e.o = 3 := by rw [← f5 e he]; exact ht
          rw [pend_obs f2.obs, addF_nil]
          obtain ⟨t, x, d, hop, hdst⟩ : ∃ t x d, e.o.op = .load t x ∧ e.o.dst = some d := by
            clear hck
            unfold kindO at hk3
            split at hk3 <;> first | (cases hk3; done) | skip
            all_goals first
              | (rename_i t x hop
                 split at hk3
                 · cases hk3
                 · rename_i d hdst
                   exact ⟨t, x, d, hop, hdst⟩)
              | (exfalso; revert hk3; repeat' split
                 all_goals (intro h; cases h))
          have hr : r ≤ (effL E S).length := by
            have : r < (⟨s.hp, s.nx + ops.toList.length, 0⟩ :: vs : List Ver).length := by
              rcases Nat.lt_or_ge r (⟨s.hp, s.nx + ops.toList.length, 0⟩ :: vs : List Ver).length with h5 | h5
              · exact h5
              · rw [List.getElem?_eq_none h5] at hv; cases hv
            simp only [List.length_cons] at this
            omega
          have hvs : vOkS e.m e.i r (effL E S) 0 = true := by rw [hel, vOkS_eq]; exact hvok
          obtain ⟨u, val, hp, c1, c2, c3, c4⟩ := hck _ (hmem e he) t x d hop hdst hk3 r hr hvs
          have hval : val = e.val := by
            have := f2.lex.hit e he d hdst (fun e' he' hd' => by
              have hst' := hst
              unfold stat at hst'
              rw [hS] at hst'
              have := List.all_eq_true.1 hst' _ (hmem e he)
              unfold statOne at this
              simp only [cond_true_iff] at this
              obtain ⟨_, _, _, k4⟩ := this
              rw [hdst] at k4
              have := List.all_eq_true.1 k4 _ (hmem e' he')
              have hdi : dstIs e'.o d = true := by unfold dstIs; rw [hd']; simp
              simp only [hdi, cond_true] at this
              rwa [Nat.beq_eq] at this)
            rw [c2] at this
            exact Option.some.inj this
          have hhp : hp = v.hp := by
            rw [f6] at c3
            have hrev : (vs.map Ver.hp).reverse ++ [s.hp] = ((⟨s.hp, s.nx + ops.toList.length, 0⟩ :: vs : List Ver).map Ver.hp).reverse := by
              rw [List.map_cons, List.reverse_cons]
            rw [show (vs.map Ver.hp).reverse ++ s.hp :: [] = (vs.map Ver.hp).reverse ++ [s.hp] from rfl, hrev, ← hvlen] at c3
            rw [List.getElem?_reverse (by simp only [List.length_map, List.length_cons]; omega)] at c3
            simp only [List.length_map, List.length_cons] at c3
            rw [show vs.length + 1 - 1 - (vs.length - r) = r by omega, List.getElem?_map, hv] at c3
            exact (Option.some.inj c3).symm
          subst hval
          subst hhp
          unfold readOp
          simp only [hop, c1]
          exact c4
        · intro v hv
          refine ⟨?_, fun e he ob hob => by rw [f2.obs e he] at hob; cases hob⟩
          rcases List.mem_cons.1 hv with rfl | hv'
          · simp
          · have := f3 v hv'
            simpa using this
      exact ⟨L, vs, fillT shF stF tmF, ⟨tmF, hpF, nxF, s.df⟩, hlk, h, f2.dom, f2.sub, f2.obs, f7.symm, f8.symm, rfl⟩
end Go.Evo
namespace Go.Evo

theorem drawD_fuel (E0 : Env) (n V : Nat) (ops : Array Oper) (E : Env) (K : Kit E) (fuel : Nat) (s : St) : (drawD E0 n V ops).app E K fuel s = (drawD E0 n V ops).app E K 0 s := by
  rw [drawD_app, drawD_app]

set_option maxHeartbeats 1000000 in
theorem drawD_any {E : Env} (ok : E.Ok) {K : Kit E} (hc : CallOk E K.cf) (hen : Enters E K.cf) {n V : Nat} {ops : Array Oper} (hok : okD E ops = true) (fuel : Nat) (ρ : Rho) (s : St) (a : Act) (w : World) (r : Ev) (hs : SR E n ρ s a w) (hd : DomV V s.tm) (h : (drawD E n V ops).app E K fuel s = r) (hr : r ≠ .fail) :
    wpAny E.P .any ops (fun e a' w' => EvQ E n ρ s w r e a' w' ∧ a'.defers = a.defers) ops.size (Array.replicate ops.size false) a { w with drawn := w.drawn + 1 } := by
  rw [drawD_fuel] at h
  rcases drawD_run (K := K) (n := n) hok hd with h1 | ⟨L, vs, tF, s', lk, h1, hdom, hsub, hobs, q1, q2, q3⟩
  · rw [h1] at h; exact absurd h.symm hr
  · rw [h1] at h
    subst h
    have hQ : ∀ a' w', Behind E n ρ s w ⟨tF, addF (lastV vs ⟨s.hp, s.nx + ops.toList.length, 0⟩).hp (pend s.nx (fun i => !(Nat.testBit (lastV vs ⟨s.hp, s.nx + ops.toList.length, 0⟩).A i)) L), (lastV vs ⟨s.hp, s.nx + ops.toList.length, 0⟩).nx, s.df⟩ a' w' → a'.defers = a.defers → EvQ E n ρ s w (.norm s') .normal a' w' ∧ a'.defers = a.defers := by
      rintro a' w' ⟨ρ', h2, h3⟩ hdd
      rw [pend_obs hobs, addF_nil] at h2 h3
      refine ⟨⟨rfl, ρ', ⟨⟨h2.tm.size, fun t x hx => h2.tm.get t x (hsub t x hx)⟩, ?_, ?_⟩, ?_⟩, hdd⟩
      · rw [q1, q2]; exact h2.r
      · rw [q3]; exact h2.df
      · rw [q1, q2]; exact h3
    have hw : ({ w with drawn := w.drawn + 1 } : World).heap = w.heap := rfl
    have hsub : ∀ id o, (addF s.hp (pend s.nx (fun i => (fun _ => false) i && !(Nat.testBit 0 i)) L)).get id = some o → s.hp.get id = some o := by
      intro id o hid
      rw [pend_none (fun e _ => by simp)] at hid
      exact hid
    have hexf : (fun k => (Array.replicate ops.size false).getD k false) = fun _ => false := by
      funext k
      rw [Array.getD_eq_getD_getElem?]
      cases hk : (Array.replicate ops.size false)[k]? with
      | none => rfl
      | some b =>
        rw [Array.getElem?_replicate] at hk
        split at hk
        · cases hk; rfl
        · cases hk
    refine draw_any ok hc hen lk rfl (ρ0 := ρ) (w0 := w) hs.df hQ ops.size (Array.replicate ops.size false) a { w with drawn := w.drawn + 1 } 0 ⟨s.hp, s.nx + ops.toList.length, 0⟩ ρ (by simp) ?_ ?_
    · unfold unl
      exact Nat.le_trans (List.length_filter_le _ _) (by simp)
    · rw [hexf]
      refine ⟨rfl, ?_, ?_, ?_, ?_, ?_, ?_, ?_, rfl⟩
      · intro e he hx; cases hx
      · intro i e he hef
        simp
      · exact ⟨hs.tm.size, fun t x hx => hs.tm.get t x (tmX_false _ _ t x hx)⟩
      · exact R.weaken ((R.of_heap hw hs.r).raise (Nat.le_add_right _ _)) hsub
      · refine G.weaken (G.raise (G.of_heap hw rfl rfl rfl) (Nat.le_add_right _ _)) hsub
      · intro e he _
        exact hs.r.fresh _ (Nat.le_add_right _ _)
      · intro k hk
        simp at hk

theorem drawD_ok {E : Env} (ok : E.Ok) {K : Kit E} (hc : CallOk E K.cf) (hen : Enters E K.cf) {n V id : Nat} {ops : Array Oper} (hok : okD E ops = true) : CfV E K n V (.region id ops true) (drawD E n V ops) :=
  fun fuel ρ s a w r hs hd h hr => wp_mono (wp_region_any ok.mixed (drawD_any ok hc hen hok fuel ρ s a w r hs hd h hr)) fun _ _ _ h => h.1

noncomputable def codeW (E : Env) : Code → Nat → Nat
  | .region _ ops true, acc => cond (okD E ops) (regM ops.toList 0 acc) (drawM ops.toList acc)
  | .region _ ops false, acc => regM ops.toList 0 acc
  | .seq a b, acc => codeW E b (codeW E a acc)
  | .cond c a b, acc => codeW E b (codeW E a (opdM 0 [c] acc))
  | .block _ a, acc => codeW E a acc
  | .loop a, acc => codeW E a acc
  | .scope a, acc => codeW E a acc
  | _, acc => acc

noncomputable def cfW (E : Env) (n V : Nat) : Code → CF
  | .skip => .mk (fun _ _ _ s => .norm s)
  | .region _ ops true => cond (okD E ops) (drawD E n V ops) (drawV n V ops)
  | .region _ ops false => regV n V ops
  | .seq a b => seqC (cfW E n V a) (cfW E n V b)
  | .cond c a b => condC c (cfW E n V a) (cfW E n V b)
  | .block id a => blockC id (cfW E n V a)
  | .loop a => loopC (cfW E n V a)
  | .exit id => .mk (fun _ _ _ s => .exit id s)
  | .ret => .mk (fun _ _ _ s => .ret s)
  | .scope a => cfW E n V a
  | .label _ => .mk (fun _ _ _ s => .norm s)
  | _ => .mk (fun _ _ _ _ => .fail)

section
variable {E : Env} {K : Kit E} {n V : Nat}
theorem drawD_keeps {ops : Array Oper} (hok : okD E ops = true) : Keeps E K V (drawD E n V ops) := by
  intro fuel s h
  rw [drawD_fuel]
  rcases drawD_run (K := K) (n := n) hok h with h1 | ⟨_, _, _, s', _, h1, hdom, _⟩
  · rw [h1]; trivial
  · rw [h1]; exact hdom
theorem cfW_keeps : ∀ c : Code, Keeps E K V (cfW E n V c)
  | .skip => fun _ _ h => h
  | .region _ ops true => by
    show Keeps E K V (cond (okD E ops) (drawD E n V ops) (drawV n V ops))
    cases hok : okD E ops with
    | true => exact drawD_keeps hok
    | false => exact drawV_keeps ops
  | .region _ ops false => regV_keeps ops
  | .seq a b => seqC_keeps (cfW_keeps a) (cfW_keeps b)
  | .cond c a b => condC_keeps (cfW_keeps a) (cfW_keeps b)
  | .block id a => blockC_keeps (cfW_keeps a)
  | .loop a => loopC_keeps (cfW_keeps a)
  | .exit _ => fun _ _ h => h
  | .ret => fun _ _ h => h
  | .scope a => cfW_keeps a
  | .label _ => fun _ _ h => h
  | .rangeFunc _ _ _ _ => fun _ _ _ => trivial
  | .goto _ => fun _ _ _ => trivial
  | .refuse _ => fun _ _ _ => trivial
variable (ok : E.Ok) (hc : CallOk E K.cf) (hen : Enters E K.cf)
include ok hc hen in
theorem cfW_ok : ∀ (c : Code), CfV E K n V c (cfW E n V c)
  | .skip => fun fuel ρ s a w r hs _ h hr => by
    have h' : Ev.norm s = r := h
    subst h'
    exact wp_skip ⟨rfl, behind_refl hs⟩
  | .region id ops true => by
    show CfV E K n V (.region id ops true) (cond (okD E ops) (drawD E n V ops) (drawV n V ops))
    cases hok : okD E ops with
    | true => exact drawD_ok ok hc hen hok
    | false => exact cfV_draw ok hc hen id ops
  | .region id ops false => cfV_reg ok hc hen id ops
  | .seq x y => cfV_seq (cfW_ok x) (cfW_keeps x) (cfW_ok y)
  | .cond c x y => cfV_cond (cfW_ok x) (cfW_ok y)
  | .block id x => cfV_block (cfW_ok x)
  | .loop x => cfV_loop (cfW_ok x) (cfW_keeps x)
  | .exit id => fun fuel ρ s a w r hs _ h hr => by
    have h' : Ev.exit id s = r := h
    subst h'
    exact wp_exit ⟨rfl, behind_refl hs⟩
  | .ret => fun fuel ρ s a w r hs _ h hr => by
    have h' : Ev.ret s = r := h
    subst h'
    exact wp_ret ⟨rfl, behind_refl hs⟩
  | .rangeFunc f p as body => fun fuel ρ s a w r hs _ h hr => absurd (show Ev.fail = r from h).symm hr
  | .scope body => cfV_scope (cfW_ok body)
  | .label l => fun fuel ρ s a w r hs _ h hr => by
    have h' : Ev.norm s = r := h
    subst h'
    exact wp_label ⟨rfl, behind_refl hs⟩
  | .goto l => fun fuel ρ s a w r hs _ h hr => absurd (show Ev.fail = r from h).symm hr
  | .refuse _ => fun fuel ρ s a w r hs _ h hr => absurd (show Ev.fail = r from h).symm hr
end
end Go.Evo
namespace Go.Evo

noncomputable def argsV (V : Nat) : List AV → Nat → Tr AV → Tr AV
  | [], _, t => t
  | x :: l, i, t => argsV V l (Nat.succ i) (cond (Nat.testBit V i) (t.set i x) t)
theorem argsV_get (V : Nat) : ∀ (l : List AV) (i : Nat) (t : Tr AV) (j : Nat) (x : AV), (argsV V l i t).get j = some x → (i ≤ j ∧ l[j - i]? = some x ∧ Nat.testBit V j = true) ∨ t.get j = some x
  | [], i, t, j, x, h => .inr h
  | y :: l, i, t, j, x, h => by
    have h' : (argsV V l (Nat.succ i) (cond (Nat.testBit V i) (t.set i y) t)).get j = some x := h
    rcases argsV_get V l _ _ j x h' with ⟨h1, h2, h3⟩ | h1
    · refine .inl ⟨by simp only [Nat.succ_eq_add_one] at h1; omega, ?_, h3⟩
      have : j - i = (j - Nat.succ i) + 1 := by simp only [Nat.succ_eq_add_one] at h1 ⊢; omega
      rw [this]; simpa using h2
    · cases hV : Nat.testBit V i with
      | false => rw [hV] at h1; exact .inr h1
      | true =>
        rw [hV] at h1
        simp only [cond_true] at h1
        rw [Tr.get_set] at h1
        by_cases hij : i = j
        · rw [if_pos hij] at h1; subst hij; exact .inl ⟨Nat.le_refl _, by simpa using h1, hV⟩
        · rw [if_neg hij] at h1; exact .inr h1

/-- A function known once. -/
inductive CFn2 where
  | none
  | mk (n V : Nat) (c : CF) (rs : List ResultVar)
noncomputable def cfnV (E : Env) (g : Nat) : CFn2 := match E.F.get g with
  | none => .none
  | some fn => (match fn.body with
    | none => .none
    | some c => forceN fn.ntmps fun n => forceN (codeW E c (resM fn.results.toList 0)) fun V => .mk n V (cfW E n V c) fn.results.toList)
noncomputable def runV (E : Env) (K : Kit E) (cfuel n V : Nat) (c : CF) (rs : List ResultVar) (xs : List AV) (hp : Hp) (nx : Nat) : Option (AV × Hp × Nat) :=
  Bool.rec (motive := fun _ => Option (AV × Hp × Nat)) none (forceT (argsV V xs 0 .nil) fun tm => Ev.rec (motive := fun _ => Option (AV × Hp × Nat)) none (fun s => endC E K.dq rs s) (fun _ _ => none) (fun s => endC E K.dq rs s) (c.app E K cfuel ⟨tm, hp, nx, []⟩)) (Nat.ble xs.length n)
noncomputable def callV (E : Env) (X : XKit E) (kf : CallFn) (dq : Nat → Bool) (cfuel fuel : Nat) : CallFn :=
  Nat.rec (motive := fun _ => CallFn) (fun _ _ _ _ => none) (fun _ ih g xs hp nx => Option.rec (motive := fun _ => Option (AV × Hp × Nat)) (CFn2.rec (motive := fun _ => Option (AV × Hp × Nat)) none (fun n V c rs => runV E ⟨ih, dq, X⟩ cfuel n V c rs xs hp nx) (cfnV E g)) (fun r => some r) (kf g xs hp nx)) fuel

section
variable {E : Env} (ok : E.Ok) (fns : Fns E)
include ok
theorem runV_ok {K : Kit E} (hc : CallOk E K.cf) (hen : Enters E K.cf) (hq : ∀ g, K.dq g = true → Idle E.P g) {cfuel g V : Nat} {fn : Func} {c : Code} (hf : E.P.funcs[g]? = some fn) (hb : fn.body = some c) {xs : List AV} {hp hp' : Hp} {nx nx' : Nat} {y : AV} (h : runV E K cfuel fn.ntmps V (cfW E fn.ntmps V c) fn.results.toList xs hp nx = some (y, hp', nx'))
    {ρ : Rho} {w : World} {vs : Array Value} (r : E.R ρ hp nx w) (hv : VRs ρ xs vs.toList) : Calls E.P g vs w (CPost E ρ hp nx w y hp' nx') := by
  unfold runV at h
  cases hle : Nat.ble xs.length fn.ntmps with
  | false => rw [hle] at h; cases h
  | true =>
    rw [hle] at h
    simp only [forceT_eq] at h
    have hlen : vs.size = xs.length := by simpa using hv.length
    have hle' : vs.size ≤ fn.ntmps := by rw [hlen]; exact Nat.le_of_ble_eq_true hle
    refine calls_of_wp_defers hf hb ?_
    have hd : DomV V (argsV V xs 0 .nil) := by
      intro t x hx
      rcases argsV_get V xs 0 .nil t x hx with ⟨_, _, h3⟩ | h1
      · exact h3
      · rw [Tr.get_nil] at h1; cases h1
    have hs : SR E fn.ntmps ρ ⟨argsV V xs 0 .nil, hp, nx, []⟩ { tmps := vs ++ Array.replicate (fn.ntmps - vs.size) undef, defers := [] } w := by
      refine ⟨⟨by simp; omega, ?_⟩, r, rfl⟩
      intro i x hx
      rcases argsV_get V xs 0 .nil i x hx with ⟨_, h2, _⟩ | h1
      · obtain ⟨v, q1, q2⟩ := hv.get i x (by simpa using h2)
        have hi : i < vs.size := by
          rw [← Array.length_toList]
          rcases Nat.lt_or_ge i vs.toList.length with h4 | h4
          · exact h4
          · rw [List.getElem?_eq_none h4] at q1; cases q1
        refine ⟨v, ?_, q2⟩
        rw [Array.getElem?_append_left hi]
        simpa using q1
      · rw [Tr.get_nil] at h1; cases h1
    have fin : ∀ s', endC E K.dq fn.results.toList s' = some (y, hp', nx') → ∀ a' w', Behind E fn.ntmps ρ ⟨argsV V xs 0 .nil, hp, nx, []⟩ w s' a' w' → Leaves E.P fn a'.tmps (CPost E ρ hp nx w y hp' nx') a'.defers .returning w' := by
      rintro s' hfin a' w' ⟨ρ', hs', hg⟩
      rw [endC_eq] at hfin
      unfold finFn at hfin
      cases hall : s'.df.all K.dq with
      | false => rw [hall] at hfin; cases hfin
      | true =>
        rw [hall] at hfin
        simp only [cond_true] at hfin
        cases hres : evRes E s' fn.results.toList with
        | none => rw [hres] at hfin; cases hfin
        | some ys =>
          rw [hres] at hfin; cases hfin
          refine leaves_idle hq hs'.df hall fun w'' hq' => ?_
          have hs'' : SR E fn.ntmps ρ' s' a' w'' := ⟨hs'.tm, R.of_heap hq'.heap hs'.r, hs'.df⟩
          obtain ⟨v, q1, q2⟩ := results_ok ok hs'' hres
          exact ⟨v, q1, v, ρ', rfl, q2, hs''.r, hg.trans (G.of_heap hq'.heap hq'.tape hq'.os hq'.output)⟩
    cases hev : (cfW E fn.ntmps V c).app E K cfuel ⟨argsV V xs 0 .nil, hp, nx, []⟩ with
    | fail => rw [hev] at h; cases h
    | exit id s' => rw [hev] at h; cases h
    | norm s' =>
      rw [hev] at h
      refine wp_mono (cfW_ok ok hc hen c cfuel ρ _ _ w _ hs hd hev (by simp)) ?_
      rintro e a' w' ⟨rfl, hb'⟩
      exact fin s' h a' w' hb'
    | ret s' =>
      rw [hev] at h
      refine wp_mono (cfW_ok ok hc hen c cfuel ρ _ _ w _ hs hd hev (by simp)) ?_
      rintro e a' w' ⟨rfl, hb'⟩
      exact fin s' h a' w' hb'

include fns in
theorem callV_ok {X : XKit E} {kf : CallFn} (hk : CallOk E kf) (hke : Enters E kf) {dq : Nat → Bool} (hq : ∀ g, dq g = true → Idle E.P g) (cfuel : Nat) : ∀ fuel, CallOk E (callV E X kf dq cfuel fuel) ∧ Enters E (callV E X kf dq cfuel fuel) := by
  intro fuel
  induction fuel with
  | zero => exact ⟨fun g xs hp nx y hp' nx' h => (by cases h), fun g xs hp nx r h => (by cases h)⟩
  | succ fuel ih =>
    have eqn : ∀ g xs hp nx, callV E X kf dq cfuel (fuel + 1) g xs hp nx = Option.rec (motive := fun _ => Option (AV × Hp × Nat)) (CFn2.rec (motive := fun _ => Option (AV × Hp × Nat)) none (fun n V c rs => runV E ⟨callV E X kf dq cfuel fuel, dq, X⟩ cfuel n V c rs xs hp nx) (cfnV E g)) (fun r => some r) (kf g xs hp nx) := fun _ _ _ _ => rfl
    have body : ∀ g xs hp nx r, kf g xs hp nx = none → callV E X kf dq cfuel (fuel + 1) g xs hp nx = some r → ∃ fn c V, E.F.get g = some fn ∧ fn.body = some c ∧ runV E ⟨callV E X kf dq cfuel fuel, dq, X⟩ cfuel fn.ntmps V (cfW E fn.ntmps V c) fn.results.toList xs hp nx = some r := by
      intro g xs hp nx r hkf h
      rw [eqn, hkf] at h
      unfold cfnV at h
      cases hfn : E.F.get g with
      | none => rw [hfn] at h; cases h
      | some fn =>
        rw [hfn] at h
        simp only at h
        cases hb : fn.body with
        | none => rw [hb] at h; cases h
        | some c =>
          rw [hb] at h
          simp only [forceN_eq] at h
          exact ⟨fn, c, _, rfl, hb, h⟩
    refine ⟨?_, ?_⟩
    · intro g xs hp nx y hp' nx' h ρ w vs r hv
      cases hkf : kf g xs hp nx with
      | some q =>
        rw [eqn, hkf] at h; cases h
        exact hk g xs hp nx y hp' nx' hkf ρ w vs r hv
      | none =>
        obtain ⟨fn, c, V, hfn, hb, h⟩ := body g xs hp nx _ hkf h
        exact runV_ok ok (K := ⟨callV E X kf dq cfuel fuel, dq, X⟩) ih.1 ih.2 hq (ok.fok g fn hfn) hb h r hv
    · intro g xs hp nx q h args w
      cases hkf : kf g xs hp nx with
      | some q' => exact hke g xs hp nx q' hkf args w
      | none =>
        obtain ⟨fn, c, V, hfn, hb, h⟩ := body g xs hp nx _ hkf h
        have hn := fns.name g fn hfn
        have hn' : ¬ fn.name = "runtime.NumGoroutine" := by intro h1; rw [h1] at hn; cases hn
        simp [callFunc, ok.fok g fn hfn, hn', hb]

end
end Go.Evo
namespace Go.Evo

theorem wpOps_one {P : Program} {ops : Array Oper} {Q : Exit → Act → World → Prop} {i m : Nat} {o : Oper} {a : Act} {w : World} (ho : ops[i]? = some o) (hg : o.guard = none)
    (h : o.wp P a w (fun a' w' => wpOps P ops Q (List.range' (i + 1) m) a' w') Q) : wpOps P ops Q (List.range' i (m + 1)) a w := by
  rw [List.range'_succ]
  unfold wpOps
  rw [ho]
  simp only
  have : Region.wanted o (yielded ops a.tmps) = true := by unfold Region.wanted; rw [hg]
  rw [this]
  simp only [if_true]
  exact .inl h

theorem step_call {E : Env} {n : Nat} {ρ : Rho} {o : Oper} {s : St} {a : Act} {w : World} {g : Nat} {xs : List AV} {y : AV} {hp' : Hp} {nx' : Nat} {tm' : Tr AV} (hs : SR E n ρ s a w) (hcal : callee s.tm o = some (g, xs))
    (hen : ∀ (args : Array Value) (w : World), (callFunc g args).run E.P w = .ok (.enter g args) w)
    (hc : ∀ vs : Array Value, VRs ρ xs vs.toList → Calls E.P g vs w (CPost E ρ s.hp s.nx w y hp' nx')) (hput : putT n s.tm o.dst y = some tm') (Q : Exit → Act → World → Prop) :
    o.wp E.P a w (Behind E n ρ s w ⟨tm', hp', nx', s.df⟩) Q := by
  have hen' : Enters E (fun g' xs' hp nx => cond (Nat.beq g' g) (some (y, hp', nx')) none) := by
    intro g' xs' hp nx r h args w
    have h : cond (Nat.beq g' g) (some (y, hp', nx')) none = some r := h
    cases hb : Nat.beq g' g with
    | false => rw [hb] at h; cases h
    | true => rw [Nat.beq_eq] at hb; subst hb; exact hen args w
  have hcf : (fun g' xs' (hp : Hp) (nx : Nat) => cond (Nat.beq g' g) (some (y, hp', nx')) none : CallFn) g xs s.hp s.nx = some (y, hp', nx') := by simp
  obtain ⟨vs, q1, q2⟩ := callee_ok (hp := s.hp) (nx := s.nx) hen' hcf hs.tm hcal w
  unfold Oper.wp
  rw [q1]
  refine (hc vs q2).mono ?_
  rintro e w' ⟨vc, ρ', rfl, hv, hr, hg⟩
  exact ⟨ρ', ⟨putT_ok (hs.tm.mono hg.ext) hv hput, hr, by rw [put_defers]; exact hs.df⟩, hg⟩

/-- Old rows stay. -/
theorem G.stays {ρ ρ' : Rho} {h' : Hp} {nx nx' : Nat} {w w' : World} (g : G ρ .nil nx w ρ' h' nx' w') : ∀ b, b < w.heap.size → w'.heap[b]? = w.heap[b]? :=
  fun b hb => g.frame b hb (fun id o sh e h => by rw [Tr.get_nil] at h; cases h)

end Go.Evo
namespace Go.Evo

theorem ieq_self (n : Int) : ieq n n = true := by rw [ieq_eq]; simp
theorem leqN_self (l : List Nat) : leqN l l = true := by rw [leqN_eq]; simp
mutual
theorem aeq_self : ∀ x : AV, aeq x x = true
  | .bool b => by cases b <;> rfl
  | .int k n => by simp only [aeq, ieq_self]; simp
  | .str l => by simp only [aeq, leqN_self]
  | .pnil => rfl
  | .ptr i o => by simp [aeq]
  | .gptr i o => by simp [aeq]
  | .snil => rfl
  | .sl i o n c => by simp [aeq]
  | .slo i o n c => by simp [aeq]
  | .mnil => rfl
  | .map i => by simp [aeq]
  | .fn f l => by simp [aeq, aeqs_self l]
  | .fnil => rfl
  | .inil => rfl
  | .iface t x => by simp [aeq, aeq_self x]
  | .agg l => by simp only [aeq]; exact aeqs_self l
  | .tup l => by simp only [aeq]; exact aeqs_self l
theorem aeqs_self : ∀ l : List AV, aeqs l l = true
  | [] => rfl
  | x :: l => by simp only [aeqs, aeq_self x, aeqs_self l, cond_true]
end
theorem Pure1.ok {E : Env} {g : Nat} {xs : List AV} {y : AV} (hP : Pure1 E g xs y) {hp : Hp} {nx : Nat} {ρ : Rho} {w : World} {vs : Array Value} (r : E.R ρ hp nx w) (hv : VRs ρ xs vs.toList) : Calls E.P g vs w (CPost E ρ hp nx w y hp nx) := by
  have hok : KOk E [(g, xs, y)] := by
    intro e he
    cases List.mem_singleton.1 he
    exact hP
  refine (kfOf_ok hok).1 g xs hp nx y hp nx ?_ ρ w vs r hv
  unfold kfOf
  have : aeqs xs xs = true := aeqs_self xs
  simp [this]

theorem enters_of {P : Program} {g : Nat} {fn : Func} (hf : P.funcs[g]? = some fn) (hb : fn.body.isSome = true) (hn : (fn.name == "runtime.NumGoroutine") = false) (args : Array Value) (w : World) : (callFunc g args).run P w = .ok (.enter g args) w := by
  have hn' : ¬ fn.name = "runtime.NumGoroutine" := by intro h; rw [h] at hn; cases hn
  cases hc : fn.body with
  | none => rw [hc] at hb; cases hb
  | some c => simp [callFunc, hf, hn', hc]
/-- A part of a region's operations, and what comes behind it. -/
theorem regR_tail {E : Env} (ok : E.Ok) {K : Kit E} (hc : CallOk E K.cf) (hen : Enters E K.cf) {n V : Nat} {ops : Array Oper} {s' : St} {Q : Exit → Act → World → Prop} (m : Nat) : ∀ (l : List Oper) (i : Nat) {ρ : Rho} {sh : List Nat} {st : List AV} {tm : Tr AV} {hp : Hp} {nx : Nat} {df : List Nat} {a : Act} {w : World},
    (∀ j, j < l.length → ops[i + j]? = l[j]?) → SRS E n V ρ sh st tm hp nx df a w → (regR n V ops l sh).app E K st tm hp nx df = .norm s' →
    (∀ a' w', (∃ ρ', SR E n ρ' s' a' w' ∧ G ρ hp nx w ρ' s'.hp s'.nx w') → wpOps E.P ops Q (List.range' (i + l.length) m) a' w') → wpOps E.P ops Q (List.range' i (l.length + m)) a w
  | [], i, ρ, sh, st, tm, hp, nx, df, a, w, _, hs, h, hQ => by
    have h' : Ev.norm ⟨tm, hp, nx, df⟩ = .norm s' := h
    cases h'
    have := hQ a w ⟨ρ, ⟨hs.tv, hs.r, hs.df⟩, G.refl _ _ _ _⟩
    simpa using this
  | o :: l, i, ρ, sh, st, tm, hp, nx, df, a, w, hl, hs, h, hQ => by
    have ho : ops[i]? = some o := by have := hl 0 (by simp); simpa using this
    have hl' : ∀ j, j < l.length → ops[i + 1 + j]? = l[j]? := fun j hj => by
      have := hl (j + 1) (by simp only [List.length_cons]; omega)
      rw [show i + 1 + j = i + (j + 1) by omega]
      simpa using this
    have hQ' : ∀ {ρ1 : Rho} {hp1 : Hp} {nx1 : Nat} {w1 : World}, G ρ hp nx w ρ1 hp1 nx1 w1 → ∀ a' w', (∃ ρ', SR E n ρ' s' a' w' ∧ G ρ1 hp1 nx1 w1 ρ' s'.hp s'.nx w') → wpOps E.P ops Q (List.range' (i + 1 + l.length) m) a' w' := by
      intro ρ1 hp1 nx1 w1 hg a' w' hh
      obtain ⟨ρ', q1, q2⟩ := hh
      have := hQ a' w' ⟨ρ', q1, hg.trans q2⟩
      rw [show i + 1 + l.length = i + (o :: l).length by simp only [List.length_cons]; omega]
      exact this
    rw [regR_cons] at h
    rcases sG_ok (ops := ops) (sopU_ok n V sh o) E K st tm hp nx df ((regR n V ops l (shPush o.dst sh)).app E K) with h1 | ⟨tmX, v, hp1, nx1, df1, hX, hstep, hd, h4⟩
    · rw [h1] at h; cases h
    · rw [h4] at h
      rw [show (o :: l).length + m = (l.length + m) + 1 by simp only [List.length_cons]; omega, List.range'_succ]
      unfold wpOps
      rw [ho]
      simp only
      rcases hstep with ⟨hwa, hst⟩ | ⟨hwa, rfl, rfl, rfl, rfl⟩
      · rw [wantA_ok hs.all hwa]
        simp only [if_true]
        left
        refine Oper.wp_mono ?_ (stepR_ok ok hc hen hs.r (hX.tmR hs.all) hs.df hst Q)
        rintro a1 w1 ⟨vc, ρ1, a0, rfl, ht, hv, hr1, hg, hdf⟩
        exact regR_tail ok hc hen m l (i + 1) hl' (hs.push hg.ext ht hv hr1 hdf hd) h (hQ' hg)
      · rw [wantA_ok hs.all hwa]
        simp only [Bool.false_eq_true, if_false]
        exact regR_tail ok hc hen m l (i + 1) hl' (hs.push (G.refl ρ hp1 nx1 w).ext rfl (vr_undef ρ) hs.r hs.df hd) h (hQ' (G.refl _ _ _ _))

theorem r_empty {E : Env} {w : World} (hgl : GR E.gs E.ng w) : E.R (fun _ => none) .nil 0 w := by
  refine ⟨?_, ?_, ?_, ?_, hgl⟩
  · intro id o ho; rw [Tr.get_nil] at ho; cases ho
  · intro i j oi oj b sh e b' sh' e' hi; rw [Tr.get_nil] at hi; cases hi
  · intro _ _; rfl
  · intro id b sh e h; cases h

/-- Where a walk of a function's code ends. -/
def EndsIn (E : Env) (dq : Nat → Bool) (n : Nat) (rs : List ResultVar) (ρ : Rho) (s : St) (w : World) (y : AV) : Exit → Act → World → Prop := fun e a' w' =>
  (e = .normal ∨ e = .ret) ∧ ∃ s' hp' nx', Behind E n ρ s w s' a' w' ∧ endC E dq rs s' = some (y, hp', nx')

/-- A walk of the code gives a pure call. -/
theorem pure_of_walk {E : Env} (ok : E.Ok) {dq : Nat → Bool} (hq : ∀ g, dq g = true → Idle E.P g) {g V : Nat} {fn : Func} {c : Code} (hf : E.P.funcs[g]? = some fn) (hb : fn.body = some c) (hn : (fn.name == "runtime.NumGoroutine") = false)
    {xs : List AV} {y : AV} (hpx : pfs xs = true) (hpy : pf y = true) (hle : xs.length ≤ fn.ntmps)
    (h : ∀ (a : Act) (w : World), SR E fn.ntmps (fun _ => none) ⟨argsV V xs 0 .nil, .nil, 0, []⟩ a w → DomV V (argsV V xs 0 .nil) → c.wp E.P (EndsIn E dq fn.ntmps fn.results.toList (fun _ => none) ⟨argsV V xs 0 .nil, .nil, 0, []⟩ w y) a w) : Pure1 E g xs y := by
  refine ⟨hpx, fun args w => enters_of hf (by rw [hb]; rfl) hn args w, ?_⟩
  intro w vs hgl hv
  have r0 : E.R (fun _ => none) .nil 0 w := r_empty hgl
  have hlen : vs.size = xs.length := by simpa using hv.length
  have hle' : vs.size ≤ fn.ntmps := by rw [hlen]; exact hle
  have hd : DomV V (argsV V xs 0 .nil) := by
    intro t x hx
    rcases argsV_get V xs 0 .nil t x hx with ⟨_, _, h3⟩ | h1
    · exact h3
    · rw [Tr.get_nil] at h1; cases h1
  have hs : SR E fn.ntmps (fun _ => none) ⟨argsV V xs 0 .nil, .nil, 0, []⟩ { tmps := vs ++ Array.replicate (fn.ntmps - vs.size) undef, defers := [] } w := by
    refine ⟨⟨by simp; omega, ?_⟩, r0, rfl⟩
    intro i x hx
    rcases argsV_get V xs 0 .nil i x hx with ⟨_, h2, _⟩ | h1
    · obtain ⟨v, q1, q2⟩ := hv.get i x (by simpa using h2)
      have hi : i < vs.size := by
        rw [← Array.length_toList]
        rcases Nat.lt_or_ge i vs.toList.length with h4 | h4
        · exact h4
        · rw [List.getElem?_eq_none h4] at q1; cases q1
      refine ⟨v, ?_, q2⟩
      rw [Array.getElem?_append_left hi]
      simpa using q1
    · rw [Tr.get_nil] at h1; cases h1
  refine calls_of_wp_defers hf hb ?_
  have leave : ∀ (a' : Act) (w' : World) (s' : St) (hp' : Hp) (nx' : Nat), Behind E fn.ntmps (fun _ => none) ⟨argsV V xs 0 .nil, .nil, 0, []⟩ w s' a' w' → endC E dq fn.results.toList s' = some (y, hp', nx') →
      Leaves E.P fn a'.tmps (fun e w' => ∃ v, e = .returned v ∧ VR (fun _ => none) y v ∧ w.heap.size ≤ w'.heap.size ∧ (∀ b, b < w.heap.size → w'.heap[b]? = w.heap[b]?) ∧ Beside w w') a'.defers .returning w' := by
    rintro a' w' s' hp' nx' ⟨ρ', hs', hg⟩ hfin
    rw [endC_eq] at hfin
    unfold finFn at hfin
    cases hall : s'.df.all dq with
    | false => rw [hall] at hfin; cases hfin
    | true =>
      rw [hall] at hfin
      simp only [cond_true] at hfin
      cases hres : evRes E s' fn.results.toList with
      | none => rw [hres] at hfin; cases hfin
      | some ys =>
        rw [hres] at hfin; cases hfin
        refine leaves_idle hq hs'.df hall fun w'' hq' => ?_
        have hs'' : SR E fn.ntmps ρ' s' a' w'' := ⟨hs'.tm, R.of_heap hq'.heap hs'.r, hs'.df⟩
        obtain ⟨v, q1, q2⟩ := results_ok ok hs'' hres
        have hG := hg.trans (G.of_heap hq'.heap hq'.tape hq'.os hq'.output)
        exact ⟨v, q1, v, rfl, pf_vr hpy q2, hG.size, fun b hb => hG.frame b hb (by intro id o sh e ho; rw [Tr.get_nil] at ho; cases ho), ⟨hG.tape, hG.os, hG.output⟩⟩
  refine wp_mono (h _ w hs hd) ?_
  rintro e a' w' ⟨he, s', hp', nx', hbh, hend⟩
  rcases he with rfl | rfl
  · exact leave a' w' s' hp' nx' hbh hend
  · exact leave a' w' s' hp' nx' hbh hend
end Go.Evo
