/- A verified evaluator for the model of Go, part 7: what it reckons of a call, the call does in every world that its abstract heap speaks of. Conditions: none. -/
import Derived.Test.YtffdkcadpkfhoaaGreatDoorEf
import Derived.Recover
import Derived.Laws.Sem
namespace Go.Evo

section
variable {E : Env} (ok : E.Ok) {K : Kit E} (hc : CallOk E K.cf) (hen : Enters E K.cf) {n : Nat} {ops : Array Oper} {s : St} {L : List Ent} {vs : List Ver} {tF : Tr AV}

/-- All that has been looked at. -/
structure Looked (E : Env) (K : Kit E) (n : Nat) (ops : Array Oper) (s : St) (L : List Ent) (VS : List Ver) (tF : Tr AV) : Prop where
  num : Numbered L
  len : L.length = ops.size
  vlen : VS.length = cntE L + 1
  at_ : ∀ (j : Nat) (e : Ent), L[j]? = some e → ops[j]? = some e.o
  info : ∀ (j : Nat) (e : Ent), L[j]? = some e → ∃ tm, Lex s.tm (L.take j) tm ∧ (∀ d, e.o.dst = some d → d < n) ∧ TagF E K ops s.nx (L.take j) VS tm e
  lexF : Lex s.tm L tF
  just : ∀ (j : Nat) (e : Ent), L[j]? = some e → ∀ k, Nat.testBit e.m k = true → ∃ ed ∈ e.o.after, Region.binds .any ed = true ∧ (k = ed.on ∨ ∃ e', L[ed.on]? = some e' ∧ Nat.testBit e'.m k = true)
  below : ∀ (j : Nat) (e : Ent), L[j]? = some e → ∀ ed ∈ e.o.after, Region.binds .any ed = true → ed.on < j
  looks : ∀ e ∈ L, ∀ t ∈ e.o.looksAt ops, ∀ e' ∈ L, e'.o.dst = some t → Nat.testBit e.m e'.i = true ∨ Nat.testBit e'.m e.i = true
  strict : ∀ e ∈ L, e.tag = 3 → ∀ t ∈ e.o.looksAt ops, ∀ e' ∈ L, e'.o.dst = some t → Nat.testBit e.m e'.i = true
  dsts : ∀ e ∈ L, ∀ e' ∈ L, ∀ d, e.o.dst = some d → e'.o.dst = some d → e'.i = e.i
  chain : ∀ a ∈ L, ∀ b ∈ L, isEff a = true → isEff b = true → a.i < b.i → Nat.testBit b.m a.i = true
  reads : ∀ e ∈ L, e.tag = 3 → ∀ (r : Nat) (v : Ver), VS[r]? = some v → vOk e r (L.filter isEff) 0 = true → readOp E (addF v.hp (pend s.nx (selM e.m v.A) L)) tF e.o = some e.val
  floats : ∀ v ∈ VS, s.nx + ops.size ≤ v.nx ∧ ∀ e ∈ L, ∀ ob, e.ob = some ob → Nat.testBit v.A e.i = false → v.hp.get (s.nx + e.i) = none

theorem Looked.mask_lt {VS : List Ver} (lk : Looked E K n ops s L VS tF) : ∀ (j : Nat) (e : Ent), L[j]? = some e → ∀ k, Nat.testBit e.m k = true → k < j := by
  intro j
  induction j using Nat.strongRecOn with
  | _ j ih =>
    intro e he k hk
    obtain ⟨ed, h1, h2, h3⟩ := lk.just j e he k hk
    have h4 := lk.below j e he ed h1 h2
    rcases h3 with h3 | ⟨e', h5, h6⟩
    · omega
    · have := ih ed.on h4 e' h5 k h6
      omega

/-- The state on the way: `ex` have come. -/
structure Inv (E : Env) (n : Nat) (s : St) (L : List Ent) (VS : List Ver) (ρ0 : Rho) (w0 : World) (df : List Deferred) (ex : Nat → Bool) (j : Nat) (ver : Ver) (ρ : Rho) (a : Act) (w : World) : Prop where
  hver : VS[j]? = some ver
  cl : ∀ e ∈ L, ex e.i = true → ∀ k, Nat.testBit e.m k = true → ex k = true
  ef : ∀ (i : Nat) (e : Ent), L[i]? = some e → isEff e = true → (ex i = true ↔ cntE (L.take i) < j)
  tm : TmR ρ n (tmX ex s.tm L) a.tmps
  r : E.R ρ (addF ver.hp (pend s.nx (fun i => ex i && !(Nat.testBit ver.A i)) L)) ver.nx w
  g : G ρ0 s.hp s.nx w0 ρ (addF ver.hp (pend s.nx (fun i => ex i && !(Nat.testBit ver.A i)) L)) ver.nx w
  fr : ∀ e ∈ L, ex e.i = false → ρ (s.nx + e.i) = none
  ab : ∀ k, Nat.testBit ver.A k = true → ex k = true
  df : a.defers = df

theorem selM_iff {m A i : Nat} : selM m A i = true ↔ Nat.testBit m i = true ∧ Nat.testBit A i = false := by
  unfold selM
  cases Nat.testBit m i <;> cases Nat.testBit A i <;> simp

/-- What an operation needs of the heap is there. -/
theorem Looked.need_sub {VS : List Ver} (lk : Looked E K n ops s L VS tF) {ver : Ver} (hv : ver ∈ VS) {ex : Nat → Bool} {m : Nat} (hm : ∀ k, Nat.testBit m k = true → ex k = true) (id : Nat) (o : AObj)
    (h : (addF ver.hp (pend s.nx (selM m ver.A) L)).get id = some o) : (addF ver.hp (pend s.nx (fun i => ex i && !(Nat.testBit ver.A i)) L)).get id = some o := by
  rw [addP_get lk.num] at h ⊢
  rcases h with ⟨e, he, h1, h2, h3⟩ | ⟨h1, h2⟩
  · rw [selM_iff] at h2
    exact .inl ⟨e, he, h1, by simp [hm _ h2.1, h2.2], h3⟩
  · refine .inr ⟨fun e he ob ho hs hid => ?_, h2⟩
    have hA : Nat.testBit ver.A e.i = false := by
      cases hA : Nat.testBit ver.A e.i with
      | false => rfl
      | true => simp [hA] at hs
    have := (lk.floats ver hv).2 e he ob ho hA
    rw [hid, this] at h2; cases h2

/-- The temporaries that an operation looks at, at whatever time it comes. -/
theorem Looked.agree {VS : List Ver} (lk : Looked E K n ops s L VS tF) {e : Ent} (he : e ∈ L) {ex : Nat → Bool} (hm : ∀ k, Nat.testBit e.m k = true → ex k = true) (hnot : ex e.i = false)
    (hcl : ∀ e ∈ L, ex e.i = true → ∀ k, Nat.testBit e.m k = true → ex k = true) {tm : Tr AV} (hl : Lex s.tm (L.take e.i) tm) :
    ∀ t ∈ e.o.looksAt ops, (tmX ex s.tm L).get t = tm.get t := by
  intro t ht
  rw [tmX_get]
  cases hf : L.find? (hasDst t) with
  | some e1 =>
    have h1 := List.mem_of_find?_eq_some hf
    have h2 : e1.o.dst = some t := by have := List.find?_some hf; exact hasDst_iff.1 this
    simp only
    rcases lk.looks e he t ht e1 h1 h2 with h3 | h3
    · rw [if_pos (hm _ h3)]
      have h4 := lk.mask_lt e.i e (lk.num.mem he) e1.i h3
      have h5 : e1 ∈ L.take e.i := by
        have := lk.num.mem h1
        exact List.mem_of_getElem? (i := e1.i) (by rw [List.getElem?_take_of_lt h4]; exact this)
      refine (hl.hit e1 h5 t h2 fun e' he' hd => ?_).symm
      exact lk.dsts e1 h1 e' (List.mem_of_mem_take he') t h2 hd
    · have hx : ex e1.i = false := by
        cases hx : ex e1.i with
        | false => rfl
        | true =>
          have := hcl e1 h1 hx e.i h3
          rw [hnot] at this; cases this
      rw [hx]
      simp only [Bool.false_eq_true, if_false]
      refine (hl.miss t fun e' he' hd => ?_).symm
      have h4 := lk.mask_lt e1.i e1 (lk.num.mem h1) e.i h3
      have h5 := lk.dsts e1 h1 e' (List.mem_of_mem_take he') t h2 hd
      obtain ⟨q, hq⟩ := List.getElem?_of_mem he'
      have hql : q < e.i := by
        rcases Nat.lt_or_ge q e.i with h6 | h6
        · exact h6
        · rw [List.getElem?_eq_none (by simp only [List.length_take]; omega)] at hq; cases hq
      rw [List.getElem?_take_of_lt hql] at hq
      have := lk.num q e' hq
      omega
  | none =>
    refine (hl.miss t fun e' he' hd => ?_).symm
    have := List.find?_eq_none.1 hf e' (List.mem_of_mem_take he')
    exact this (hasDst_iff.2 hd)

theorem Looked.agreeF {VS : List Ver} (lk : Looked E K n ops s L VS tF) {e : Ent} (he : e ∈ L) (h3t : e.tag = 3) {ex : Nat → Bool} (hm : ∀ k, Nat.testBit e.m k = true → ex k = true) : ∀ t ∈ e.o.looksAt ops, (tmX ex s.tm L).get t = tF.get t := by
  intro t ht
  rw [tmX_get]
  cases hf : L.find? (hasDst t) with
  | some e1 =>
    have h1 := List.mem_of_find?_eq_some hf
    have h2 : e1.o.dst = some t := by have := List.find?_some hf; exact hasDst_iff.1 this
    have h3 := lk.strict e he h3t t ht e1 h1 h2
    simp only
    rw [if_pos (hm _ h3)]
    exact (lk.lexF.hit e1 h1 t h2 fun e' he' hd => lk.dsts e1 h1 e' he' t h2 hd).symm
  | none =>
    refine (lk.lexF.miss t fun e' he' hd => ?_).symm
    have := List.find?_eq_none.1 hf e' he'
    exact this (hasDst_iff.2 hd)

/-- All have come. -/
theorem Inv.fin {VS : List Ver} (lk : Looked E K n ops s L VS tF) {v0 : Ver} {vs : List Ver} (hVS : VS = v0 :: vs) {ρ0 ρ : Rho} {w0 w : World} {a : Act} {df : List Deferred} {ex : Nat → Bool} {j : Nat} {ver : Ver}
    (h : Inv E n s L VS ρ0 w0 df ex j ver ρ a w) (hall : ∀ i, i < L.length → ex i = true) (hdf : DfR s.df df) :
    Behind E n ρ0 s w0 ⟨tF, addF (lastV vs v0).hp (pend s.nx (fun i => !(Nat.testBit (lastV vs v0).A i)) L), (lastV vs v0).nx, s.df⟩ a w := by
  have hvl := lk.vlen
  have hjl : j < VS.length := by
    rcases Nat.lt_or_ge j VS.length with h1 | h1
    · exact h1
    · have := h.hver; rw [List.getElem?_eq_none h1] at this; cases this
  have hj : j = cntE L := by
    rcases Nat.lt_or_ge j (cntE L) with h1 | h1
    · have ht : L.take L.length = L := List.take_length
      obtain ⟨k, e, q1, q2, q3, q4⟩ := cntE_exists (L := L) L.length j (Nat.le_refl _) (by rw [ht]; exact h1)
      have := (h.ef k e q2 q3).1 (hall k q1)
      omega
    · omega
  have hlast : ver = lastV vs v0 := by
    have h1 := lastV_get vs v0
    have h2 := h.hver
    rw [hVS] at h2 hvl
    simp only [List.length_cons] at hvl
    have : j = vs.length := by omega
    rw [this, h1] at h2
    exact (Option.some.inj h2).symm
  subst hlast
  have hsub : ∀ id o, (addF (lastV vs v0).hp (pend s.nx (fun i => !(Nat.testBit (lastV vs v0).A i)) L)).get id = some o → (addF (lastV vs v0).hp (pend s.nx (fun i => ex i && !(Nat.testBit (lastV vs v0).A i)) L)).get id = some o := by
    intro id o hid
    have hex : ∀ e ∈ L, ex e.i = true := fun e he => hall _ (by
      have := lk.num.mem he
      rcases Nat.lt_or_ge e.i L.length with h1 | h1
      · exact h1
      · rw [List.getElem?_eq_none h1] at this; cases this)
    rw [addP_get lk.num] at hid ⊢
    rcases hid with ⟨e, he, h1, h2, h3⟩ | ⟨h1, h2⟩
    · exact .inl ⟨e, he, h1, by rw [hex e he]; simpa using h2, h3⟩
    · exact .inr ⟨fun e he ob ho hs => h1 e he ob ho (by rw [hex e he] at hs; simpa using hs), h2⟩
  refine ⟨ρ, ⟨?_, h.r.weaken hsub, by rw [h.df]; exact hdf⟩, h.g.weaken hsub⟩
  refine ⟨h.tm.size, fun t x hx => h.tm.get t x ?_⟩
  have hx' : tF.get t = some x := hx
  rw [tmX_get]
  cases hf : L.find? (hasDst t) with
  | some e1 =>
    have h1 := List.mem_of_find?_eq_some hf
    have h2 : e1.o.dst = some t := by have := List.find?_some hf; exact hasDst_iff.1 this
    have h3 := lk.lexF.hit e1 h1 t h2 fun e' he' hd => lk.dsts e1 h1 e' he' t h2 hd
    simp only
    have hlt : e1.i < L.length := by
      have := lk.num.mem h1
      rcases Nat.lt_or_ge e1.i L.length with h4 | h4
      · exact h4
      · rw [List.getElem?_eq_none h4] at this; cases this
    rw [if_pos (hall _ hlt), ← h3]
    exact hx'
  | none =>
    have h3 := lk.lexF.miss t fun e' he' hd => by
      have := List.find?_eq_none.1 hf e' he'
      exact this (hasDst_iff.2 hd)
    simp only
    rw [← h3]; exact hx'

/-- An operation that leaves the heap as it is has come. -/
theorem Inv.still {VS : List Ver} (lk : Looked E K n ops s L VS tF) {ρ0 ρ : Rho} {w0 w : World} {a : Act} {df : List Deferred} {ex ex' : Nat → Bool} {j : Nat} {ver : Ver} (h : Inv E n s L VS ρ0 w0 df ex j ver ρ a w) {e : Ent} (he : e ∈ L)
    (hnot : ex e.i = false) (hm : ∀ k, Nat.testBit e.m k = true → ex k = true) (hex : ∀ k, ex' k = if e.i = k then true else ex k) (hne : isEff e = false) (hob : e.ob = none) (hlt : ∀ d, e.o.dst = some d → d < n) {v : Value} (hv : VR ρ e.val v) :
    Inv E n s L VS ρ0 w0 df ex' j ver ρ (a.put e.o.dst v) w := by
  have hA : Nat.testBit ver.A e.i = false := by
    cases hA : Nat.testBit ver.A e.i with
    | false => rfl
    | true => rw [h.ab _ hA] at hnot; cases hnot
  have hsub : ∀ id o, (addF ver.hp (pend s.nx (fun i => ex' i && !(Nat.testBit ver.A i)) L)).get id = some o → (addF ver.hp (pend s.nx (fun i => ex i && !(Nat.testBit ver.A i)) L)).get id = some o := by
    intro id o hid
    rw [addP_get lk.num] at hid ⊢
    rcases hid with ⟨e1, he1, h1, h2, h3⟩ | ⟨h1, h2⟩
    · refine .inl ⟨e1, he1, h1, ?_, h3⟩
      rw [hex] at h2
      by_cases hi : e.i = e1.i
      · have := lk.num.uniq he he1 hi
        subst this
        rw [hob] at h1; cases h1
      · rw [if_neg hi] at h2; exact h2
    · refine .inr ⟨fun e1 he1 ob ho hs => h1 e1 he1 ob ho ?_, h2⟩
      rw [hex]
      by_cases hi : e.i = e1.i
      · have := lk.num.uniq he he1 hi
        subst this
        rw [hob] at ho; cases ho
      · rw [if_neg hi]; exact hs
  refine ⟨h.hver, ?_, ?_, tmX_put lk.num he hlt (fun e' he' d h1 h2 => lk.dsts e he e' he' d h1 h2) hex h.tm hv, h.r.weaken hsub, h.g.weaken hsub, ?_, ?_, by rw [put_defers]; exact h.df⟩
  · intro e1 he1 hx k hk
    rw [hex] at hx ⊢
    by_cases hi : e.i = e1.i
    · have := lk.num.uniq he he1 hi
      subst this
      by_cases hik : e.i = k
      · rw [if_pos hik]
      · rw [if_neg hik]; exact hm k hk
    · rw [if_neg hi] at hx
      by_cases hik : e.i = k
      · rw [if_pos hik]
      · rw [if_neg hik]; exact h.cl e1 he1 hx k hk
  · intro i e1 he1 hef
    rw [hex]
    by_cases hi : e.i = i
    · have h1 := lk.num.mem he
      rw [hi, he1] at h1
      cases h1
      rw [hef] at hne; cases hne
    · rw [if_neg hi]; exact h.ef i e1 he1 hef
  · intro e1 he1 hx
    rw [hex] at hx
    by_cases hi : e.i = e1.i
    · rw [if_pos hi] at hx; cases hx
    · rw [if_neg hi] at hx; exact h.fr e1 he1 hx
  · intro k hk
    rw [hex]
    by_cases hik : e.i = k
    · rw [if_pos hik]
    · rw [if_neg hik]; exact h.ab k hk

theorem tag_eff {e : Ent} {t : Nat} (h : e.tag = t) (h4 : t ≠ 4) : isEff e = false := by
  unfold isEff
  rw [h, Bool.eq_false_iff]
  intro h5
  rw [Nat.beq_eq] at h5
  exact h4 h5

include ok hc hen in
set_option maxHeartbeats 1000000 in
theorem draw_any {VS : List Ver} (lk : Looked E K n ops s L VS tF) {v0 : Ver} {vs : List Ver} (hVS : VS = v0 :: vs) {ρ0 : Rho} {w0 : World} {df : List Deferred} (hdf : DfR s.df df) {Q : Exit → Act → World → Prop}
    (hQ : ∀ a' w', Behind E n ρ0 s w0 ⟨tF, addF (lastV vs v0).hp (pend s.nx (fun i => !(Nat.testBit (lastV vs v0).A i)) L), (lastV vs v0).nx, s.df⟩ a' w' → a'.defers = df → Q .normal a' w') :
    ∀ (fuel : Nat) (listed : Array Bool) (a : Act) (w : World) (j : Nat) (ver : Ver) (ρ : Rho), listed.size = ops.size → unl ops.size listed ≤ fuel → Inv E n s L VS ρ0 w0 df (fun k => listed.getD k false) j ver ρ a w →
      wpAny E.P .any ops Q fuel listed a w := by
  have sizes : ∀ (listed : Array Bool) (i : Nat), listed.size = ops.size → i < ops.size → listed.getD i true = listed.getD i false := by
    intro listed i h1 h2
    rw [Array.getD_eq_getD_getElem?, Array.getD_eq_getD_getElem?, Array.getElem?_eq_getElem (by omega)]
    rfl
  have over : ∀ (listed : Array Bool) (a : Act) (w : World) (j : Nat) (ver : Ver) (ρ : Rho), listed.size = ops.size → Inv E n s L VS ρ0 w0 df (fun k => listed.getD k false) j ver ρ a w → Region.ready .any ops listed = [] → Q .normal a w := by
    intro listed a w j ver ρ hsz hinv hr
    refine hQ a w (hinv.fin lk hVS ?_ hdf) hinv.df
    intro i
    induction i using Nat.strongRecOn with
    | _ i ih =>
      intro hi
      cases hx : listed.getD i false with
      | true => rfl
      | false =>
        exfalso
        have he : L[i]? = some L[i] := List.getElem?_eq_getElem hi
        have ho := lk.at_ i _ he
        have hmem : i ∈ Region.ready .any ops listed := by
          refine mem_ready.2 ⟨by rw [sizes listed i hsz (by rw [← lk.len]; exact hi)]; exact hx, _, ho, ?_⟩
          intro ed h1 h2
          have h3 := lk.below i _ he ed h1 h2
          exact ih ed.on h3 (by omega)
        rw [hr] at hmem; cases hmem
  intro fuel
  induction fuel with
  | zero =>
    intro listed a w j ver ρ hsz hu hinv
    have hr : Region.ready .any ops listed = [] := by
      cases hl : Region.ready .any ops listed with
      | nil => rfl
      | cons i l =>
        have hmem : i ∈ Region.ready .any ops listed := by rw [hl]; exact List.mem_cons_self
        obtain ⟨h1, o, h2, _⟩ := mem_ready.1 hmem
        have hi : i < ops.size := by
          rcases Nat.lt_or_ge i ops.size with h | h
          · exact h
          · rw [Array.getElem?_eq_none h] at h2; cases h2
        have := unl_set hsz hi h1
        omega
    exact ⟨hr, over listed a w j ver ρ hsz hinv hr⟩
  | succ fuel ih =>
    intro listed a w j ver ρ hsz hu hinv
    refine ⟨fun hr => over listed a w j ver ρ hsz hinv hr, fun i hi => ?_⟩
    obtain ⟨hnl, o, ho, hedges⟩ := mem_ready.1 hi
    have hil : i < ops.size := by
      rcases Nat.lt_or_ge i ops.size with h | h
      · exact h
      · rw [Array.getElem?_eq_none h] at ho; cases ho
    have hnot : listed.getD i false = false := by rw [← sizes listed i hsz hil]; exact hnl
    have hLi : L[i]? = some (L[i]'(by rw [lk.len]; exact hil)) := List.getElem?_eq_getElem _
    generalize hedef : L[i]'(by rw [lk.len]; exact hil) = e at hLi
    have hei : e.i = i := lk.num i e hLi
    have heo : o = e.o := by have := lk.at_ i e hLi; rw [ho] at this; exact Option.some.inj this
    subst heo
    have heL : e ∈ L := List.mem_of_getElem? hLi
    have hu' : unl ops.size (listed.setIfInBounds i true) ≤ fuel := by
      have := unl_set hsz hil hnl
      omega
    have hsz' : (listed.setIfInBounds i true).size = ops.size := by simpa using hsz
    have hex : ∀ k, (listed.setIfInBounds i true).getD k false = if e.i = k then true else listed.getD k false := by
      intro k
      rw [getD_set (by omega), hei]
    have hm : ∀ k, Nat.testBit e.m k = true → (fun k => listed.getD k false) k = true := by
      intro k hk
      obtain ⟨ed, h1, h2, h3⟩ := lk.just i e hLi k hk
      have h4 := hedges ed h1 h2
      rcases h3 with rfl | ⟨e', h5, h6⟩
      · exact h4
      · exact hinv.cl e' (List.mem_of_getElem? h5) (by rw [lk.num _ _ h5]; exact h4) k h6
    obtain ⟨tm, hlex, hdn, htag⟩ := lk.info i e hLi
    have hnot' : (fun k => listed.getD k false) e.i = false := by rw [hei]; exact hnot
    have hag := lk.agree heL hm hnot' hinv.cl (tm := tm) (by rw [hei]; exact hlex)
    have hops := operands_of_looks hag
    have hwc := want_congr (ops := ops) hag
    have hverm : ver ∈ VS := List.mem_of_getElem? hinv.hver
    unfold wpOp
    rw [ho]
    simp only
    rcases htag with ⟨t0, t1, t2, t3⟩ | ⟨t0, t1, t2, t3⟩ | ⟨t0, t1, el, c, k, t2, t3, t4⟩ | ⟨t0, t1, t3⟩ | ⟨t0, t1, t3, u0, u1, t4, t5, t6, t7⟩
    · rw [← hwc] at t1
      rw [wantA_ok hinv.tm t1]
      simp only [Bool.false_eq_true, if_false]
      exact ih _ _ _ j ver ρ hsz' hu' (hinv.still lk heL hnot' hm hex (tag_eff t0 (by decide)) t3 hdn (by rw [t2]; exact vr_undef ρ))
    · rw [← hwc] at t1
      rw [wantA_ok hinv.tm t1]
      simp only [if_true]
      rw [← quiet_congr hops] at t2
      obtain ⟨v', q1, q2⟩ := quiet_ok ok (w := w) hinv.tm t2
      left
      unfold Oper.wp
      rw [q1]
      exact ih _ _ _ j ver ρ hsz' hu' (hinv.still lk heL hnot' hm hex (tag_eff t0 (by decide)) t3 hdn q2)
    · rw [← hwc] at t1
      rw [wantA_ok hinv.tm t1]
      simp only [if_true]
      rw [← alloc_congr hops] at t2
      obtain ⟨cs, q1, q2⟩ := allocOf_ok ok (w := w) hinv.tm t2
      left
      unfold Oper.wp
      rw [q2]
      have hlenc : cs.size = c.length := by simpa using q1.length
      have hfree := hinv.fr e heL hnot'
      have hA : Nat.testBit ver.A e.i = false := by
        cases hA : Nat.testBit ver.A e.i with
        | false => rfl
        | true => have := hinv.ab _ hA; exact absurd (this.symm.trans hnot') (by decide)
      have hnxle := (lk.floats ver hverm).1
      have hold : ∀ b', b' < w.heap.size → ({ w with heap := w.heap.push (.cells cs el) } : World).heap[b']? = w.heap[b']? := by
        intro b hb
        simp only [Array.getElem?_push]
        rw [if_neg (by omega)]
      have hr1 := rowMade (w' := { w with heap := w.heap.push (.cells cs el) }) (nx' := ver.nx) (fx := true) (tr := ofCells c) hinv.r (fun j _ => ofCells_get c j) hfree (Nat.le_refl _) (by have := lk.num.mem heL; omega) (by omega)
        (by rw [List.take_of_length_le (by simp; omega)]; exact q1) (fun _ => hlenc) rfl
      have hg1 := G.allocAt (id := s.nx + e.i) (e := cs.size) (o' := .cells true el (ofCells c) c.length) (w' := { w with heap := w.heap.push (.cells cs el) }) hinv.g (Nat.le_add_right _ _) hfree hold (by simp) ⟨rfl, rfl, rfl⟩
      have hsub : ∀ id o, (addF ver.hp (pend s.nx (fun i_1 => (listed.setIfInBounds i true).getD i_1 false && !(Nat.testBit ver.A i_1)) L)).get id = some o →
          ((addF ver.hp (pend s.nx (fun i => listed.getD i false && !(Nat.testBit ver.A i)) L)).set (s.nx + e.i) (.cells true el (ofCells c) c.length)).get id = some o := by
        intro id ob hid
        rw [addP_get lk.num] at hid
        rw [Tr.get_set]
        rcases hid with ⟨e1, he1, h1, h2, h3⟩ | ⟨h1, h2⟩
        · by_cases hi : e.i = e1.i
          · have := lk.num.uniq heL he1 hi
            subst this
            rw [if_pos h3.symm]
            rw [t4] at h1; exact h1
          · rw [if_neg (by omega), addP_get lk.num]
            refine .inl ⟨e1, he1, h1, ?_, h3⟩
            rw [getD_set (by omega), if_neg (by omega)] at h2
            exact h2
        · have hne : id ≠ s.nx + e.i := h1 e heL _ t4 (by rw [getD_set (by omega), if_pos hei.symm, hA]; rfl)
          rw [if_neg (fun h => hne h.symm), addP_get lk.num]
          refine .inr ⟨fun e1 he1 ob' ho' hs => h1 e1 he1 ob' ho' ?_, h2⟩
          rw [getD_set (by omega)]
          by_cases hi : i = e1.i
          · rw [if_pos hi]; simp only [Bool.and_eq_true] at hs; simp [hs.2]
          · rw [if_neg hi]; exact hs
      have hmono : ρ.le (ρ.put (s.nx + e.i) (w.heap.size, 0, cs.size)) := Rho.le_put hfree
      refine ih _ _ _ j ver (ρ.put (s.nx + e.i) (w.heap.size, 0, cs.size)) hsz' hu' ⟨hinv.hver, ?_, ?_, ?_, R.weaken hr1 hsub, G.weaken hg1 hsub, ?_, ?_, by rw [put_defers]; exact hinv.df⟩
      · intro e1 he1 hx k hk
        rw [hex] at hx ⊢
        by_cases hik : e.i = k
        · rw [if_pos hik]
        · rw [if_neg hik]
          by_cases hi : e.i = e1.i
          · have := lk.num.uniq heL he1 hi
            subst this
            exact hm k hk
          · rw [if_neg hi] at hx
            exact hinv.cl e1 he1 hx k hk
      · intro i1 e1 he1 hef
        rw [hex]
        by_cases hi : e.i = i1
        · have h1 := lk.num.mem heL
          rw [hi, he1] at h1
          cases h1
          rw [tag_eff t0 (by decide)] at hef; cases hef
        · rw [if_neg hi]; exact hinv.ef i1 e1 he1 hef
      · exact tmX_put lk.num heL hdn (fun e' he' d h1 h2 => lk.dsts e heL e' he' d h1 h2) hex (hinv.tm.mono hmono) (by rw [t3]; exact mk_ok (Rho.put_self _ _ _))
      · intro e1 he1 hx
        rw [hex] at hx
        by_cases hi : e.i = e1.i
        · rw [if_pos hi] at hx; cases hx
        · rw [if_neg hi] at hx
          rw [Rho.put_ne ρ _ (by omega)]
          exact hinv.fr e1 he1 hx
      · intro k hk
        rw [hex]
        by_cases hik : e.i = k
        · rw [if_pos hik]
        · rw [if_neg hik]; exact hinv.ab k hk
    · rw [← hwc] at t1
      rw [wantA_ok hinv.tm t1]
      simp only [if_true]
      have hvok : vOk e j (L.filter isEff) 0 = true := by
        refine vOk_of fun r b hb => ?_
        obtain ⟨ib, h1, h2, h3⟩ := filter_rank hb
        have hbi : b.i = ib := lk.num ib b h1
        rw [Nat.zero_add]
        constructor
        · intro h4
          have h5 := hm _ h4
          rw [hbi] at h5
          have := (hinv.ef ib b h1 h3).1 h5
          omega
        · intro h4
          rcases Nat.lt_or_ge r j with h5 | h5
          · exfalso
            have h6 := (hinv.ef ib b h1 h3).2 (by omega)
            have h7 := hinv.cl b (List.mem_of_getElem? h1) (by rw [hbi]; exact h6) e.i h4
            exact absurd (h7.symm.trans hnot') (by decide)
          · exact h5
      have hrd := lk.reads e heL t0 j ver hinv.hver hvok
      rw [← read_congr (operands_of_looks (lk.agreeF heL t0 hm))] at hrd
      have hr1 := hinv.r.weaken (fun id o h => lk.need_sub hverm hm id o h)
      obtain ⟨v', q1, q2⟩ := read_ok ok hr1 hinv.tm hrd
      left
      unfold Oper.wp
      rw [q1]
      exact ih _ _ _ j ver ρ hsz' hu' (hinv.still lk heL hnot' hm hex (tag_eff t0 (by decide)) t3 hdn q2)
    · rw [← hwc] at t1
      rw [wantA_ok hinv.tm t1]
      simp only [if_true]
      have hef : isEff e = true := by unfold isEff; rw [t0]; rfl
      -- it is the next one
      have hj : cntE (L.take i) = j := by
        have h1 : ¬ (cntE (L.take i) < j) := fun h => by
          have := (hinv.ef i e hLi hef).2 h
          rw [hnot] at this; cases this
        rcases Nat.lt_or_ge j (cntE (L.take i)) with h2 | h2
        · exfalso
          obtain ⟨k, b, q1, q2, q3, q4⟩ := cntE_exists i j (by rw [lk.len]; omega) h2
          have hb := lk.chain b (List.mem_of_getElem? q2) e heL q3 hef (by rw [lk.num k b q2, hei]; exact q1)
          have := hm _ hb
          rw [lk.num k b q2] at this
          have := (hinv.ef k b q2 q3).1 this
          omega
        · omega
      rw [hj] at t4 t5
      have hv0 : u0 = ver := by have := hinv.hver; rw [t4] at this; exact Option.some.inj this
      subst hv0
      have hu1m : u1 ∈ VS := List.mem_of_getElem? t5
      have hpd : pend s.nx (selM e.m u0.A) (L.take i) = pend s.nx (selM e.m u0.A) L := by
        have h1 : L = L.take i ++ L.drop i := (List.take_append_drop i L).symm
        have h2 : pend s.nx (selM e.m u0.A) (L.drop i) = [] := by
          refine pend_nil _ fun e1 he1 => ?_
          obtain ⟨q, hq⟩ := List.getElem?_of_mem he1
          rw [List.getElem?_drop] at hq
          have h3 := lk.num _ e1 hq
          cases hs : selM e.m u0.A e1.i with
          | false => rfl
          | true =>
            rw [selM_iff] at hs
            have := lk.mask_lt i e hLi e1.i hs.1
            omega
        conv => rhs; rw [h1, pend_append, h2, List.append_nil]
      rw [hpd, ← effS_congr hops] at t7
      have hr1 := hinv.r.weaken (fun id o h => lk.need_sub hverm hm id o h)
      left
      refine Oper.wp_mono ?_ (effS_wp ok hc hen hr1 hinv.tm t7 Q)
      rintro a1 w1 ⟨vc, ρ', rfl, hv, hr2, hg2⟩
      have hjn : ∀ id o, (addF u1.hp (pend s.nx (fun i_1 => (listed.setIfInBounds i true).getD i_1 false && !(Nat.testBit u1.A i_1)) L)).get id = some o →
          u1.hp.get id = some o ∨ ((addF u0.hp (pend s.nx (fun i => listed.getD i false && !(Nat.testBit u0.A i)) L)).get id = some o ∧ (addF u0.hp (pend s.nx (selM e.m u0.A) L)).get id = none) := by
        intro id ob hid
        rw [addP_get lk.num] at hid
        rcases hid with ⟨e1, he1, h1, h2, h3⟩ | ⟨_, h2⟩
        · right
          have hne : e.i ≠ e1.i := by
            intro hi
            have := lk.num.uniq heL he1 hi
            subst this
            rw [t3] at h1; cases h1
          rw [getD_set (by omega), if_neg (by omega)] at h2
          simp only [Bool.and_eq_true] at h2
          obtain ⟨h4, h5⟩ := h2
          rw [t6, Nat.testBit_or] at h5
          have h6 : Nat.testBit u0.A e1.i = false ∧ Nat.testBit e.m e1.i = false := by
            cases hx1 : Nat.testBit u0.A e1.i <;> cases hx2 : Nat.testBit e.m e1.i <;> simp [hx1, hx2] at h5 ⊢
          refine ⟨?_, ?_⟩
          · rw [addP_get lk.num]
            exact .inl ⟨e1, he1, h1, by rw [h4, h6.1]; rfl, h3⟩
          · cases hg : (addF u0.hp (pend s.nx (selM e.m u0.A) L)).get id with
            | none => rfl
            | some o2 =>
              exfalso
              rw [addP_get lk.num] at hg
              rcases hg with ⟨e2, he2, h7, h8, h9⟩ | ⟨_, h8⟩
              · have := lk.num.uniq he1 he2 (by omega)
                subst this
                rw [selM_iff, h6.2] at h8
                cases h8.1
              · have := (lk.floats u0 hverm).2 e1 he1 ob h1 h6.1
                rw [← h3, h8] at this; cases this
        · exact .inl h2
      have hR := R.join hinv.r (fun id o h => lk.need_sub hverm hm id o h) hr2 hg2 hjn
      have hG := G.join hinv.r (fun id o h => lk.need_sub hverm hm id o h) hg2 hjn
      refine ih _ _ _ (j + 1) u1 ρ' hsz' hu' ⟨t5, ?_, ?_, ?_, hR, hinv.g.trans hG, ?_, ?_, by rw [put_defers]; exact hinv.df⟩
      · intro e1 he1 hx k hk
        rw [hex] at hx ⊢
        by_cases hik : e.i = k
        · rw [if_pos hik]
        · rw [if_neg hik]
          by_cases hi : e.i = e1.i
          · have := lk.num.uniq heL he1 hi
            subst this
            exact hm k hk
          · rw [if_neg hi] at hx
            exact hinv.cl e1 he1 hx k hk
      · intro i1 e1 he1 hef1
        rw [hex]
        by_cases hi : e.i = i1
        · have h1 := lk.num.mem heL
          rw [hi, he1] at h1
          cases h1
          rw [if_pos hi]
          have : i1 = i := by omega
          subst this
          simp only [true_iff]; omega
        · rw [if_neg hi]
          have h1 := hinv.ef i1 e1 he1 hef1
          rw [h1]
          constructor
          · intro h; omega
          · intro h
            rcases Nat.lt_or_ge (cntE (L.take i1)) j with h2 | h2
            · exact h2
            · exfalso
              have heq : cntE (L.take i1) = cntE (L.take i) := by omega
              rcases Nat.lt_trichotomy i1 i with h3 | h3 | h3
              · have := cntE_lt he1 hef1 h3; omega
              · omega
              · have := cntE_lt hLi hef h3; omega
      · exact tmX_put lk.num heL hdn (fun e' he' d h1 h2 => lk.dsts e heL e' he' d h1 h2) hex (hinv.tm.mono hg2.ext) hv
      · intro e1 he1 hx
        rw [hex] at hx
        by_cases hi : e.i = e1.i
        · rw [if_pos hi] at hx; cases hx
        · rw [if_neg hi] at hx
          refine hg2.keep _ ?_ (hinv.fr e1 he1 hx)
          have h1 := (lk.floats u0 hverm).1
          have h2 : e1.i < L.length := by
            have := lk.num.mem he1
            rcases Nat.lt_or_ge e1.i L.length with h3 | h3
            · exact h3
            · rw [List.getElem?_eq_none h3] at this; cases this
          have := lk.len
          omega
      · intro k hk
        rw [hex]
        by_cases hik : e.i = k
        · rw [if_pos hik]
        · rw [if_neg hik]
          rw [t6, Nat.testBit_or, Bool.or_eq_true] at hk
          rcases hk with hk | hk
          · exact hinv.ab k hk
          · exact hm k hk
end

end Go.Evo
namespace Go.Evo

theorem masks_length : ∀ (l : List Oper) (acc : List Nat), (masks l acc).length = acc.length + l.length
  | [], acc => rfl
  | o :: l, acc => by unfold masks; rw [masks_length]; simp; omega

theorem R.raise {gs : Nat → Option (List AV)} {ng : Nat} {ρ : Rho} {h : Hp} {nx nx' : Nat} {w : World} (r : R gs ng ρ h nx w) (hn : nx ≤ nx') : R gs ng ρ h nx' w :=
  ⟨r.hr, r.sep, fun id hid => r.fresh id (Nat.le_trans hn hid), r.low, r.gl⟩
theorem G.raise {ρ : Rho} {h : Hp} {nx nx' : Nat} {w w' : World} (g : G ρ h nx w ρ h nx w') (hn : nx ≤ nx') : G ρ h nx w ρ h nx' w' :=
  ⟨g.ext, hn, g.keep, g.size, g.frame, g.img, g.live, g.tape, g.os, g.output⟩

theorem pend_none {nx0 : Nat} {sel : Nat → Bool} {L : List Ent} (h : ∀ e ∈ L, sel e.i = false) : pend nx0 sel L = [] := pend_nil L h

theorem tmX_false (tm0 : Tr AV) (L : List Ent) : ∀ t x, (tmX (fun _ => false) tm0 L).get t = some x → tm0.get t = some x := by
  intro t x h
  rw [tmX_get] at h
  cases hf : L.find? (hasDst t) with
  | none => rw [hf] at h; exact h
  | some e => rw [hf] at h; simpa using h

theorem looked_of {E : Env} {K : Kit E} {n : Nat} {ops : Array Oper} {s : St} {L : List Ent} {vs : List Ver} {tF : Tr AV} (hst : stat ops = true)
    (hph : ph E K n ops s.nx ops.toList (masks ops.toList []) 0 [] s.tm s.hp (s.nx + ops.toList.length) 0 = some (L, vs, tF))
    (hch : ((L.filter isEff).all (fun a => (L.filter isEff).all (fun b => cond (Nat.blt a.i b.i) (Nat.testBit b.m a.i) true))) = true)
    (hrd : (L.all (fun e => cond (Nat.beq e.tag 3) (cond (strictL ops L e) (readsOk E s.nx tF L (L.filter isEff) e (⟨s.hp, s.nx + ops.toList.length, 0⟩ :: vs) 0) false) true)) = true)
    (hfl : floatsOk s.nx ops.toList.length L (⟨s.hp, s.nx + ops.toList.length, 0⟩ :: vs) = true) :
    Looked E K n ops s L (⟨s.hp, s.nx + ops.toList.length, 0⟩ :: vs) tF := by
  obtain ⟨hfacts, hlexF⟩ := ph_facts (tm0 := s.tm) _ _ _ _ _ _ _ _ _ _ _ ⟨fun e he => (by cases he), fun _ _ => rfl⟩ (fun e he => by cases he) hph
  obtain ⟨h1, h2, h3⟩ := facts_idx (done := []) _ _ _ _ _ hfacts [] rfl
  rw [List.nil_append] at h2 h3 hlexF
  have idx : ∀ (j : Nat) (e : Ent), L[j]? = some e → e.i = j ∧ ops.toList[j]? = some e.o ∧ (masks ops.toList [])[j]? = some e.m ∧ ∃ tm, Lex s.tm (L.take j) tm ∧ (∀ d, e.o.dst = some d → d < n) ∧
      TagF E K ops s.nx (L.take j) (⟨s.hp, s.nx + ops.toList.length, 0⟩ :: vs) tm e := by
    intro j e he
    have := h3 j e (Nat.zero_le _) he
    simpa using this
  have num : Numbered L := fun j e he => (idx j e he).1
  have inS : ∀ e ∈ L, (e.i, e.o, e.m) ∈ mkS ops.toList (masks ops.toList []) 0 := by
    intro e he
    obtain ⟨_, q1, q2, _⟩ := idx e.i e (num.mem he)
    have := mkS_get (i := 0) q1 q2
    rw [Nat.zero_add] at this
    exact List.mem_of_getElem? this
  have one : ∀ e ∈ L, statOne ops (masks ops.toList []) (mkS ops.toList (masks ops.toList []) 0) (e.i, e.o, e.m) = true := by
    intro e he
    unfold stat at hst
    exact List.all_eq_true.1 hst _ (inS e he)
  have par : ∀ e ∈ L, e.m = maskOf (masks ops.toList []) e.o.after.toList ∧ (∀ ed ∈ e.o.after, Region.binds .any ed = true → ed.on < e.i) ∧
      (∀ t ∈ e.o.looksAt ops, ∀ e' ∈ L, e'.o.dst = some t → Nat.testBit e.m e'.i = true ∨ Nat.testBit e'.m e.i = true) ∧ (∀ d, e.o.dst = some d → ∀ e' ∈ L, e'.o.dst = some d → e'.i = e.i) := by
    intro e he
    have h := one e he
    unfold statOne at h
    simp only [cond_true_iff] at h
    obtain ⟨k1, k2, k3, k4⟩ := h
    refine ⟨by rwa [Nat.beq_eq] at k1, ?_, ?_, ?_⟩
    · intro ed hed hb
      have := List.all_eq_true.1 k2 ed (by simpa using hed)
      rw [hb] at this
      exact blt_iff.1 this
    · intro t ht e' he' hd
      have := List.all_eq_true.1 (List.all_eq_true.1 k3 t ht) _ (inS e' he')
      have hdi : dstIs e'.o t = true := by unfold dstIs; rw [hd]; simp
      simp only [hdi, cond_true] at this
      cases hb : Nat.testBit e.m e'.i with
      | true => exact .inl rfl
      | false => rw [hb] at this; exact .inr this
    · intro d hd e' he' hd'
      rw [hd] at k4
      have := List.all_eq_true.1 k4 _ (inS e' he')
      have hdi : dstIs e'.o d = true := by unfold dstIs; rw [hd']; simp
      simp only [hdi, cond_true] at this
      rwa [Nat.beq_eq] at this
  refine ⟨num, by rw [h1]; simp, ?_, ?_, ?_, hlexF, ?_, ?_, ?_, ?_, ?_, ?_, ?_, ?_⟩
  · simp only [List.length_cons]
    have : cntE ([] : List Ent) = 0 := rfl
    rw [this] at h2; omega
  · intro j e he
    have := (idx j e he).2.1
    simpa using this
  · intro j e he
    exact (idx j e he).2.2.2
  · intro j e he k hk
    have heL := List.mem_of_getElem? he
    obtain ⟨p1, p2, _, _⟩ := par e heL
    rw [p1] at hk
    obtain ⟨ed, q1, q2, q3⟩ := maskOf_bit hk
    have q1' : ed ∈ e.o.after := by simpa using q1
    refine ⟨ed, q1', q2, ?_⟩
    rcases q3 with q3 | q3
    · exact .inl q3
    · right
      have hlt := p2 ed q1' q2
      rw [num j e he] at hlt
      have hj : j < L.length := by
        rcases Nat.lt_or_ge j L.length with h4 | h4
        · exact h4
        · rw [List.getElem?_eq_none h4] at he; cases he
      have hget : L[ed.on]? = some (L[ed.on]'(by omega)) := List.getElem?_eq_getElem _
      refine ⟨_, hget, ?_⟩
      have := (idx _ _ hget).2.2.1
      rw [List.getD_eq_getElem?_getD, this] at q3
      exact q3
  · intro j e he ed hed hb
    have heL := List.mem_of_getElem? he
    have := (par e heL).2.1 ed hed hb
    rwa [num j e he] at this
  · intro e he t ht e' he' hd
    exact (par e he).2.2.1 t ht e' he' hd
  · intro e he ht t htl e' he' hd
    have := List.all_eq_true.1 hrd e he
    rw [ht] at this
    simp only [show Nat.beq 3 3 = true from rfl, cond_true, cond_true_iff] at this
    have := this.1
    unfold strictL at this
    have := List.all_eq_true.1 (List.all_eq_true.1 this t htl) e' he'
    have hdi : dstIs e'.o t = true := by unfold dstIs; rw [hd]; simp
    simp only [hdi, cond_true] at this
    exact this
  · intro e he e' he' d hd hd'
    exact (par e he).2.2.2 d hd e' he' hd'
  · intro a ha b hb hea heb hlt
    have := List.all_eq_true.1 (List.all_eq_true.1 hch a (List.mem_filter.2 ⟨ha, hea⟩)) b (List.mem_filter.2 ⟨hb, heb⟩)
    rw [show Nat.blt a.i b.i = true from blt_iff.2 hlt] at this
    exact this
  · intro e he ht r v hv hok
    have := List.all_eq_true.1 hrd e he
    rw [ht] at this
    simp only [show Nat.beq 3 3 = true from rfl, cond_true, cond_true_iff] at this
    exact readsOk_spec (j0 := 0) this.2 r v hv (by rw [Nat.zero_add]; exact hok)
  · intro v hv
    have := floatsOk_spec hfl v hv
    simpa using this

set_option maxHeartbeats 1000000 in
theorem evDraw_ok {E : Env} (ok : E.Ok) {K : Kit E} (hc : CallOk E K.cf) (hen : Enters E K.cf) {n id : Nat} {ops : Array Oper} {s s' : St} {ρ : Rho} {a : Act} {w : World} (hs : SR E n ρ s a w) (h : evDraw E K n ops s = some s')
    {Q : Exit → Act → World → Prop} (hQ : ∀ a' w', Behind E n ρ s w s' a' w' → Q .normal a' w') : (Code.region id ops true).wp E.P Q a w := by
  unfold evDraw at h
  cases hst : stat ops with
  | false => rw [hst] at h; cases h
  | true =>
    rw [hst] at h
    simp only [cond_true] at h
    cases hph : ph E K n ops s.nx ops.toList (masks ops.toList []) 0 [] s.tm s.hp (Nat.add s.nx ops.toList.length) 0 with
    | none => rw [hph] at h; cases h
    | some p =>
      obtain ⟨L, vs, tF⟩ := p
      rw [hph] at h
      simp only at h
      cases hch : ((L.filter isEff).all (fun a => (L.filter isEff).all (fun b => cond (Nat.blt a.i b.i) (Nat.testBit b.m a.i) true))) with
      | false => rw [hch] at h; cases h
      | true =>
        rw [hch] at h
        simp only [cond_true] at h
        cases hrd : (L.all (fun e => cond (Nat.beq e.tag 3) (cond (strictL ops L e) (readsOk E s.nx tF L (L.filter isEff) e (⟨s.hp, Nat.add s.nx ops.toList.length, 0⟩ :: vs) 0) false) true)) with
        | false => rw [hrd] at h; cases h
        | true =>
          rw [hrd] at h
          simp only [cond_true] at h
          cases hfl : floatsOk s.nx ops.toList.length L (⟨s.hp, Nat.add s.nx ops.toList.length, 0⟩ :: vs) with
          | false => rw [hfl] at h; cases h
          | true =>
            rw [hfl] at h
            simp only [cond_true, mkSt_eq] at h
            cases h
            have lk := looked_of hst hph hch hrd hfl
            refine wp_region_any ok.mixed ?_
            have hw : ({ w with drawn := w.drawn + 1 } : World).heap = w.heap := rfl
            have hsub : ∀ id o, (addF s.hp (pend s.nx (fun i => (fun _ => false) i && !(Nat.testBit 0 i)) L)).get id = some o → s.hp.get id = some o := by
              intro id o hid
              rw [pend_none (fun e _ => by simp)] at hid
              exact hid
            have hexf : (fun k => (Array.replicate ops.size false).getD k false) = fun _ => false := by
              funext k
              rw [Array.getD_eq_getD_getElem?]
              cases hk : (Array.replicate ops.size false)[k]? with
              | none => rfl
              | some b =>
                rw [Array.getElem?_replicate] at hk
                split at hk
                · cases hk; rfl
                · cases hk
            refine draw_any ok hc hen lk rfl (ρ0 := ρ) (w0 := w) hs.df (fun a' w' hb _ => hQ a' w' hb) ops.size (Array.replicate ops.size false) a { w with drawn := w.drawn + 1 } 0 ⟨s.hp, s.nx + ops.toList.length, 0⟩ ρ (by simp) ?_ ?_
            · unfold unl
              exact Nat.le_trans (List.length_filter_le _ _) (by simp)
            · rw [hexf]
              refine ⟨rfl, ?_, ?_, ?_, ?_, ?_, ?_, ?_, rfl⟩
              · intro e he hx; cases hx
              · intro i e he hef
                simp
              · exact ⟨hs.tm.size, fun t x hx => hs.tm.get t x (tmX_false _ _ t x hx)⟩
              · exact R.weaken ((R.of_heap hw hs.r).raise (Nat.le_add_right _ _)) hsub
              · refine G.weaken (G.raise (G.of_heap hw rfl rfl rfl) (Nat.le_add_right _ _)) hsub
              · intro e he _
                exact hs.r.fresh _ (Nat.le_add_right _ _)
              · intro k hk
                simp at hk
end Go.Evo
namespace Go.Evo

inductive Ev where
  | fail
  | norm (s : St)
  | exit (id : Nat) (s : St)
  | ret (s : St)

noncomputable def ev (E : Env) (K : Kit E) (n : Nat) (fuel : Nat) : Code → St → Ev :=
  Nat.rec (motive := fun _ => Code → St → Ev) (fun _ _ => .fail) (fun _ ih c s => match c with
    | .skip => .norm s
    | .region _ ops true => (match evDraw E K n ops s with | none => .fail | some s' => .norm s')
    | .region _ ops false => (match evOps E K n ops ops.toList s with | none => .fail | some s' => .norm s')
    | .seq a b => (match ih a s with
      | .norm s' => ih b s'
      | r => r)
    | .cond c x y => (match evO s.tm c with
      | some (.bool true) => ih x s
      | some (.bool false) => ih y s
      | _ => .fail)
    | .block id body => (match ih body s with
      | .exit id' s' => cond (Nat.beq id' id) (.norm s') (.exit id' s')
      | r => r)
    | .loop body => (match ih body s with
      | .norm s' => ih c s'
      | r => r)
    | .exit id => .exit id s
    | .ret => .ret s
    | _ => .fail) fuel

/-- A loop behind its first door. -/
def wpL (P : Program) (c : Code) (Q : Exit → Act → World → Prop) (a : Act) (w : World) : Prop :=
  ∀ (b : Frame) (k : List Item) (cs : List Frame), ∃ e a' w', Q e a' w' ∧ Arrives P (lone (b.at a (.code c :: .inLoop c :: k)) cs w) b k cs e a' w'

theorem wp_of_wpL {P : Program} {c : Code} {Q : Exit → Act → World → Prop} {a : Act} {w : World} (h : wpL P c Q a w) : (Code.loop c).wp P Q a w := by
  intro b k cs
  obtain ⟨e, a', w', hq, harr⟩ := h b k cs
  exact ⟨e, a', w', hq, .of_steps (.one step_loop) harr⟩

theorem wpL_round {P : Program} {c : Code} {Q : Exit → Act → World → Prop} {a : Act} {w : World} (h : c.wp P (Exit.then (wpL P c Q) Q) a w) : wpL P c Q a w := by
  intro b k cs
  obtain ⟨e, a₁, w₁, hq, harr⟩ := h b (.inLoop c :: k) cs
  cases e with
  | normal =>
    obtain ⟨e₂, a₂, w₂, hq₂, harr₂⟩ := hq b k cs
    exact ⟨e₂, a₂, w₂, hq₂, .of_steps (Steps.trans harr (.one step_inLoop)) harr₂⟩
  | exit id => exact ⟨_, a₁, w₁, hq, .pass (x := .inLoop c) rfl (fun _ _ => .inl (by simp)) harr⟩
  | goto l => exact ⟨_, a₁, w₁, hq, .pass (x := .inLoop c) rfl (fun _ _ => .inl (by simp)) harr⟩
  | ret => exact ⟨_, a₁, w₁, hq, .pass (x := .inLoop c) rfl (fun _ _ => .inl (by simp)) harr⟩
  | panic ch => exact ⟨_, a₁, w₁, hq, .pass (x := .inLoop c) rfl (fun _ _ => .inl (by simp)) harr⟩
  | outgrown => exact ⟨_, a₁, w₁, hq, .pass (x := .inLoop c) rfl (fun _ _ => .inl (by simp)) harr⟩

theorem wpL_mono {P : Program} {c : Code} {Q Q' : Exit → Act → World → Prop} {a : Act} {w : World} (h : wpL P c Q a w) (hq : ∀ e a w, Q e a w → Q' e a w) : wpL P c Q' a w := by
  intro b k cs
  obtain ⟨e, a', w', h1, h2⟩ := h b k cs
  exact ⟨e, a', w', hq _ _ _ h1, h2⟩

/-- Where the reckoning says the code ends. -/
def EvQ (E : Env) (n : Nat) (ρ : Rho) (s : St) (w : World) : Ev → Exit → Act → World → Prop
  | .fail => fun _ _ _ => True
  | .norm s' => fun e a' w' => e = .normal ∧ Behind E n ρ s w s' a' w'
  | .exit id s' => fun e a' w' => e = .exit id ∧ Behind E n ρ s w s' a' w'
  | .ret s' => fun e a' w' => e = .ret ∧ Behind E n ρ s w s' a' w'

theorem EvQ.trans {E : Env} {n : Nat} {ρ ρ1 : Rho} {s s1 : St} {w w1 : World} {r : Ev} {e : Exit} {a' : Act} {w' : World} (hg : G ρ s.hp s.nx w ρ1 s1.hp s1.nx w1) (h : EvQ E n ρ1 s1 w1 r e a' w') : EvQ E n ρ s w r e a' w' := by
  cases r with
  | fail => trivial
  | norm s' => exact ⟨h.1, h.2.trans hg⟩
  | exit id s' => exact ⟨h.1, h.2.trans hg⟩
  | ret s' => exact ⟨h.1, h.2.trans hg⟩

section
variable {E : Env} (ok : E.Ok) {K : Kit E} (hc : CallOk E K.cf) (hen : Enters E K.cf) {n : Nat}

include ok hc hen in
theorem ev_ok : ∀ (fuel : Nat) (c : Code) {ρ : Rho} {s : St} {a : Act} {w : World} {r : Ev}, SR E n ρ s a w → ev E K n fuel c s = r → r ≠ .fail →
    c.wp E.P (EvQ E n ρ s w r) a w ∧ ∀ b, c = .loop b → wpL E.P b (EvQ E n ρ s w r) a w := by
  intro fuel
  induction fuel with
  | zero =>
    intro c ρ s a w r hs h hr
    exact absurd h.symm hr
  | succ fuel ih =>
    intro c ρ s a w r hs h hr
    have refl : Behind E n ρ s w s a w := ⟨ρ, hs, G.refl _ _ _ _⟩
    cases c with
    | skip =>
      have h' : Ev.norm s = r := h
      subst h'
      exact ⟨wp_skip ⟨rfl, refl⟩, fun b hb => by cases hb⟩
    | region id ops draw =>
      refine ⟨?_, fun b hb => by cases hb⟩
      cases draw with
      | true =>
        have h' : (match evDraw E K n ops s with | none => Ev.fail | some s' => .norm s') = r := h
        cases hd : evDraw E K n ops s with
        | none => rw [hd] at h'; exact absurd h'.symm hr
        | some s' =>
          rw [hd] at h'
          subst h'
          exact evDraw_ok ok hc hen hs hd fun a' w' hb => ⟨rfl, hb⟩
      | false =>
        have h' : (match evOps E K n ops ops.toList s with | none => Ev.fail | some s' => .norm s') = r := h
        cases hd : evOps E K n ops ops.toList s with
        | none => rw [hd] at h'; exact absurd h'.symm hr
        | some s' =>
          rw [hd] at h'
          subst h'
          refine wp_region ?_
          have := evOps_ok ok hc hen (Q := EvQ E n ρ s w (.norm s')) ops.toList 0 (fun j _ => by simp) hs hd (fun a' w' hb => ⟨rfl, hb⟩)
          rw [Array.length_toList] at this
          rwa [List.range_eq_range']
    | seq x y =>
      refine ⟨?_, fun b hb => by cases hb⟩
      have h' : (match ev E K n fuel x s with | .norm s' => ev E K n fuel y s' | r => r) = r := h
      apply wp_seq
      cases hx : ev E K n fuel x s with
      | fail => rw [hx] at h'; exact absurd h'.symm hr
      | norm s1 =>
        rw [hx] at h'
        refine wp_mono (ih x hs hx (by simp)).1 ?_
        rintro e a1 w1 ⟨rfl, ρ1, h1, h2⟩
        exact wp_mono (ih y h1 h' hr).1 fun e a2 w2 h3 => h3.trans h2
      | exit id s1 =>
        rw [hx] at h'
        subst h'
        refine wp_mono (ih x hs hx (by simp)).1 ?_
        rintro e a1 w1 ⟨rfl, h1⟩
        exact ⟨rfl, h1⟩
      | ret s1 =>
        rw [hx] at h'
        subst h'
        refine wp_mono (ih x hs hx (by simp)).1 ?_
        rintro e a1 w1 ⟨rfl, h1⟩
        exact ⟨rfl, h1⟩
    | cond c x y =>
      refine ⟨?_, fun b hb => by cases hb⟩
      have h' : (match evO s.tm c with
        | some (.bool true) => ev E K n fuel x s
        | some (.bool false) => ev E K n fuel y s
        | _ => .fail) = r := h
      split at h'
      · rename_i hb
        have hv := evO_ok hs.tm hb
        unfold VR at hv
        exact wp_cond hv (ih x hs h' hr).1
      · rename_i hb
        have hv := evO_ok hs.tm hb
        unfold VR at hv
        exact wp_cond hv (ih y hs h' hr).1
      · exact absurd h'.symm hr
    | block id body =>
      refine ⟨?_, fun b hb => by cases hb⟩
      have h' : (match ev E K n fuel body s with
        | .exit id' s' => cond (Nat.beq id' id) (.norm s') (.exit id' s')
        | r => r) = r := h
      apply wp_block
      cases hx : ev E K n fuel body s with
      | fail => rw [hx] at h'; exact absurd h'.symm hr
      | norm s1 =>
        rw [hx] at h'
        subst h'
        refine wp_mono (ih body hs hx (by simp)).1 ?_
        rintro e a1 w1 ⟨rfl, h1⟩
        exact ⟨rfl, h1⟩
      | exit id' s1 =>
        rw [hx] at h'
        simp only at h'
        refine wp_mono (ih body hs hx (by simp)).1 ?_
        rintro e a1 w1 ⟨rfl, h1⟩
        show if id' = id then EvQ E n ρ s w r .normal a1 w1 else EvQ E n ρ s w r (.exit id') a1 w1
        cases hb : Nat.beq id' id with
        | true =>
          rw [hb] at h'
          rw [Nat.beq_eq] at hb
          rw [if_pos hb]
          have h'' : Ev.norm s1 = r := h'
          subst h''
          exact ⟨rfl, h1⟩
        | false =>
          rw [hb] at h'
          have hne : id' ≠ id := by
            intro he
            subst he
            simp at hb
          rw [if_neg hne]
          have h'' : Ev.exit id' s1 = r := h'
          subst h''
          exact ⟨rfl, h1⟩
      | ret s1 =>
        rw [hx] at h'
        subst h'
        refine wp_mono (ih body hs hx (by simp)).1 ?_
        rintro e a1 w1 ⟨rfl, h1⟩
        exact ⟨rfl, h1⟩
    | loop body =>
      have h' : (match ev E K n fuel body s with
        | .norm s' => ev E K n fuel (.loop body) s'
        | r => r) = r := h
      have main : wpL E.P body (EvQ E n ρ s w r) a w := by
        apply wpL_round
        cases hx : ev E K n fuel body s with
        | fail => rw [hx] at h'; exact absurd h'.symm hr
        | norm s1 =>
          rw [hx] at h'
          refine wp_mono (ih body hs hx (by simp)).1 ?_
          rintro e a1 w1 ⟨rfl, ρ1, h1, h2⟩
          exact wpL_mono ((ih (.loop body) h1 h' hr).2 body rfl) fun e a2 w2 h3 => h3.trans h2
        | exit id' s1 =>
          rw [hx] at h'
          subst h'
          refine wp_mono (ih body hs hx (by simp)).1 ?_
          rintro e a1 w1 ⟨rfl, h1⟩
          exact ⟨rfl, h1⟩
        | ret s1 =>
          rw [hx] at h'
          subst h'
          refine wp_mono (ih body hs hx (by simp)).1 ?_
          rintro e a1 w1 ⟨rfl, h1⟩
          exact ⟨rfl, h1⟩
      refine ⟨wp_of_wpL main, fun b hb => ?_⟩
      cases hb
      exact main
    | exit id =>
      have h' : Ev.exit id s = r := h
      subst h'
      exact ⟨wp_exit ⟨rfl, refl⟩, fun b hb => by cases hb⟩
    | ret =>
      have h' : Ev.ret s = r := h
      subst h'
      exact ⟨wp_ret ⟨rfl, refl⟩, fun b hb => by cases hb⟩
    | rangeFunc f p as body => exact absurd (show Ev.fail = r from h).symm hr
    | scope body => exact absurd (show Ev.fail = r from h).symm hr
    | label l => exact absurd (show Ev.fail = r from h).symm hr
    | goto l => exact absurd (show Ev.fail = r from h).symm hr
    | refuse => exact absurd (show Ev.fail = r from h).symm hr
end

end Go.Evo
namespace Go.Evo

noncomputable def evRes (E : Env) (s : St) : List ResultVar → Option (List AV)
  | [] => some []
  | .tmp t :: l => (match s.tm.get t with
    | none => none
    | some x => match evRes E s l with
      | none => none
      | some xs => some (x :: xs))
  | .cell a t :: l => (match s.tm.get a with
    | none => none
    | some p => match aLoad E s.hp t p with
      | none => none
      | some x => match evRes E s l with
        | none => none
        | some xs => some (x :: xs))
noncomputable def resOne (tmps : Array Value) (x : ResultVar) : Sem Value :=
  match x with
  | ResultVar.tmp t => pure (tmps.getD t undef)
  | ResultVar.cell ad t => do loadVar t (← asAddr (tmps.getD ad undef))
theorem results_eq (fn : Func) (tmps : Array Value) : results fn tmps = (do
  let vs ← fn.results.mapM (resOne tmps)
  pure (if h : vs.size = 1 then vs[0] else .tuple vs)) := rfl
noncomputable def oneOf : List AV → AV
  | [x] => x
  | l => .tup l

section
variable {E : Env} (ok : E.Ok)

theorem loadAt_as {P : Program} {w w' : World} {t : Nat} {v v' : Value} (h : (Instr.loadAt t v).run P w = .ok v' w') : (do loadVar t (← asAddr v) : Sem Value).run P w = .ok v' w' := by
  unfold Instr.loadAt Instr.sureAddr at h
  unfold asAddr
  split at h
  · exact h
  · simp [stuck] at h

include ok in
theorem evRes_ok {n : Nat} {ρ : Rho} {s : St} {a : Act} {w : World} (hs : SR E n ρ s a w) : ∀ {l : List ResultVar} {xs : List AV}, evRes E s l = some xs →
    ∃ vs : List Value, (l.mapM (resOne a.tmps)).run E.P w = .ok vs w ∧ VRs ρ xs vs
  | [], xs, h => by
    unfold evRes at h; cases h
    exact ⟨[], by simp, VRs.nil⟩
  | .tmp t :: l, xs, h => by
    unfold evRes at h
    cases ht : s.tm.get t with
    | none => rw [ht] at h; cases h
    | some x =>
      rw [ht] at h
      simp only at h
      cases hl : evRes E s l with
      | none => rw [hl] at h; cases h
      | some xs' =>
        rw [hl] at h; cases h
        obtain ⟨vs, q1, q2⟩ := evRes_ok hs hl
        obtain ⟨v, q3, q4⟩ := hs.tm.get t x ht
        refine ⟨v :: vs, ?_, VRs.cons q4 q2⟩
        have : a.tmps.getD t undef = v := by rw [Array.getD_eq_getD_getElem?, q3]; rfl
        rw [List.mapM_cons]
        simp only [resOne, this, pure_bind]
        rw [Sem.run_bind, q1]
        simp
  | .cell ad t :: l, xs, h => by
    unfold evRes at h
    cases ht : s.tm.get ad with
    | none => rw [ht] at h; cases h
    | some p =>
      rw [ht] at h
      simp only at h
      cases hp : aLoad E s.hp t p with
      | none => rw [hp] at h; cases h
      | some x =>
        rw [hp] at h
        simp only at h
        cases hl : evRes E s l with
        | none => rw [hl] at h; cases h
        | some xs' =>
          rw [hl] at h; cases h
          obtain ⟨vs, q1, q2⟩ := evRes_ok hs hl
          obtain ⟨pv, q3, q4⟩ := hs.tm.get ad p ht
          obtain ⟨v, q5, q6⟩ := aLoad_ok ok hs.r q4 hp
          refine ⟨v :: vs, ?_, VRs.cons q6 q2⟩
          have hg : a.tmps.getD ad undef = pv := by rw [Array.getD_eq_getD_getElem?, q3]; rfl
          have := loadAt_as q5
          rw [List.mapM_cons]
          simp only [resOne, hg]
          rw [Sem.run_bind, this]
          simp only [Result.andThen_ok]
          rw [Sem.run_bind, q1]
          simp

include ok in
theorem results_ok {n : Nat} {ρ : Rho} {s : St} {a : Act} {w : World} (hs : SR E n ρ s a w) {fn : Func} {xs : List AV} (h : evRes E s fn.results.toList = some xs) : ∃ v, (results fn a.tmps).run E.P w = .ok v w ∧ VR ρ (oneOf xs) v := by
  obtain ⟨vs, q1, q2⟩ := evRes_ok ok hs h
  refine ⟨if h : vs.toArray.size = 1 then vs.toArray[0] else .tuple vs.toArray, ?_, ?_⟩
  · rw [results_eq, Array.mapM_eq_mapM_toList, Sem.run_bind]
    have : (List.toArray <$> fn.results.toList.mapM (resOne a.tmps)).run E.P w = .ok vs.toArray w := by
      rw [map_eq_pure_bind, Sem.run_bind, q1]
      simp
    rw [this]
    simp
  · cases xs with
    | nil =>
      have : vs = [] := by unfold VRs at q2; exact q2
      subst this
      simp only [List.size_toArray, List.length_nil, Nat.zero_ne_one, dite_false]
      show VR ρ (.tup []) _
      unfold VR
      exact ⟨_, rfl, VRs.nil⟩
    | cons x xs' =>
      have hlen := q2.length
      cases xs' with
      | nil =>
        obtain ⟨v, rfl⟩ : ∃ v, vs = [v] := by
          match vs, hlen with
          | [v], _ => exact ⟨v, rfl⟩
        simp only [List.size_toArray, List.length_singleton, dite_true]
        show VR ρ x _
        unfold VRs at q2
        obtain ⟨y, ys, h1, h2, _⟩ := q2
        cases h1
        exact h2
      | cons x' xs'' =>
        have : ¬ vs.toArray.size = 1 := by simp at hlen ⊢; omega
        rw [dif_neg this]
        show VR ρ (.tup (x :: x' :: xs'')) _
        unfold VR
        exact ⟨_, rfl, by simpa using q2⟩

end

/-- The arguments in the first temporaries. -/
noncomputable def argsT : List AV → Nat → Tr AV → Tr AV
  | [], _, t => t
  | x :: l, i, t => argsT l (Nat.succ i) (t.set i x)

theorem argsT_get : ∀ (l : List AV) (i : Nat) (t : Tr AV) (j : Nat), (argsT l i t).get j = if i ≤ j ∧ j < i + l.length then l[j - i]? else t.get j
  | [], i, t, j => by
    unfold argsT
    rw [if_neg (by simp only [List.length_nil]; omega)]
  | x :: l, i, t, j => by
    unfold argsT
    rw [argsT_get l (Nat.succ i), Tr.get_set]
    simp only [List.length_cons, Nat.succ_eq_add_one]
    by_cases h1 : i = j
    · subst h1
      rw [if_neg (by omega), if_pos rfl, if_pos (by omega)]
      simp
    · by_cases h2 : i + 1 ≤ j ∧ j < i + 1 + l.length
      · rw [if_pos h2, if_pos (by omega)]
        have : j - i = (j - (i + 1)) + 1 := by omega
        rw [this]; simp
      · rw [if_neg h2, if_neg h1, if_neg (by omega)]

noncomputable def finFn (E : Env) (dq : Nat → Bool) (fn : Func) (s : St) : Option (AV × Hp × Nat) :=
  cond (s.df.all dq) (match evRes E s fn.results.toList with
    | none => none
    | some xs => some (oneOf xs, s.hp, s.nx)) none
noncomputable def runFn (E : Env) (K : Kit E) (cfuel : Nat) (fn : Func) (xs : List AV) (hp : Hp) (nx : Nat) : Option (AV × Hp × Nat) :=
  match fn.body with
  | none => none
  | some c => forceN fn.ntmps fun n => cond (Nat.ble xs.length n) (forceT (argsT xs 0 .nil) fun tm => match ev E K n cfuel c ⟨tm, hp, nx, []⟩ with
    | .norm s => finFn E K.dq fn s
    | .ret s => finFn E K.dq fn s
    | _ => none) none
noncomputable def callF (E : Env) (X : XKit E) (kf : CallFn) (dq : Nat → Bool) (cfuel fuel : Nat) : CallFn :=
  Nat.rec (motive := fun _ => CallFn) (fun _ _ _ _ => none) (fun _ ih g xs hp nx => match kf g xs hp nx with
    | some r => some r
    | none => match E.F.get g with
      | none => none
      | some fn => runFn E ⟨ih, dq, X⟩ cfuel fn xs hp nx) fuel

structure Quiet (w w' : World) : Prop where
  heap : w'.heap = w.heap
  tape : w'.tape = w.tape
  os : w'.os = w.os
  output : w'.output = w.output
theorem Quiet.refl (w : World) : Quiet w w := ⟨rfl, rfl, rfl, rfl⟩
theorem Quiet.trans {a b c : World} (h : Quiet a b) (h' : Quiet b c) : Quiet a c := ⟨h'.heap.trans h.heap, h'.tape.trans h.tape, h'.os.trans h.os, h'.output.trans h.output⟩

/-- A function that does nothing when it is called on the way out. -/
structure Idle (P : Program) (g : Nat) : Prop where
  low : g ≠ markN
  enters : ∀ (args : Array Value) (w : World), (callFunc g args).run P w = .ok (.enter g args) w
  calls : ∀ (args : Array Value) (w : World), CallsD P g args .returning w fun e u' w' => (∃ v, e = .returned v) ∧ u' = .returning ∧ Quiet w w'

theorem leaves_idle {P : Program} {dq : Nat → Bool} (hq : ∀ g, dq g = true → Idle P g) {fn : Func} {tmps : Array Value} {R : Ending → World → Prop} : ∀ {l : List Nat} {ds : List Deferred} {w : World}, DfR l ds → l.all dq = true →
    (∀ w', Quiet w w' → ∃ v, (results fn tmps).run P w' = .ok v w' ∧ R (.returned v) w') → Leaves P fn tmps R ds .returning w
  | [], ds, w, h, _, hR => by
    unfold DfR at h; subst h
    exact hR w (Quiet.refl w)
  | g :: l, ds, w, h, hall, hR => by
    unfold DfR at h
    simp only [List.all_cons, Bool.and_eq_true] at hall
    have id := hq g hall.1
    obtain ⟨cap, args, ds', rfl, h'⟩ : ∃ cap args ds', ds = { target := .fn (.func g) cap, args := args } :: ds' ∧ DfR l ds' := by
      rcases h with h | ⟨h, _⟩
      · exact h
      · exact absurd h id.low
    have hi : (invoke (.fn (.func g) cap) args).run P w = .ok (.enter g (args ++ cap)) w := by
      simp only [invoke, id.enters]
    refine leaves_cons (by simp) hi ?_
    intro c cs hm
    obtain ⟨e, u', w', fr, hp, h2⟩ := id.calls (args ++ cap) w c cs hm
    refine ⟨e, u', w', fr, ?_, h2⟩
    obtain ⟨⟨v, rfl⟩, rfl, hqw⟩ := hp
    exact leaves_idle hq h' hall.2 fun w'' hq' => hR w'' (hqw.trans hq')

structure Fns (E : Env) : Prop where
  name : ∀ f fn, E.F.get f = some fn → (fn.name == "runtime.NumGoroutine") = false

section
variable {E : Env} (ok : E.Ok) (fns : Fns E)
include ok
theorem runFn_ok {K : Kit E} (hc : CallOk E K.cf) (hen : Enters E K.cf) (hq : ∀ g, K.dq g = true → Idle E.P g) {cfuel g : Nat} {fn : Func} (hf : E.P.funcs[g]? = some fn) {xs : List AV} {hp hp' : Hp} {nx nx' : Nat} {y : AV} (h : runFn E K cfuel fn xs hp nx = some (y, hp', nx'))
    {ρ : Rho} {w : World} {vs : Array Value} (r : E.R ρ hp nx w) (hv : VRs ρ xs vs.toList) : Calls E.P g vs w (CPost E ρ hp nx w y hp' nx') := by
  unfold runFn at h
  cases hb : fn.body with
  | none => rw [hb] at h; cases h
  | some c =>
    rw [hb] at h
    simp only [forceN_eq] at h
    cases hle : Nat.ble xs.length fn.ntmps with
    | false => rw [hle] at h; cases h
    | true =>
      rw [hle] at h
      simp only [cond_true, forceT_eq] at h
      have hlen : vs.size = xs.length := by simpa using hv.length
      have hle' : vs.size ≤ fn.ntmps := by rw [hlen]; exact Nat.le_of_ble_eq_true hle
      refine calls_of_wp_defers hf hb ?_
      have hs : SR E fn.ntmps ρ ⟨argsT xs 0 .nil, hp, nx, []⟩ { tmps := vs ++ Array.replicate (fn.ntmps - vs.size) undef, defers := [] } w := by
        refine ⟨⟨by simp; omega, ?_⟩, r, rfl⟩
        intro i x hx
        have hx' : (argsT xs 0 .nil).get i = some x := hx
        rw [argsT_get] at hx'
        by_cases hi : 0 ≤ i ∧ i < 0 + xs.length
        · rw [if_pos hi] at hx'
          obtain ⟨v, q1, q2⟩ := hv.get i x (by simpa using hx')
          refine ⟨v, ?_, q2⟩
          rw [Array.getElem?_append_left (by omega)]
          simpa using q1
        · rw [if_neg hi] at hx'
          have : (Tr.nil : Tr AV).get i = none := Tr.getP_nil _
          rw [this] at hx'; cases hx'
      have fin : ∀ s', finFn E K.dq fn s' = some (y, hp', nx') → ∀ a' w', Behind E fn.ntmps ρ ⟨argsT xs 0 .nil, hp, nx, []⟩ w s' a' w' → Leaves E.P fn a'.tmps (CPost E ρ hp nx w y hp' nx') a'.defers .returning w' := by
        rintro s' hfin a' w' ⟨ρ', hs', hg⟩
        unfold finFn at hfin
        cases hall : s'.df.all K.dq with
        | false => rw [hall] at hfin; cases hfin
        | true =>
          rw [hall] at hfin
          simp only [cond_true] at hfin
          cases hres : evRes E s' fn.results.toList with
          | none => rw [hres] at hfin; cases hfin
          | some ys =>
            rw [hres] at hfin; cases hfin
            refine leaves_idle hq hs'.df hall fun w'' hq' => ?_
            have hs'' : SR E fn.ntmps ρ' s' a' w'' := ⟨hs'.tm, R.of_heap hq'.heap hs'.r, hs'.df⟩
            obtain ⟨v, q1, q2⟩ := results_ok ok hs'' hres
            exact ⟨v, q1, v, ρ', rfl, q2, hs''.r, hg.trans (G.of_heap hq'.heap hq'.tape hq'.os hq'.output)⟩
      cases hev : ev E K fn.ntmps cfuel c ⟨argsT xs 0 .nil, hp, nx, []⟩ with
      | fail => rw [hev] at h; cases h
      | exit id s' => rw [hev] at h; cases h
      | norm s' =>
        rw [hev] at h
        refine wp_mono (ev_ok ok hc hen cfuel c hs hev (by simp)).1 ?_
        rintro e a' w' ⟨rfl, hb'⟩
        exact fin s' h a' w' hb'
      | ret s' =>
        rw [hev] at h
        refine wp_mono (ev_ok ok hc hen cfuel c hs hev (by simp)).1 ?_
        rintro e a' w' ⟨rfl, hb'⟩
        exact fin s' h a' w' hb'

include fns in
theorem callF_ok {X : XKit E} {kf : CallFn} (hk : CallOk E kf) (hke : Enters E kf) {dq : Nat → Bool} (hq : ∀ g, dq g = true → Idle E.P g) (cfuel : Nat) : ∀ fuel, CallOk E (callF E X kf dq cfuel fuel) ∧ Enters E (callF E X kf dq cfuel fuel) := by
  intro fuel
  induction fuel with
  | zero => exact ⟨fun g xs hp nx y hp' nx' h => (by cases h), fun g xs hp nx r h => (by cases h)⟩
  | succ fuel ih =>
    have eqn : ∀ g xs hp nx, callF E X kf dq cfuel (fuel + 1) g xs hp nx = match kf g xs hp nx with
      | some r => some r
      | none => match E.F.get g with
        | none => none
        | some fn => runFn E ⟨callF E X kf dq cfuel fuel, dq, X⟩ cfuel fn xs hp nx := fun _ _ _ _ => rfl
    refine ⟨?_, ?_⟩
    · intro g xs hp nx y hp' nx' h ρ w vs r hv
      rw [eqn] at h
      cases hkf : kf g xs hp nx with
      | some q =>
        rw [hkf] at h; cases h
        exact hk g xs hp nx y hp' nx' hkf ρ w vs r hv
      | none =>
        rw [hkf] at h
        simp only at h
        cases hfn : E.F.get g with
        | none => rw [hfn] at h; cases h
        | some fn =>
          rw [hfn] at h
          exact runFn_ok ok (K := ⟨callF E X kf dq cfuel fuel, dq, X⟩) ih.1 ih.2 hq (ok.fok g fn hfn) h r hv
    · intro g xs hp nx q h args w
      rw [eqn] at h
      cases hkf : kf g xs hp nx with
      | some q' => exact hke g xs hp nx q' hkf args w
      | none =>
        rw [hkf] at h
        simp only at h
        cases hfn : E.F.get g with
        | none => rw [hfn] at h; cases h
        | some fn =>
          rw [hfn] at h
          simp only at h
          unfold runFn at h
          cases hb : fn.body with
          | none => rw [hb] at h; cases h
          | some c =>
            have hn := fns.name g fn hfn
            have hn' : ¬ fn.name = "runtime.NumGoroutine" := by intro h1; rw [h1] at hn; cases hn
            simp [callFunc, ok.fok g fn hfn, hn', hb]

end
end Go.Evo
