/- A verified evaluator for the model of Go, part 14: what it reckons of a call, the call does in every world that its abstract heap speaks of. Conditions: none. -/
import Derived.Test.YtffdkcadpkfhoaaGreatDoorEm
import Derived.RangeFuncRecord
import Derived.RangeFuncLeaves
namespace Go.Evo

theorem cond_true_iff' {α : Type} {b : Bool} {x : Option α} {y : α} : cond b x none = some y ↔ b = true ∧ x = some y := by cases b <;> simp
def Avoid (ρ : Rho) (hp : Hp) (b : Nat) : Prop := ∀ id o b' sh e, hp.get id = some o → ρ id = some (b', sh, e) → b' ≠ b
theorem Avoid.next {ρ ρ' : Rho} {hp hp' : Hp} {nx nx' b : Nat} {w w' : World} (h : Avoid ρ hp b) (hb : b < w.heap.size) (g : G ρ hp nx w ρ' hp' nx' w') : Avoid ρ' hp' b := by
  intro id o b' sh e h1 h2 he
  subst he
  rcases g.img id o b' sh e h1 h2 with h3 | ⟨id0, o0, sh0, e0, h3, h4⟩
  · omega
  · exact h id0 o0 b' sh0 e0 h3 h4 rfl
theorem Avoid.same {ρ ρ' : Rho} {hp hp' : Hp} {nx nx' b : Nat} {w w' : World} (h : Avoid ρ hp b) (hb : b < w.heap.size) (g : G ρ hp nx w ρ' hp' nx' w') : w'.heap[b]? = w.heap[b]? :=
  g.frame b hb fun id o sh e h1 h2 => h id o b sh e h1 h2 rfl

theorem or_some {ρ : Rho} {w : World} {o : AObj} {b sh e : Nat} (h : OR ρ w o b sh e) : ∃ x, w.heap[b]? = some x := by
  cases o with
  | cells fx elem cs n => obtain ⟨c, fr, q, _⟩ := h; exact ⟨_, q⟩
  | map es clock => obtain ⟨es', q, _⟩ := h; exact ⟨_, q⟩
  | siter s pos => obtain ⟨s', q, _⟩ := h; exact ⟨_, q⟩
  | miter m a b c => obtain ⟨m', s', q, _⟩ := h; exact ⟨_, q⟩
theorem r_lt {E : Env} {ρ : Rho} {hp : Hp} {nx : Nat} {w : World} (r : E.R ρ hp nx w) {id : Nat} {o : AObj} {b sh e : Nat} (h1 : hp.get id = some o) (h2 : ρ id = some (b, sh, e)) : b < w.heap.size := by
  obtain ⟨b', sh', e', h3, h4⟩ := r.hr id o h1
  rw [h2] at h3; cases h3
  obtain ⟨x, hx⟩ := or_some h4
  rcases Nat.lt_or_ge b w.heap.size with h5 | h5
  · exact h5
  · rw [Array.getElem?_eq_none h5] at hx; cases hx
theorem r_avoid {E : Env} {ρ : Rho} {hp : Hp} {nx : Nat} {w : World} (r : E.R ρ hp nx w) {b : Nat} (hb : w.heap.size ≤ b) : Avoid ρ hp b := by
  intro id o b' sh e h1 h2 he
  have := r_lt r h1 h2
  omega
theorem r_of {E : Env} {ρ : Rho} {hp : Hp} {nx : Nat} {w w' : World} (r : E.R ρ hp nx w) (hsz : w.heap.size ≤ w'.heap.size) (hs : ∀ id o b sh e, hp.get id = some o → ρ id = some (b, sh, e) → w'.heap[b]? = w.heap[b]?) (hg : ∀ b, b < E.ng → w'.heap[b]? = w.heap[b]?) : E.R ρ hp nx w' := by
  refine ⟨?_, r.sep, r.fresh, r.low, r.gl.of_frame hsz hg⟩
  intro id o ho
  obtain ⟨b, sh, e, h1, h2⟩ := r.hr id o ho
  exact ⟨b, sh, e, h1, h2.mono (Rho.le_refl _) (hs id o b sh e ho h1)⟩
theorem r_grow {E : Env} {ρ : Rho} {hp : Hp} {nx : Nat} {w w' : World} (r : E.R ρ hp nx w) (hsz : w.heap.size ≤ w'.heap.size) (hs : ∀ b, b < w.heap.size → w'.heap[b]? = w.heap[b]?) : E.R ρ hp nx w' :=
  r_of r hsz (fun _ _ b _ _ h1 h2 => hs b (r_lt r h1 h2)) (fun b hb => hs b (by have := r.gl.1; omega))
theorem r_put {E : Env} {ρ : Rho} {hp : Hp} {nx l : Nat} {w : World} {x : Obj} (r : E.R ρ hp nx w) (ha : Avoid ρ hp l) (hl : E.ng ≤ l) : E.R ρ hp nx (w.putObj l x) :=
  r_of r (by simp) (fun id o b sh e h1 h2 => World.putObj_heap_other (ha id o b sh e h1 h2)) (fun b hb => World.putObj_heap_other (by omega))
theorem g_grow {ρ : Rho} {hp : Hp} {nx : Nat} {w w' : World} (hsz : w.heap.size ≤ w'.heap.size) (hs : ∀ b, b < w.heap.size → w'.heap[b]? = w.heap[b]?) (ht : w'.tape = w.tape) (ho : w'.os = w.os) (hp' : w'.output = w.output) : G ρ hp nx w ρ hp nx w' :=
  ⟨Rho.le_refl _, Nat.le_refl _, fun _ _ h => h, hsz, fun b hb _ => hs b hb, fun id o _b sh e h1 h2 => .inr ⟨id, o, sh, e, h1, h2⟩, fun _ o h _ => ⟨o, h⟩, ht, ho, hp'⟩
theorem g_put {ρ ρ' : Rho} {hp hp' : Hp} {nx nx' l : Nat} {w w' : World} {x : Obj} (g : G ρ hp nx w ρ' hp' nx' w') (hl : w.heap.size ≤ l) : G ρ hp nx w ρ' hp' nx' (w'.putObj l x) :=
  ⟨g.ext, g.nx_le, g.keep, by simp only [World.putObj_size]; exact g.size, fun b hb hn => (World.putObj_heap_other (by omega)).trans (g.frame b hb hn), g.img, g.live, g.tape, g.os, g.output⟩
theorem g_patch {ρ ρ' : Rho} {hp hp' : Hp} {nx nx' l : Nat} {w w' : World} (x : Obj) (g : G ρ hp nx w ρ' hp' nx' w') (hl : l < w.heap.size) : G ρ hp nx (w.putObj l x) ρ' hp' nx' (w'.putObj l x) := by
  refine ⟨g.ext, g.nx_le, g.keep, by simp only [World.putObj_size]; exact g.size, ?_, by simp only [World.putObj_size]; exact g.img, g.live, g.tape, g.os, g.output⟩
  intro b hb hn
  simp only [World.putObj_size] at hb
  by_cases hbl : b = l
  · subst hbl
    rw [World.putObj_heap_same hb, World.putObj_heap_same (Nat.lt_of_lt_of_le hb g.size)]
  · rw [World.putObj_heap_other hbl, World.putObj_heap_other hbl]
    exact g.frame b hb hn
theorem put_back {w : World} {l : Nat} {x z : Obj} (h : w.heap[l]? = some x) : ((w.putObj l z).putObj l x).heap = w.heap := by
  apply Array.ext_getElem?
  intro i
  have hl : l < w.heap.size := by
    rcases Nat.lt_or_ge l w.heap.size with h1 | h1
    · exact h1
    · rw [Array.getElem?_eq_none h1] at h; cases h
  by_cases hi : i = l
  · subst hi
    rw [World.putObj_heap_same (by simpa using hl), h]
  · rw [World.putObj_heap_other hi, World.putObj_heap_other hi]

/-- The arguments of a round. -/
noncomputable def putAll (n V : Nat) : List Nat → List AV → Tr AV → Option (Tr AV)
  | [], [], tm => some tm
  | p :: ps, x :: xs, tm => cond (Nat.blt p n) (putAll n V ps xs (cond (Nat.testBit V p) (tm.set p x) tm)) none
  | _, _, _ => none
theorem putAll_ok {n V : Nat} {ρ : Rho} : ∀ {ps : List Nat} {xs : List AV} {tm tm1 : Tr AV} {tmps : Array Value} {vs : List Value}, TmR ρ n tm tmps → DomV V tm → VRs ρ xs vs → putAll n V ps xs tm = some tm1 →
    TmR ρ n tm1 ((ps.zip vs).foldl (fun t (q : Nat × Value) => t.setIfInBounds q.1 q.2) tmps) ∧ DomV V tm1 ∧ vs.length = ps.length
  | [], [], tm, tm1, tmps, vs, ht, hd, hv, h => by
    have h' : some tm = some tm1 := h
    cases h'
    unfold VRs at hv
    subst hv
    exact ⟨ht, hd, rfl⟩
  | [], x :: xs, tm, tm1, tmps, vs, _, _, _, h => by cases h
  | p :: ps, [], tm, tm1, tmps, vs, _, _, _, h => by cases h
  | p :: ps, x :: xs, tm, tm1, tmps, vs, ht, hd, hv, h => by
    have h' : cond (Nat.blt p n) (putAll n V ps xs (cond (Nat.testBit V p) (tm.set p x) tm)) none = some tm1 := h
    unfold VRs at hv
    obtain ⟨v, ys, rfl, hv1, hv2⟩ := hv
    cases hb : Nat.blt p n with
    | false => rw [hb] at h'; cases h'
    | true =>
      rw [hb] at h'
      simp only [cond_true] at h'
      cases hV : Nat.testBit V p with
      | false =>
        rw [hV] at h'
        have ht' : TmR ρ n tm (tmps.setIfInBounds p v) := by
          refine ⟨by rw [Array.size_setIfInBounds]; exact ht.size, ?_⟩
          intro t z hz
          obtain ⟨u, q1, q2⟩ := ht.get t z hz
          refine ⟨u, ?_, q2⟩
          have hne : p ≠ t := by
            rintro rfl
            have := hd p z hz
            rw [hV] at this
            cases this
          rw [Array.getElem?_setIfInBounds_ne hne]
          exact q1
        obtain ⟨q1, q2, q3⟩ := putAll_ok ht' hd hv2 h'
        exact ⟨q1, q2, by simp [q3]⟩
      | true =>
        rw [hV] at h'
        have ht' : TmR ρ n (tm.set p x) (tmps.setIfInBounds p v) := TmR.put (a := { tmps := tmps, defers := [] }) ht (blt_iff.1 hb) hv1
        have hd' : DomV V (tm.set p x) := by
          intro t z hz
          rw [Tr.get_set] at hz
          by_cases hpt : p = t
          · subst hpt; exact hV
          · rw [if_neg hpt] at hz; exact hd t z hz
        obtain ⟨q1, q2, q3⟩ := putAll_ok ht' hd' hv2 h'
        exact ⟨q1, q2, by simp [q3]⟩

noncomputable def rnd (E : Env) (K : Kit E) (cfuel n V : Nat) (fA fB : CF) (tm0 : Tr AV) (ps : List Nat) : YH := fun xs hp nx => match putAll n V ps xs tm0 with
  | none => none
  | some tm1 => forceT tm1 fun tm1 => match fA.app E K cfuel ⟨tm1, hp, nx, []⟩ with
    | .norm s1 => (match fB.app E K cfuel s1 with
      | .norm s2 => some (s2.hp, s2.nx)
      | _ => none)
    | _ => none

section
variable {E : Env} (ok : E.Ok) {K : Kit E} (hc : CallOk E K.cf) (hen : Enters E K.cf) {n V : Nat}
include ok hc hen in
theorem rnd_ok {m cfuel l D f0 : Nat} {as bd : Code} (hra : roundOk E as = true) (hrb : roundOk E bd = true) {tm0 : Tr AV} {ps : Array Nat} {tmps0 : Array Value} {ρ1 : Rho} {hp1 : Hp} {nx1 : Nat} {w1 : World} (ht : TmR ρ1 n tm0 tmps0) (hd : DomV V tm0)
    (hl : l < w1.heap.size) (hng : E.ng ≤ l) (hav : Avoid ρ1 hp1 l) (hrec : w1.heap[l]? = some (.loop { state := .ready, pending := none, fn := f0, tmps := tmps0, params := ps, assign := as, body := bd, defers := D })) :
    YOk E m l ρ1 hp1 nx1 w1 (rnd E K cfuel n V (cfW E n V as) (cfW E n V bd) tm0 ps.toList) := by
  intro xs hp nx hp' nx' h ρ w vs hG r hv
  unfold rnd at h
  cases hpa : putAll n V ps.toList xs tm0 with
  | none => rw [hpa] at h; cases h
  | some tm1 =>
    rw [hpa] at h
    simp only [forceT_eq] at h
    have hlw : l < w.heap.size := Nat.lt_of_lt_of_le hl hG.size
    have hrecw := (hav.same hl hG).trans hrec
    have havw : Avoid ρ hp l := hav.next hl hG
    obtain ⟨q1, q2, q3⟩ := putAll_ok (ht.mono hG.ext) hd hv hpa
    have hfold : (ps.zip vs).foldl (fun tmps (t, a) => tmps.setIfInBounds t a) tmps0 = (ps.toList.zip vs.toList).foldl (fun t (q : Nat × Value) => t.setIfInBounds q.1 q.2) tmps0 := by
      rw [← Array.foldl_toList, Array.toList_zip]
    refine ⟨f0, (ps.zip vs).foldl (fun tmps (t, a) => tmps.setIfInBounds t a) tmps0, as, bd, run_yield hrecw (by simpa using q3), ?_⟩
    rw [hfold]
    cases hA : (cfW E n V as).app E K cfuel ⟨tm1, hp, nx, []⟩ with
    | fail => rw [hA] at h; cases h
    | exit id s1 => rw [hA] at h; cases h
    | ret s1 => rw [hA] at h; cases h
    | norm s1 =>
      rw [hA] at h
      simp only at h
      cases hB : (cfW E n V bd).app E K cfuel s1 with
      | fail => rw [hB] at h; cases h
      | exit id s2 => rw [hB] at h; cases h
      | ret s2 => rw [hB] at h; cases h
      | norm s2 =>
        rw [hB] at h
        cases h
        refine roundIn_of_wpIn trivial ?_
        show as.wpIn (Fw (some l)) m E.P _ _ w
        refine wpIn_mono (cfI_ok (r := some l) (m := m) ok hc hen as hra cfuel ρ ⟨tm1, hp, nx, []⟩ { tmps := _, defers := [] } w _ ⟨q1, r, rfl⟩ q2 hA (by simp)) ?_
        rintro e a1 wa ⟨⟨rfl, ρ', h1, g1⟩, hdd⟩
        have hla : l < wa.heap.size := Nat.lt_of_lt_of_le hlw g1.size
        have hreca := (havw.same hlw g1).trans hrecw
        have hava := havw.next hlw g1
        refine ⟨_, run_beginRound hreca rfl, ?_⟩
        have hkeep : DomV V s1.tm := by
          have := cfW_keeps (E := E) (K := K) (n := n) (V := V) as cfuel ⟨tm1, hp, nx, []⟩ q2
          rw [hA] at this
          exact this
        refine wpIn_mono (cfI_ok (r := some l) (m := m) ok hc hen bd hrb cfuel ρ' s1 a1 _ _ ⟨h1.tm, r_put h1.r hava hng, h1.df⟩ hkeep hB (by simp)) ?_
        rintro e a2 wc ⟨⟨rfl, ρ'', h2, g2⟩, _⟩
        have hlb : l < (wa.putObj l (.loop { state := .busy, pending := none, fn := f0, tmps := tmps0, params := ps, assign := as, body := bd, defers := D })).heap.size := by simpa using hla
        have havc : Avoid ρ'' s2.hp l := hava.next hlb g2
        have hrecc : wc.heap[l]? = some (.loop { state := .busy, pending := none, fn := f0, tmps := tmps0, params := ps, assign := as, body := bd, defers := D }) := (hava.same hlb g2).trans (World.putObj_heap_same hla)
        refine ⟨_, _, run_endRound none hrecc, rfl, ρ'', r_put h2.r havc hng, ?_⟩
        have g3 := g_patch (.loop { state := .ready, pending := none, fn := f0, tmps := tmps0, params := ps, assign := as, body := bd, defers := D }) g2 hlb
        have g4 : G ρ' s1.hp s1.nx wa ρ' s1.hp s1.nx ((wa.putObj l (.loop { state := .busy, pending := none, fn := f0, tmps := tmps0, params := ps, assign := as, body := bd, defers := D })).putObj l (.loop { state := .ready, pending := none, fn := f0, tmps := tmps0, params := ps, assign := as, body := bd, defers := D })) := G.of_heap (put_back hreca) rfl rfl rfl
        exact g1.trans (g4.trans g3)

/-- The statement: the heap behind it. -/
noncomputable def isNilR : List ResultVar → Bool
  | [] => true
  | _ :: _ => false
noncomputable def rangeS (E : Env) (K : Kit E) (cfuel n V : Nat) (g : Operand) (ps : List Nat) (as bd : Code) (s : St) : Option (Hp × Nat) :=
  cond (roundOk E as) (cond (roundOk E bd) (match evO s.tm g with
    | some (.fn gB cs) => (match E.F.get gB with
      | none => none
      | some fn => match fn.body with
        | none => none
        | some c => cond (isNilR fn.results.toList) (cond (Nat.ble (Nat.succ cs.length) fn.ntmps) (forceN (codeM c 0) fun VB => iterC E K (rnd E K cfuel n V (cfW E n V as) (cfW E n V bd) s.tm ps) cfuel VB (cfY fn.ntmps VB c) cs s.hp s.nx) none) none)
    | _ => none) none) none

include ok hc hen in
theorem range_ok (fns : Fns E) {m cfuel : Nat} {g : Operand} {ps : Array Nat} {as bd : Code} {ρ : Rho} {s : St} {a : Act} {w : World} {hp' : Hp} {nx' : Nat} (hs : SR E n ρ s a w) (hd : DomV V s.tm) (h : rangeS E K cfuel n V g ps.toList as bd s = some (hp', nx'))
    {Q : Exit → Act → World → Prop} (hQ : ∀ w' ρ' D, w.heap.size ≤ D → D < w'.heap.size → w'.heap[D]? = some (.deferred (some [])) → Avoid ρ' hp' D → E.R ρ' hp' nx' w' → G ρ s.hp s.nx w ρ' hp' nx' w' → Q .normal { a with defers := [{ target := .collected D, args := #[] }] ++ a.defers } w') :
    (Code.rangeFunc g ps as bd).wpIn (Fw none) (m + 3) E.P Q a w := by
  unfold rangeS at h
  rw [cond_true_iff'] at h
  obtain ⟨hra, h⟩ := h
  rw [cond_true_iff'] at h
  obtain ⟨hrb, h⟩ := h
  split at h
  · rename_i gB cs hg
    cases hfn : E.F.get gB with
    | none => rw [hfn] at h; cases h
    | some fn =>
      rw [hfn] at h
      simp only at h
      cases hb : fn.body with
      | none => rw [hb] at h; cases h
      | some c =>
        rw [hb] at h
        simp only at h
        rw [cond_true_iff'] at h
        obtain ⟨hnr, h⟩ := h
        rw [cond_true_iff'] at h
        obtain ⟨hle, h⟩ := h
        rw [forceN_eq] at h
        have hres : fn.results.toList = [] := by
          cases hrl : fn.results.toList with
          | nil => rfl
          | cons x xs => rw [hrl] at hnr; cases hnr
        have hfv := evO_ok hs.tm hg
        unfold VR at hfv
        obtain ⟨cv, hfe, hcv⟩ := hfv
        have hP := ok.fok gB fn hfn
        refine wpIn_rangeFunc ?_
        intro f0 _
        let rec0 : Loop := { state := .ready, pending := none, fn := f0, tmps := a.tmps, params := ps, assign := as, body := bd, defers := w.heap.size }
        have hw1 : ((w.alloc (.deferred (some []))).alloc (.loop rec0)).heap = (w.heap.push (.deferred (some []))).push (.loop rec0) := rfl
        generalize hww : (w.alloc (.deferred (some []))).alloc (.loop rec0) = w1 at hw1
        have hsz1 : w1.heap.size = w.heap.size + 2 := by rw [hw1]; simp
        have hold : ∀ b, b < w.heap.size → w1.heap[b]? = w.heap[b]? := by
          intro b hb'
          rw [hw1, Array.getElem?_push, if_neg (by simp; omega), Array.getElem?_push, if_neg (by omega)]
        have hD1 : w1.heap[w.heap.size]? = some (.deferred (some [])) := by
          rw [hw1, Array.getElem?_push, if_neg (by simp)]
          simp
        have hL1 : w1.heap[w.heap.size + 1]? = some (.loop rec0) := by
          rw [hw1, Array.getElem?_push, if_pos (by simp)]
        have r1 : E.R ρ s.hp s.nx w1 := r_grow hs.r (by omega) hold
        have g1 : G ρ s.hp s.nx w ρ s.hp s.nx w1 := g_grow (by omega) hold (by rw [← hww]; rfl) (by rw [← hww]; rfl) (by rw [← hww]; rfl)
        have avD : Avoid ρ s.hp w.heap.size := r_avoid hs.r (Nat.le_refl _)
        have avL : Avoid ρ s.hp (w.heap.size + 1) := r_avoid hs.r (Nat.le_succ _)
        have hng : E.ng ≤ w.heap.size := hs.r.gl.1
        refine ⟨w.heap.size + 1, [{ target := .collected w.heap.size, args := #[] }], w1, { target := .fn (.func gB) cv, args := #[Yv (w.heap.size + 1)] }, w1, gB, #[Yv (w.heap.size + 1)] ++ cv, w1, ?_, ?_, fun _ _ => trivial, ?_, (fun hh => by cases hh), ?_⟩
        · have := run_enterLoop_outer (P := E.P) (w := w) f0 a.tmps ps as bd
          rw [show (Fw none).round = none from rfl, this]
          rw [← hww]
        · simp only [resolve, hfe, Deferred.ofValue, Sem.run_pure, Array.empty_append, List.map_toArray, List.map_cons, List.map_nil]
          rfl
        · exact enters_of hP (by rw [hb]; rfl) (fns.name gB fn hfn) _ _
        · have hy := rnd_ok ok hc hen (n := n) (V := V) (m := m + 1) (cfuel := cfuel) hra hrb (ht := hs.tm) hd (by omega) (by omega) avL (f0 := f0) (D := w.heap.size) (hrec := hL1) (nx1 := s.nx)
          have hcall := iter_ok ok hc hen hy hP hb hres (Nat.le_of_ble_eq_true hle) h r1 hcv
          refine (fw_calls (r := none) (n := m + 3 - 1) hcall).mono ?_
          rintro e w3 ⟨rfl, ρ', r3, g3⟩
          have hlt1 : w.heap.size + 1 < w1.heap.size := by omega
          have hltD : w.heap.size < w1.heap.size := by omega
          have hL3 := (avL.same hlt1 g3).trans hL1
          have hD3 := (avD.same hltD g3).trans hD1
          have avL3 := avL.next hlt1 g3
          have avD3 := avD.next hltD g3
          refine ⟨none, _, run_endLoop hL3 (by simp [rec0]), ?_⟩
          have hsz3 := g3.size
          refine hQ _ ρ' w.heap.size (Nat.le_refl _) (by simp only [World.putObj_size]; omega) ((World.putObj_heap_other (by omega)).trans hD3) avD3 (r_put r3 avL3 (by omega)) (g_put (g1.trans g3) (by omega))
  · cases h
end
end Go.Evo
namespace Go.Evo

/-- The marks that the ranges left. -/
def MA (B : Nat) (ρ : Rho) (hp : Hp) (w : World) : List Deferred → Prop
  | [] => True
  | d :: ds => (∃ D, d = { target := .collected D, args := #[] } ∧ B ≤ D ∧ D < w.heap.size ∧ w.heap[D]? = some (.deferred (some [])) ∧ Avoid ρ hp D ∧ ∀ d' ∈ ds, d'.target ≠ .collected D) ∧ MA B ρ hp w ds
theorem MA.next {B : Nat} {ρ ρ' : Rho} {hp hp' : Hp} {nx nx' : Nat} {w w' : World} (g : G ρ hp nx w ρ' hp' nx' w') : ∀ {ds : List Deferred}, MA B ρ hp w ds → MA B ρ' hp' w' ds
  | [], _ => trivial
  | _d :: _ds, ⟨⟨D, h1, h2, h3, h4, h5, h6⟩, h⟩ => ⟨⟨D, h1, h2, Nat.lt_of_lt_of_le h3 g.size, (h5.same h3 g).trans h4, h5.next h3 g, h6⟩, h.next g⟩
theorem MA.lt {B : Nat} {ρ : Rho} {hp : Hp} {w : World} : ∀ {ds : List Deferred}, MA B ρ hp w ds → ∀ d ∈ ds, ∃ D, d.target = .collected D ∧ D < w.heap.size
  | [], _, d, hd => by cases hd
  | d0 :: ds, ⟨⟨D, h1, h2, h3, _⟩, h⟩, d, hd => by
    rcases List.mem_cons.1 hd with rfl | hd
    · subst h1; exact ⟨D, rfl, h3⟩
    · exact h.lt d hd

def BehindF (E : Env) (n B : Nat) (ρ : Rho) (s : St) (w : World) (s' : St) (a' : Act) (w' : World) : Prop := ∃ ρ', (SR E n ρ' s' a' w' ∧ G ρ s.hp s.nx w ρ' s'.hp s'.nx w') ∧ MA B ρ' s'.hp w' a'.defers
theorem BehindF.trans {E : Env} {n B : Nat} {ρ ρ1 : Rho} {s s1 s' : St} {w w1 : World} {a' : Act} {w' : World} (hg : G ρ s.hp s.nx w ρ1 s1.hp s1.nx w1) (h : BehindF E n B ρ1 s1 w1 s' a' w') : BehindF E n B ρ s w s' a' w' := by
  obtain ⟨ρ', ⟨h1, h2⟩, h3⟩ := h
  exact ⟨ρ', ⟨h1, hg.trans h2⟩, h3⟩
def EvF (E : Env) (n B : Nat) (ρ : Rho) (s : St) (w : World) : Ev → Exit → Act → World → Prop
  | .fail => fun _ _ _ => True
  | .norm s' => fun e a' w' => e = .normal ∧ BehindF E n B ρ s w s' a' w'
  | .exit id s' => fun e a' w' => e = .exit id ∧ BehindF E n B ρ s w s' a' w'
  | .ret s' => fun e a' w' => e = .ret ∧ BehindF E n B ρ s w s' a' w'
theorem EvF.trans {E : Env} {n B : Nat} {ρ ρ1 : Rho} {s s1 : St} {w w1 : World} {r : Ev} {e : Exit} {a' : Act} {w' : World} (hg : G ρ s.hp s.nx w ρ1 s1.hp s1.nx w1) (h : EvF E n B ρ1 s1 w1 r e a' w') : EvF E n B ρ s w r e a' w' := by
  cases r with
  | fail => trivial
  | norm s' => exact ⟨h.1, h.2.trans hg⟩
  | exit id s' => exact ⟨h.1, h.2.trans hg⟩
  | ret s' => exact ⟨h.1, h.2.trans hg⟩
theorem evf_of {E : Env} {n B : Nat} {ρ : Rho} {s : St} {w : World} {ds : List Deferred} (hm : MA B ρ s.hp w ds) {e : Ev} {x : Exit} {a' : Act} {w' : World} (h : EvQ E n ρ s w e x a' w' ∧ a'.defers = ds) : EvF E n B ρ s w e x a' w' := by
  obtain ⟨h, rfl⟩ := h
  cases e with
  | fail => trivial
  | norm s' => obtain ⟨h1, ρ', h2, h3⟩ := h; exact ⟨h1, ρ', ⟨h2, h3⟩, hm.next h3⟩
  | exit id s' => obtain ⟨h1, ρ', h2, h3⟩ := h; exact ⟨h1, ρ', ⟨h2, h3⟩, hm.next h3⟩
  | ret s' => obtain ⟨h1, ρ', h2, h3⟩ := h; exact ⟨h1, ρ', ⟨h2, h3⟩, hm.next h3⟩
theorem behindF_refl {E : Env} {n B : Nat} {ρ : Rho} {s : St} {a : Act} {w : World} (hs : SR E n ρ s a w) (hm : MA B ρ s.hp w a.defers) : BehindF E n B ρ s w s a w := ⟨ρ, ⟨hs, G.refl _ _ _ _⟩, hm⟩

noncomputable def rangeC (n V : Nat) (g : Operand) (ps : List Nat) (as bd : Code) : CF := .mk (fun E K fuel s => match rangeS E K fuel n V g ps as bd s with
  | none => .fail
  | some (hp, nx) => .norm ⟨s.tm, hp, nx, markN :: s.df⟩)
noncomputable def cfF (E : Env) (n V : Nat) : Code → CF
  | .skip => .mk (fun _ _ _ s => .norm s)
  | .region i ops d => cond (roundOk E (.region i ops d)) (cfW E n V (.region i ops d)) (.mk (fun _ _ _ _ => .fail))
  | .seq a b => seqC (cfF E n V a) (cfF E n V b)
  | .cond c a b => condC c (cfF E n V a) (cfF E n V b)
  | .block id a => blockC id (cfF E n V a)
  | .loop a => loopC (cfF E n V a)
  | .exit id => .mk (fun _ _ _ s => .exit id s)
  | .ret => .mk (fun _ _ _ s => .ret s)
  | .rangeFunc g ps as bd => rangeC n V g ps.toList as bd
  | _ => .mk (fun _ _ _ _ => .fail)

section
variable {E : Env} {K : Kit E} {n V : Nat}
theorem cfF_keeps : ∀ c : Code, Keeps E K V (cfF E n V c)
  | .skip => fun _ _ h => h
  | .region i ops d => by
    show Keeps E K V (cond (roundOk E (.region i ops d)) (cfW E n V (.region i ops d)) (.mk (fun _ _ _ _ => .fail)))
    cases roundOk E (.region i ops d) with
    | true => exact cfW_keeps _
    | false => exact fun _ _ _ => trivial
  | .seq a b => seqC_keeps (cfF_keeps a) (cfF_keeps b)
  | .cond c a b => condC_keeps (cfF_keeps a) (cfF_keeps b)
  | .block id a => blockC_keeps (cfF_keeps a)
  | .loop a => loopC_keeps (cfF_keeps a)
  | .exit _ => fun _ _ h => h
  | .ret => fun _ _ h => h
  | .rangeFunc g ps as bd => by
    intro fuel s h
    show DomE V (match rangeS E K fuel n V g ps.toList as bd s with
      | none => Ev.fail
      | some (hp, nx) => .norm ⟨s.tm, hp, nx, markN :: s.df⟩)
    cases rangeS E K fuel n V g ps.toList as bd s with
    | none => trivial
    | some q => exact h
  | .scope _ => fun _ _ _ => trivial
  | .label _ => fun _ _ _ => trivial
  | .goto _ => fun _ _ _ => trivial
  | .refuse _ => fun _ _ _ => trivial

def CfF (E : Env) (K : Kit E) (n V B : Nat) (c : Code) (f : CF) : Prop := ∀ (fuel : Nat) (ρ : Rho) (s : St) (a : Act) (w : World) (r : Ev), SR E n ρ s a w → MA B ρ s.hp w a.defers → B ≤ w.heap.size → DomV V s.tm → f.app E K fuel s = r → r ≠ .fail → c.wp E.P (EvF E n B ρ s w r) a w

variable {B : Nat} (ok : E.Ok) (hc : CallOk E K.cf) (hen : Enters E K.cf)
theorem cfF_seq {x y : Code} {f g : CF} (hx : CfF E K n V B x f) (hkx : Keeps E K V f) (hy : CfF E K n V B y g) : CfF E K n V B (.seq x y) (seqC f g) := by
  intro fuel ρ s a w r hs hm hB hd h hr
  have h' : Ev.rec (motive := fun _ => Ev) .fail (fun s' => g.app E K fuel s') (fun id s' => .exit id s') (fun s' => .ret s') (f.app E K fuel s) = r := h
  have hk := hkx fuel s hd
  apply wp_seq
  cases hf : f.app E K fuel s with
  | fail => rw [hf] at h'; exact absurd h'.symm hr
  | norm s1 =>
    rw [hf] at h' hk
    refine wp_mono (hx fuel ρ s a w _ hs hm hB hd hf (by simp)) ?_
    rintro e a1 w1 ⟨rfl, ρ1, ⟨h1, h2⟩, hm1⟩
    exact wp_mono (hy fuel ρ1 s1 a1 w1 r h1 hm1 (Nat.le_trans hB h2.size) hk h' hr) fun e a2 w2 h3 => h3.trans h2
  | exit id s1 =>
    rw [hf] at h'
    have h'' : Ev.exit id s1 = r := h'
    subst h''
    exact wp_mono (hx fuel ρ s a w _ hs hm hB hd hf (by simp)) (by rintro e a1 w1 ⟨rfl, h1⟩; exact ⟨rfl, h1⟩)
  | ret s1 =>
    rw [hf] at h'
    have h'' : Ev.ret s1 = r := h'
    subst h''
    exact wp_mono (hx fuel ρ s a w _ hs hm hB hd hf (by simp)) (by rintro e a1 w1 ⟨rfl, h1⟩; exact ⟨rfl, h1⟩)
theorem cfF_cond {c : Operand} {x y : Code} {f g : CF} (hx : CfF E K n V B x f) (hy : CfF E K n V B y g) : CfF E K n V B (.cond c x y) (condC c f g) := by
  intro fuel ρ s a w r hs hm hB hd h hr
  have h' : (match (gC c).app s.tm with
    | some (.bool t) => Bool.rec (motive := fun _ => Ev) (g.app E K fuel s) (f.app E K fuel s) t
    | _ => .fail) = r := h
  rw [gC_eq] at h'
  split at h'
  · rename_i t hb
    have hv := evO_ok hs.tm hb
    unfold VR at hv
    cases t with
    | true => exact wp_cond hv (hx fuel ρ s a w r hs hm hB hd h' hr)
    | false => exact wp_cond hv (hy fuel ρ s a w r hs hm hB hd h' hr)
  · exact absurd h'.symm hr
theorem cfF_block {id : Nat} {x : Code} {f : CF} (hx : CfF E K n V B x f) : CfF E K n V B (.block id x) (blockC id f) := by
  intro fuel ρ s a w r hs hm hB hd h hr
  have h' : Ev.rec (motive := fun _ => Ev) .fail (fun s' => .norm s') (fun id' s' => Bool.rec (motive := fun _ => Ev) (.exit id' s') (.norm s') (Nat.beq id' id)) (fun s' => .ret s') (f.app E K fuel s) = r := h
  apply wp_block
  cases hf : f.app E K fuel s with
  | fail => rw [hf] at h'; exact absurd h'.symm hr
  | norm s1 =>
    rw [hf] at h'
    have h'' : Ev.norm s1 = r := h'
    subst h''
    exact wp_mono (hx fuel ρ s a w _ hs hm hB hd hf (by simp)) (by rintro e a1 w1 ⟨rfl, h1⟩; exact ⟨rfl, h1⟩)
  | ret s1 =>
    rw [hf] at h'
    have h'' : Ev.ret s1 = r := h'
    subst h''
    exact wp_mono (hx fuel ρ s a w _ hs hm hB hd hf (by simp)) (by rintro e a1 w1 ⟨rfl, h1⟩; exact ⟨rfl, h1⟩)
  | exit id' s1 =>
    rw [hf] at h'
    have h'' : Bool.rec (motive := fun _ => Ev) (.exit id' s1) (.norm s1) (Nat.beq id' id) = r := h'
    refine wp_mono (hx fuel ρ s a w _ hs hm hB hd hf (by simp)) ?_
    rintro e a1 w1 ⟨rfl, h1⟩
    show if id' = id then EvF E n B ρ s w r .normal a1 w1 else EvF E n B ρ s w r (.exit id') a1 w1
    cases hb : Nat.beq id' id with
    | true =>
      rw [hb] at h''
      rw [Nat.beq_eq] at hb
      rw [if_pos hb]
      have h3 : Ev.norm s1 = r := h''
      subst h3
      exact ⟨rfl, h1⟩
    | false =>
      rw [hb] at h''
      have hne : id' ≠ id := by
        intro he
        subst he
        simp at hb
      rw [if_neg hne]
      have h3 : Ev.exit id' s1 = r := h''
      subst h3
      exact ⟨rfl, h1⟩
theorem cfF_loop {x : Code} {f : CF} (hx : CfF E K n V B x f) (hkx : Keeps E K V f) : CfF E K n V B (.loop x) (loopC f) := by
  intro fuel ρ s a w r hs hm hB hd h hr
  have main : ∀ (m : Nat) (ρ : Rho) (s : St) (a : Act) (w : World), SR E n ρ s a w → MA B ρ s.hp w a.defers → B ≤ w.heap.size → DomV V s.tm → loopR (f.app E K fuel) m s = r → wpL E.P x (EvF E n B ρ s w r) a w := by
    intro m
    induction m with
    | zero => intro ρ s a w hs _ _ _ h; exact absurd h.symm hr
    | succ m ih =>
      intro ρ s a w hs hm hB hd h
      have h' : Ev.rec (motive := fun _ => Ev) .fail (loopR (f.app E K fuel) m) (fun id s' => .exit id s') (fun s' => .ret s') (f.app E K fuel s) = r := h
      have hk := hkx fuel s hd
      apply wpL_round
      cases hf : f.app E K fuel s with
      | fail => rw [hf] at h'; exact absurd h'.symm hr
      | norm s1 =>
        rw [hf] at h' hk
        refine wp_mono (hx fuel ρ s a w _ hs hm hB hd hf (by simp)) ?_
        rintro e a1 w1 ⟨rfl, ρ1, ⟨h1, h2⟩, hm1⟩
        exact wpL_mono (ih ρ1 s1 a1 w1 h1 hm1 (Nat.le_trans hB h2.size) hk h') fun e a2 w2 h3 => h3.trans h2
      | exit id' s1 =>
        rw [hf] at h'
        have h'' : Ev.exit id' s1 = r := h'
        subst h''
        exact wp_mono (hx fuel ρ s a w _ hs hm hB hd hf (by simp)) (by rintro e a1 w1 ⟨rfl, h1⟩; exact ⟨rfl, h1⟩)
      | ret s1 =>
        rw [hf] at h'
        have h'' : Ev.ret s1 = r := h'
        subst h''
        exact wp_mono (hx fuel ρ s a w _ hs hm hB hd hf (by simp)) (by rintro e a1 w1 ⟨rfl, h1⟩; exact ⟨rfl, h1⟩)
  exact wp_of_wpL (main fuel ρ s a w hs hm hB hd h)

include ok hc hen in
theorem cfF_ok (fns : Fns E) : ∀ (c : Code), CfF E K n V B c (cfF E n V c)
  | .skip => fun fuel ρ s a w r hs hm _ _ h hr => by
    have h' : Ev.norm s = r := h
    subst h'
    exact wp_skip ⟨rfl, behindF_refl hs hm⟩
  | .region i ops d => by
    intro fuel ρ s a w r hs hm hB hd h hr
    have h' : (cond (roundOk E (.region i ops d)) (cfW E n V (.region i ops d)) (.mk (fun _ _ _ _ => .fail)) : CF).app E K fuel s = r := h
    cases hro : roundOk E (.region i ops d) with
    | false => rw [hro] at h'; exact absurd h'.symm hr
    | true =>
      rw [hro] at h'
      refine (wpIn_wide (n := 0)).1 ?_
      refine wpIn_mono (cfI_ok (r := none) (m := 0) ok hc hen _ hro fuel ρ s a w r hs hd h' hr) ?_
      exact fun e a' w' hq => evf_of hm hq
  | .seq x y => cfF_seq (cfF_ok fns x) (cfF_keeps x) (cfF_ok fns y)
  | .cond c x y => cfF_cond (cfF_ok fns x) (cfF_ok fns y)
  | .block id x => cfF_block (cfF_ok fns x)
  | .loop x => cfF_loop (cfF_ok fns x) (cfF_keeps x)
  | .exit id => fun fuel ρ s a w r hs hm _ _ h hr => by
    have h' : Ev.exit id s = r := h
    subst h'
    exact wp_exit ⟨rfl, behindF_refl hs hm⟩
  | .ret => fun fuel ρ s a w r hs hm _ _ h hr => by
    have h' : Ev.ret s = r := h
    subst h'
    exact wp_ret ⟨rfl, behindF_refl hs hm⟩
  | .rangeFunc g ps as bd => fun fuel ρ s a w r hs hm hB hd h hr => by
    have h' : (match rangeS E K fuel n V g ps.toList as bd s with
      | none => Ev.fail
      | some (hp, nx) => .norm ⟨s.tm, hp, nx, markN :: s.df⟩) = r := h
    cases hq : rangeS E K fuel n V g ps.toList as bd s with
    | none => rw [hq] at h'; exact absurd h'.symm hr
    | some q =>
      obtain ⟨hp', nx'⟩ := q
      rw [hq] at h'
      simp only at h'
      subst h'
      refine (wpIn_wide (n := 3)).1 ?_
      refine range_ok (m := 0) ok hc hen fns hs hd hq ?_
      intro w' ρ' D h1 h2 h3 h4 h5 h6
      refine ⟨rfl, ρ', ⟨⟨hs.tm.mono h6.ext, h5, .inr ⟨rfl, D, a.defers, rfl, hs.df⟩⟩, h6⟩, ⟨D, rfl, Nat.le_trans hB h1, h2, h3, h4, ?_⟩, hm.next h6⟩
      intro d' hd' he
      obtain ⟨D', q1, q2⟩ := hm.lt d' hd'
      rw [q1] at he
      cases he
      omega
  | .scope x => fun fuel ρ s a w r hs _ _ _ h hr => absurd (show Ev.fail = r from h).symm hr
  | .label l => fun fuel ρ s a w r hs _ _ _ h hr => absurd (show Ev.fail = r from h).symm hr
  | .goto l => fun fuel ρ s a w r hs _ _ _ h hr => absurd (show Ev.fail = r from h).symm hr
  | .refuse _ => fun fuel ρ s a w r hs _ _ _ h hr => absurd (show Ev.fail = r from h).symm hr
end
end Go.Evo
namespace Go.Evo

noncomputable def hasRF : Code → Bool
  | .seq a b => cond (hasRF a) true (hasRF b)
  | .cond _ a b => cond (hasRF a) true (hasRF b)
  | .block _ a => hasRF a
  | .loop a => hasRF a
  | .scope a => hasRF a
  | .rangeFunc _ _ _ _ => true
  | _ => false
noncomputable def codeF (E : Env) : Code → Nat → Nat
  | .region _ ops true, acc => cond (okD E ops) (regM ops.toList 0 acc) (drawM ops.toList acc)
  | .region _ ops false, acc => regM ops.toList 0 acc
  | .seq a b, acc => codeF E b (codeF E a acc)
  | .cond c a b, acc => codeF E b (codeF E a (opdM 0 [c] acc))
  | .block _ a, acc => codeF E a acc
  | .loop a, acc => codeF E a acc
  | .scope a, acc => codeF E a acc
  | .rangeFunc g _ as bd, acc => codeF E bd (codeF E as (opdM 0 [g] acc))
  | _, acc => acc

noncomputable def endF (E : Env) (rs : List ResultVar) (s : St) : Option (AV × Hp × Nat) := match evRes E s rs with
  | none => none
  | some xs => some (oneOf xs, s.hp, s.nx)
noncomputable def runF (E : Env) (K : Kit E) (cfuel n V : Nat) (c : CF) (rs : List ResultVar) (xs : List AV) (hp : Hp) (nx : Nat) : Option (AV × Hp × Nat) :=
  Bool.rec (motive := fun _ => Option (AV × Hp × Nat)) none (forceT (argsV V xs 0 .nil) fun tm => Ev.rec (motive := fun _ => Option (AV × Hp × Nat)) none (fun s => endF E rs s) (fun _ _ => none) (fun s => endF E rs s) (c.app E K cfuel ⟨tm, hp, nx, []⟩)) (Nat.ble xs.length n)

/-- A function known once. -/
inductive CFn3 where
  | none
  | mk (n V : Nat) (c : CF) (rs : List ResultVar)
  | rf (n V : Nat) (c : CF) (rs : List ResultVar)
noncomputable def cfnR (E : Env) (g : Nat) : CFn3 := match E.F.get g with
  | none => .none
  | some fn => (match fn.body with
    | none => .none
    | some c => forceN fn.ntmps fun n => forceN (codeF E c (resM fn.results.toList 0)) fun V => Bool.rec (motive := fun _ => CFn3) (.mk n V (cfW E n V c) fn.results.toList) (.rf n V (cfF E n V c) fn.results.toList) (hasRF c))
noncomputable def callR (E : Env) (X : XKit E) (kf : CallFn) (dq : Nat → Bool) (cfuel fuel : Nat) : CallFn :=
  Nat.rec (motive := fun _ => CallFn) (fun _ _ _ _ => none) (fun _ ih g xs hp nx => Option.rec (motive := fun _ => Option (AV × Hp × Nat)) (CFn3.rec (motive := fun _ => Option (AV × Hp × Nat)) none (fun n V c rs => runV E ⟨ih, dq, X⟩ cfuel n V c rs xs hp nx) (fun n V c rs => runF E ⟨ih, dq, X⟩ cfuel n V c rs xs hp nx) (cfnR E g)) (fun r => some r) (kf g xs hp nx)) fuel

/-- A frame with marks alone leaves. -/
theorem leaves_marks {E : Env} {B n nx : Nat} {P : Program} {fn : Func} {tmps : Array Value} {R : Ending → World → Prop} {ρ0 ρ : Rho} {hp0 hp : Hp} {nx0 : Nat} {w0 : World} (hB : w0.heap.size ≤ B) (hng : E.ng ≤ B)
    (hR : ∀ w', E.R ρ hp nx w' → G ρ0 hp0 nx0 w0 ρ hp nx w' → ∃ v, (results fn tmps).run P w' = .ok v w' ∧ R (.returned v) w') : ∀ {ds : List Deferred} {w : World}, MA B ρ hp w ds → E.R ρ hp nx w → G ρ0 hp0 nx0 w0 ρ hp nx w → LeavesInM Fence.wide n P fn tmps R ds .returning w
  | [], w, _, r, g => hR w r g
  | d :: ds, w, ⟨⟨D, h1, h2, h3, h4, h5, h6⟩, h⟩, r, g => by
    refine ⟨by simp, .inl ⟨D, _, by rw [h1], run_takeDeferred h4, ?_⟩⟩
    refine leaves_marks hB hng hR ?_ (r_put r h5 (Nat.le_trans hng h2)) (g_put g (Nat.le_trans hB h2))
    have : ∀ {ds : List Deferred}, MA B ρ hp w ds → (∀ d' ∈ ds, d'.target ≠ .collected D) → MA B ρ hp (w.putObj D (.deferred none)) ds := by
      intro ds
      induction ds with
      | nil => exact fun _ _ => trivial
      | cons d' ds ih =>
        rintro ⟨⟨D', q1, q2, q3, q4, q5, q6⟩, q⟩ hne
        refine ⟨⟨D', q1, q2, by simpa using q3, ?_, q5, q6⟩, ih q fun d' hd' => hne d' (List.mem_cons_of_mem _ hd')⟩
        refine (World.putObj_heap_other ?_).trans q4
        rintro rfl
        exact hne d' List.mem_cons_self (by rw [q1])
    exact this h h6

section
variable {E : Env} (ok : E.Ok) (fns : Fns E)
include ok fns
theorem runF_ok {K : Kit E} (hc : CallOk E K.cf) (hen : Enters E K.cf) {cfuel g V : Nat} {fn : Func} {c : Code} (hf : E.P.funcs[g]? = some fn) (hb : fn.body = some c) {xs : List AV} {hp hp' : Hp} {nx nx' : Nat} {y : AV} (h : runF E K cfuel fn.ntmps V (cfF E fn.ntmps V c) fn.results.toList xs hp nx = some (y, hp', nx'))
    {ρ : Rho} {w : World} {vs : Array Value} (r : E.R ρ hp nx w) (hv : VRs ρ xs vs.toList) : Calls E.P g vs w (CPost E ρ hp nx w y hp' nx') := by
  unfold runF at h
  cases hle : Nat.ble xs.length fn.ntmps with
  | false => rw [hle] at h; cases h
  | true =>
    rw [hle] at h
    simp only [forceT_eq] at h
    have hlen : vs.size = xs.length := by simpa using hv.length
    have hle' : vs.size ≤ fn.ntmps := by rw [hlen]; exact Nat.le_of_ble_eq_true hle
    have hng : E.ng ≤ w.heap.size := r.gl.1
    refine (callsIn_wide (n := 0)).1 (callsIn_of_wp_marks hf hb trivial ((wpIn_wide (n := 0)).2 ?_))
    have hd : DomV V (argsV V xs 0 .nil) := by
      intro t x hx
      rcases argsV_get V xs 0 .nil t x hx with ⟨_, _, h3⟩ | h1
      · exact h3
      · rw [Tr.get_nil] at h1; cases h1
    have hs : SR E fn.ntmps ρ ⟨argsV V xs 0 .nil, hp, nx, []⟩ { tmps := vs ++ Array.replicate (fn.ntmps - vs.size) undef, defers := [] } w := by
      refine ⟨⟨by simp; omega, ?_⟩, r, rfl⟩
      intro i x hx
      rcases argsV_get V xs 0 .nil i x hx with ⟨_, h2, _⟩ | h1
      · obtain ⟨v, q1, q2⟩ := hv.get i x (by simpa using h2)
        have hi : i < vs.size := by
          rw [← Array.length_toList]
          rcases Nat.lt_or_ge i vs.toList.length with h4 | h4
          · exact h4
          · rw [List.getElem?_eq_none h4] at q1; cases q1
        refine ⟨v, ?_, q2⟩
        rw [Array.getElem?_append_left hi]
        simpa using q1
      · rw [Tr.get_nil] at h1; cases h1
    have fin : ∀ s', endF E fn.results.toList s' = some (y, hp', nx') → ∀ a' w', BehindF E fn.ntmps w.heap.size ρ ⟨argsV V xs 0 .nil, hp, nx, []⟩ w s' a' w' → LeavesInM Fence.wide 0 E.P fn a'.tmps (CPost E ρ hp nx w y hp' nx') a'.defers .returning w' := by
      rintro s' hfin a' w' ⟨ρ', ⟨hs', hg⟩, hma⟩
      unfold endF at hfin
      cases hres : evRes E s' fn.results.toList with
      | none => rw [hres] at hfin; cases hfin
      | some ys =>
        rw [hres] at hfin; cases hfin
        refine leaves_marks (Nat.le_refl _) hng (fun w'' r'' g'' => ?_) hma hs'.r hg
        have hs'' : SR E fn.ntmps ρ' s' a' w'' := ⟨hs'.tm, r'', hs'.df⟩
        obtain ⟨v, q1, q2⟩ := results_ok ok hs'' hres
        exact ⟨v, q1, v, ρ', rfl, q2, hs''.r, g''⟩
    cases hev : (cfF E fn.ntmps V c).app E K cfuel ⟨argsV V xs 0 .nil, hp, nx, []⟩ with
    | fail => rw [hev] at h; cases h
    | exit id s' => rw [hev] at h; cases h
    | norm s' =>
      rw [hev] at h
      refine wp_mono (cfF_ok (B := w.heap.size) ok hc hen fns c cfuel ρ _ _ w _ hs trivial (Nat.le_refl _) hd hev (by simp)) ?_
      rintro e a' w' ⟨rfl, hb'⟩
      exact fin s' h a' w' hb'
    | ret s' =>
      rw [hev] at h
      refine wp_mono (cfF_ok (B := w.heap.size) ok hc hen fns c cfuel ρ _ _ w _ hs trivial (Nat.le_refl _) hd hev (by simp)) ?_
      rintro e a' w' ⟨rfl, hb'⟩
      exact fin s' h a' w' hb'

theorem callR_ok {X : XKit E} {kf : CallFn} (hk : CallOk E kf) (hke : Enters E kf) {dq : Nat → Bool} (hq : ∀ g, dq g = true → Idle E.P g) (cfuel : Nat) : ∀ fuel, CallOk E (callR E X kf dq cfuel fuel) ∧ Enters E (callR E X kf dq cfuel fuel) := by
  intro fuel
  induction fuel with
  | zero => exact ⟨fun g xs hp nx y hp' nx' h => (by cases h), fun g xs hp nx r h => (by cases h)⟩
  | succ fuel ih =>
    have eqn : ∀ g xs hp nx, callR E X kf dq cfuel (fuel + 1) g xs hp nx = Option.rec (motive := fun _ => Option (AV × Hp × Nat)) (CFn3.rec (motive := fun _ => Option (AV × Hp × Nat)) none (fun n V c rs => runV E ⟨callR E X kf dq cfuel fuel, dq, X⟩ cfuel n V c rs xs hp nx) (fun n V c rs => runF E ⟨callR E X kf dq cfuel fuel, dq, X⟩ cfuel n V c rs xs hp nx) (cfnR E g)) (fun r => some r) (kf g xs hp nx) := fun _ _ _ _ => rfl
    have body : ∀ g xs hp nx r, kf g xs hp nx = none → callR E X kf dq cfuel (fuel + 1) g xs hp nx = some r → ∃ fn c V, E.F.get g = some fn ∧ fn.body = some c ∧
        (runV E ⟨callR E X kf dq cfuel fuel, dq, X⟩ cfuel fn.ntmps V (cfW E fn.ntmps V c) fn.results.toList xs hp nx = some r ∨ runF E ⟨callR E X kf dq cfuel fuel, dq, X⟩ cfuel fn.ntmps V (cfF E fn.ntmps V c) fn.results.toList xs hp nx = some r) := by
      intro g xs hp nx r hkf h
      rw [eqn, hkf] at h
      unfold cfnR at h
      cases hfn : E.F.get g with
      | none => rw [hfn] at h; cases h
      | some fn =>
        rw [hfn] at h
        simp only at h
        cases hb : fn.body with
        | none => rw [hb] at h; cases h
        | some c =>
          rw [hb] at h
          simp only [forceN_eq] at h
          refine ⟨fn, c, codeF E c (resM fn.results.toList 0), rfl, hb, ?_⟩
          cases hrf : hasRF c with
          | true => rw [hrf] at h; exact .inr h
          | false => rw [hrf] at h; exact .inl h
    refine ⟨?_, ?_⟩
    · intro g xs hp nx y hp' nx' h ρ w vs r hv
      cases hkf : kf g xs hp nx with
      | some q =>
        rw [eqn, hkf] at h; cases h
        exact hk g xs hp nx y hp' nx' hkf ρ w vs r hv
      | none =>
        obtain ⟨fn, c, V, hfn, hb, h⟩ := body g xs hp nx _ hkf h
        rcases h with h | h
        · exact runV_ok ok (K := ⟨callR E X kf dq cfuel fuel, dq, X⟩) ih.1 ih.2 hq (ok.fok g fn hfn) hb h r hv
        · exact runF_ok ok fns (K := ⟨callR E X kf dq cfuel fuel, dq, X⟩) ih.1 ih.2 (ok.fok g fn hfn) hb h r hv
    · intro g xs hp nx q h args w
      cases hkf : kf g xs hp nx with
      | some q' => exact hke g xs hp nx q' hkf args w
      | none =>
        obtain ⟨fn, c, V, hfn, hb, _⟩ := body g xs hp nx _ hkf h
        have hn := fns.name g fn hfn
        have hn' : ¬ fn.name = "runtime.NumGoroutine" := by intro h1; rw [h1] at hn; cases hn
        simp [callFunc, ok.fok g fn hfn, hn', hb]
end
end Go.Evo
