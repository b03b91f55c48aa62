/- A verified evaluator for the model of Go, part 3: what it reckons of a call, the call does in every world that its abstract heap speaks of. Conditions: none. -/
import Derived.Test.YtffdkcadpkfhoaaGreatDoorEb
namespace Go.Evo

variable {E : Env} (ok : E.Ok)

theorem run_eqGuard_plain {P : Program} {w : World} (op : BinOp) (t : TypeId) (x y : Operand) (a b : Value) (h1 : ∀ c d, ¬ (a = .agg c ∧ b = .agg d)) (h2 : ¬ (a = .nilIface ∧ b = .nilIface)) :
    (eqGuard op t x y a b).run P w = .ok () w := by
  unfold eqGuard
  cases op <;> first
    | rfl
    | (cases a <;> cases b <;> first
      | rfl
      | exact absurd ⟨rfl, rfl⟩ (h1 _ _)
      | exact absurd ⟨rfl, rfl⟩ h2)
theorem run_eqGuard_lit {P : Program} {w : World} (op : BinOp) (t : TypeId) (x y : Operand) (h : (isConstO x || isConstO y) = true) :
    (eqGuard op t x y .nilIface .nilIface).run P w = .ok () w := by
  unfold eqGuard
  cases op <;> first
    | rfl
    | (cases x <;> cases y <;> simp [isConstO] at h <;> rfl)

theorem VR.nilIface {ρ : Rho} {x : AV} (h : VR ρ x .nilIface) : x = .inil := by
  cases x <;> unfold VR at h <;> first
    | rfl
    | (exact absurd h (by simp))
    | (obtain ⟨_, h, _⟩ := h; cases h)
    | (obtain ⟨_, _, _, _, h⟩ := h; cases h)
    | (obtain ⟨_, _, _, _, (⟨_, h, _⟩ | ⟨_, _, h⟩)⟩ := h <;> cases h)
theorem VR.aggInv {ρ : Rho} {x : AV} {c : Array Value} (h : VR ρ x (.agg c)) : ∃ l, x = .agg l := by
  cases x <;> unfold VR at h <;> first
    | exact ⟨_, rfl⟩
    | (exact absurd h (by simp))
    | (obtain ⟨_, h, _⟩ := h; cases h)
    | (obtain ⟨_, _, _, _, h⟩ := h; cases h)
    | (obtain ⟨_, _, _, _, (⟨_, h, _⟩ | ⟨_, _, h⟩)⟩ := h <;> cases h)

/-- What `==` needs ahead of it. -/
theorem guard_of_eq {w : World} (ok : E.Ok) {ρ : Rho} {op : BinOp} {t : Nat} {x y : AV} {a b : Operand} {u v : Value} {r : Bool} (hx : VR ρ x u) (hy : VR ρ y v)
    (h : aEq E (isConstO a || isConstO b) t x y = some r) : (eqGuard op t a b u v).run E.P w = .ok () w := by
  by_cases h2 : u = .nilIface ∧ v = .nilIface
  · obtain ⟨rfl, rfl⟩ := h2
    have e1 := VR.nilIface hx
    have e2 := VR.nilIface hy
    subst e1; subst e2
    refine run_eqGuard_lit op t a b ?_
    cases hl : (isConstO a || isConstO b) with
    | true => rfl
    | false =>
      rw [hl] at h
      unfold aEq at h
      cases hd : E.und t with
      | none => rw [hd] at h; cases h
      | some d => rw [hd] at h; cases h
  · by_cases h1 : ∃ c d, u = .agg c ∧ v = .agg d
    · obtain ⟨c, d, rfl, rfl⟩ := h1
      obtain ⟨l, rfl⟩ := VR.aggInv hx
      obtain ⟨m, rfl⟩ := VR.aggInv hy
      have hs : E.sk t = true := by
        unfold aEq at h
        cases hd : E.und t with
        | none => rw [hd] at h; cases h
        | some d =>
          rw [hd] at h
          simp only at h
          cases hs : E.sk t with
          | true => rfl
          | false => rw [hs] at h; cases h
      exact run_eqGuard_agg w op t a b c d (ok.sk t hs).2
    · exact run_eqGuard_plain op t a b u v (fun c d hcd => h1 ⟨c, d, hcd⟩) h2

theorem binOp_eql {P : Program} {w : World} {t : TypeId} {u v : Value} {r : Bool} (hnum : ∀ k n k' m, ¬ (u = .int k n ∧ v = .int k' m)) (hstr : ∀ a b, ¬ (u = .string a ∧ v = .string b))
    (hfl : ∀ k n, u ≠ .float k n) (hcx : ∀ k n m, u ≠ .complex k n m) (h : (Op.equal t u v).run P w = .ok r w) : (binOp .eql t u v).run P w = .ok (.bool r) w := by
  cases u <;> cases v <;> first
    | exact absurd ⟨rfl, rfl⟩ (hnum _ _ _ _)
    | exact absurd ⟨rfl, rfl⟩ (hstr _ _)
    | exact absurd rfl (hfl _ _)
    | exact absurd rfl (hcx _ _ _)
    | (simp only [binOp, Sem.run_bind, h, Result.andThen_ok, Sem.run_pure])
theorem binOp_neq {P : Program} {w : World} {t : TypeId} {u v : Value} {r : Bool} (hnum : ∀ k n k' m, ¬ (u = .int k n ∧ v = .int k' m)) (hstr : ∀ a b, ¬ (u = .string a ∧ v = .string b))
    (hfl : ∀ k n, u ≠ .float k n) (hcx : ∀ k n m, u ≠ .complex k n m) (h : (Op.equal t u v).run P w = .ok r w) : (binOp .neq t u v).run P w = .ok (.bool (!r)) w := by
  cases u <;> cases v <;> first
    | exact absurd ⟨rfl, rfl⟩ (hnum _ _ _ _)
    | exact absurd ⟨rfl, rfl⟩ (hstr _ _)
    | exact absurd rfl (hfl _ _)
    | exact absurd rfl (hcx _ _ _)
    | (simp only [binOp, Sem.run_bind, h, Result.andThen_ok, Sem.run_pure])

theorem VR.noFloat {ρ : Rho} {x : AV} {v : Value} (h : VR ρ x v) : (∀ k n, v ≠ .float k n) ∧ (∀ k n m, v ≠ .complex k n m) := by
  cases x <;> unfold VR at h <;> first
    | (subst h; exact ⟨fun _ _ h => (by cases h), fun _ _ _ h => (by cases h)⟩)
    | (obtain ⟨_, rfl, _⟩ := h; exact ⟨fun _ _ h => (by cases h), fun _ _ _ h => (by cases h)⟩)
    | (obtain ⟨_, _, _, _, rfl⟩ := h; exact ⟨fun _ _ h => (by cases h), fun _ _ _ h => (by cases h)⟩)
    | (obtain ⟨_, _, _, _, (⟨_, rfl, _⟩ | ⟨_, _, rfl⟩)⟩ := h <;> exact ⟨fun _ _ h => (by cases h), fun _ _ _ h => (by cases h)⟩)
theorem VR.intInv {ρ : Rho} {x : AV} {k : IntKind} {n : Int} (h : VR ρ x (.int k n)) : x = .int k n := by
  cases x <;> unfold VR at h <;> first
    | (cases h; rfl)
    | (exact absurd h (by simp))
    | (obtain ⟨_, h, _⟩ := h; cases h)
    | (obtain ⟨_, _, _, _, h⟩ := h; cases h)
    | (obtain ⟨_, _, _, _, (⟨_, h, _⟩ | ⟨_, _, h⟩)⟩ := h <;> cases h)
theorem VR.strInv {ρ : Rho} {x : AV} {s : ByteArray} (h : VR ρ x (.string s)) : x = .str (s.data.toList.map UInt8.toNat) := by
  cases x <;> unfold VR at h <;> first
    | (obtain ⟨_, h, rfl⟩ := h; cases h; rfl)
    | (exact absurd h (by simp))
    | (obtain ⟨_, h, _⟩ := h; cases h)
    | (obtain ⟨_, _, _, _, h⟩ := h; cases h)
    | (obtain ⟨_, _, _, _, (⟨_, h, _⟩ | ⟨_, _, h⟩)⟩ := h <;> cases h)

include ok in
theorem aBin_ok {w : World} {ρ : Rho} {op : BinOp} {t : Nat} {x y z : AV} {a b : Operand} {u v : Value} (hx : VR ρ x u) (hy : VR ρ y v) (h : aBin E (isConstO a || isConstO b) op t x y = some z) :
    ∃ v', (do eqGuard op t a b u v; binOp op t u v : Sem Value).run E.P w = .ok v' w ∧ VR ρ z v' := by
  unfold aBin at h
  split at h
  · rename_i k n k' m
    unfold VR at hx hy
    subst hx; subst hy
    have hg : (eqGuard op t a b (.int k n) (.int k' m)).run E.P w = .ok () w := run_eqGuard_plain op t a b _ _ (fun _ _ h => by cases h.1) (fun h => by cases h.1)
    have fin : ∀ {v' : Value}, (binOp op t (.int k n) (.int k' m)).run E.P w = .ok v' w → (do eqGuard op t a b (.int k n) (.int k' m); binOp op t (.int k n) (.int k' m) : Sem Value).run E.P w = .ok v' w := by
      intro v' hv'
      simp [hg, hv']
    split at h
    · obtain ⟨v', h1, h2⟩ := shiftI_ok (P := E.P) (w := w) (ρ := ρ) (k' := k') t h
      exact ⟨v', fin h1, h2⟩
    · obtain ⟨v', h1, h2⟩ := shiftI_ok (P := E.P) (w := w) (ρ := ρ) (k' := k') t h
      exact ⟨v', fin h1, h2⟩
    · cases hk : Nat.beq (kix k) (kix k') with
      | false => rw [hk] at h; cases h
      | true =>
        rw [hk] at h
        have := kix_inj hk
        subst this
        obtain ⟨v', h1, h2⟩ := binI_ok (P := E.P) (w := w) (ρ := ρ) t h
        exact ⟨v', fin h1, h2⟩
  · rename_i l m
    unfold VR at hx hy
    obtain ⟨s, rfl, rfl⟩ := hx
    obtain ⟨s', rfl, rfl⟩ := hy
    have hg : (eqGuard op t a b (.string s) (.string s')).run E.P w = .ok () w := run_eqGuard_plain op t a b _ _ (fun _ _ h => by cases h.1) (fun h => by cases h.1)
    obtain ⟨v', h1, h2⟩ := strBin_ok (P := E.P) (w := w) (ρ := ρ) t h
    exact ⟨v', by simp [hg, h1], h2⟩
  · rename_i hni hns
    have hnum : ∀ k n k' m, ¬ (u = .int k n ∧ v = .int k' m) := by
      rintro k n k' m ⟨rfl, rfl⟩
      exact hni _ _ _ _ (VR.intInv hx) (VR.intInv hy)
    have hstr : ∀ a b, ¬ (u = .string a ∧ v = .string b) := by
      rintro a b ⟨rfl, rfl⟩
      exact hns _ _ (VR.strInv hx) (VR.strInv hy)
    split at h
    · cases he : aEq E (isConstO a || isConstO b) t x y with
      | none => rw [he] at h; cases h
      | some r =>
        rw [he] at h; cases h
        have hg := guard_of_eq (w := w) (op := .eql) ok hx hy he
        have hq := binOp_eql hnum hstr hx.noFloat.1 hx.noFloat.2 (aEq_ok ok (w := w) hx hy he)
        exact ⟨.bool r, by simp [hg, hq], by unfold VR; rfl⟩
    · cases he : aEq E (isConstO a || isConstO b) t x y with
      | none => rw [he] at h; cases h
      | some r =>
        rw [he] at h; cases h
        have hg := guard_of_eq (w := w) (op := .neq) ok hx hy he
        have hq := binOp_neq hnum hstr hx.noFloat.1 hx.noFloat.2 (aEq_ok ok (w := w) hx hy he)
        exact ⟨.bool (!r), by simp [hg, hq], by unfold VR; rfl⟩
    · cases h

noncomputable def aUn (op : UnOp) (x : AV) : Option AV :=
  match op, x with
  | .neg, .int k n => some (.int k (wrapN k (Int.sub (Int.ofNat 0) n)))
  | .not, .bool b => some (.bool (!b))
  | .xor, .int k n => cond (sgn k) none (bits2 Nat.xor k (Int.ofNat (maxN k)) n)
  | _, _ => none
theorem aUn_ok {P : Program} {w : World} {ρ : Rho} {op : UnOp} {x z : AV} {v : Value} (hx : VR ρ x v) (h : aUn op x = some z) : ∃ v', (Op.unary op v).run P w = .ok v' w ∧ VR ρ z v' := by
  unfold aUn at h
  split at h
  · cases h; unfold VR at hx; subst hx
    rename_i k n
    exact ⟨.int k (k.wrap (0 - n)), by simp [Op.unary, Op.intArith], by unfold VR; rw [wrapN_eq]; rfl⟩
  · cases h; unfold VR at hx; subst hx
    exact ⟨_, rfl, by unfold VR; rfl⟩
  · unfold VR at hx; subst hx
    rename_i k n
    cases hs : sgn k with
    | true => rw [hs] at h; cases h
    | false =>
      rw [hs] at h
      simp only [cond_false] at h
      obtain ⟨m, n', e1, rfl, h1, h2, rfl⟩ := bits2_inv h
      have hm : (maxN k : Int) = m := e1
      refine ⟨.int k (k.wrap (Nat.xor m n' : Nat)), ?_, by unfold VR; rfl⟩
      have hmax : (if k.signed then (-1 : Int) else k.max) = (m : Int) := by
        rw [← hm]
        cases k <;> first | rfl | cases hs
      show (Op.intBits .xor k (if k.signed then -1 else k.max) n').run P w = _
      rw [hmax]
      exact run_bits_xor h1 h2
  · cases h

noncomputable def isIntD : TypeDesc → Option IntKind
  | .int k => some k
  | _ => none
theorem isIntD_inv {d : TypeDesc} {k : IntKind} (h : isIntD d = some k) : d = .int k := by
  cases d <;> simp only [isIntD] at h <;> cases h; rfl

noncomputable def aConv (E : Env) (src dst : Nat) (x : AV) : Option AV :=
  match E.und src with
  | none => none
  | some _ => match E.und dst with
    | none => none
    | some d => match x with
      | .int _ n => (match isIntD d with
        | none => none
        | some k => some (.int k (wrapN k n)))
      | .str l => cond (isStr d) (some (.str l)) none
      | _ => none
include ok in
theorem aConv_ok {w : World} {ρ : Rho} {src dst : Nat} {x z : AV} {v : Value} (hx : VR ρ x v) (h : aConv E src dst x = some z) : ∃ v', (convert src dst v).run E.P w = .ok v' w ∧ VR ρ z v' := by
  unfold aConv at h
  cases h1 : E.und src with
  | none => rw [h1] at h; cases h
  | some s =>
    rw [h1] at h
    simp only at h
    cases h2 : E.und dst with
    | none => rw [h2] at h; cases h
    | some d =>
      rw [h2] at h
      have r1 := run_und ok (w := w) h1
      have r2 := run_und ok (w := w) h2
      cases x <;> simp only at h <;> try (cases h; done)
      case int k n =>
        unfold VR at hx; subst hx
        cases h3 : isIntD d with
        | none => rw [h3] at h; cases h
        | some k' =>
          rw [h3] at h; cases h
          have := isIntD_inv h3; subst this
          exact ⟨.int k' (k'.wrap n), by simp [convert, r1, r2, Conv.intToInt], by unfold VR; rw [wrapN_eq]⟩
      case str l =>
        unfold VR at hx
        obtain ⟨sb, rfl, rfl⟩ := hx
        cases h3 : isStr d with
        | false => rw [h3] at h; cases h
        | true =>
          rw [h3] at h; cases h
          have := isStr_inv h3; subst this
          exact ⟨.string sb, by simp [convert, r1, r2], by unfold VR; exact ⟨_, rfl, rfl⟩⟩

noncomputable def aNil (x : AV) : Option AV :=
  match x with
  | .ptr i o => some (.ptr i o)
  | .gptr g o => some (.gptr g o)
  | .fn f c => some (.fn f c)
  | _ => none

noncomputable def aMakeFn (fn : Fn) (first cs : List AV) : Option AV :=
  match fn, first with
  | .func f, [] => some (.fn f cs)
  | _, _ => none

noncomputable def zeroAV (E : Env) (t : Nat) : Option AV :=
  match E.T.get t with
  | none => none
  | some i => match i.zero with
    | none => none
    | some z => ofV z
include ok in
theorem zeroAV_ok {t : Nat} {x : AV} {w : World} (h : zeroAV E t = some x) : ∃ z, (zeroValue t).run E.P w = .ok z w ∧ ∀ ρ, VR ρ x z := by
  unfold zeroAV at h
  cases hi : E.T.get t with
  | none => rw [hi] at h; cases h
  | some i =>
    rw [hi] at h
    simp only at h
    cases hz : i.zero with
    | none => rw [hz] at h; cases h
    | some z =>
      rw [hz] at h
      exact ⟨z, by simp [zeroValue, run_info ok hi, hz], fun ρ => ofV_ok h⟩

/-- `x.(T)` for a T that is no interface. -/
noncomputable def aTA (E : Env) (x : AV) (asserted : Nat) (commaOk : Bool) : Option AV :=
  match E.und asserted with
  | none => none
  | some d => cond (isIfaceD d) none (match x with
    | .iface t v => cond (Nat.beq t asserted) (some (cond commaOk (.tup [v, .bool true]) v)) (cond commaOk (match zeroAV E asserted with
      | none => none
      | some z => some (.tup [z, .bool false])) none)
    | .inil => cond commaOk (match zeroAV E asserted with
      | none => none
      | some z => some (.tup [z, .bool false])) none
    | _ => none)

theorem run_typeAssert_is {P : Program} {w : World} {d : TypeDesc} {t a : Nat} {v : Value} {xT : Nat} {c : Bool} (hd : (underlying a).run P w = .ok d w) (hi : isIfaceD d = false) (ht : t = a) :
    (Instr.typeAssert (.iface t v) xT a c).run P w = .ok (cond c (.tuple #[v, .bool true]) v) w := by
  subst ht
  cases d <;> first
    | (cases hi; done)
    | (cases c <;> simp [Instr.typeAssert, hd])
theorem run_typeAssert_not {P : Program} {w : World} {d : TypeDesc} {t a : Nat} {v z : Value} {xT : Nat} (hd : (underlying a).run P w = .ok d w) (hi : isIfaceD d = false) (ht : t ≠ a) (hz : (zeroValue a).run P w = .ok z w) :
    (Instr.typeAssert (.iface t v) xT a true).run P w = .ok (.tuple #[z, .bool false]) w := by
  cases d <;> first
    | (cases hi; done)
    | simp [Instr.typeAssert, hd, ht, hz]
theorem run_typeAssert_nil {P : Program} {w : World} {d : TypeDesc} {a : Nat} {z : Value} {xT : Nat} (hd : (underlying a).run P w = .ok d w) (hi : isIfaceD d = false) (hz : (zeroValue a).run P w = .ok z w) :
    (Instr.typeAssert .nilIface xT a true).run P w = .ok (.tuple #[z, .bool false]) w := by
  cases d <;> first
    | (cases hi; done)
    | simp [Instr.typeAssert, hd, hz]

include ok in
theorem aTA_ok {w : World} {ρ : Rho} {a xT : Nat} {c : Bool} {x z : AV} {v : Value} (hx : VR ρ x v) (h : aTA E x a c = some z) : ∃ v', (Instr.typeAssert v xT a c).run E.P w = .ok v' w ∧ VR ρ z v' := by
  unfold aTA at h
  cases hd : E.und a with
  | none => rw [hd] at h; cases h
  | some d =>
    rw [hd] at h
    simp only at h
    have hu := run_und ok (w := w) hd
    cases hi : isIfaceD d with
    | true => rw [hi] at h; cases h
    | false =>
      rw [hi] at h
      simp only [cond_false] at h
      have two : ∀ {x : AV} {v : Value} {b : Bool}, VR ρ x v → VR ρ (.tup [x, .bool b]) (.tuple #[v, .bool b]) := fun hv => by
        unfold VR; exact ⟨_, rfl, VRs.cons hv (VRs.cons (by unfold VR; rfl) VRs.nil)⟩
      cases x <;> simp only at h <;> try (cases h; done)
      case iface t y =>
        unfold VR at hx
        obtain ⟨u, rfl, hy⟩ := hx
        cases ht : Nat.beq t a with
        | true =>
          rw [ht] at h
          rw [Nat.beq_eq] at ht
          cases h
          refine ⟨_, run_typeAssert_is hu hi ht, ?_⟩
          cases c with
          | true => exact two hy
          | false => exact hy
        | false =>
          rw [ht] at h
          simp only [cond_false] at h
          have hne : t ≠ a := by intro e; subst e; simp at ht
          cases c with
          | false => cases h
          | true =>
            simp only [cond_true] at h
            cases hz : zeroAV E a with
            | none => rw [hz] at h; cases h
            | some zv =>
              rw [hz] at h; cases h
              obtain ⟨z', q1, q2⟩ := zeroAV_ok ok (w := w) hz
              exact ⟨_, run_typeAssert_not hu hi hne q1, two (q2 ρ)⟩
      case inil =>
        unfold VR at hx
        subst hx
        cases c with
        | false => cases h
        | true =>
          simp only [cond_true] at h
          cases hz : zeroAV E a with
          | none => rw [hz] at h; cases h
          | some zv =>
            rw [hz] at h; cases h
            obtain ⟨z', q1, q2⟩ := zeroAV_ok ok (w := w) hz
            exact ⟨_, run_typeAssert_nil hu hi q1, two (q2 ρ)⟩

noncomputable def aExtract (x : AV) (i : Nat) : Option AV :=
  match x with
  | .tup l => l[i]?
  | _ => none

/-- Built-in functions on values alone. -/
noncomputable def aLen (E : Env) (t : Nat) (x : AV) : Option AV :=
  match E.und t with
  | none => none
  | some d => match x with
    | .str l => cond (isStr d) (some (.int .i64 (Int.ofNat l.length))) none
    | .snil => (match sliceElem d with | none => none | some _ => some (.int .i64 (Int.ofNat 0)))
    | .sl _ _ n _ => (match sliceElem d with | none => none | some _ => some (.int .i64 (Int.ofNat n)))
    | .slo _ _ n _ => (match sliceElem d with | none => none | some _ => some (.int .i64 (Int.ofNat n)))
    | .mnil => (match isMapD d with | none => none | some _ => some (.int .i64 (Int.ofNat 0)))
    | _ => none
include ok in
theorem aLen_ok {w : World} {ρ : Rho} {t ty : Nat} {ts : Array Nat} {vs : Array Value} {x z : AV} {v : Value} (ht : ts[0]? = some t) (hvs : vs[0]? = some v) (hx : VR ρ x v) (h : aLen E t x = some z) :
    ∃ v', (Builtin.len_ ts ty vs).run E.P w = .ok v' w ∧ VR ρ z v' := by
  unfold aLen at h
  cases hd : E.und t with
  | none => rw [hd] at h; cases h
  | some d =>
    rw [hd] at h
    have hu := run_und ok (w := w) hd
    cases x <;> simp only at h <;> try (cases h; done)
    case str l =>
      unfold VR at hx
      obtain ⟨s, rfl, rfl⟩ := hx
      cases h3 : isStr d with
      | false => rw [h3] at h; cases h
      | true =>
        rw [h3] at h; cases h
        have := isStr_inv h3; subst this
        refine ⟨.int .i64 s.size, by simp [Builtin.len_, ht, hvs, hu, goInt], by unfold VR; simp⟩
    case snil =>
      unfold VR at hx; subst hx
      cases he : sliceElem d with
      | none => rw [he] at h; cases h
      | some e =>
        rw [he] at h; cases h
        have := sliceElem_inv he; subst this
        exact ⟨.int .i64 0, by simp [Builtin.len_, ht, hvs, hu, goInt], by unfold VR; rfl⟩
    case sl id o n c =>
      unfold VR at hx
      obtain ⟨b, sh, e0, hρ, rfl⟩ := hx
      cases he : sliceElem d with
      | none => rw [he] at h; cases h
      | some e =>
        rw [he] at h; cases h
        have := sliceElem_inv he; subst this
        exact ⟨.int .i64 n, by simp [Builtin.len_, ht, hvs, hu, goInt], by unfold VR; rfl⟩
    case slo id o n c =>
      unfold VR at hx
      obtain ⟨b, sh, e0, hρ, hx⟩ := hx
      cases he : sliceElem d with
      | none => rw [he] at h; cases h
      | some e =>
        rw [he] at h; cases h
        have := sliceElem_inv he; subst this
        rcases hx with ⟨c', rfl, _⟩ | ⟨rfl, a, rfl⟩
        · exact ⟨.int .i64 n, by simp [Builtin.len_, ht, hvs, hu, goInt], by unfold VR; rfl⟩
        · exact ⟨.int .i64 0, by simp [Builtin.len_, ht, hvs, hu, goInt], by unfold VR; rfl⟩
    case mnil =>
      unfold VR at hx; subst hx
      cases he : isMapD d with
      | none => rw [he] at h; cases h
      | some e =>
        obtain ⟨k, e⟩ := e
        rw [he] at h; cases h
        have := isMapD_inv he; subst this
        exact ⟨.int .i64 0, by simp [Builtin.len_, ht, hvs, hu, goInt], by unfold VR; rfl⟩

noncomputable def aCap (E : Env) (t : Nat) (x : AV) : Option AV :=
  match E.und t with
  | none => none
  | some d => match x with
    | .snil => (match sliceElem d with | none => none | some _ => some (.int .i64 (Int.ofNat 0)))
    | .sl _ _ _ c => (match sliceElem d with | none => none | some _ => some (.int .i64 (Int.ofNat c)))
    | _ => none
include ok in
theorem aCap_ok {w : World} {ρ : Rho} {t ty : Nat} {ts : Array Nat} {vs : Array Value} {x z : AV} {v : Value} (ht : ts[0]? = some t) (hvs : vs[0]? = some v) (hx : VR ρ x v) (h : aCap E t x = some z) :
    ∃ v', (Builtin.cap_ ts ty vs).run E.P w = .ok v' w ∧ VR ρ z v' := by
  unfold aCap at h
  cases hd : E.und t with
  | none => rw [hd] at h; cases h
  | some d =>
    rw [hd] at h
    have hu := run_und ok (w := w) hd
    cases x <;> simp only at h <;> try (cases h; done)
    case snil =>
      unfold VR at hx; subst hx
      cases he : sliceElem d with
      | none => rw [he] at h; cases h
      | some e =>
        rw [he] at h; cases h
        have := sliceElem_inv he; subst this
        exact ⟨.int .i64 0, by simp [Builtin.cap_, ht, hvs, hu, goInt], by unfold VR; rfl⟩
    case sl id o n c =>
      unfold VR at hx
      obtain ⟨b, sh, e0, hρ, rfl⟩ := hx
      cases he : sliceElem d with
      | none => rw [he] at h; cases h
      | some e =>
        rw [he] at h; cases h
        have := sliceElem_inv he; subst this
        exact ⟨.int .i64 c, by simp [Builtin.cap_, ht, hvs, hu, goInt], by unfold VR; rfl⟩

noncomputable def mx2 (big : Bool) : AV → List AV → Option AV
  | x, [] => some x
  | .int k a, .int k' b :: l => cond (Nat.beq (kix k) (kix k')) (mx2 big (.int k (cond big (cond (ile b a) a b) (cond (ile a b) a b))) l) none
  | _, _ :: _ => none
theorem mx2_max {P : Program} {w : World} {ρ : Rho} : ∀ {l : List AV} {vs : List Value} {x z : AV} {v : Value}, VR ρ x v → VRs ρ l vs → mx2 true x l = some z →
    ∃ v', (vs.foldlM Builtin.max2 v).run P w = .ok v' w ∧ VR ρ z v'
  | [], vs, x, z, v, hx, hl, h => by
    unfold VRs at hl; subst hl
    have h' : some x = some z := by cases x <;> simpa [mx2] using h
    cases h'
    exact ⟨v, rfl, hx⟩
  | y :: l, vs, x, z, v, hx, hl, h => by
    unfold VRs at hl
    obtain ⟨u, us, rfl, hy, hl⟩ := hl
    cases x <;> cases y <;> simp only [mx2] at h <;> try (cases h; done)
    rename_i k a k' b
    cases hk : Nat.beq (kix k) (kix k') with
    | false => rw [hk] at h; cases h
    | true =>
      rw [hk] at h
      simp only [cond_true] at h
      unfold VR at hx hy; subst hx; subst hy
      have e : (cond (ile b a) a b) = (if b > a then b else a) := by
        rw [ile_eq]
        by_cases hb : b ≤ a
        · rw [decide_eq_true hb, if_neg (by omega)]; rfl
        · rw [decide_eq_false hb, if_pos (by omega)]; rfl
      rw [e] at h
      obtain ⟨v', h1, h2⟩ := mx2_max (P := P) (w := w) (v := .int k (if b > a then b else a)) (by unfold VR; rfl) hl h
      exact ⟨v', by simp [List.foldlM_cons, Builtin.max2, h1], h2⟩
theorem mx2_min {P : Program} {w : World} {ρ : Rho} : ∀ {l : List AV} {vs : List Value} {x z : AV} {v : Value}, VR ρ x v → VRs ρ l vs → mx2 false x l = some z →
    ∃ v', (vs.foldlM Builtin.min2 v).run P w = .ok v' w ∧ VR ρ z v'
  | [], vs, x, z, v, hx, hl, h => by
    unfold VRs at hl; subst hl
    have h' : some x = some z := by cases x <;> simpa [mx2] using h
    cases h'
    exact ⟨v, rfl, hx⟩
  | y :: l, vs, x, z, v, hx, hl, h => by
    unfold VRs at hl
    obtain ⟨u, us, rfl, hy, hl⟩ := hl
    cases x <;> cases y <;> simp only [mx2] at h <;> try (cases h; done)
    rename_i k a k' b
    cases hk : Nat.beq (kix k) (kix k') with
    | false => rw [hk] at h; cases h
    | true =>
      rw [hk] at h
      simp only [cond_true, cond_false] at h
      unfold VR at hx hy; subst hx; subst hy
      have e : (cond (ile a b) a b) = (if b < a then b else a) := by
        rw [ile_eq]
        by_cases hb : a ≤ b
        · rw [decide_eq_true hb, if_neg (by omega)]; rfl
        · rw [decide_eq_false hb, if_pos (by omega)]; rfl
      rw [e] at h
      obtain ⟨v', h1, h2⟩ := mx2_min (P := P) (w := w) (v := .int k (if b < a then b else a)) (by unfold VR; rfl) hl h
      exact ⟨v', by simp [List.foldlM_cons, Builtin.min2, h1], h2⟩

end Go.Evo
namespace Go.Evo

variable {E : Env} (ok : E.Ok)

noncomputable def quietB (E : Env) (b : Builtin) (ts : List Nat) (xs : List AV) : Option AV :=
  match b with
  | .len => (match ts with
    | [] => none
    | t :: _ => match xs with
      | [] => none
      | x :: _ => aLen E t x)
  | .cap => (match ts with
    | [] => none
    | t :: _ => match xs with
      | [] => none
      | x :: _ => aCap E t x)
  | .max => (match xs with
    | [] => none
    | x :: l => mx2 true x l)
  | .min => (match xs with
    | [] => none
    | x :: l => mx2 false x l)
  | _ => none

noncomputable def evOo (tm : Tr AV) : Option Operand → Option (Option AV)
  | none => some none
  | some o => match evO tm o with
    | none => none
    | some x => some (some x)
theorem evOo_ok {ρ : Rho} {n : Nat} {tm : Tr AV} {a : Act} {o : Option Operand} {x : Option AV} (ht : TmR ρ n tm a.tmps) (h : evOo tm o = some x) : VRo ρ x (o.map a.eval) := by
  cases o with
  | none => cases h; trivial
  | some o =>
    unfold evOo at h
    simp only at h
    cases h1 : evO tm o with
    | none => rw [h1] at h; cases h
    | some y => rw [h1] at h; cases h; exact evO_ok ht h1

noncomputable def quietOp (E : Env) (tm : Tr AV) (o : Oper) : Option AV :=
  (match o.op with
  | .move x => fun _E tm => evO tm x
  | .assign x => fun _E tm => evO tm x
  | .pick c a b => fun _E tm => (match evO tm c with
    | some (.bool t) => evO tm (cond t a b)
    | _ => none)
  | .binOp op t x y _ => fun E tm => (match evO tm x with
    | none => none
    | some u => match evO tm y with
      | none => none
      | some v => aBin E (isConstO x || isConstO y) op t u v)
  | .unOp op _ x => fun _E tm => (match evO tm x with
    | none => none
    | some u => aUn op u)
  | .convert src dst x => fun E tm => (match evO tm x with
    | none => none
    | some u => aConv E src dst u)
  | .nilCheck x => fun _E tm => (match evO tm x with
    | none => none
    | some u => aNil u)
  | .makeInterface t x => fun E tm => (match E.und t with
    | none => none
    | some d => cond (isIfaceD d) none (match evO tm x with
      | none => none
      | some u => some (.iface t u)))
  | .makeFunc fn first captured => fun _E tm => (match first.toList with
    | [] => (match evOs tm captured.toList with
      | none => none
      | some cs => aMakeFn fn [] cs)
    | _ => none)
  | .fieldAddr s x f => fun E tm => (match evO tm x with
    | none => none
    | some u => aFieldAddr E s u f)
  | .field s x f => fun E tm => (match evO tm x with
    | none => none
    | some u => aField E s u f)
  | .indexAddr t x ix => fun E tm => (match evO tm x with
    | none => none
    | some u => match evO tm ix with
      | none => none
      | some i => aIndexAddr E t u i)
  | .index t x ix => fun E tm => (match evO tm x with
    | none => none
    | some u => match evO tm ix with
      | none => none
      | some i => aIndex E t u i)
  | .extract x i => fun _E tm => (match evO tm x with
    | none => none
    | some u => aExtract u i)
  | .slice t x lo hi mx => fun E tm => (match evO tm x with
    | none => none
    | some u => match evOo tm lo with
      | none => none
      | some l => match evOo tm hi with
        | none => none
        | some h => match evOo tm mx with
          | none => none
          | some m => aSlice E t u l h m)
  | .build t parts => fun E tm => (match evParts tm parts.toList with
    | none => none
    | some ps => aBuild E t ps)
  | .typeAssert x _ a c => fun E tm => (match evO tm x with
    | none => none
    | some u => aTA E u a c)
  | .call c => fun E tm => (match c.callee with
    | .builtin b => (match evOs tm c.args.toList with
      | none => none
      | some xs => quietB E b c.argTypes.toList xs)
    | _ => none)
  | _ => fun _E _tm => none) E tm

inductive FnQ where
  | mk (f : Env → Tr AV → Option AV)
noncomputable def FnQ.app (c : FnQ) : Env → Tr AV → Option AV := FnQ.rec (motive := fun _ => Env → Tr AV → Option AV) (fun f => f) c
/-- The same, to be known once for each operation of the text. -/
noncomputable def quietC (op : Op) : FnQ :=
  match op with
  | .move x => .mk (fun _E tm => evO tm x)
  | .assign x => .mk (fun _E tm => evO tm x)
  | .pick c a b => .mk (fun _E tm => (match evO tm c with
    | some (.bool t) => evO tm (cond t a b)
    | _ => none))
  | .binOp op t x y _ => .mk (fun E tm => (match evO tm x with
    | none => none
    | some u => match evO tm y with
      | none => none
      | some v => aBin E (isConstO x || isConstO y) op t u v))
  | .unOp op _ x => .mk (fun _E tm => (match evO tm x with
    | none => none
    | some u => aUn op u))
  | .convert src dst x => .mk (fun E tm => (match evO tm x with
    | none => none
    | some u => aConv E src dst u))
  | .nilCheck x => .mk (fun _E tm => (match evO tm x with
    | none => none
    | some u => aNil u))
  | .makeInterface t x => .mk (fun E tm => (match E.und t with
    | none => none
    | some d => cond (isIfaceD d) none (match evO tm x with
      | none => none
      | some u => some (.iface t u))))
  | .makeFunc fn first captured => .mk (fun _E tm => (match first.toList with
    | [] => (match evOs tm captured.toList with
      | none => none
      | some cs => aMakeFn fn [] cs)
    | _ => none))
  | .fieldAddr s x f => .mk (fun E tm => (match evO tm x with
    | none => none
    | some u => aFieldAddr E s u f))
  | .field s x f => .mk (fun E tm => (match evO tm x with
    | none => none
    | some u => aField E s u f))
  | .indexAddr t x ix => .mk (fun E tm => (match evO tm x with
    | none => none
    | some u => match evO tm ix with
      | none => none
      | some i => aIndexAddr E t u i))
  | .index t x ix => .mk (fun E tm => (match evO tm x with
    | none => none
    | some u => match evO tm ix with
      | none => none
      | some i => aIndex E t u i))
  | .extract x i => .mk (fun _E tm => (match evO tm x with
    | none => none
    | some u => aExtract u i))
  | .slice t x lo hi mx => .mk (fun E tm => (match evO tm x with
    | none => none
    | some u => match evOo tm lo with
      | none => none
      | some l => match evOo tm hi with
        | none => none
        | some h => match evOo tm mx with
          | none => none
          | some m => aSlice E t u l h m))
  | .build t parts => .mk (fun E tm => (match evParts tm parts.toList with
    | none => none
    | some ps => aBuild E t ps))
  | .typeAssert x _ a c => .mk (fun E tm => (match evO tm x with
    | none => none
    | some u => aTA E u a c))
  | .call c => .mk (fun E tm => (match c.callee with
    | .builtin b => (match evOs tm c.args.toList with
      | none => none
      | some xs => quietB E b c.argTypes.toList xs)
    | _ => none))
  | _ => .mk (fun _ _ => none)
theorem quietC_eq (E : Env) (tm : Tr AV) (o : Oper) : (quietC o.op).app E tm = quietOp E tm o := by
  obtain ⟨dst, op, type, pos, after, guard⟩ := o
  cases op <;> rfl

include ok in
theorem quietB_ok {w : World} {ρ : Rho} {b : Builtin} {ts : Array Nat} {xs : List AV} {vs : Array Value} {ty : Nat} {cs : Array Bool} {z : AV} (hv : VRs ρ xs vs.toList) (h : quietB E b ts.toList xs = some z) :
    ∃ v', (builtin b ts ty cs vs).run E.P w = .ok (.value v') w ∧ VR ρ z v' := by
  cases b <;> simp only [quietB] at h <;> try (cases h; done)
  case len =>
    cases ht : ts.toList with
    | nil => rw [ht] at h; cases h
    | cons t l =>
      rw [ht] at h
      cases xs with
      | nil => cases h
      | cons x xs =>
        simp only at h
        obtain ⟨v, q1, q2⟩ := hv.get 0 x rfl
        have e1 : ts[0]? = some t := by rw [← Array.getElem?_toList, ht]; rfl
        have e2 : vs[0]? = some v := by rw [← Array.getElem?_toList]; exact q1
        obtain ⟨v', h1, h2⟩ := aLen_ok ok (w := w) (ty := ty) e1 e2 q2 h
        exact ⟨v', by simp [builtin, h1], h2⟩
  case cap =>
    cases ht : ts.toList with
    | nil => rw [ht] at h; cases h
    | cons t l =>
      rw [ht] at h
      cases xs with
      | nil => cases h
      | cons x xs =>
        simp only at h
        obtain ⟨v, q1, q2⟩ := hv.get 0 x rfl
        have e1 : ts[0]? = some t := by rw [← Array.getElem?_toList, ht]; rfl
        have e2 : vs[0]? = some v := by rw [← Array.getElem?_toList]; exact q1
        obtain ⟨v', h1, h2⟩ := aCap_ok ok (w := w) (ty := ty) e1 e2 q2 h
        exact ⟨v', by simp [builtin, h1], h2⟩
  case max =>
    cases xs with
    | nil => cases h
    | cons x xs =>
      simp only at h
      generalize hl : vs.toList = l at hv
      unfold VRs at hv
      obtain ⟨v, us, rfl, hx, hr⟩ := hv
      obtain ⟨v', h1, h2⟩ := mx2_max (P := E.P) (w := w) hx hr h
      exact ⟨v', by simp [builtin, Builtin.max_, hl, h1], h2⟩
  case min =>
    cases xs with
    | nil => cases h
    | cons x xs =>
      simp only at h
      generalize hl : vs.toList = l at hv
      unfold VRs at hv
      obtain ⟨v, us, rfl, hx, hr⟩ := hv
      obtain ⟨v', h1, h2⟩ := mx2_min (P := E.P) (w := w) hx hr h
      exact ⟨v', by simp [builtin, Builtin.min_, hl, h1], h2⟩

theorem run_value {P : Program} {w w' : World} {s : Sem Value} {v : Value} (h : s.run P w = .ok v w') : (do pure (Next.value (← s)) : Sem Next).run P w = .ok (.value v) w' := by
  simp [h]

include ok in
theorem quiet_ok {w : World} {ρ : Rho} {n : Nat} {tm : Tr AV} {a : Act} {o : Oper} {z : AV} (ht : TmR ρ n tm a.tmps) (h : quietOp E tm o = some z) :
    ∃ v', (execOp a.eval o).run E.P w = .ok (.value v') w ∧ VR ρ z v' := by
  obtain ⟨dst, op, type, pos, after, guard⟩ := o
  unfold quietOp at h
  cases op <;> simp only at h <;> try (cases h; done)
  case move x => exact ⟨_, rfl, evO_ok ht h⟩
  case assign x => exact ⟨_, rfl, evO_ok ht h⟩
  case pick c x y =>
    split at h
    · rename_i t hc
      have hcv := evO_ok ht hc
      unfold VR at hcv
      cases t with
      | true => exact ⟨_, by simp [execOp, hcv, asBool], evO_ok ht h⟩
      | false => exact ⟨_, by simp [execOp, hcv, asBool], evO_ok ht h⟩
    · cases h
  case binOp op t x y yt =>
    cases h1 : evO tm x with
    | none => rw [h1] at h; cases h
    | some u =>
      rw [h1] at h; simp only at h
      cases h2 : evO tm y with
      | none => rw [h2] at h; cases h
      | some v =>
        rw [h2] at h
        obtain ⟨v', q1, q2⟩ := aBin_ok ok (w := w) (evO_ok ht h1) (evO_ok ht h2) h
        exact ⟨v', run_value q1, q2⟩
  case unOp op t x =>
    cases h1 : evO tm x with
    | none => rw [h1] at h; cases h
    | some u =>
      rw [h1] at h
      obtain ⟨v', q1, q2⟩ := aUn_ok (P := E.P) (w := w) (evO_ok ht h1) h
      exact ⟨v', run_value q1, q2⟩
  case convert src dst x =>
    cases h1 : evO tm x with
    | none => rw [h1] at h; cases h
    | some u =>
      rw [h1] at h
      obtain ⟨v', q1, q2⟩ := aConv_ok ok (w := w) (evO_ok ht h1) h
      exact ⟨v', run_value q1, q2⟩
  case nilCheck x =>
    cases h1 : evO tm x with
    | none => rw [h1] at h; cases h
    | some u =>
      rw [h1] at h
      have hx := evO_ok ht h1
      cases u <;> simp only [aNil] at h <;> try (cases h; done)
      case ptr i o =>
        cases h
        unfold VR at hx
        obtain ⟨b, sh, e, hρ, hx⟩ := hx
        exact ⟨.pointer (some ⟨b, sh + o, none⟩), by simp [execOp, hx], by unfold VR; exact ⟨b, sh, e, hρ, rfl⟩⟩
      case gptr g o =>
        cases h
        unfold VR at hx
        exact ⟨.pointer (some ⟨g, o, none⟩), by simp [execOp, hx], by unfold VR; rfl⟩
      case fn f c =>
        cases h
        unfold VR at hx
        obtain ⟨vs, hx, hvs⟩ := hx
        exact ⟨.func (.func f) #[] vs, by simp [execOp, hx], by unfold VR; exact ⟨vs, rfl, hvs⟩⟩
  case makeInterface t x =>
    cases hd : E.und t with
    | none => rw [hd] at h; cases h
    | some d =>
      rw [hd] at h; simp only at h
      cases hi : isIfaceD d with
      | true => rw [hi] at h; cases h
      | false =>
        rw [hi] at h; simp only [cond_false] at h
        cases h1 : evO tm x with
        | none => rw [h1] at h; cases h
        | some u =>
          rw [h1] at h; cases h
          refine ⟨.iface t (a.eval x), ?_, by unfold VR; exact ⟨_, rfl, evO_ok ht h1⟩⟩
          refine run_value ?_
          have hu := run_und ok (w := w) hd
          cases d <;> first
            | (cases hi; done)
            | simp [Instr.makeInterface, hu]
  case makeFunc fn first captured =>
    cases hf : first.toList with
    | cons _ _ => rw [hf] at h; cases h
    | nil =>
      rw [hf] at h; simp only at h
      have hf' : first = #[] := by cases first with | mk l => simp at hf; subst hf; rfl
      subst hf'
      cases h1 : evOs tm captured.toList with
      | none => rw [h1] at h; cases h
      | some cs =>
        rw [h1] at h; simp only at h
        cases fn <;> simp only [aMakeFn] at h <;> try (cases h; done)
        rename_i f
        cases h
        refine ⟨.func (.func f) #[] (captured.map a.eval), by simp [execOp, Instr.makeFunc], ?_⟩
        unfold VR
        refine ⟨captured.map a.eval, rfl, ?_⟩
        rw [Array.toList_map]
        exact evOs_ok ht h1
  case fieldAddr s x f =>
    cases h1 : evO tm x with
    | none => rw [h1] at h; cases h
    | some u =>
      rw [h1] at h
      obtain ⟨v', q1, q2⟩ := aFieldAddr_ok ok (w := w) (evO_ok ht h1) h
      exact ⟨v', run_value q1, q2⟩
  case field s x f =>
    cases h1 : evO tm x with
    | none => rw [h1] at h; cases h
    | some u =>
      rw [h1] at h
      obtain ⟨v', q1, q2⟩ := aField_ok ok (w := w) (evO_ok ht h1) h
      exact ⟨v', run_value q1, q2⟩
  case indexAddr t x ix =>
    cases h1 : evO tm x with
    | none => rw [h1] at h; cases h
    | some u =>
      rw [h1] at h; simp only at h
      cases h2 : evO tm ix with
      | none => rw [h2] at h; cases h
      | some i =>
        rw [h2] at h
        obtain ⟨v', q1, q2⟩ := aIndexAddr_ok ok (w := w) (evO_ok ht h1) (evO_ok ht h2) h
        exact ⟨v', run_value q1, q2⟩
  case index t x ix =>
    cases h1 : evO tm x with
    | none => rw [h1] at h; cases h
    | some u =>
      rw [h1] at h; simp only at h
      cases h2 : evO tm ix with
      | none => rw [h2] at h; cases h
      | some i =>
        rw [h2] at h
        obtain ⟨v', q1, q2⟩ := aIndex_ok ok (w := w) (evO_ok ht h1) (evO_ok ht h2) h
        exact ⟨v', run_value q1, q2⟩
  case extract x i =>
    cases h1 : evO tm x with
    | none => rw [h1] at h; cases h
    | some u =>
      rw [h1] at h; simp only at h
      have hx := evO_ok ht h1
      cases u <;> simp only [aExtract] at h <;> try (cases h; done)
      unfold VR at hx
      obtain ⟨vs, hx, hvs⟩ := hx
      obtain ⟨v', q1, q2⟩ := hvs.get _ _ h
      have q1' : vs[i]? = some v' := by rw [← Array.getElem?_toList]; exact q1
      exact ⟨v', run_value (by simp [Instr.extract, hx, q1']), q2⟩
  case slice t x lo hi mx =>
    cases h1 : evO tm x with
    | none => rw [h1] at h; cases h
    | some u =>
      rw [h1] at h; simp only at h
      cases h2 : evOo tm lo with
      | none => rw [h2] at h; cases h
      | some l =>
        rw [h2] at h; simp only at h
        cases h3 : evOo tm hi with
        | none => rw [h3] at h; cases h
        | some hh =>
          rw [h3] at h; simp only at h
          cases h4 : evOo tm mx with
          | none => rw [h4] at h; cases h
          | some m =>
            rw [h4] at h
            obtain ⟨v', q1, q2⟩ := aSlice_ok ok (w := w) (evO_ok ht h1) (evOo_ok ht h2) (evOo_ok ht h3) (evOo_ok ht h4) h
            exact ⟨v', run_value q1, q2⟩
  case build t parts =>
    cases h1 : evParts tm parts.toList with
    | none => rw [h1] at h; cases h
    | some ps =>
      rw [h1] at h
      have hp := evParts_ok ht h1
      rw [← Array.toList_map] at hp
      obtain ⟨v', q1, q2⟩ := aBuild_ok ok (w := w) hp h
      exact ⟨v', run_value q1, q2⟩
  case typeAssert x xt as c =>
    cases h1 : evO tm x with
    | none => rw [h1] at h; cases h
    | some u =>
      rw [h1] at h
      obtain ⟨v', q1, q2⟩ := aTA_ok ok (w := w) (xT := xt) (evO_ok ht h1) h
      exact ⟨v', run_value q1, q2⟩
  case call c =>
    obtain ⟨callee, args, argTypes⟩ := c
    cases callee <;> simp only at h <;> try (cases h; done)
    cases h1 : evOs tm args.toList with
    | none => rw [h1] at h; cases h
    | some xs =>
      rw [h1] at h
      have hv := evOs_ok ht h1
      rw [← Array.toList_map] at hv
      obtain ⟨v', q1, q2⟩ := quietB_ok ok (w := w) (ty := type) hv h
      exact ⟨v', by simp only [execOp, resolve, Sem.run_bind, Sem.run_pure, Result.andThen_ok, invoke]; exact q1, q2⟩

end Go.Evo
namespace Go.Evo

/-- Two worlds alike but for the heap and the number of draws. -/
structure Beside (w w' : World) : Prop where
  tape : w'.tape = w.tape
  os : w'.os = w.os
  output : w'.output = w.output

theorem Beside.refl (w : World) : Beside w w := ⟨rfl, rfl, rfl⟩
theorem Beside.trans {a b c : World} (h : Beside a b) (h' : Beside b c) : Beside a c := ⟨h'.tape.trans h.tape, h'.os.trans h.os, h'.output.trans h.output⟩

section
variable {gs : Nat → Option (List AV)} {ng : Nat} {ρ : Rho} {h : Hp} {nx : Nat} {w w' : World}

/-- One object of the heap is another one now. -/
theorem R.update (r : R gs ng ρ h nx w) {id b sh e : Nat} {o o' : AObj} (hid : h.get id = some o) (hρ : ρ id = some (b, sh, e)) (hb : ∀ b', b' ≠ b → w'.heap[b']? = w.heap[b']?)
    (hs : w'.heap.size = w.heap.size) (ho : OR ρ w' o' b sh e) (hx : Beside w w') : R gs ng ρ (h.set id o') nx w' ∧ G ρ h nx w ρ (h.set id o') nx w' := by
  have get : ∀ j oj, (h.set id o').get j = some oj → (j = id ∧ oj = o') ∨ (j ≠ id ∧ h.get j = some oj) := by
    intro j oj hj
    rw [Tr.get_set] at hj
    by_cases hji : id = j
    · rw [if_pos hji] at hj; cases hj; exact .inl ⟨hji.symm, rfl⟩
    · rw [if_neg hji] at hj; exact .inr ⟨fun e => hji e.symm, hj⟩
  have old : ∀ j oj, (h.set id o').get j = some oj → ∃ o0, h.get j = some o0 := by
    intro j oj hj
    rcases get j oj hj with ⟨rfl, _⟩ | ⟨_, h1⟩
    · exact ⟨o, hid⟩
    · exact ⟨_, h1⟩
  refine ⟨⟨?_, ?_, r.fresh, r.low, ?_⟩, ⟨Rho.le_refl _, Nat.le_refl _, fun _ _ h => h, by omega, ?_, ?_, ?_, hx.tape, hx.os, hx.output⟩⟩
  · intro j oj hj
    rcases get j oj hj with ⟨rfl, rfl⟩ | ⟨hne, h1⟩
    · exact ⟨b, sh, e, hρ, ho⟩
    · obtain ⟨b', sh', e', q1, q2⟩ := r.hr j oj h1
      exact ⟨b', sh', e', q1, q2.mono (Rho.le_refl _) (hb b' (r.sep j id oj o b' sh' e' b sh e h1 hid q1 hρ hne))⟩
  · intro i j oi oj b1 sh1 e1 b2 sh2 e2 hi hj q1 q2 hne
    obtain ⟨o1, h1⟩ := old i oi hi
    obtain ⟨o2, h2⟩ := old j oj hj
    exact r.sep i j o1 o2 b1 sh1 e1 b2 sh2 e2 h1 h2 q1 q2 hne
  · refine r.gl.of_frame (by omega) (fun b' hb' => hb b' ?_)
    have := r.low id b sh e hρ
    omega
  · intro b' _ hno
    exact hb b' (fun hbb => hno id o sh e hid (hbb ▸ hρ))
  · intro j oj b' sh' e' hj q
    obtain ⟨o1, h1⟩ := old j oj hj
    exact .inr ⟨j, o1, sh', e', h1, q⟩
  · intro j oj hj _
    exact old j oj hj

def Rho.put (ρ : Rho) (id : Nat) (x : Nat × Nat × Nat) : Rho := fun j => if j = id then some x else ρ j
theorem Rho.put_self (ρ : Rho) (id : Nat) (x : Nat × Nat × Nat) : ρ.put id x id = some x := by simp [Rho.put]
theorem Rho.put_ne (ρ : Rho) {id j : Nat} (x : Nat × Nat × Nat) (h : j ≠ id) : ρ.put id x j = ρ j := by simp [Rho.put, h]
theorem Rho.le_put {ρ : Rho} {id : Nat} {x : Nat × Nat × Nat} (h : ρ id = none) : ρ.le (ρ.put id x) := by
  intro j y hj
  by_cases hji : j = id
  · subst hji; rw [h] at hj; cases hj
  · rw [Rho.put_ne ρ x hji]; exact hj

/-- A new block, under a number that was free. -/
theorem R.alloc (r : R gs ng ρ h nx w) {id nx' e : Nat} {o' : AObj} (hfree : ρ id = none) (hnx : nx ≤ nx') (hid : id < nx') (hb : ∀ b', b' < w.heap.size → w'.heap[b']? = w.heap[b']?)
    (hs : w.heap.size < w'.heap.size) (ho : OR (ρ.put id (w.heap.size, 0, e)) w' o' w.heap.size 0 e) :
    R gs ng (ρ.put id (w.heap.size, 0, e)) (h.set id o') nx' w' := by
  have hnone : h.get id = none := by
    cases hg : h.get id with
    | none => rfl
    | some o => obtain ⟨b, sh, e, q, _⟩ := r.hr id o hg; rw [hfree] at q; cases q
  have get : ∀ j oj, (h.set id o').get j = some oj → (j = id ∧ oj = o') ∨ (j ≠ id ∧ h.get j = some oj) := by
    intro j oj hj
    rw [Tr.get_set] at hj
    by_cases hji : id = j
    · rw [if_pos hji] at hj; cases hj; exact .inl ⟨hji.symm, rfl⟩
    · rw [if_neg hji] at hj; exact .inr ⟨fun e => hji e.symm, hj⟩
  have lt : ∀ j oj b sh e, h.get j = some oj → ρ j = some (b, sh, e) → b < w.heap.size := by
    intro j oj b sh e hj q
    obtain ⟨b', sh', e', q1, q2⟩ := r.hr j oj hj
    rw [q] at q1; cases q1
    rcases Nat.lt_or_ge b w.heap.size with h1 | h1
    · exact h1
    · have hn := Array.getElem?_eq_none h1
      cases oj <;> (obtain ⟨_, _, hh⟩ := q2; simp_all)
  refine ⟨?_, ?_, ?_, ?_, ?_⟩
  · intro j oj hj
    rcases get j oj hj with ⟨rfl, rfl⟩ | ⟨hne, h1⟩
    · exact ⟨_, 0, e, Rho.put_self _ _ _, ho⟩
    · obtain ⟨b', sh', e', q1, q2⟩ := r.hr j oj h1
      exact ⟨b', sh', e', by rw [Rho.put_ne ρ _ hne]; exact q1, q2.mono (Rho.le_put hfree) (hb b' (lt j oj b' sh' e' h1 q1))⟩
  · intro i j oi oj b1 sh1 e1 b2 sh2 e2 hi hj q1 q2 hne
    rcases get i oi hi with ⟨rfl, rfl⟩ | ⟨hni, h1⟩
    · rcases get j oj hj with ⟨rfl, rfl⟩ | ⟨hnj, h2⟩
      · exact absurd rfl hne
      · rw [Rho.put_self] at q1; cases q1
        rw [Rho.put_ne ρ _ hnj] at q2
        have := lt j oj b2 sh2 e2 h2 q2
        omega
    · rw [Rho.put_ne ρ _ hni] at q1
      rcases get j oj hj with ⟨rfl, rfl⟩ | ⟨hnj, h2⟩
      · rw [Rho.put_self] at q2; cases q2
        have := lt i oi b1 sh1 e1 h1 q1
        omega
      · rw [Rho.put_ne ρ _ hnj] at q2
        exact r.sep i j oi oj b1 sh1 e1 b2 sh2 e2 h1 h2 q1 q2 hne
  · intro j hj
    have hji : j ≠ id := by omega
    rw [Rho.put_ne ρ _ hji]
    exact r.fresh j (by omega)
  · intro j b sh e' q
    by_cases hji : j = id
    · subst hji; rw [Rho.put_self] at q; cases q; exact r.gl.1
    · rw [Rho.put_ne ρ _ hji] at q; exact r.low j b sh e' q
  · exact r.gl.of_frame (by omega) (fun b' hb' => hb b' (Nat.lt_of_lt_of_le hb' r.gl.1))

theorem G.alloc (r : R gs ng ρ h nx w) {nx' e : Nat} {o' : AObj} (hnx : nx < nx') (hb : ∀ b', b' < w.heap.size → w'.heap[b']? = w.heap[b']?)
    (hs : w.heap.size < w'.heap.size) (hx : Beside w w') : G ρ h nx w (ρ.put nx (w.heap.size, 0, e)) (h.set nx o') nx' w' := by
  have hfree := r.fresh nx (Nat.le_refl _)
  refine ⟨Rho.le_put hfree, by omega, ?_, by omega, fun b hb' _ => hb b hb', ?_, ?_, hx.tape, hx.os, hx.output⟩
  · intro j hj hn
    rw [Rho.put_ne ρ _ (by omega)]; exact hn
  · intro j oj b sh e' hj q
    rw [Tr.get_set] at hj
    by_cases hji : nx = j
    · subst hji; rw [Rho.put_self] at q; cases q; exact .inl (Nat.le_refl _)
    · rw [if_neg hji] at hj
      rw [Rho.put_ne ρ _ (fun e => hji e.symm)] at q
      exact .inr ⟨j, oj, sh, e', hj, q⟩
  · intro j oj hj hlt
    rw [Tr.get_set, if_neg (by omega)] at hj
    exact ⟨oj, hj⟩

/-- A row that grows in its own place gets a new number; the old one dies. -/
theorem R.move (r : R gs ng ρ h nx w) {id b sh e sh' : Nat} {o o' : AObj} (hid : h.get id = some o) (hρ : ρ id = some (b, sh, e)) (hb : ∀ b', b' ≠ b → w'.heap[b']? = w.heap[b']?)
    (hs : w'.heap.size = w.heap.size) (ho : OR (ρ.put nx (b, sh', e)) w' o' b sh' e) (hx : Beside w w') :
    R gs ng (ρ.put nx (b, sh', e)) ((h.del id).set nx o') (Nat.succ nx) w' ∧ G ρ h nx w (ρ.put nx (b, sh', e)) ((h.del id).set nx o') (Nat.succ nx) w' := by
  have hfree := r.fresh nx (Nat.le_refl _)
  have hidn : id ≠ nx := fun e => by rw [e, hfree] at hρ; cases hρ
  have get : ∀ j oj, ((h.del id).set nx o').get j = some oj → (j = nx ∧ oj = o') ∨ (j ≠ nx ∧ j ≠ id ∧ h.get j = some oj) := by
    intro j oj hj
    rw [Tr.get_set] at hj
    by_cases hji : nx = j
    · rw [if_pos hji] at hj; cases hj; exact .inl ⟨hji.symm, rfl⟩
    · rw [if_neg hji, Tr.get_del] at hj
      by_cases hd : id = j
      · rw [if_pos hd] at hj; cases hj
      · rw [if_neg hd] at hj
        exact .inr ⟨fun e => hji e.symm, fun e => hd e.symm, hj⟩
  refine ⟨⟨?_, ?_, ?_, ?_, ?_⟩, ⟨Rho.le_put hfree, Nat.le_succ _, ?_, by omega, ?_, ?_, ?_, hx.tape, hx.os, hx.output⟩⟩
  · intro j oj hj
    rcases get j oj hj with ⟨rfl, rfl⟩ | ⟨hne, hne', h1⟩
    · exact ⟨b, sh', e, Rho.put_self _ _ _, ho⟩
    · obtain ⟨b', sh1, e', q1, q2⟩ := r.hr j oj h1
      exact ⟨b', sh1, e', by rw [Rho.put_ne ρ _ hne]; exact q1, q2.mono (Rho.le_put hfree) (hb b' (r.sep j id oj o b' sh1 e' b sh e h1 hid q1 hρ hne'))⟩
  · intro i j oi oj b1 sh1 e1 b2 sh2 e2 hi hj q1 q2 hne
    rcases get i oi hi with ⟨rfl, rfl⟩ | ⟨hni, hni', h1⟩
    · rcases get j oj hj with ⟨rfl, rfl⟩ | ⟨hnj, hnj', h2⟩
      · exact absurd rfl hne
      · rw [Rho.put_self] at q1; cases q1
        rw [Rho.put_ne ρ _ hnj] at q2
        exact r.sep id j o oj _ _ _ _ _ _ hid h2 hρ q2 (fun e => hnj' e.symm)
    · rw [Rho.put_ne ρ _ hni] at q1
      rcases get j oj hj with ⟨rfl, rfl⟩ | ⟨hnj, hnj', h2⟩
      · rw [Rho.put_self] at q2; cases q2
        exact r.sep i id oi o _ _ _ _ _ _ h1 hid q1 hρ hni'
      · rw [Rho.put_ne ρ _ hnj] at q2
        exact r.sep i j oi oj b1 sh1 e1 b2 sh2 e2 h1 h2 q1 q2 hne
  · intro j hj
    have hj' : nx + 1 ≤ j := hj
    rw [Rho.put_ne ρ _ (by omega)]
    exact r.fresh j (by omega)
  · intro j b' sh1 e' q
    by_cases hji : j = nx
    · subst hji; rw [Rho.put_self] at q; cases q; exact r.low id b sh e hρ
    · rw [Rho.put_ne ρ _ hji] at q; exact r.low j b' sh1 e' q
  · refine r.gl.of_frame (by omega) (fun b' hb' => hb b' ?_)
    have := r.low id b sh e hρ
    omega
  · intro j hj hn
    rw [Rho.put_ne ρ _ (by omega)]; exact hn
  · intro b' _ hno
    exact hb b' (fun hbb => hno id o sh e hid (hbb ▸ hρ))
  · intro j oj b' sh1 e' hj q
    rcases get j oj hj with ⟨rfl, rfl⟩ | ⟨hne, _, h1⟩
    · rw [Rho.put_self] at q; cases q
      exact .inr ⟨id, o, sh, e, hid, hρ⟩
    · rw [Rho.put_ne ρ _ hne] at q
      exact .inr ⟨j, oj, sh1, e', h1, q⟩
  · intro j oj hj hlt
    rcases get j oj hj with ⟨rfl, _⟩ | ⟨_, _, h1⟩
    · omega
    · exact ⟨oj, h1⟩

/-- A block that the heap lets go. -/
theorem R.drop (r : R gs ng ρ h nx w) {id b sh e : Nat} {o : AObj} (hid : h.get id = some o) (hρ : ρ id = some (b, sh, e)) (hb : ∀ b', b' ≠ b → w'.heap[b']? = w.heap[b']?)
    (hs : w'.heap.size = w.heap.size) (hx : Beside w w') : R gs ng ρ (h.del id) nx w' ∧ G ρ h nx w ρ (h.del id) nx w' := by
  have get : ∀ j oj, (h.del id).get j = some oj → j ≠ id ∧ h.get j = some oj := by
    intro j oj hj
    rw [Tr.get_del] at hj
    by_cases hd : id = j
    · rw [if_pos hd] at hj; cases hj
    · rw [if_neg hd] at hj; exact ⟨fun e => hd e.symm, hj⟩
  refine ⟨⟨?_, ?_, r.fresh, r.low, ?_⟩, ⟨Rho.le_refl _, Nat.le_refl _, fun _ _ h => h, by omega, ?_, ?_, ?_, hx.tape, hx.os, hx.output⟩⟩
  · intro j oj hj
    obtain ⟨hne, h1⟩ := get j oj hj
    obtain ⟨b', sh', e', q1, q2⟩ := r.hr j oj h1
    exact ⟨b', sh', e', q1, q2.mono (Rho.le_refl _) (hb b' (r.sep j id oj o b' sh' e' b sh e h1 hid q1 hρ hne))⟩
  · intro i j oi oj b1 sh1 e1 b2 sh2 e2 hi hj q1 q2 hne
    exact r.sep i j oi oj b1 sh1 e1 b2 sh2 e2 (get i oi hi).2 (get j oj hj).2 q1 q2 hne
  · refine r.gl.of_frame (by omega) (fun b' hb' => hb b' ?_)
    have := r.low id b sh e hρ
    omega
  · intro b' _ hno
    exact hb b' (fun hbb => hno id o sh e hid (hbb ▸ hρ))
  · intro j oj b' sh' e' hj q
    exact .inr ⟨j, oj, sh', e', (get j oj hj).2, q⟩
  · intro j oj hj _
    exact ⟨oj, (get j oj hj).2⟩
end

/-- `n` cells from `o` on. -/
noncomputable def getN (cs : Tr AV) (n : Nat) : Nat → Option (List AV) :=
  Nat.rec (motive := fun _ => Nat → Option (List AV)) (fun _ => some [])
    (fun _ ih o => match cs.get o with
      | none => none
      | some x => match ih (Nat.succ o) with
        | none => none
        | some l => some (x :: l)) n
theorem getN_succ (cs : Tr AV) (n o : Nat) : getN cs (n + 1) o = match cs.get o with
      | none => none
      | some x => match getN cs n (Nat.succ o) with
        | none => none
        | some l => some (x :: l) := rfl
theorem getN_get {cs : Tr AV} : ∀ {n o : Nat} {l : List AV}, getN cs n o = some l → l.length = n ∧ ∀ j x, l[j]? = some x → cs.get (o + j) = some x
  | 0, o, l, h => by
    have : some [] = some l := h
    cases this
    exact ⟨rfl, fun j x hx => by simp at hx⟩
  | n + 1, o, l, h => by
    rw [getN_succ] at h
    cases h1 : cs.get o with
    | none => rw [h1] at h; cases h
    | some x =>
      rw [h1] at h
      simp only at h
      cases h2 : getN cs n (Nat.succ o) with
      | none => rw [h2] at h; cases h
      | some l' =>
        rw [h2] at h
        cases h
        obtain ⟨q1, q2⟩ := getN_get h2
        refine ⟨by simp [q1], fun j y hy => ?_⟩
        cases j with
        | zero => simp at hy; subst hy; exact h1
        | succ j =>
          have := q2 j y (by simpa using hy)
          rw [show o + (j + 1) = Nat.succ o + j by simp only [Nat.succ_eq_add_one]; omega]
          exact this

/-- Cells set from `o` on. -/
noncomputable def setN (cs : Tr AV) (l : List AV) : Nat → Tr AV :=
  List.rec (motive := fun _ => Nat → Tr AV) (fun _ => cs) (fun x _ ih o => (ih (Nat.succ o)).set o x) l
theorem setN_get (cs : Tr AV) : ∀ (l : List AV) (o i : Nat), (setN cs l o).get i = if o ≤ i ∧ i < o + l.length then l[i - o]? else cs.get i
  | [], o, i => by
    have : ¬ (o ≤ i ∧ i < o + ([] : List AV).length) := by simp only [List.length_nil]; omega
    rw [if_neg this]; rfl
  | x :: l, o, i => by
    have e : setN cs (x :: l) o = (setN cs l (Nat.succ o)).set o x := rfl
    rw [e, Tr.get_set]
    by_cases h : o = i
    · subst h
      rw [if_pos rfl, if_pos (by simp only [List.length_cons]; omega)]
      simp
    · rw [if_neg h, setN_get cs l (Nat.succ o) i]
      have e1 : (Nat.succ o) = o + 1 := rfl
      rw [e1]
      by_cases h2 : o + 1 ≤ i ∧ i < o + 1 + l.length
      · rw [if_pos h2, if_pos (by simp only [List.length_cons]; omega)]
        have : i - o = (i - (o + 1)) + 1 := by omega
        rw [this]; rfl
      · rw [if_neg h2, if_neg (by simp only [List.length_cons]; omega)]

noncomputable def allOne : List AV → Bool
  | [] => true
  | x :: l => cond x.one (allOne l) false
theorem allOne_ok {ρ : Rho} : ∀ {l : List AV} {vs : List Value}, VRs ρ l vs → allOne l = true → ∀ v ∈ vs, v.oneCell' = true
  | [], vs, h, _, v, hv => by unfold VRs at h; subst h; cases hv
  | x :: l, vs, h, h1, v, hv => by
    unfold VRs at h
    obtain ⟨y, ys, rfl, q1, q2⟩ := h
    unfold allOne at h1
    cases hx : x.one with
    | false => rw [hx] at h1; cases h1
    | true =>
      rw [hx] at h1
      cases hv with
      | head => exact VR.one q1 hx
      | tail _ hm => exact allOne_ok q2 h1 v hm

theorem run_storeRow {P : Program} (b o : Nat) (t : TypeId) (fr : Nat × Nat) : ∀ (vs : List Value) (i : Nat) (c : Array Value) (w : World), w.heap[b]? = some (.cells c t fr) → o + i + vs.length ≤ c.size →
    (∀ j, j < c.size → ¬ (fr.1 ≤ j ∧ j < fr.2)) → (∀ v ∈ vs, v.oneCell' = true) →
    ∃ w', (storeCells ⟨b, o, none⟩ vs i).run P w = .ok () w' ∧ w'.heap[b]? = some (.cells ((vs.zipIdx i).foldl (fun cs (p : Value × Nat) => cs.setIfInBounds (o + p.2) p.1) c) t fr) ∧
      (∀ b', b' ≠ b → w'.heap[b']? = w.heap[b']?) ∧ w'.heap.size = w.heap.size ∧ Beside w w'
  | [], i, c, w, hw, _, _, _ => ⟨w, by simp [storeCells], hw, fun _ _ => rfl, rfl, Beside.refl w⟩
  | v :: vs, i, c, w, hw, hl, hf, h1 => by
    simp only [List.length_cons] at hl
    have hlt : o + i < c.size := by omega
    have hcell : w.cell? ⟨b, o + i, none⟩ = some c[o + i] := by
      simp [World.cell?, hw, hlt]
    have hfro : w.frozen? ⟨b, o + i, none⟩ = false := by
      have := hf (o + i) hlt
      simp only [World.frozen?, hw]
      rw [Bool.eq_false_iff]
      intro h
      simp only [Bool.and_eq_true, decide_eq_true_eq] at h
      exact this h
    have hst := run_store P w ⟨b, o + i, none⟩ v .plain (h1 v (List.mem_cons_self))
    rw [hcell] at hst
    simp only [hfro, Bool.false_eq_true, if_false] at hst
    have hbl : b < w.heap.size := by
      rcases Nat.lt_or_ge b w.heap.size with h | h
      · exact h
      · rw [Array.getElem?_eq_none h] at hw; cases hw
    have hw' : (w.setCell ⟨b, o + i, none⟩ v).heap[b]? = some (.cells (c.setIfInBounds (o + i) v) t fr) := by
      simp only [World.setCell, Array.getElem?_modify, if_pos, hw]
      rfl
    obtain ⟨w2, q1, q2, q3, q4, q5⟩ := run_storeRow (P := P) b o t fr vs (i + 1) (c.setIfInBounds (o + i) v) (w.setCell ⟨b, o + i, none⟩ v) hw' (by simp; omega)
      (by simpa using hf) (fun v hv => h1 v (List.mem_cons_of_mem _ hv))
    refine ⟨w2, ?_, ?_, ?_, ?_, ?_⟩
    · simp only [storeCells, addr_add, Sem.run_bind, hst, Result.andThen_ok]
      exact q1
    · rw [q2]; rfl
    · intro b' hb'
      rw [q3 b' hb']
      simp only [World.setCell, Array.getElem?_modify]
      rw [if_neg (fun e => hb' e.symm)]
    · rw [q4]; simp [World.setCell]
    · exact ⟨q5.tape, q5.os, q5.output⟩

end Go.Evo
