/- A verified evaluator for the model of Go, part 6: what it reckons of a call, the call does in every world that its abstract heap speaks of. Conditions: none. -/
import Derived.Test.YtffdkcadpkfhoaaGreatDoorEe
import Derived.Defers
import Derived.Orders
namespace Go.Evo

structure St where
  tm : Tr AV
  hp : Hp
  nx : Nat
  df : List Nat

/-- The number that stands for the mark of a range over a function. -/
def markN : Nat := 1000000007
/-- Deferred calls that do nothing when the function returns. -/
def DfR : List Nat → List Deferred → Prop
  | [], ds => ds = []
  | f :: l, ds => (∃ cap args ds', ds = { target := .fn (.func f) cap, args := args } :: ds' ∧ DfR l ds') ∨ (f = markN ∧ ∃ D ds', ds = { target := .collected D, args := #[] } :: ds' ∧ DfR l ds')

structure SR (E : Env) (n : Nat) (ρ : Rho) (s : St) (a : Act) (w : World) : Prop where
  tm : TmR ρ n s.tm a.tmps
  r : E.R ρ s.hp s.nx w
  df : DfR s.df a.defers

noncomputable def forceN {α : Type} (n : Nat) (k : Nat → α) : α := Nat.casesOn (motive := fun _ => α) n (k 0) (fun m => k (Nat.succ m))
theorem forceN_eq {α : Type} (n : Nat) (k : Nat → α) : forceN n k = k n := by cases n <;> rfl
noncomputable def forceI {α : Type} (n : Int) (k : Int → α) : α :=
  Int.casesOn (motive := fun _ => α) n (fun m => forceN m (fun m => k (Int.ofNat m))) (fun m => forceN m (fun m => k (Int.negSucc m)))
theorem forceI_eq {α : Type} (n : Int) (k : Int → α) : forceI n k = k n := by
  cases n with
  | ofNat m => show forceN m (fun m => k (Int.ofNat m)) = _; rw [forceN_eq]
  | negSucc m => show forceN m (fun m => k (Int.negSucc m)) = _; rw [forceN_eq]
noncomputable def forceB {α : Type} (b : Bool) (k : Bool → α) : α := Bool.rec (motive := fun _ => α) (k false) (k true) b
theorem forceB_eq {α : Type} (b : Bool) (k : Bool → α) : forceB b k = k b := by cases b <;> rfl
/-- A value reckoned before it goes on. -/
noncomputable def forceA0 {α : Type} (x : AV) (k : AV → α) : α :=
  match x with
  | .int j n => forceI n (fun n => k (.int j n))
  | .bool b => forceB b (fun b => k (.bool b))
  | .ptr i o => forceN i (fun i => forceN o (fun o => k (.ptr i o)))
  | .sl i o n c => forceN i (fun i => forceN o (fun o => forceN n (fun n => forceN c (fun c => k (.sl i o n c)))))
  | .slo i o n c => forceN i (fun i => forceN o (fun o => forceN n (fun n => forceN c (fun c => k (.slo i o n c)))))
  | x => k x
theorem forceA0_eq {α : Type} (x : AV) (k : AV → α) : forceA0 x k = k x := by
  cases x <;> simp only [forceA0, forceI_eq, forceB_eq, forceN_eq]
noncomputable def forceL {α : Type} (l : List AV) : (List AV → α) → α :=
  List.rec (motive := fun _ => (List AV → α) → α) (fun k => k []) (fun x _ ih k => forceA0 x (fun x => ih (fun l => k (x :: l)))) l
theorem forceL_eq {α : Type} : ∀ (l : List AV) (k : List AV → α), forceL l k = k l
  | [], k => rfl
  | x :: l, k => by
    show forceA0 x (fun x => forceL l (fun l => k (x :: l))) = _
    rw [forceA0_eq, forceL_eq l]
noncomputable def forceA {α : Type} (x : AV) (k : AV → α) : α :=
  match x with
  | .int j n => forceI n (fun n => k (.int j n))
  | .bool b => forceB b (fun b => k (.bool b))
  | .ptr i o => forceN i (fun i => forceN o (fun o => k (.ptr i o)))
  | .sl i o n c => forceN i (fun i => forceN o (fun o => forceN n (fun n => forceN c (fun c => k (.sl i o n c)))))
  | .slo i o n c => forceN i (fun i => forceN o (fun o => forceN n (fun n => forceN c (fun c => k (.slo i o n c)))))
  | .agg l => forceL l (fun l => k (.agg l))
  | .tup l => forceL l (fun l => k (.tup l))
  | x => k x
theorem forceA_eq {α : Type} (x : AV) (k : AV → α) : forceA x k = k x := by
  cases x <;> simp only [forceA, forceI_eq, forceB_eq, forceN_eq, forceL_eq]

/-- A state reckoned. -/
noncomputable def mkSt (tm : Tr AV) (hp : Hp) (nx : Nat) (df : List Nat) : Option St := forceT tm fun tm => forceT hp fun hp => forceN nx fun nx => some ⟨tm, hp, nx, df⟩
theorem mkSt_eq (tm : Tr AV) (hp : Hp) (nx : Nat) (df : List Nat) : mkSt tm hp nx df = some ⟨tm, hp, nx, df⟩ := by
  unfold mkSt; rw [forceT_eq, forceT_eq, forceN_eq]

/-- A temporary set. -/
noncomputable def putT (n : Nat) (tm : Tr AV) (dst : Option Nat) (x : AV) : Option (Tr AV) :=
  match dst with
  | none => some tm
  | some d => cond (Nat.blt d n) (some (tm.set d x)) none

theorem putT_ok {ρ : Rho} {n : Nat} {tm tm' : Tr AV} {a : Act} {dst : Option Nat} {x : AV} {v : Value} (ht : TmR ρ n tm a.tmps) (hx : VR ρ x v) (h : putT n tm dst x = some tm') : TmR ρ n tm' (a.put dst v).tmps := by
  unfold putT at h
  cases dst with
  | none => cases h; exact ht
  | some d =>
    simp only at h
    cases hb : Nat.blt d n with
    | false => rw [hb] at h; cases h
    | true =>
      rw [hb] at h; cases h
      rw [blt_iff] at hb
      refine ⟨by simp [Act.put, ht.size], ?_⟩
      intro i y hy
      rw [Tr.get_set] at hy
      show ∃ v', (a.tmps.setIfInBounds d v)[i]? = some v' ∧ VR ρ y v'
      by_cases hdi : d = i
      · subst hdi
        rw [if_pos rfl] at hy; cases hy
        exact ⟨v, Array.getElem?_setIfInBounds_self_of_lt (by rw [ht.size]; exact hb), hx⟩
      · rw [if_neg hdi] at hy
        obtain ⟨v', q1, q2⟩ := ht.get i y hy
        exact ⟨v', by rw [Array.getElem?_setIfInBounds_ne hdi]; exact q1, q2⟩

theorem put_defers (a : Act) (dst : Option Nat) (v : Value) : (a.put dst v).defers = a.defers := by cases dst <;> rfl

noncomputable def eqB (a b : Bool) : Bool := cond a b (!b)
/-- Is the operation wanted? -/
noncomputable def wantA (ops : Array Oper) (o : Oper) (tm : Tr AV) : Option Bool :=
  match o.guard with
  | none => some true
  | some (j, want) => match (ops[j]?).bind (·.dst) with
    | none => some false
    | some d => match tm.get d with
      | some (.bool b) => some (eqB b want)
      | some (.tup _) => some false
      | _ => none

theorem wantA_ok {ρ : Rho} {n : Nat} {tm : Tr AV} {a : Act} {ops : Array Oper} {o : Oper} {b : Bool} (ht : TmR ρ n tm a.tmps) (h : wantA ops o tm = some b) : Region.wanted o (yielded ops a.tmps) = b := by
  unfold wantA at h
  unfold Region.wanted
  cases hg : o.guard with
  | none => rw [hg] at h; cases h; rfl
  | some p =>
    obtain ⟨j, want⟩ := p
    rw [hg] at h
    simp only at h ⊢
    unfold yielded
    cases hd : (ops[j]?).bind (·.dst) with
    | none => rw [hd] at h; cases h; rfl
    | some d =>
      rw [hd] at h
      simp only at h
      simp only [Option.bind_some]
      split at h
      · rename_i c hc
        cases h
        obtain ⟨v, q1, q2⟩ := ht.get d _ hc
        unfold VR at q2; subst q2
        rw [q1]
        cases c <;> cases want <;> rfl
      · rename_i l hc
        cases h
        obtain ⟨v, q1, q2⟩ := ht.get d _ hc
        unfold VR at q2
        obtain ⟨vs, rfl, _⟩ := q2
        rw [q1]
        rfl
      · cases h

/-- What a call is known to come to. -/
def CPost (E : Env) (ρ : Rho) (hp : Hp) (nx : Nat) (w : World) (y : AV) (hp' : Hp) (nx' : Nat) : Ending → World → Prop := fun e w' =>
  ∃ v ρ', e = .returned v ∧ VR ρ' y v ∧ E.R ρ' hp' nx' w' ∧ G ρ hp nx w ρ' hp' nx' w'

abbrev CallFn := Nat → List AV → Hp → Nat → Option (AV × Hp × Nat)
def CallOk (E : Env) (cf : CallFn) : Prop := ∀ g xs hp nx y hp' nx', cf g xs hp nx = some (y, hp', nx') → ∀ ρ w (vs : Array Value), E.R ρ hp nx w → VRs ρ xs vs.toList → Calls E.P g vs w (CPost E ρ hp nx w y hp' nx')

/-- Operations laid beside: by what their operands are. -/
structure XKit (E : Env) where
  xf : Oper → List AV → Hp → Nat → Option (AV × Hp × Nat)
  ok : ∀ o xs hp nx y hp' nx', xf o xs hp nx = some (y, hp', nx') → ∀ (ρ : Rho) (w : World) (evl : Operand → Value), E.R ρ hp nx w → VRs ρ xs (o.op.operands.toList.map evl) → Did E ρ hp nx w y hp' nx' ((execOp evl o).run E.P w)
noncomputable def XKit.none (E : Env) : XKit E := ⟨fun _ _ _ _ => .none, fun _ _ _ _ _ _ _ h => by cases h⟩

noncomputable def xOp (E : Env) (X : XKit E) (hp : Hp) (nx : Nat) (tm : Tr AV) (o : Oper) : Option (AV × Hp × Nat) :=
  match evOs tm o.op.operands.toList with
  | none => none
  | some xs => X.xf o xs hp nx
theorem xOp_ok {E : Env} {X : XKit E} {w : World} {ρ : Rho} {hp hp' : Hp} {nx nx' n : Nat} {tm : Tr AV} {a : Act} {o : Oper} {z : AV} (r : E.R ρ hp nx w) (ht : TmR ρ n tm a.tmps) (h : xOp E X hp nx tm o = some (z, hp', nx')) :
    Did E ρ hp nx w z hp' nx' ((execOp a.eval o).run E.P w) := by
  unfold xOp at h
  cases h1 : evOs tm o.op.operands.toList with
  | none => rw [h1] at h; cases h
  | some xs =>
    rw [h1] at h
    exact X.ok o xs hp nx z hp' nx' h ρ w a.eval r (evOs_ok ht h1)

noncomputable def plainX (E : Env) (X : XKit E) (hp : Hp) (nx : Nat) (tm : Tr AV) (o : Oper) : Option (AV × Hp × Nat) :=
  match plainOp E hp nx tm o with
  | some r => some r
  | none => xOp E X hp nx tm o
theorem plainX_ok {E : Env} (ok : E.Ok) {X : XKit E} {w : World} {ρ : Rho} {hp hp' : Hp} {nx nx' n : Nat} {tm : Tr AV} {a : Act} {o : Oper} {z : AV} (r : E.R ρ hp nx w) (ht : TmR ρ n tm a.tmps) (h : plainX E X hp nx tm o = some (z, hp', nx')) :
    Did E ρ hp nx w z hp' nx' ((execOp a.eval o).run E.P w) := by
  unfold plainX at h
  cases h1 : plainOp E hp nx tm o with
  | some q => rw [h1] at h; cases h; exact plain_ok ok r ht h1
  | none => rw [h1] at h; exact xOp_ok r ht h
noncomputable def effX (E : Env) (X : XKit E) (hp : Hp) (nx : Nat) (tm : Tr AV) (o : Oper) : Option (AV × Hp × Nat) :=
  match effOp E hp nx tm o with
  | some r => some r
  | none => xOp E X hp nx tm o
theorem effX_ok {E : Env} (ok : E.Ok) {X : XKit E} {w : World} {ρ : Rho} {hp hp' : Hp} {nx nx' n : Nat} {tm : Tr AV} {a : Act} {o : Oper} {z : AV} (r : E.R ρ hp nx w) (ht : TmR ρ n tm a.tmps) (h : effX E X hp nx tm o = some (z, hp', nx')) :
    Did E ρ hp nx w z hp' nx' ((execOp a.eval o).run E.P w) := by
  unfold effX at h
  cases h1 : effOp E hp nx tm o with
  | some q => rw [h1] at h; cases h; exact eff_ok ok r ht h1
  | none => rw [h1] at h; exact xOp_ok r ht h

/-- The settings of a run beside the program: which functions are entered, which deferred ones are idle. -/
structure Kit (E : Env) where
  cf : CallFn
  dq : Nat → Bool
  X : XKit E

/-- A call: whom, with what. -/
noncomputable def callee (tm : Tr AV) (o : Oper) : Option (Nat × List AV) :=
  match o.op with
  | .call c => (match c.callee with
    | .value f => (match evO tm f with
      | some (.fn g cs) => (match evOs tm c.args.toList with
        | none => none
        | some xs => some (g, xs ++ cs))
      | _ => none)
    | _ => none)
  | _ => none

/-- Functions of the table are entered. -/
def Enters (E : Env) (cf : CallFn) : Prop := ∀ g xs hp nx r, cf g xs hp nx = some r → ∀ (args : Array Value) (w : World), (callFunc g args).run E.P w = .ok (.enter g args) w

theorem callee_ok {E : Env} {ρ : Rho} {n : Nat} {tm : Tr AV} {a : Act} {o : Oper} {g : Nat} {xs : List AV} {cf : CallFn} {hp : Hp} {nx : Nat} {r : AV × Hp × Nat} (he : Enters E cf) (hc : cf g xs hp nx = some r) (ht : TmR ρ n tm a.tmps) (h : callee tm o = some (g, xs)) (w : World) :
    ∃ vs : Array Value, (execOp a.eval o).run E.P w = .ok (.enter g vs) w ∧ VRs ρ xs vs.toList := by
  obtain ⟨dst, op, type, pos, after, guard⟩ := o
  unfold callee at h
  cases op <;> simp only at h <;> try (cases h; done)
  rename_i c
  obtain ⟨cal, args, argTypes⟩ := c
  cases cal <;> simp only at h <;> try (cases h; done)
  rename_i f
  split at h
  · rename_i g' cs hf
    cases hx : evOs tm args.toList with
    | none => rw [hx] at h; cases h
    | some ys =>
      rw [hx] at h; cases h
      have hfv := evO_ok ht hf
      unfold VR at hfv
      obtain ⟨cv, hfe, hcv⟩ := hfv
      have hxv := evOs_ok ht hx
      rw [← Array.toList_map] at hxv
      refine ⟨args.map a.eval ++ cv, ?_, by rw [Array.toList_append]; exact hxv.append hcv⟩
      have hen := he _ _ _ _ _ hc (args.map a.eval ++ cv) w
      simp only [execOp, resolve, hfe, Deferred.ofValue, Sem.run_bind, Sem.run_pure, Result.andThen_ok, invoke, Array.empty_append, hen]
  · cases h

/-- A deferred call that is idle. -/
noncomputable def deferOf (dq : Nat → Bool) (tm : Tr AV) (o : Oper) : Option Nat :=
  match o.op with
  | .defer c => (match c.callee with
    | .value f => (match evO tm f with
      | some (.fn g _) => cond (dq g) (some g) none
      | _ => none)
    | _ => none)
  | _ => none
theorem deferOf_ok {E : Env} {dq : Nat → Bool} {ρ : Rho} {n : Nat} {tm : Tr AV} {a : Act} {o : Oper} {g : Nat} (ht : TmR ρ n tm a.tmps) (h : deferOf dq tm o = some g) (w : World) :
    ∃ cap args, (execOp a.eval o).run E.P w = .ok (.defer { target := .fn (.func g) cap, args := args }) w := by
  obtain ⟨dst, op, type, pos, after, guard⟩ := o
  unfold deferOf at h
  cases op <;> simp only at h <;> try (cases h; done)
  rename_i c
  obtain ⟨cal, args, argTypes⟩ := c
  cases cal <;> simp only at h <;> try (cases h; done)
  rename_i f
  split at h
  · rename_i g' cs hf
    cases hd : dq g' with
    | false => rw [hd] at h; cases h
    | true =>
      rw [hd] at h; cases h
      have hfv := evO_ok ht hf
      unfold VR at hfv
      obtain ⟨cv, hfe, hcv⟩ := hfv
      exact ⟨cv, #[] ++ args.map a.eval, by simp only [execOp, resolve, hfe, Deferred.ofValue, Sem.run_bind, Sem.run_pure, Result.andThen_ok]⟩
  · cases h

inductive FnO where
  | mk (f : (E : Env) → XKit E → Hp → Nat → Tr AV → Option (AV × Hp × Nat))
noncomputable def FnO.app (c : FnO) : (E : Env) → XKit E → Hp → Nat → Tr AV → Option (AV × Hp × Nat) := FnO.rec (motive := fun _ => (E : Env) → XKit E → Hp → Nat → Tr AV → Option (AV × Hp × Nat)) (fun f => f) c
noncomputable def qK (o : Oper) : FnO := .mk (fun E _ hp nx tm => match (quietC o.op).app E tm with
  | none => none
  | some v => some (v, hp, nx))
noncomputable def qxK (o : Oper) : FnO := .mk (fun E X hp nx tm => match (quietC o.op).app E tm with
  | none => plainX E X hp nx tm o
  | some v => some (v, hp, nx))
noncomputable def rK (o : Oper) : FnO := .mk (fun E _ hp nx tm => match readOp E hp tm o with
  | none => none
  | some v => some (v, hp, nx))
noncomputable def lK (t : Nat) (x : Operand) : FnO := .mk (fun E _ hp nx tm => match evO tm x with
  | none => none
  | some u => match aLoad E hp t u with
    | none => none
    | some v => some (v, hp, nx))
noncomputable def sK (t : Nat) (x v : Operand) : FnO := .mk (fun E _ hp nx tm => match evO tm x with
  | none => none
  | some u => match evO tm v with
    | none => none
    | some y => match aStore E hp t u y with
      | none => none
      | some hp' => some (.tup [], hp', nx))
noncomputable def eK (o : Oper) : FnO := .mk (fun E _ hp nx tm => effOp E hp nx tm o)
noncomputable def pK (o : Oper) : FnO := .mk (fun E X hp nx tm => plainX E X hp nx tm o)
noncomputable def nK : FnO := .mk (fun _ _ _ _ _ => none)
noncomputable def cK (c : Callee) (o : Oper) : FnO :=
  match c with
  | .value _ => nK
  | _ => qxK o
/-- Which road an operation takes: to be known once for each operation of the text. -/
noncomputable def fastK (o : Oper) : FnO :=
  match o.op with
  | .move _ => qK o
  | .assign _ => qK o
  | .pick _ _ _ => qK o
  | .binOp _ _ _ _ _ => qK o
  | .unOp _ _ _ => qK o
  | .nilCheck _ => qK o
  | .makeInterface _ _ => qK o
  | .makeFunc _ _ _ => qK o
  | .fieldAddr _ _ _ => qK o
  | .field _ _ _ => qK o
  | .indexAddr _ _ _ => qK o
  | .index _ _ _ => qK o
  | .extract _ _ => qK o
  | .slice _ _ _ _ _ => qK o
  | .build _ _ => qK o
  | .typeAssert _ _ _ _ => qK o
  | .load t x => lK t x
  | .lookup _ _ _ _ => rK o
  | .store t x v => sK t x v
  | .alloc _ => eK o
  | .box _ _ => eK o
  | .convert _ _ _ => qxK o
  | .call c => cK c.callee o
  | _ => pK o
noncomputable def fastOp (E : Env) (X : XKit E) (hp : Hp) (nx : Nat) (tm : Tr AV) (o : Oper) : Option (AV × Hp × Nat) := (fastK o).app E X hp nx tm

def FnOk (E : Env) (o : Oper) (c : FnO) : Prop := ∀ (X : XKit E) (w : World) (ρ : Rho) (hp hp' : Hp) (nx nx' n : Nat) (tm : Tr AV) (a : Act) (z : AV), E.R ρ hp nx w → TmR ρ n tm a.tmps → c.app E X hp nx tm = some (z, hp', nx') →
    Did E ρ hp nx w z hp' nx' ((execOp a.eval o).run E.P w)

theorem qK_ok {E : Env} (ok : E.Ok) (o : Oper) : FnOk E o (qK o) := by
  intro X w ρ hp hp' nx nx' n tm a z r ht h
  have h' : (match (quietC o.op).app E tm with
    | none => none
    | some v => some (v, hp, nx)) = some (z, hp', nx') := h
  rw [quietC_eq] at h'
  cases hq : quietOp E tm o with
  | none => rw [hq] at h'; cases h'
  | some v =>
    rw [hq] at h'; cases h'
    obtain ⟨v', q1, q2⟩ := quiet_ok ok (w := w) ht hq
    exact ⟨v', w, ρ, .inl q1, q2, r, G.refl _ _ _ _⟩
theorem qxK_ok {E : Env} (ok : E.Ok) (o : Oper) : FnOk E o (qxK o) := by
  intro X w ρ hp hp' nx nx' n tm a z r ht h
  have h' : (match (quietC o.op).app E tm with
    | none => plainX E X hp nx tm o
    | some v => some (v, hp, nx)) = some (z, hp', nx') := h
  rw [quietC_eq] at h'
  cases hq : quietOp E tm o with
  | none => rw [hq] at h'; exact plainX_ok ok r ht h'
  | some v =>
    rw [hq] at h'; cases h'
    obtain ⟨v', q1, q2⟩ := quiet_ok ok (w := w) ht hq
    exact ⟨v', w, ρ, .inl q1, q2, r, G.refl _ _ _ _⟩
theorem rK_ok {E : Env} (ok : E.Ok) (o : Oper) : FnOk E o (rK o) := by
  intro X w ρ hp hp' nx nx' n tm a z r ht h
  have h' : (match readOp E hp tm o with
    | none => none
    | some v => some (v, hp, nx)) = some (z, hp', nx') := h
  cases hq : readOp E hp tm o with
  | none => rw [hq] at h'; cases h'
  | some v =>
    rw [hq] at h'; cases h'
    obtain ⟨v', q1, q2⟩ := read_ok ok r ht hq
    exact ⟨v', w, ρ, .inl q1, q2, r, G.refl _ _ _ _⟩
theorem eK_ok {E : Env} (ok : E.Ok) (o : Oper) : FnOk E o (eK o) := fun _ _ _ _ _ _ _ _ _ _ _ r ht h => eff_ok ok r ht h
theorem pK_ok {E : Env} (ok : E.Ok) (o : Oper) : FnOk E o (pK o) := fun _ _ _ _ _ _ _ _ _ _ _ r ht h => plainX_ok ok r ht h
theorem nK_ok {E : Env} (o : Oper) : FnOk E o nK := fun _ _ _ _ _ _ _ _ _ _ _ _ _ h => by
  have h' : (none : Option (AV × Hp × Nat)) = some _ := h
  cases h'

theorem fastK_ok {E : Env} (ok : E.Ok) (o : Oper) : FnOk E o (fastK o) := by
  have hq := qK_ok ok o
  have hqx := qxK_ok ok o
  have hr := rK_ok ok o
  have he := eK_ok ok o
  have hp := pK_ok ok o
  have hn := nK_ok (E := E) o
  obtain ⟨dst, op, type, pos, after, guard⟩ := o
  cases op <;> first
    | exact hq
    | exact hqx
    | exact hr
    | exact he
    | exact hp
    | skip
  case load t x =>
    intro X w ρ hp hp' nx nx' n tm a z r ht h
    refine hr X w ρ hp hp' nx nx' n tm a z r ht ?_
    have h' : (match evO tm x with
      | none => none
      | some u => match aLoad E hp t u with
        | none => none
        | some v => some (v, hp, nx)) = some (z, hp', nx') := h
    show (match readOp E hp tm ⟨dst, .load t x, type, pos, after, guard⟩ with
      | none => none
      | some v => some (v, hp, nx)) = some (z, hp', nx')
    unfold readOp
    cases h1 : evO tm x with
    | none => rw [h1] at h'; cases h'
    | some u =>
      rw [h1] at h'
      simp only [h1] at h' ⊢
      exact h'
  case call c =>
    obtain ⟨cal, args, ats⟩ := c
    cases cal
    · exact hn
    · exact hqx
    · exact hqx

theorem fastOp_ok {E : Env} (ok : E.Ok) {X : XKit E} {w : World} {ρ : Rho} {hp hp' : Hp} {nx nx' n : Nat} {tm : Tr AV} {a : Act} {o : Oper} {z : AV} (r : E.R ρ hp nx w) (ht : TmR ρ n tm a.tmps) (h : fastOp E X hp nx tm o = some (z, hp', nx')) :
    Did E ρ hp nx w z hp' nx' ((execOp a.eval o).run E.P w) := fastK_ok ok o X w ρ hp hp' nx nx' n tm a z r ht h

/-- The value put, the state reckoned. -/
noncomputable def finO (n : Nat) (s : St) (o : Oper) (v : AV) (hp : Hp) (nx : Nat) : Option St := forceA v (fun v => match putT n s.tm o.dst v with
  | none => none
  | some tm => mkSt tm hp nx s.df)
theorem finO_eq {n : Nat} {s s' : St} {o : Oper} {v : AV} {hp : Hp} {nx : Nat} (h : finO n s o v hp nx = some s') : ∃ tm, putT n s.tm o.dst v = some tm ∧ s' = ⟨tm, hp, nx, s.df⟩ := by
  unfold finO at h
  rw [forceA_eq] at h
  cases hput : putT n s.tm o.dst v with
  | none => rw [hput] at h; cases h
  | some tm =>
    rw [hput] at h
    simp only [mkSt_eq] at h
    cases h
    exact ⟨tm, rfl, rfl⟩

/-- One operation of a region. -/
noncomputable def stepO (E : Env) (K : Kit E) (n : Nat) (o : Oper) (s : St) : Option St :=
  match fastOp E K.X s.hp s.nx s.tm o with
  | some (v, hp, nx) => finO n s o v hp nx
  | none => match callee s.tm o with
    | some (g, xs) => (match K.cf g xs s.hp s.nx with
      | some (v, hp, nx) => finO n s o v hp nx
      | none => match xOp E K.X s.hp s.nx s.tm o with
        | none => none
        | some (v, hp, nx) => finO n s o v hp nx)
    | none => match deferOf K.dq s.tm o with
      | none => none
      | some g => match putT n s.tm o.dst (.tup []) with
        | none => none
        | some tm => mkSt tm s.hp s.nx (g :: s.df)

theorem SR.mono {E : Env} {n : Nat} {ρ ρ' : Rho} {s : St} {hp : Hp} {nx : Nat} {a : Act} {w w' : World} (h : SR E n ρ s a w) (hr : ρ.le ρ') (r : E.R ρ' hp nx w') : SR E n ρ' ⟨s.tm, hp, nx, s.df⟩ a w' :=
  ⟨h.tm.mono hr, r, h.df⟩

/-- Behind the operation, whatever it was. -/
def Behind (E : Env) (n : Nat) (ρ : Rho) (s : St) (w : World) (s' : St) (a' : Act) (w' : World) : Prop := ∃ ρ', SR E n ρ' s' a' w' ∧ G ρ s.hp s.nx w ρ' s'.hp s'.nx w'

theorem did_step {E : Env} {n : Nat} {ρ : Rho} {o : Oper} {s s' : St} {a : Act} {w : World} {v : AV} {hp1 : Hp} {nx1 : Nat} (hs : SR E n ρ s a w) (hd : Did E ρ s.hp s.nx w v hp1 nx1 ((execOp a.eval o).run E.P w)) (h : finO n s o v hp1 nx1 = some s')
    (Q : Exit → Act → World → Prop) : o.wp E.P a w (Behind E n ρ s w s') Q := by
  obtain ⟨tm, hput, rfl⟩ := finO_eq h
  obtain ⟨vc, w', ρ', hres, hv, hr, hg⟩ := hd
  have fin : Behind E n ρ s w ⟨tm, hp1, nx1, s.df⟩ (a.put o.dst vc) w' :=
    ⟨ρ', ⟨putT_ok (hs.tm.mono hg.ext) hv hput, hr, by rw [put_defers]; exact hs.df⟩, hg⟩
  unfold Oper.wp
  rcases hres with hres | ⟨hres, rfl⟩
  · rw [hres]; exact fin
  · rw [hres]; exact fin

theorem stepO_ok {E : Env} (ok : E.Ok) {K : Kit E} (hc : CallOk E K.cf) (hen : Enters E K.cf) {n : Nat} {ρ : Rho} {o : Oper} {s s' : St} {a : Act} {w : World} (hs : SR E n ρ s a w) (h : stepO E K n o s = some s') (Q : Exit → Act → World → Prop) :
    o.wp E.P a w (Behind E n ρ s w s') Q := by
  unfold stepO at h
  cases hp : fastOp E K.X s.hp s.nx s.tm o with
  | some p =>
    obtain ⟨v, hp1, nx1⟩ := p
    rw [hp] at h
    exact did_step hs (fastOp_ok ok hs.r hs.tm hp) h Q
  | none =>
    rw [hp] at h
    simp only at h
    cases hcal : callee s.tm o with
    | some p =>
      obtain ⟨g, xs⟩ := p
      rw [hcal] at h
      simp only at h
      cases hcf : K.cf g xs s.hp s.nx with
      | none =>
        rw [hcf] at h
        simp only at h
        cases hx : xOp E K.X s.hp s.nx s.tm o with
        | none => rw [hx] at h; cases h
        | some q =>
          obtain ⟨v, hp1, nx1⟩ := q
          rw [hx] at h
          exact did_step hs (xOp_ok hs.r hs.tm hx) h Q
      | some q =>
        obtain ⟨v, hp1, nx1⟩ := q
        rw [hcf] at h
        simp only at h
        obtain ⟨tm, hput, rfl⟩ := finO_eq h
        obtain ⟨vs, q1, q2⟩ := callee_ok hen hcf hs.tm hcal w
        unfold Oper.wp
        rw [q1]
        refine (hc g xs s.hp s.nx v hp1 nx1 hcf ρ w vs hs.r q2).mono ?_
        rintro e w' ⟨vc, ρ', rfl, hv, hr, hg⟩
        exact ⟨ρ', ⟨putT_ok (hs.tm.mono hg.ext) hv hput, hr, by rw [put_defers]; exact hs.df⟩, hg⟩
    | none =>
      rw [hcal] at h
      simp only at h
      cases hdf : deferOf K.dq s.tm o with
      | none => rw [hdf] at h; cases h
      | some g =>
        rw [hdf] at h
        simp only at h
        cases hput : putT n s.tm o.dst (.tup []) with
        | none => rw [hput] at h; cases h
        | some tm =>
          rw [hput] at h
          simp only [mkSt_eq] at h
          cases h
          obtain ⟨cap, args, q1⟩ := deferOf_ok (E := E) hs.tm hdf w
          unfold Oper.wp
          rw [q1]
          have ht : TmR ρ n tm (({ a with defers := { target := .fn (.func g) cap, args := args } :: a.defers } : Act).put o.dst undef).tmps := by
            have := putT_ok (a := { a with defers := { target := .fn (.func g) cap, args := args } :: a.defers }) hs.tm (vr_undef ρ) hput
            exact this
          exact ⟨ρ, ⟨ht, hs.r, by rw [put_defers]; exact .inl ⟨cap, args, a.defers, rfl, hs.df⟩⟩, G.refl _ _ _ _⟩

/-- The operations of a region, one after the other. -/
noncomputable def evOps (E : Env) (K : Kit E) (n : Nat) (ops : Array Oper) (l : List Oper) : St → Option St :=
  List.rec (motive := fun _ => St → Option St) (fun s => some s)
    (fun o _ ih s => match wantA ops o s.tm with
      | none => none
      | some true => (match stepO E K n o s with
        | none => none
        | some s' => ih s')
      | some false => (match putT n s.tm o.dst (.tup []) with
        | none => none
        | some tm => forceT tm fun tm => ih ⟨tm, s.hp, s.nx, s.df⟩)) l
theorem evOps_cons (E : Env) (K : Kit E) (n : Nat) (ops : Array Oper) (o : Oper) (l : List Oper) (s : St) : evOps E K n ops (o :: l) s = match wantA ops o s.tm with
      | none => none
      | some true => (match stepO E K n o s with
        | none => none
        | some s' => evOps E K n ops l s')
      | some false => (match putT n s.tm o.dst (.tup []) with
        | none => none
        | some tm => forceT tm fun tm => evOps E K n ops l ⟨tm, s.hp, s.nx, s.df⟩) := rfl

theorem Behind.trans {E : Env} {n : Nat} {ρ ρ1 : Rho} {s s1 s2 : St} {a2 : Act} {w w1 w2 : World} (hg : G ρ s.hp s.nx w ρ1 s1.hp s1.nx w1) (h : Behind E n ρ1 s1 w1 s2 a2 w2) : Behind E n ρ s w s2 a2 w2 := by
  obtain ⟨ρ2, h1, h2⟩ := h
  exact ⟨ρ2, h1, hg.trans h2⟩

theorem evOps_ok {E : Env} (ok : E.Ok) {K : Kit E} (hc : CallOk E K.cf) (hen : Enters E K.cf) {n : Nat} {ops : Array Oper} {Q : Exit → Act → World → Prop} : ∀ (l : List Oper) (i : Nat) {ρ : Rho} {s s' : St} {a : Act} {w : World},
    (∀ j, j < l.length → ops[i + j]? = l[j]?) → SR E n ρ s a w → evOps E K n ops l s = some s' → (∀ a' w', Behind E n ρ s w s' a' w' → Q .normal a' w') → wpOps E.P ops Q (List.range' i l.length) a w
  | [], i, ρ, s, s', a, w, _, hs, h, hQ => by
    have : some s = some s' := h
    cases this
    exact hQ a w ⟨ρ, hs, G.refl _ _ _ _⟩
  | o :: l, i, ρ, s, s', a, w, hl, hs, h, hQ => by
    rw [evOps_cons] at h
    have ho : ops[i]? = some o := by have := hl 0 (by simp); simpa using this
    have hl' : ∀ j, j < l.length → ops[i + 1 + j]? = l[j]? := fun j hj => by
      have := hl (j + 1) (by simp only [List.length_cons]; omega)
      rw [show i + 1 + j = i + (j + 1) by omega]
      simpa using this
    simp only [List.length_cons, List.range'_succ]
    unfold wpOps
    rw [ho]
    simp only
    cases hwa : wantA ops o s.tm with
    | none => rw [hwa] at h; cases h
    | some b =>
      rw [hwa] at h
      have hw := wantA_ok hs.tm hwa
      cases b with
      | true =>
        simp only at h
        rw [hw]
        simp only [if_true]
        left
        cases hst : stepO E K n o s with
        | none => rw [hst] at h; cases h
        | some s1 =>
          rw [hst] at h
          refine Oper.wp_mono ?_ (stepO_ok ok hc hen hs hst Q)
          rintro a1 w1 ⟨ρ1, h1, h2⟩
          exact evOps_ok ok hc hen l (i + 1) hl' h1 h (fun a' w' hb => hQ a' w' (Behind.trans h2 hb))
      | false =>
        simp only at h
        rw [hw]
        simp only [Bool.false_eq_true, if_false]
        cases hput : putT n s.tm o.dst (.tup []) with
        | none => rw [hput] at h; cases h
        | some tm =>
          rw [hput] at h
          simp only [forceT_eq] at h
          refine evOps_ok ok hc hen l (i + 1) (s := ⟨tm, s.hp, s.nx, s.df⟩) hl' ⟨putT_ok hs.tm (vr_undef ρ) hput, hs.r, by rw [put_defers]; exact hs.df⟩ h (fun a' w' hb => hQ a' w' hb)

end Go.Evo
namespace Go.Evo

variable {E : Env}

theorem evOs_congr {tm tm' : Tr AV} : ∀ {l : List Operand}, (∀ x ∈ l, evO tm x = evO tm' x) → evOs tm l = evOs tm' l
  | [], _ => rfl
  | o :: l, h => by
    unfold evOs
    rw [h o (List.mem_cons_self), evOs_congr (fun x hx => h x (List.mem_cons_of_mem _ hx))]
theorem evParts_congr {tm tm' : Tr AV} : ∀ {l : List (Nat × Operand)}, (∀ p ∈ l, evO tm p.2 = evO tm' p.2) → evParts tm l = evParts tm' l
  | [], _ => rfl
  | (i, o) :: l, h => by
    unfold evParts
    rw [h (i, o) (List.mem_cons_self), evParts_congr (fun x hx => h x (List.mem_cons_of_mem _ hx))]
theorem evOo_congr {tm tm' : Tr AV} {o : Option Operand} (h : ∀ x, o = some x → evO tm x = evO tm' x) : evOo tm o = evOo tm' o := by
  cases o with
  | none => rfl
  | some x => unfold evOo; simp only; rw [h x rfl]

section
variable {tm tm' : Tr AV} {o : Oper} (h : ∀ x ∈ o.op.operands, evO tm x = evO tm' x)
include h

theorem parts_mem {ps : Array (Nat × Operand)} (hp : ∀ x ∈ (ps.toList.map (·.2)).toArray, evO tm x = evO tm' x) : evParts tm ps.toList = evParts tm' ps.toList := by
  have _ := h
  exact evParts_congr fun p hp' => hp p.2 (by simpa using ⟨p.1, Array.mem_toList_iff.1 hp'⟩)

theorem quiet_congr : quietOp E tm o = quietOp E tm' o := by
  obtain ⟨dst, op, type, pos, after, guard⟩ := o
  unfold quietOp
  cases op <;> simp only <;> simp only [Op.operands] at h
  case move x => exact h x (by simp)
  case assign x => exact h x (by simp)
  case pick c a b =>
    rw [h c (by simp)]
    split
    · rename_i t _
      cases t
      · exact h b (by simp)
      · exact h a (by simp)
    · rfl
  case binOp op t x y yt => rw [h x (by simp), h y (by simp)]
  case unOp op t x => rw [h x (by simp)]
  case convert s d x => rw [h x (by simp)]
  case nilCheck x => rw [h x (by simp)]
  case makeInterface t x => rw [h x (by simp)]
  case makeFunc fn first captured => rw [evOs_congr (l := captured.toList) fun x hx => h x (by simp [Array.mem_toList_iff.1 hx])]
  case fieldAddr s x f => rw [h x (by simp)]
  case field s x f => rw [h x (by simp)]
  case indexAddr t x ix => rw [h x (by simp), h ix (by simp)]
  case index t x ix => rw [h x (by simp), h ix (by simp)]
  case extract x i => rw [h x (by simp)]
  case slice t x lo hi mx =>
    rw [h x (by simp), evOo_congr (o := lo) (fun y hy => h y (by subst hy; simp)), evOo_congr (o := hi) (fun y hy => h y (by subst hy; simp)), evOo_congr (o := mx) (fun y hy => h y (by subst hy; simp))]
  case build t ps => rw [parts_mem (o := ⟨dst, .build t ps, type, pos, after, guard⟩) h h]
  case typeAssert x t a c => rw [h x (by simp)]
  case call c =>
    obtain ⟨callee, args, argTypes⟩ := c
    cases callee <;> simp only
    rw [evOs_congr (l := args.toList) fun x hx => h x (by simp [Call.operands, Array.mem_toList_iff.1 hx])]

theorem read_congr {hp : Hp} : readOp E hp tm o = readOp E hp tm' o := by
  obtain ⟨dst, op, type, pos, after, guard⟩ := o
  unfold readOp
  cases op <;> simp only <;> simp only [Op.operands] at h
  case load t x => rw [h x (by simp)]
  case lookup t m k c => rw [h m (by simp), h k (by simp)]
  case call c =>
    obtain ⟨callee, args, argTypes⟩ := c
    cases callee <;> simp only
    rw [evOs_congr (l := args.toList) fun x hx => h x (by simp [Call.operands, Array.mem_toList_iff.1 hx])]

theorem alloc_congr : allocOf E tm o = allocOf E tm' o := by
  obtain ⟨dst, op, type, pos, after, guard⟩ := o
  unfold allocOf
  cases op <;> simp only <;> simp only [Op.operands] at h
  case box t x => rw [h x (by simp)]
  case buildSlice t n ps => rw [parts_mem (o := ⟨dst, .buildSlice t n ps, type, pos, after, guard⟩) h h]

theorem eff_congr {hp : Hp} {nx : Nat} : effOp E hp nx tm o = effOp E hp nx tm' o := by
  have ha := alloc_congr (E := E) h
  unfold effOp
  rw [ha]
  obtain ⟨dst, op, type, pos, after, guard⟩ := o
  cases op <;> simp only <;> simp only [Op.operands] at h
  case store t x v => rw [h x (by simp), h v (by simp)]
  case makeSlice t l c => rw [h l (by simp), h c (by simp)]
  case mapUpdate t m k x => rw [h m (by simp), h k (by simp), h x (by simp)]
  case insert t m k x => rw [h m (by simp), h k (by simp), h x (by simp)]
  case range t x => rw [h x (by simp)]
  case next x c => rw [h x (by simp)]
  case call c =>
    obtain ⟨callee, args, argTypes⟩ := c
    cases callee <;> simp only
    rw [evOs_congr (l := args.toList) fun x hx => h x (by simp [Call.operands, Array.mem_toList_iff.1 hx])]

theorem plain_congr {hp : Hp} {nx : Nat} : plainOp E hp nx tm o = plainOp E hp nx tm' o := by
  unfold plainOp
  rw [quiet_congr h, read_congr h, eff_congr h]

theorem effX_congr {X : XKit E} {hp : Hp} {nx : Nat} : effX E X hp nx tm o = effX E X hp nx tm' o := by
  unfold effX xOp
  rw [eff_congr h, evOs_congr (l := o.op.operands.toList) fun x hx => h x (Array.mem_toList_iff.1 hx)]

theorem callee_congr : callee tm o = callee tm' o := by
  obtain ⟨dst, op, type, pos, after, guard⟩ := o
  unfold callee
  cases op <;> simp only <;> simp only [Op.operands] at h
  case call c =>
    obtain ⟨cal, args, argTypes⟩ := c
    cases cal <;> simp only
    rename_i f
    rw [h f (by simp [Call.operands]), evOs_congr (l := args.toList) fun x hx => h x (by simp [Call.operands, Array.mem_toList_iff.1 hx])]
end

/-- The temporaries that an operation looks at agree. -/
theorem operands_of_looks {ops : Array Oper} {o : Oper} {tm tm' : Tr AV} (h : ∀ t ∈ o.looksAt ops, tm.get t = tm'.get t) : ∀ x ∈ o.op.operands, evO tm x = evO tm' x := by
  intro x hx
  cases x with
  | tmp t => exact h t (List.mem_append_left _ (List.mem_filterMap.2 ⟨.tmp t, by simpa using hx, rfl⟩))
  | const v => rfl
  | global g => rfl
  | func f => rfl
theorem want_congr {ops : Array Oper} {o : Oper} {tm tm' : Tr AV} (h : ∀ t ∈ o.looksAt ops, tm.get t = tm'.get t) : wantA ops o tm = wantA ops o tm' := by
  unfold wantA
  cases hg : o.guard with
  | none => rfl
  | some p =>
    obtain ⟨j, want⟩ := p
    simp only
    cases hd : (ops[j]?).bind (·.dst) with
    | none => rfl
    | some d =>
      simp only
      have : d ∈ o.looksAt ops := by
        unfold Oper.looksAt
        rw [hg]
        simp [hd]
      rw [h d this]

end Go.Evo
namespace Go.Evo

section
variable {gs : Nat → Option (List AV)} {ng : Nat} {ρ ρ' : Rho} {hx hn h' hx' : Hp} {nx nx' : Nat} {w w' : World}

/-- What stood beside an operation's heap stands beside what it leaves. -/
theorem R.join (rx : R gs ng ρ hx nx w) (hs : ∀ id o, hn.get id = some o → hx.get id = some o) (r' : R gs ng ρ' h' nx' w') (g : G ρ hn nx w ρ' h' nx' w')
    (hj : ∀ id o, hx'.get id = some o → h'.get id = some o ∨ (hx.get id = some o ∧ hn.get id = none)) : R gs ng ρ' hx' nx' w' := by
  have side : ∀ id o b sh e, hx.get id = some o → hn.get id = none → ρ id = some (b, sh, e) → b < w.heap.size ∧ w'.heap[b]? = w.heap[b]? ∧ ∀ id' o' sh' e', h'.get id' = some o' → ρ' id' ≠ some (b, sh', e') := by
    intro id o b sh e h1 h2 h3
    obtain ⟨b0, sh0, e0, q1, q2⟩ := rx.hr id o h1
    rw [h3] at q1; cases q1
    have hlt : b < w.heap.size := by
      rcases Nat.lt_or_ge b w.heap.size with h | h
      · exact h
      · have hn := Array.getElem?_eq_none h
        cases o <;> (obtain ⟨_, _, hh⟩ := q2; simp_all)
    have hno : ∀ id' o' sh' e', hn.get id' = some o' → ρ id' ≠ some (b, sh', e') := by
      intro id' o' sh' e' h4 h5
      have hne : id' ≠ id := by intro e; subst e; rw [h2] at h4; cases h4
      exact rx.sep id' id o' o b sh' e' b sh e (hs _ _ h4) h1 h5 h3 hne rfl
    refine ⟨hlt, g.frame b hlt hno, ?_⟩
    intro id' o' sh' e' h4 h5
    rcases g.img id' o' b sh' e' h4 h5 with h6 | ⟨id0, o0, sh0, e0, h7, h8⟩
    · omega
    · exact hno id0 o0 sh0 e0 h7 h8
  refine ⟨?_, ?_, r'.fresh, r'.low, r'.gl⟩
  · intro id o hid
    rcases hj id o hid with h1 | ⟨h1, h2⟩
    · exact r'.hr id o h1
    · obtain ⟨b, sh, e, q1, q2⟩ := rx.hr id o h1
      obtain ⟨_, s2, _⟩ := side id o b sh e h1 h2 q1
      exact ⟨b, sh, e, g.ext _ _ q1, q2.mono g.ext s2⟩
  · intro i j oi oj b1 sh1 e1 b2 sh2 e2 hi hj' q1 q2 hne
    rcases hj i oi hi with h1 | ⟨h1, h1'⟩
    · rcases hj j oj hj' with h2 | ⟨h2, h2'⟩
      · exact r'.sep i j oi oj b1 sh1 e1 b2 sh2 e2 h1 h2 q1 q2 hne
      · obtain ⟨b, sh, e, t1, _⟩ := rx.hr j oj h2
        have := g.ext _ _ t1
        rw [q2] at this; cases this
        obtain ⟨_, _, s3⟩ := side j oj b2 sh2 e2 h2 h2' t1
        intro hb; subst hb
        exact s3 i oi sh1 e1 h1 q1
    · obtain ⟨b, sh, e, t1, _⟩ := rx.hr i oi h1
      have := g.ext _ _ t1
      rw [q1] at this; cases this
      rcases hj j oj hj' with h2 | ⟨h2, h2'⟩
      · obtain ⟨_, _, s3⟩ := side i oi b1 sh1 e1 h1 h1' t1
        intro hb; subst hb
        exact s3 j oj sh2 e2 h2 q2
      · obtain ⟨b', sh', e', t2, _⟩ := rx.hr j oj h2
        have := g.ext _ _ t2
        rw [q2] at this; cases this
        exact rx.sep i j oi oj b1 sh1 e1 b2 sh2 e2 h1 h2 t1 t2 hne

theorem G.join (rx : R gs ng ρ hx nx w) (hs : ∀ id o, hn.get id = some o → hx.get id = some o) (g : G ρ hn nx w ρ' h' nx' w')
    (hj : ∀ id o, hx'.get id = some o → h'.get id = some o ∨ (hx.get id = some o ∧ hn.get id = none)) : G ρ hx nx w ρ' hx' nx' w' := by
  refine ⟨g.ext, g.nx_le, g.keep, g.size, ?_, ?_, ?_, g.tape, g.os, g.output⟩
  · intro b hb hno
    exact g.frame b hb (fun id o sh e h1 => hno id o sh e (hs id o h1))
  · intro id o b sh e hid q
    rcases hj id o hid with h1 | ⟨h1, _⟩
    · rcases g.img id o b sh e h1 q with h2 | ⟨id0, o0, sh0, e0, h3, h4⟩
      · exact .inl h2
      · exact .inr ⟨id0, o0, sh0, e0, hs _ _ h3, h4⟩
    · obtain ⟨b0, sh0, e0, t1, _⟩ := rx.hr id o h1
      have := g.ext _ _ t1
      rw [q] at this; cases this
      exact .inr ⟨id, o, sh, e, h1, t1⟩
  · intro id o hid hlt
    rcases hj id o hid with h1 | ⟨h1, _⟩
    · obtain ⟨o0, h2⟩ := g.live id o h1 hlt
      exact ⟨o0, hs _ _ h2⟩
    · exact ⟨o, h1⟩

/-- A row made on the way, under a number that was kept for it. -/
theorem G.allocAt {ρ0 : Rho} {h0 : Hp} {nx0 id e : Nat} {w0 : World} {o' : AObj} (g : G ρ0 h0 nx0 w0 ρ hx nx w) (hid : nx0 ≤ id) (hfree : ρ id = none) (hb : ∀ b', b' < w.heap.size → w'.heap[b']? = w.heap[b']?)
    (hs : w.heap.size < w'.heap.size) (hbe : Beside w w') : G ρ0 h0 nx0 w0 (ρ.put id (w.heap.size, 0, e)) (hx.set id o') nx w' := by
  refine ⟨Rho.le_trans g.ext (Rho.le_put hfree), g.nx_le, ?_, by have := g.size; omega, ?_, ?_, ?_, hbe.tape.trans g.tape, hbe.os.trans g.os, hbe.output.trans g.output⟩
  · intro j hj hn
    rw [Rho.put_ne ρ _ (by omega)]; exact g.keep j hj hn
  · intro b hb' hno
    rw [hb b (by have := g.size; omega)]
    exact g.frame b hb' hno
  · intro j oj b sh e' hj q
    rw [Tr.get_set] at hj
    by_cases hji : id = j
    · subst hji; rw [Rho.put_self] at q; cases q; exact .inl g.size
    · rw [if_neg hji] at hj
      rw [Rho.put_ne ρ _ (fun e => hji e.symm)] at q
      exact g.img j oj b sh e' hj q
  · intro j oj hj hlt
    rw [Tr.get_set, if_neg (by omega)] at hj
    exact g.live j oj hj hlt
end

/-- Rows laid into a heap. -/
noncomputable def addF (h : Hp) (l : List (Nat × AObj)) : Hp := List.rec (motive := fun _ => Hp) h (fun p _ ih => ih.set p.1 p.2) l
theorem addF_get (h : Hp) : ∀ (l : List (Nat × AObj)) (id : Nat), (addF h l).get id = match l.find? (fun p => Nat.beq p.1 id) with | some p => some p.2 | none => h.get id
  | [], id => rfl
  | p :: l, id => by
    show ((addF h l).set p.1 p.2).get id = _
    rw [Tr.get_set]
    by_cases hp : p.1 = id
    · rw [if_pos hp]
      have : Nat.beq p.1 id = true := by rw [Nat.beq_eq]; exact hp
      simp [this]
    · rw [if_neg hp, addF_get h l id]
      have : Nat.beq p.1 id = false := by rw [Bool.eq_false_iff]; intro e; rw [Nat.beq_eq] at e; exact hp e
      simp [this]

/-- One operation of a drawn region: its place, the mask of those that come before it, what it is (0 not wanted, 1 quiet, 2 makes a row, 3 reads, 4 changes the heap), its value, the row that it makes. -/
structure Ent where
  i : Nat
  o : Oper
  m : Nat
  tag : Nat
  val : AV
  ob : Option AObj

noncomputable def hasDst (t : Nat) (e : Ent) : Bool := match e.o.dst with | none => false | some d => Nat.beq d t
theorem hasDst_iff {t : Nat} {e : Ent} : hasDst t e = true ↔ e.o.dst = some t := by
  unfold hasDst
  cases e.o.dst with
  | none => simp
  | some d => simp [Nat.beq_eq]

/-- The temporaries when the operations of `ex` have come. -/
noncomputable def tmX (ex : Nat → Bool) (tm : Tr AV) (L : List Ent) : Tr AV :=
  List.rec (motive := fun _ => Tr AV) tm (fun e _ ih => match e.o.dst with | none => ih | some d => cond (ex e.i) (ih.set d e.val) (match tm.get d with | none => ih.del d | some x => ih.set d x)) L
theorem tmX_get (ex : Nat → Bool) (tm : Tr AV) : ∀ (L : List Ent) (t : Nat), (tmX ex tm L).get t = match L.find? (hasDst t) with | some e => (if ex e.i = true then some e.val else tm.get t) | none => tm.get t
  | [], t => rfl
  | e :: L, t => by
    have hc : tmX ex tm (e :: L) = match e.o.dst with | none => tmX ex tm L | some d => cond (ex e.i) ((tmX ex tm L).set d e.val) (match tm.get d with | none => (tmX ex tm L).del d | some x => (tmX ex tm L).set d x) := rfl
    rw [hc]
    have ih := tmX_get ex tm L t
    cases hd : e.o.dst with
    | none =>
      simp only
      have : hasDst t e = false := by unfold hasDst; rw [hd]
      simp [this, ih]
    | some d =>
      simp only
      by_cases hdt : d = t
      · subst hdt
        have : hasDst d e = true := hasDst_iff.2 hd
        simp only [List.find?_cons, this]
        cases hx : ex e.i with
        | true => simp [Tr.get_set]
        | false => cases tm.get d <;> simp [Tr.get_del, Tr.get_set]
      · have : hasDst t e = false := by
          rw [Bool.eq_false_iff]; intro h; rw [hasDst_iff, hd] at h; cases h; exact hdt rfl
        simp only [List.find?_cons, this]
        cases hx : ex e.i with
        | true => simp [Tr.get_set, hdt, ih]
        | false => cases hg : tm.get d <;> simp [Tr.get_del, Tr.get_set, hdt, ih]

/-- How many are still to come. -/
def unl (N : Nat) (listed : Array Bool) : Nat := ((List.range N).filter fun i => !listed.getD i true).length

theorem filter_lt {p q : Nat → Bool} (hpq : ∀ x, q x = true → p x = true) : ∀ {l : List Nat} {x : Nat}, x ∈ l → p x = true → q x = false → (l.filter q).length < (l.filter p).length
  | [], x, h, _, _ => by cases h
  | y :: l, x, h, hp, hq => by
    have hle : ∀ l : List Nat, (l.filter q).length ≤ (l.filter p).length := by
      intro l
      induction l with
      | nil => simp
      | cons z l ih =>
        simp only [List.filter_cons]
        cases hz : q z with
        | true => simp [hpq z hz, ih]
        | false =>
          cases hpz : p z with
          | true => simp; omega
          | false => simpa using ih
    cases h with
    | head =>
      simp only [List.filter_cons, hp, hq, if_true, Bool.false_eq_true, if_false, List.length_cons]
      have := hle l
      omega
    | tail _ hm =>
      have ih := filter_lt hpq hm hp hq
      simp only [List.filter_cons]
      cases hz : q y with
      | true => simp [hpq y hz]; omega
      | false =>
        cases hpz : p y with
        | true => simp; omega
        | false => simpa using ih

theorem getD_set {listed : Array Bool} {i k : Nat} (hi : i < listed.size) (d : Bool) : (listed.setIfInBounds i true).getD k d = if i = k then true else listed.getD k d := by
  rw [Array.getD_eq_getD_getElem?, Array.getD_eq_getD_getElem?]
  by_cases h : i = k
  · subst h
    rw [Array.getElem?_setIfInBounds_self_of_lt hi, if_pos rfl]; rfl
  · rw [Array.getElem?_setIfInBounds_ne h, if_neg h]

theorem unl_set {N i : Nat} {listed : Array Bool} (hN : listed.size = N) (hi : i < N) (h : listed.getD i true = false) : unl N (listed.setIfInBounds i true) < unl N listed := by
  unfold unl
  refine filter_lt (x := i) ?_ (List.mem_range.2 hi) ?_ ?_
  · intro x hx
    rw [getD_set (by omega)] at hx
    by_cases hix : i = x
    · rw [if_pos hix] at hx; cases hx
    · rw [if_neg hix] at hx; exact hx
  · rw [h]; rfl
  · rw [getD_set (by omega), if_pos rfl]; rfl

end Go.Evo
namespace Go.Evo

structure Ver where
  hp : Hp
  nx : Nat
  A : Nat

/-- Rows of the region that stand beside a heap. -/
noncomputable def pend (nx0 : Nat) (sel : Nat → Bool) : List Ent → List (Nat × AObj)
  | [] => []
  | e :: l => match e.ob with
    | none => pend nx0 sel l
    | some ob => cond (sel e.i) ((Nat.add nx0 e.i, ob) :: pend nx0 sel l) (pend nx0 sel l)

noncomputable def selM (m A : Nat) : Nat → Bool := fun i => cond (Nat.testBit m i) (!(Nat.testBit A i)) false

noncomputable def maskOf (MS : List Nat) : List Edge → Nat
  | [] => 0
  | e :: l => cond (Region.binds .any e) (Nat.lor (Nat.lor (maskOf MS l) (Nat.shiftLeft 1 e.on)) (MS.getD e.on 0)) (maskOf MS l)
theorem maskOf_bit {MS : List Nat} {k : Nat} : ∀ {l : List Edge}, Nat.testBit (maskOf MS l) k = true → ∃ e ∈ l, Region.binds .any e = true ∧ (k = e.on ∨ Nat.testBit (MS.getD e.on 0) k = true)
  | [], h => by simp [maskOf] at h
  | e :: l, h => by
    unfold maskOf at h
    cases hb : Region.binds .any e with
    | false =>
      rw [hb] at h
      obtain ⟨e', q1, q2⟩ := maskOf_bit (l := l) h
      exact ⟨e', List.mem_cons_of_mem _ q1, q2⟩
    | true =>
      rw [hb] at h
      have h' : Nat.testBit ((maskOf MS l ||| (1 <<< e.on)) ||| MS.getD e.on 0) k = true := h
      rw [Nat.testBit_or, Nat.testBit_or, Bool.or_eq_true, Bool.or_eq_true] at h'
      rcases h' with (h1 | h1) | h1
      · obtain ⟨e', q1, q2⟩ := maskOf_bit (l := l) h1
        exact ⟨e', List.mem_cons_of_mem _ q1, q2⟩
      · refine ⟨e, List.mem_cons_self, hb, .inl ?_⟩
        rw [Nat.testBit_shiftLeft] at h1
        simp only [Bool.and_eq_true, decide_eq_true_eq] at h1
        obtain ⟨h2, h3⟩ := h1
        have : k - e.on = 0 := by
          rcases Nat.eq_zero_or_pos (k - e.on) with h4 | h4
          · exact h4
          · exfalso
            have : Nat.testBit 1 (k - e.on) = false := by
              rw [Nat.testBit_lt_two_pow]
              calc 1 < 2 ^ 1 := by decide
                _ ≤ 2 ^ (k - e.on) := Nat.pow_le_pow_right (by decide) h4
            rw [this] at h3; cases h3
        omega
      · exact ⟨e, List.mem_cons_self, hb, .inr h1⟩

noncomputable def masks : List Oper → List Nat → List Nat
  | [], acc => acc
  | o :: l, acc => masks l (acc ++ [maskOf acc o.after.toList])

/-- An operation that changes the heap, or a call. -/
noncomputable def effS (E : Env) (K : Kit E) (hp : Hp) (nx : Nat) (tm : Tr AV) (o : Oper) : Option (AV × Hp × Nat) :=
  match effX E K.X hp nx tm o with
  | some r => some r
  | none => match callee tm o with
    | none => none
    | some (g, xs) => K.cf g xs hp nx

theorem effS_congr {E : Env} {K : Kit E} {hp : Hp} {nx : Nat} {tm tm' : Tr AV} {o : Oper} (h : ∀ x ∈ o.op.operands, evO tm x = evO tm' x) : effS E K hp nx tm o = effS E K hp nx tm' o := by
  unfold effS
  rw [effX_congr h, callee_congr h]

theorem effS_wp {E : Env} (ok : E.Ok) {K : Kit E} (hc : CallOk E K.cf) (hen : Enters E K.cf) {n : Nat} {ρ : Rho} {o : Oper} {tm : Tr AV} {hp hp' : Hp} {nx nx' : Nat} {v : AV} {a : Act} {w : World} (r : E.R ρ hp nx w) (ht : TmR ρ n tm a.tmps)
    (h : effS E K hp nx tm o = some (v, hp', nx')) (Q : Exit → Act → World → Prop) :
    o.wp E.P a w (fun a' w' => ∃ vc ρ', a' = a.put o.dst vc ∧ VR ρ' v vc ∧ E.R ρ' hp' nx' w' ∧ G ρ hp nx w ρ' hp' nx' w') Q := by
  unfold effS at h
  cases he : effX E K.X hp nx tm o with
  | some p =>
    rw [he] at h; cases h
    obtain ⟨vc, w', ρ', hres, hv, hr, hg⟩ := effX_ok ok r ht he
    unfold Oper.wp
    rcases hres with hres | ⟨hres, rfl⟩
    · rw [hres]; exact ⟨vc, ρ', rfl, hv, hr, hg⟩
    · rw [hres]; exact ⟨undef, ρ', rfl, hv, hr, hg⟩
  | none =>
    rw [he] at h
    simp only at h
    cases hcal : callee tm o with
    | none => rw [hcal] at h; cases h
    | some p =>
      obtain ⟨g, xs⟩ := p
      rw [hcal] at h
      simp only at h
      obtain ⟨vs, q1, q2⟩ := callee_ok hen h ht hcal w
      unfold Oper.wp
      rw [q1]
      refine (hc g xs hp nx v hp' nx' h ρ w vs r q2).mono ?_
      rintro e w' ⟨vc, ρ', rfl, hv, hr, hg⟩
      exact ⟨vc, ρ', rfl, hv, hr, hg⟩

/-- The region in its own order. -/
noncomputable def ph (E : Env) (K : Kit E) (n : Nat) (ops : Array Oper) (nx0 : Nat) : List Oper → List Nat → Nat → List Ent → Tr AV → Hp → Nat → Nat → Option (List Ent × List Ver × Tr AV)
  | [], _, _, _, tm, _, _, _ => some ([], [], tm)
  | _ :: _, [], _, _, _, _, _, _ => none
  | o :: l, m :: ms, i, done, tm, hp, nx, A => match wantA ops o tm with
    | none => none
    | some false => (match putT n tm o.dst (.tup []) with
      | none => none
      | some tm' => forceT tm' fun tm' => match ph E K n ops nx0 l ms (Nat.succ i) (done ++ [⟨i, o, m, 0, .tup [], none⟩]) tm' hp nx A with
        | none => none
        | some (es, vs, tF) => some (⟨i, o, m, 0, .tup [], none⟩ :: es, vs, tF))
    | some true => match allocOf E tm o with
      | some (el, c, k) => (match putT n tm o.dst (mkA k (Nat.add nx0 i)) with
        | none => none
        | some tm' => forceT tm' fun tm' => match ph E K n ops nx0 l ms (Nat.succ i) (done ++ [⟨i, o, m, 2, mkA k (Nat.add nx0 i), some (.cells true el (ofCells c) c.length)⟩]) tm' hp nx A with
          | none => none
          | some (es, vs, tF) => some (⟨i, o, m, 2, mkA k (Nat.add nx0 i), some (.cells true el (ofCells c) c.length)⟩ :: es, vs, tF))
      | none => match quietOp E tm o with
        | some v => forceA v (fun v => match putT n tm o.dst v with
          | none => none
          | some tm' => forceT tm' fun tm' => match ph E K n ops nx0 l ms (Nat.succ i) (done ++ [⟨i, o, m, 1, v, none⟩]) tm' hp nx A with
            | none => none
            | some (es, vs, tF) => some (⟨i, o, m, 1, v, none⟩ :: es, vs, tF))
        | none => match readOp E (addF hp (pend nx0 (selM m A) done)) tm o with
          | some v => forceA v (fun v => match putT n tm o.dst v with
            | none => none
            | some tm' => forceT tm' fun tm' => match ph E K n ops nx0 l ms (Nat.succ i) (done ++ [⟨i, o, m, 3, v, none⟩]) tm' hp nx A with
              | none => none
              | some (es, vs, tF) => some (⟨i, o, m, 3, v, none⟩ :: es, vs, tF))
          | none => match effS E K (addF hp (pend nx0 (selM m A) done)) nx tm o with
            | none => none
            | some (v, hp', nx') => forceT hp' fun hp' => forceN nx' fun nx' => forceA v (fun v => match putT n tm o.dst v with
              | none => none
              | some tm' => forceT tm' fun tm' => match ph E K n ops nx0 l ms (Nat.succ i) (done ++ [⟨i, o, m, 4, v, none⟩]) tm' hp' nx' (Nat.lor A m) with
                | none => none
                | some (es, vs, tF) => some (⟨i, o, m, 4, v, none⟩ :: es, ⟨hp', nx', Nat.lor A m⟩ :: vs, tF))

/-- Temporaries behind the entries `done`. -/
structure Lex (tm0 : Tr AV) (done : List Ent) (tm : Tr AV) : Prop where
  hit : ∀ e ∈ done, ∀ t, e.o.dst = some t → (∀ e' ∈ done, e'.o.dst = some t → e'.i = e.i) → tm.get t = some e.val
  miss : ∀ t, (∀ e ∈ done, e.o.dst ≠ some t) → tm.get t = tm0.get t

theorem Lex.snoc {tm0 : Tr AV} {done : List Ent} {tm tm' : Tr AV} {n : Nat} {e : Ent} (h : Lex tm0 done tm) (hi : ∀ e' ∈ done, e'.i ≠ e.i) (hp : putT n tm e.o.dst e.val = some tm') : Lex tm0 (done ++ [e]) tm' := by
  unfold putT at hp
  cases hd : e.o.dst with
  | none =>
    rw [hd] at hp; cases hp
    refine ⟨?_, ?_⟩
    · intro e1 h1 t ht hu
      rcases List.mem_append.1 h1 with h2 | h2
      · exact h.hit e1 h2 t ht (fun e' he' hde => hu e' (List.mem_append_left _ he') hde)
      · cases List.mem_singleton.1 h2
        rw [hd] at ht; cases ht
    · intro t ht
      exact h.miss t (fun e1 h1 => ht e1 (List.mem_append_left _ h1))
  | some d =>
    rw [hd] at hp
    simp only at hp
    cases hb : Nat.blt d n with
    | false => rw [hb] at hp; cases hp
    | true =>
      rw [hb] at hp; cases hp
      refine ⟨?_, ?_⟩
      · intro e1 h1 t ht hu
        rw [Tr.get_set]
        rcases List.mem_append.1 h1 with h2 | h2
        · by_cases hdt : d = t
          · subst hdt
            exact absurd (hu e (List.mem_append_right _ (List.mem_singleton.2 rfl)) hd) (fun h3 => hi e1 h2 h3.symm)
          · rw [if_neg hdt]
            exact h.hit e1 h2 t ht (fun e' he' hde => hu e' (List.mem_append_left _ he') hde)
        · cases List.mem_singleton.1 h2
          rw [hd] at ht; cases ht
          rw [if_pos rfl]
      · intro t ht
        rw [Tr.get_set, if_neg]
        · exact h.miss t (fun e1 h1 => ht e1 (List.mem_append_left _ h1))
        · intro hdt; subst hdt
          exact ht e (List.mem_append_right _ (List.mem_singleton.2 rfl)) hd

/-- What the first pass has found of each operation. -/
def Facts (E : Env) (K : Kit E) (n : Nat) (ops : Array Oper) (nx0 : Nat) (tm0 : Tr AV) : List Oper → List Nat → Nat → List Ent → Ver → List Ent → List Ver → Prop
  | [], _, _, _, _, es, vs => es = [] ∧ vs = []
  | _ :: _, [], _, _, _, _, _ => False
  | o :: l, m :: ms, i, done, cur, es, vs => ∃ e es' tm, es = e :: es' ∧ e.i = i ∧ e.o = o ∧ e.m = m ∧ Lex tm0 done tm ∧ (∀ d, o.dst = some d → d < n) ∧
      ((e.tag = 0 ∧ wantA ops o tm = some false ∧ e.val = .tup [] ∧ e.ob = none ∧ Facts E K n ops nx0 tm0 l ms (i + 1) (done ++ [e]) cur es' vs) ∨
       (e.tag = 1 ∧ wantA ops o tm = some true ∧ quietOp E tm o = some e.val ∧ e.ob = none ∧ Facts E K n ops nx0 tm0 l ms (i + 1) (done ++ [e]) cur es' vs) ∨
       (e.tag = 2 ∧ wantA ops o tm = some true ∧ (∃ el c k, allocOf E tm o = some (el, c, k) ∧ e.val = mkA k (nx0 + i) ∧ e.ob = some (.cells true el (ofCells c) c.length)) ∧ Facts E K n ops nx0 tm0 l ms (i + 1) (done ++ [e]) cur es' vs) ∨
       (e.tag = 3 ∧ wantA ops o tm = some true ∧ e.ob = none ∧ Facts E K n ops nx0 tm0 l ms (i + 1) (done ++ [e]) cur es' vs) ∨
       (e.tag = 4 ∧ wantA ops o tm = some true ∧ e.ob = none ∧ ∃ v1 vs', vs = v1 :: vs' ∧ v1.A = cur.A ||| m ∧ effS E K (addF cur.hp (pend nx0 (selM m cur.A) done)) cur.nx tm o = some (e.val, v1.hp, v1.nx) ∧
          Facts E K n ops nx0 tm0 l ms (i + 1) (done ++ [e]) v1 es' vs'))

theorem putT_lt {n : Nat} {tm tm' : Tr AV} {dst : Option Nat} {x : AV} (h : putT n tm dst x = some tm') : ∀ d, dst = some d → d < n := by
  intro d hd
  subst hd
  unfold putT at h
  simp only at h
  cases hb : Nat.blt d n with
  | false => rw [hb] at h; cases h
  | true => exact blt_iff.1 hb

theorem ph_facts {E : Env} {K : Kit E} {n : Nat} {ops : Array Oper} {nx0 : Nat} {tm0 : Tr AV} : ∀ (l : List Oper) (ms : List Nat) (i : Nat) (done : List Ent) (tm : Tr AV) (hp : Hp) (nx A : Nat) (es : List Ent) (vs : List Ver) (tF : Tr AV),
    Lex tm0 done tm → (∀ e ∈ done, e.i < i) → ph E K n ops nx0 l ms i done tm hp nx A = some (es, vs, tF) → Facts E K n ops nx0 tm0 l ms i done ⟨hp, nx, A⟩ es vs ∧ Lex tm0 (done ++ es) tF
  | [], ms, i, done, tm, hp, nx, A, es, vs, tF, hl, _, h => by
    unfold ph at h; cases h
    exact ⟨⟨rfl, rfl⟩, by simpa using hl⟩
  | o :: l, [], i, done, tm, hp, nx, A, es, vs, tF, hl, _, h => by unfold ph at h; cases h
  | o :: l, m :: ms, i, done, tm, hp, nx, A, es, vs, tF, hl, hi, h => by
    unfold ph at h
    have next : ∀ (e : Ent) (tm' : Tr AV) (hp' : Hp) (nx' A' : Nat) (es' : List Ent) (vs' : List Ver), e.i = i → e.o = o → putT n tm o.dst e.val = some tm' → ph E K n ops nx0 l ms (Nat.succ i) (done ++ [e]) tm' hp' nx' A' = some (es', vs', tF) →
        Facts E K n ops nx0 tm0 l ms (i + 1) (done ++ [e]) ⟨hp', nx', A'⟩ es' vs' ∧ Lex tm0 (done ++ (e :: es')) tF := by
      intro e tm' hp' nx' A' es' vs' he heo hput hph
      have hl' : Lex tm0 (done ++ [e]) tm' := hl.snoc (fun e' he' => by have := hi e' he'; omega) (by rw [heo]; exact hput)
      have := ph_facts l ms (i + 1) (done ++ [e]) tm' hp' nx' A' es' vs' tF hl' (by
        intro e' he'
        rcases List.mem_append.1 he' with h1 | h1
        · have := hi e' h1; omega
        · cases List.mem_singleton.1 h1; omega) hph
      rw [List.append_assoc] at this
      exact this
    cases hwa : wantA ops o tm with
    | none => rw [hwa] at h; cases h
    | some b =>
      rw [hwa] at h
      cases b with
      | false =>
        simp only at h
        cases hput : putT n tm o.dst (.tup []) with
        | none => rw [hput] at h; cases h
        | some tm' =>
          rw [hput] at h; simp only [forceT_eq] at h
          cases hph : ph E K n ops nx0 l ms (Nat.succ i) (done ++ [⟨i, o, m, 0, .tup [], none⟩]) tm' hp nx A with
          | none => rw [hph] at h; cases h
          | some p =>
            obtain ⟨es', vs', tF'⟩ := p
            rw [hph] at h; cases h
            obtain ⟨f1, f2⟩ := next ⟨i, o, m, 0, .tup [], none⟩ tm' hp nx A es' vs rfl rfl hput hph
            exact ⟨⟨_, es', tm, rfl, rfl, rfl, rfl, hl, putT_lt hput, .inl ⟨rfl, hwa, rfl, rfl, f1⟩⟩, f2⟩
      | true =>
        simp only at h
        cases hal : allocOf E tm o with
        | some p =>
          obtain ⟨el, c, k⟩ := p
          rw [hal] at h; simp only at h
          cases hput : putT n tm o.dst (mkA k (Nat.add nx0 i)) with
          | none => rw [hput] at h; cases h
          | some tm' =>
            rw [hput] at h; simp only [forceT_eq] at h
            cases hph : ph E K n ops nx0 l ms (Nat.succ i) (done ++ [⟨i, o, m, 2, mkA k (Nat.add nx0 i), some (.cells true el (ofCells c) c.length)⟩]) tm' hp nx A with
            | none => rw [hph] at h; cases h
            | some p =>
              obtain ⟨es', vs', tF'⟩ := p
              rw [hph] at h; cases h
              obtain ⟨f1, f2⟩ := next ⟨i, o, m, 2, mkA k (Nat.add nx0 i), some (.cells true el (ofCells c) c.length)⟩ tm' hp nx A es' vs rfl rfl hput hph
              exact ⟨⟨_, es', tm, rfl, rfl, rfl, rfl, hl, putT_lt hput, .inr (.inr (.inl ⟨rfl, hwa, ⟨el, c, k, hal, rfl, rfl⟩, f1⟩))⟩, f2⟩
        | none =>
          rw [hal] at h; simp only at h
          cases hq : quietOp E tm o with
          | some v =>
            rw [hq] at h; simp only [forceA_eq] at h
            cases hput : putT n tm o.dst v with
            | none => rw [hput] at h; cases h
            | some tm' =>
              rw [hput] at h; simp only [forceT_eq] at h
              cases hph : ph E K n ops nx0 l ms (Nat.succ i) (done ++ [⟨i, o, m, 1, v, none⟩]) tm' hp nx A with
              | none => rw [hph] at h; cases h
              | some p =>
                obtain ⟨es', vs', tF'⟩ := p
                rw [hph] at h; cases h
                obtain ⟨f1, f2⟩ := next ⟨i, o, m, 1, v, none⟩ tm' hp nx A es' vs rfl rfl hput hph
                exact ⟨⟨_, es', tm, rfl, rfl, rfl, rfl, hl, putT_lt hput, .inr (.inl ⟨rfl, hwa, hq, rfl, f1⟩)⟩, f2⟩
          | none =>
            rw [hq] at h; simp only at h
            cases hr : readOp E (addF hp (pend nx0 (selM m A) done)) tm o with
            | some v =>
              rw [hr] at h; simp only [forceA_eq] at h
              cases hput : putT n tm o.dst v with
              | none => rw [hput] at h; cases h
              | some tm' =>
                rw [hput] at h; simp only [forceT_eq] at h
                cases hph : ph E K n ops nx0 l ms (Nat.succ i) (done ++ [⟨i, o, m, 3, v, none⟩]) tm' hp nx A with
                | none => rw [hph] at h; cases h
                | some p =>
                  obtain ⟨es', vs', tF'⟩ := p
                  rw [hph] at h; cases h
                  obtain ⟨f1, f2⟩ := next ⟨i, o, m, 3, v, none⟩ tm' hp nx A es' vs rfl rfl hput hph
                  exact ⟨⟨_, es', tm, rfl, rfl, rfl, rfl, hl, putT_lt hput, .inr (.inr (.inr (.inl ⟨rfl, hwa, rfl, f1⟩)))⟩, f2⟩
            | none =>
              rw [hr] at h; simp only at h
              cases he : effS E K (addF hp (pend nx0 (selM m A) done)) nx tm o with
              | none => rw [he] at h; cases h
              | some p =>
                obtain ⟨v, hp', nx'⟩ := p
                rw [he] at h; simp only [forceA_eq, forceT_eq, forceN_eq] at h
                cases hput : putT n tm o.dst v with
                | none => rw [hput] at h; cases h
                | some tm' =>
                  rw [hput] at h; simp only at h
                  cases hph : ph E K n ops nx0 l ms (Nat.succ i) (done ++ [⟨i, o, m, 4, v, none⟩]) tm' hp' nx' (Nat.lor A m) with
                  | none => rw [hph] at h; cases h
                  | some p =>
                    obtain ⟨es', vs', tF'⟩ := p
                    rw [hph] at h; cases h
                    obtain ⟨f1, f2⟩ := next ⟨i, o, m, 4, v, none⟩ tm' hp' nx' (Nat.lor A m) es' vs' rfl rfl hput hph
                    exact ⟨⟨_, es', tm, rfl, rfl, rfl, rfl, hl, putT_lt hput, .inr (.inr (.inr (.inr ⟨rfl, hwa, rfl, _, vs', rfl, rfl, he, f1⟩)))⟩, f2⟩

end Go.Evo
namespace Go.Evo

noncomputable def isEff (e : Ent) : Bool := Nat.beq e.tag 4
noncomputable def cntE (l : List Ent) : Nat := (l.filter isEff).length

def TagF (E : Env) (K : Kit E) (ops : Array Oper) (nx0 : Nat) (done : List Ent) (VS : List Ver) (tm : Tr AV) (e : Ent) : Prop :=
  (e.tag = 0 ∧ wantA ops e.o tm = some false ∧ e.val = .tup [] ∧ e.ob = none) ∨
  (e.tag = 1 ∧ wantA ops e.o tm = some true ∧ quietOp E tm e.o = some e.val ∧ e.ob = none) ∨
  (e.tag = 2 ∧ wantA ops e.o tm = some true ∧ (∃ el c k, allocOf E tm e.o = some (el, c, k) ∧ e.val = mkA k (nx0 + e.i) ∧ e.ob = some (.cells true el (ofCells c) c.length))) ∨
  (e.tag = 3 ∧ wantA ops e.o tm = some true ∧ e.ob = none) ∨
  (e.tag = 4 ∧ wantA ops e.o tm = some true ∧ e.ob = none ∧ ∃ v0 v1, VS[cntE done]? = some v0 ∧ VS[cntE done + 1]? = some v1 ∧ v1.A = v0.A ||| e.m ∧
    effS E K (addF v0.hp (pend nx0 (selM e.m v0.A) done)) v0.nx tm e.o = some (e.val, v1.hp, v1.nx))

theorem facts_idx {E : Env} {K : Kit E} {n : Nat} {ops : Array Oper} {nx0 : Nat} {tm0 : Tr AV} : ∀ (l : List Oper) (ms : List Nat) (done : List Ent) (cur : Ver) (es : List Ent) (vs : List Ver), Facts E K n ops nx0 tm0 l ms done.length done cur es vs →
    ∀ pv : List Ver, pv.length = cntE done →
      es.length = l.length ∧ vs.length + cntE done = cntE (done ++ es) ∧
      ∀ j e, done.length ≤ j → (done ++ es)[j]? = some e → e.i = j ∧ l[j - done.length]? = some e.o ∧ ms[j - done.length]? = some e.m ∧ ∃ tm, Lex tm0 ((done ++ es).take j) tm ∧ (∀ d, e.o.dst = some d → d < n) ∧
        TagF E K ops nx0 ((done ++ es).take j) (pv ++ cur :: vs) tm e
  | [], ms, done, cur, es, vs, h, pv, _ => by
    unfold Facts at h
    obtain ⟨rfl, rfl⟩ := h
    refine ⟨rfl, by simp, fun j e hj he => ?_⟩
    rw [List.append_nil, List.getElem?_eq_none hj] at he
    cases he
  | o :: l, [], done, cur, es, vs, h, pv, _ => by unfold Facts at h; exact h.elim
  | o :: l, m :: ms, done, cur, es, vs, h, pv, hpv => by
    unfold Facts at h
    obtain ⟨e, es', tm, rfl, hei, heo, hem, hlex, hdn, hcase⟩ := h
    have hlen : (done ++ [e]).length = done.length + 1 := by simp
    have happ : done ++ e :: es' = (done ++ [e]) ++ es' := by simp
    have htake : (done ++ e :: es').take done.length = done := by simp
    have fin : ∀ (cur' : Ver) (vs' pv' : List Ver), Facts E K n ops nx0 tm0 l ms (done.length + 1) (done ++ [e]) cur' es' vs' → pv'.length = cntE (done ++ [e]) → pv ++ cur :: vs = pv' ++ cur' :: vs' →
        TagF E K ops nx0 done (pv ++ cur :: vs) tm e → (vs'.length + cntE (done ++ [e]) = cntE (done ++ e :: es') → vs.length + cntE done = cntE (done ++ e :: es')) →
        (e :: es').length = (o :: l).length ∧ vs.length + cntE done = cntE (done ++ e :: es') ∧ ∀ j e', done.length ≤ j → (done ++ e :: es')[j]? = some e' → e'.i = j ∧ (o :: l)[j - done.length]? = some e'.o ∧ (m :: ms)[j - done.length]? = some e'.m ∧
          ∃ tm, Lex tm0 ((done ++ e :: es').take j) tm ∧ (∀ d, e'.o.dst = some d → d < n) ∧ TagF E K ops nx0 ((done ++ e :: es').take j) (pv ++ cur :: vs) tm e' := by
      intro cur' vs' pv' hf hpv' heq htag hcount
      rw [← hlen] at hf
      obtain ⟨q1, q2, q3⟩ := facts_idx l ms (done ++ [e]) cur' es' vs' hf pv' hpv'
      rw [← happ] at q2 q3
      refine ⟨by simp [q1], hcount q2, fun j e' hj he' => ?_⟩
      by_cases hjd : j = done.length
      · subst hjd
        have : (done ++ e :: es')[done.length]? = some e := by simp
        rw [this] at he'; cases he'
        rw [htake]
        exact ⟨hei, by simp [heo], by simp [hem], tm, hlex, by rw [heo]; exact hdn, htag⟩
      · have hj' : (done ++ [e]).length ≤ j := by omega
        obtain ⟨r1, r2, r3, r4⟩ := q3 j e' hj' he'
        rw [heq]
        refine ⟨r1, ?_, ?_, r4⟩
        · rw [hlen] at r2
          have : j - done.length = (j - (done.length + 1)) + 1 := by omega
          rw [this]; exact r2
        · rw [hlen] at r3
          have : j - done.length = (j - (done.length + 1)) + 1 := by omega
          rw [this]; exact r3
    have cnt : ∀ t, e.tag = t → t ≠ 4 → cntE (done ++ [e]) = cntE done := by
      intro t ht h4
      have : isEff e = false := by unfold isEff; rw [ht, Bool.eq_false_iff]; intro h5; rw [Nat.beq_eq] at h5; exact h4 h5
      simp [cntE, this]
    rcases hcase with ⟨t, c1, c2, c3, hf⟩ | ⟨t, c1, c2, c3, hf⟩ | ⟨t, c1, c2, hf⟩ | ⟨t, c1, c2, hf⟩ | ⟨t, c1, c2, v1, vs', rfl, c3, c4, hf⟩
    · have hc := cnt 0 t (by decide)
      exact fin cur vs pv hf (by rw [hc]; exact hpv) rfl (.inl ⟨t, by rw [heo]; exact c1, c2, c3⟩) (fun h => by rw [hc] at h; exact h)
    · have hc := cnt 1 t (by decide)
      exact fin cur vs pv hf (by rw [hc]; exact hpv) rfl (.inr (.inl ⟨t, by rw [heo]; exact c1, by rw [heo]; exact c2, c3⟩)) (fun h => by rw [hc] at h; exact h)
    · have hc := cnt 2 t (by decide)
      exact fin cur vs pv hf (by rw [hc]; exact hpv) rfl (.inr (.inr (.inl ⟨t, by rw [heo]; exact c1, by rw [heo, hei]; exact c2⟩))) (fun h => by rw [hc] at h; exact h)
    · have hc := cnt 3 t (by decide)
      exact fin cur vs pv hf (by rw [hc]; exact hpv) rfl (.inr (.inr (.inr (.inl ⟨t, by rw [heo]; exact c1, c2⟩)))) (fun h => by rw [hc] at h; exact h)
    · have hef : isEff e = true := by unfold isEff; rw [t]; rfl
      have hc : cntE (done ++ [e]) = cntE done + 1 := by simp [cntE, hef]
      refine fin v1 vs' (pv ++ [cur]) hf (by rw [hc]; simp [hpv]) (by simp) (.inr (.inr (.inr (.inr ⟨t, by rw [heo]; exact c1, c2, cur, v1, ?_, ?_, by rw [hem]; exact c3, by rw [heo, hem]; exact c4⟩)))) ?_
      · rw [← hpv]; simp
      · rw [← hpv, List.getElem?_append_right (by omega)]
        have : pv.length + 1 - pv.length = 1 := by omega
        rw [this]; rfl
      · intro h
        rw [hc] at h
        simp only [List.length_cons]
        omega

mutual
noncomputable def aeq : AV → AV → Bool
  | .bool a, .bool b => cond a b (!b)
  | .int k a, .int k' b => cond (Nat.beq (kix k) (kix k')) (ieq a b) false
  | .str a, .str b => leqN a b
  | .pnil, .pnil => true
  | .ptr i o, .ptr j p => cond (Nat.beq i j) (Nat.beq o p) false
  | .gptr i o, .gptr j p => cond (Nat.beq i j) (Nat.beq o p) false
  | .snil, .snil => true
  | .sl i o n c, .sl j p m d => cond (Nat.beq i j) (cond (Nat.beq o p) (cond (Nat.beq n m) (Nat.beq c d) false) false) false
  | .slo i o n c, .slo j p m d => cond (Nat.beq i j) (cond (Nat.beq o p) (cond (Nat.beq n m) (Nat.beq c d) false) false) false
  | .mnil, .mnil => true
  | .map i, .map j => Nat.beq i j
  | .fn f l, .fn g m => cond (Nat.beq f g) (aeqs l m) false
  | .fnil, .fnil => true
  | .inil, .inil => true
  | .iface t x, .iface u y => cond (Nat.beq t u) (aeq x y) false
  | .agg l, .agg m => aeqs l m
  | .tup l, .tup m => aeqs l m
  | _, _ => false
noncomputable def aeqs : List AV → List AV → Bool
  | [], [] => true
  | x :: l, y :: m => cond (aeq x y) (aeqs l m) false
  | _, _ => false
end

theorem cond_true_iff {a b : Bool} : cond a b false = true ↔ a = true ∧ b = true := by cases a <;> simp

mutual
theorem aeq_ok : ∀ {x y : AV}, aeq x y = true → x = y
  | .bool a, y, h => by
    cases y <;> simp only [aeq] at h <;> first | (cases h; done) | (rename_i b; cases a <;> cases b <;> first | rfl | cases h)
  | .int k a, y, h => by
    cases y <;> simp only [aeq] at h <;> first
      | (cases h; done)
      | (rw [cond_true_iff, ieq_eq] at h
         have := kix_inj h.1
         subst this
         rw [of_decide_eq_true h.2])
  | .str a, y, h => by
    cases y <;> simp only [aeq] at h <;> first | (cases h; done) | (rw [leqN_eq] at h; rw [of_decide_eq_true h])
  | .pnil, y, h => by cases y <;> simp only [aeq] at h <;> first | rfl | (cases h; done)
  | .ptr i o, y, h => by
    cases y <;> simp only [aeq] at h <;> first | (cases h; done) | (simp only [cond_true_iff, Nat.beq_eq] at h; rw [h.1, h.2])
  | .gptr i o, y, h => by
    cases y <;> simp only [aeq] at h <;> first | (cases h; done) | (simp only [cond_true_iff, Nat.beq_eq] at h; rw [h.1, h.2])
  | .snil, y, h => by cases y <;> simp only [aeq] at h <;> first | rfl | (cases h; done)
  | .sl i o n c, y, h => by
    cases y <;> simp only [aeq] at h <;> first | (cases h; done) | (simp only [cond_true_iff, Nat.beq_eq] at h; rw [h.1, h.2.1, h.2.2.1, h.2.2.2])
  | .slo i o n c, y, h => by
    cases y <;> simp only [aeq] at h <;> first | (cases h; done) | (simp only [cond_true_iff, Nat.beq_eq] at h; rw [h.1, h.2.1, h.2.2.1, h.2.2.2])
  | .mnil, y, h => by cases y <;> simp only [aeq] at h <;> first | rfl | (cases h; done)
  | .map i, y, h => by cases y <;> simp only [aeq] at h <;> first | (cases h; done) | (rw [Nat.beq_eq] at h; rw [h])
  | .fn f l, y, h => by
    cases y <;> simp only [aeq] at h <;> first | (cases h; done) | (simp only [cond_true_iff, Nat.beq_eq] at h; rw [h.1, aeqs_ok h.2])
  | .fnil, y, h => by cases y <;> simp only [aeq] at h <;> first | rfl | (cases h; done)
  | .inil, y, h => by cases y <;> simp only [aeq] at h <;> first | rfl | (cases h; done)
  | .iface t x, y, h => by
    cases y <;> simp only [aeq] at h <;> first | (cases h; done) | (simp only [cond_true_iff, Nat.beq_eq] at h; rw [h.1, aeq_ok h.2])
  | .agg l, y, h => by
    cases y <;> simp only [aeq] at h <;> first | (cases h; done) | (rw [aeqs_ok h])
  | .tup l, y, h => by
    cases y <;> simp only [aeq] at h <;> first | (cases h; done) | (rw [aeqs_ok h])
theorem aeqs_ok : ∀ {l m : List AV}, aeqs l m = true → l = m
  | [], m, h => by cases m <;> simp only [aeqs] at h <;> first | rfl | (cases h; done)
  | x :: l, m, h => by
    cases m <;> simp only [aeqs] at h <;> first | (cases h; done) | (rw [cond_true_iff] at h; rw [aeq_ok h.1, aeqs_ok h.2])
end

/-- The looks at the text of a region alone. -/
noncomputable def mkS : List Oper → List Nat → Nat → List (Nat × Oper × Nat)
  | o :: l, m :: ms, i => (i, o, m) :: mkS l ms (Nat.succ i)
  | _, _, _ => []
noncomputable def dstIs (o : Oper) (t : Nat) : Bool := match o.dst with | none => false | some d => Nat.beq d t
noncomputable def statOne (ops : Array Oper) (MS : List Nat) (SL : List (Nat × Oper × Nat)) (p : Nat × Oper × Nat) : Bool :=
  cond (Nat.beq p.2.2 (maskOf MS p.2.1.after.toList)) (cond (p.2.1.after.toList.all (fun ed => cond (Region.binds .any ed) (Nat.blt ed.on p.1) true))
    (cond ((p.2.1.looksAt ops).all (fun t => SL.all (fun q => cond (dstIs q.2.1 t) (cond (Nat.testBit p.2.2 q.1) true (Nat.testBit q.2.2 p.1)) true)))
      (match p.2.1.dst with
      | none => true
      | some d => SL.all (fun q => cond (dstIs q.2.1 d) (Nat.beq q.1 p.1) true)) false) false) false
noncomputable def stat (ops : Array Oper) : Bool := (mkS ops.toList (masks ops.toList []) 0).all (statOne ops (masks ops.toList []) (mkS ops.toList (masks ops.toList []) 0))

theorem mkS_get : ∀ {l : List Oper} {ms : List Nat} {i j : Nat} {o : Oper} {m : Nat}, l[j]? = some o → ms[j]? = some m → (mkS l ms i)[j]? = some (i + j, o, m)
  | [], ms, i, j, o, m, h, _ => by simp at h
  | o' :: l, [], i, j, o, m, _, h => by simp at h
  | o' :: l, m' :: ms, i, 0, o, m, h1, h2 => by
    simp at h1 h2; subst h1; subst h2; rfl
  | o' :: l, m' :: ms, i, j + 1, o, m, h1, h2 => by
    have := mkS_get (i := Nat.succ i) (j := j) (by simpa using h1) (by simpa using h2)
    show (mkS l ms (Nat.succ i))[j]? = _
    rw [this]
    congr 2
    simp only [Nat.succ_eq_add_one]; omega

/-- The effects of a list with their ranks: is version `j` one at which `e` may come up? -/
noncomputable def vOk (e : Ent) (j : Nat) : List Ent → Nat → Bool
  | [], _ => true
  | b :: l, r => cond (cond (Nat.testBit e.m b.i) (Nat.blt r j) true) (cond (cond (Nat.testBit b.m e.i) (Nat.ble j r) true) (vOk e j l (Nat.succ r)) false) false

noncomputable def readsOk (E : Env) (nx0 : Nat) (tmF : Tr AV) (L effs : List Ent) (e : Ent) : List Ver → Nat → Bool
  | [], _ => true
  | v :: vs, j => cond (cond (vOk e j effs 0) (match readOp E (addF v.hp (pend nx0 (selM e.m v.A) L)) tmF e.o with
      | none => false
      | some x => aeq x e.val) true) (readsOk E nx0 tmF L effs e vs (Nat.succ j)) false

noncomputable def isNone' {α : Type} : Option α → Bool
  | none => true
  | some _ => false
noncomputable def floatsOk (nx0 N : Nat) (L : List Ent) : List Ver → Bool
  | [] => true
  | v :: vs => cond (Nat.ble (Nat.add nx0 N) v.nx) (cond (L.all (fun e => match e.ob with
      | none => true
      | some _ => cond (Nat.testBit v.A e.i) true (isNone' (v.hp.get (Nat.add nx0 e.i))))) (floatsOk nx0 N L vs) false) false

noncomputable def lastV : List Ver → Ver → Ver
  | [], v => v
  | v :: l, _ => lastV l v

/-- All that it looks at has come before. -/
noncomputable def strictL (ops : Array Oper) (L : List Ent) (e : Ent) : Bool := (e.o.looksAt ops).all (fun t => L.all (fun e' => cond (dstIs e'.o t) (Nat.testBit e.m e'.i) true))

noncomputable def evDraw (E : Env) (K : Kit E) (n : Nat) (ops : Array Oper) (s : St) : Option St :=
  cond (stat ops) (match ph E K n ops s.nx ops.toList (masks ops.toList []) 0 [] s.tm s.hp (Nat.add s.nx ops.toList.length) 0 with
    | none => none
    | some (L, vs, tF) =>
      cond ((L.filter isEff).all (fun a => (L.filter isEff).all (fun b => cond (Nat.blt a.i b.i) (Nat.testBit b.m a.i) true)))
        (cond (L.all (fun e => cond (Nat.beq e.tag 3) (cond (strictL ops L e) (readsOk E s.nx tF L (L.filter isEff) e (⟨s.hp, Nat.add s.nx ops.toList.length, 0⟩ :: vs) 0) false) true))
          (cond (floatsOk s.nx ops.toList.length L (⟨s.hp, Nat.add s.nx ops.toList.length, 0⟩ :: vs))
            (mkSt tF (addF (lastV vs ⟨s.hp, Nat.add s.nx ops.toList.length, 0⟩).hp (pend s.nx (fun i => !(Nat.testBit (lastV vs ⟨s.hp, Nat.add s.nx ops.toList.length, 0⟩).A i)) L)) (lastV vs ⟨s.hp, Nat.add s.nx ops.toList.length, 0⟩).nx s.df)
            none) none) none) none

end Go.Evo
namespace Go.Evo

/-- The places of a list are its numbers. -/
def Numbered (L : List Ent) : Prop := ∀ (j : Nat) (e : Ent), L[j]? = some e → e.i = j

theorem Numbered.mem {L : List Ent} (h : Numbered L) {e : Ent} (he : e ∈ L) : L[e.i]? = some e := by
  obtain ⟨j, hj⟩ := List.getElem?_of_mem he
  have := h j e hj
  rw [this]; exact hj
theorem Numbered.uniq {L : List Ent} (h : Numbered L) {e e' : Ent} (he : e ∈ L) (he' : e' ∈ L) (hi : e.i = e'.i) : e = e' := by
  have h1 := h.mem he
  have h2 := h.mem he'
  rw [hi, h2] at h1
  exact (Option.some.inj h1).symm

theorem pend_mem {nx0 : Nat} {sel : Nat → Bool} : ∀ {L : List Ent} {p : Nat × AObj}, p ∈ pend nx0 sel L ↔ ∃ e ∈ L, ∃ ob, e.ob = some ob ∧ sel e.i = true ∧ p = (nx0 + e.i, ob)
  | [], p => by simp [pend]
  | e :: L, p => by
    unfold pend
    cases ho : e.ob with
    | none =>
      simp only
      rw [pend_mem]
      constructor
      · rintro ⟨e', h1, h2⟩; exact ⟨e', List.mem_cons_of_mem _ h1, h2⟩
      · rintro ⟨e', h1, ob, h2, h3⟩
        cases h1 with
        | head => rw [ho] at h2; cases h2
        | tail _ hm => exact ⟨e', hm, ob, h2, h3⟩
    | some ob =>
      simp only
      cases hs : sel e.i with
      | false =>
        simp only [cond_false]
        rw [pend_mem]
        constructor
        · rintro ⟨e', h1, h2⟩; exact ⟨e', List.mem_cons_of_mem _ h1, h2⟩
        · rintro ⟨e', h1, ob', h2, h3, h4⟩
          cases h1 with
          | head => rw [hs] at h3; cases h3
          | tail _ hm => exact ⟨e', hm, ob', h2, h3, h4⟩
      | true =>
        simp only [cond_true, List.mem_cons]
        rw [pend_mem]
        constructor
        · rintro (rfl | ⟨e', h1, h2⟩)
          · exact ⟨e, .inl rfl, ob, ho, hs, rfl⟩
          · exact ⟨e', .inr h1, h2⟩
        · rintro ⟨e', h1, ob', h2, h3, h4⟩
          rcases h1 with rfl | h1
          · rw [ho] at h2; cases h2; exact .inl h4
          · exact .inr ⟨e', h1, ob', h2, h3, h4⟩

theorem addP_get {nx0 : Nat} {sel : Nat → Bool} {L : List Ent} (hn : Numbered L) (h : Hp) (id : Nat) (o : AObj) : (addF h (pend nx0 sel L)).get id = some o ↔
    ((∃ e ∈ L, e.ob = some o ∧ sel e.i = true ∧ id = nx0 + e.i) ∨ ((∀ e ∈ L, ∀ ob, e.ob = some ob → sel e.i = true → id ≠ nx0 + e.i) ∧ h.get id = some o)) := by
  rw [addF_get]
  cases hf : (pend nx0 sel L).find? (fun p => Nat.beq p.1 id) with
  | some p =>
    have hp := List.mem_of_find?_eq_some hf
    have hb : Nat.beq p.1 id = true := by have := List.find?_some hf; exact this
    rw [Nat.beq_eq] at hb
    obtain ⟨e, he, ob, h1, h2, rfl⟩ := pend_mem.1 hp
    simp only at hb ⊢
    constructor
    · intro h3; cases h3
      exact .inl ⟨e, he, h1, h2, hb.symm⟩
    · rintro (⟨e', he', h3, h4, h5⟩ | ⟨h3, _⟩)
      · have : e' = e := hn.uniq he' he (by omega)
        subst this
        rw [h1] at h3; cases h3; rfl
      · exact absurd hb.symm (h3 e he ob h1 h2)
  | none =>
    have hno : ∀ p ∈ pend nx0 sel L, p.1 ≠ id := by
      intro p hp h1
      have := List.find?_eq_none.1 hf p hp
      simp only [Nat.beq_eq] at this
      exact this h1
    simp only
    constructor
    · intro h1
      exact .inr ⟨fun e he ob h2 h3 h4 => hno (nx0 + e.i, ob) (pend_mem.2 ⟨e, he, ob, h2, h3, rfl⟩) h4.symm, h1⟩
    · rintro (⟨e, he, h2, h3, h4⟩ | ⟨_, h1⟩)
      · exact absurd h4.symm (hno (nx0 + e.i, o) (pend_mem.2 ⟨e, he, o, h2, h3, rfl⟩))
      · exact h1

theorem pend_cons (nx0 : Nat) (sel : Nat → Bool) (e : Ent) (l : List Ent) : pend nx0 sel (e :: l) = match e.ob with
    | none => pend nx0 sel l
    | some ob => cond (sel e.i) ((Nat.add nx0 e.i, ob) :: pend nx0 sel l) (pend nx0 sel l) := rfl
theorem pend_append {nx0 : Nat} {sel : Nat → Bool} : ∀ (A B : List Ent), pend nx0 sel (A ++ B) = pend nx0 sel A ++ pend nx0 sel B
  | [], B => rfl
  | e :: A, B => by
    rw [List.cons_append, pend_cons, pend_cons]
    cases e.ob with
    | none => exact pend_append A B
    | some ob =>
      simp only
      cases sel e.i with
      | true => simp only [cond_true, List.cons_append]; rw [pend_append A B]
      | false => exact pend_append A B
theorem pend_nil {nx0 : Nat} {sel : Nat → Bool} : ∀ (A : List Ent), (∀ e ∈ A, sel e.i = false) → pend nx0 sel A = []
  | [], _ => rfl
  | e :: A, h => by
    unfold pend
    have hA := pend_nil (nx0 := nx0) (sel := sel) A (fun e he => h e (List.mem_cons_of_mem _ he))
    cases e.ob with
    | none => exact hA
    | some ob => simp only [h e (List.mem_cons_self), cond_false]; exact hA

theorem cntE_take_succ {L : List Ent} {i : Nat} {e : Ent} (h : L[i]? = some e) : cntE (L.take (i + 1)) = cntE (L.take i) + (if isEff e = true then 1 else 0) := by
  have hi : i < L.length := by
    rcases Nat.lt_or_ge i L.length with h1 | h1
    · exact h1
    · rw [List.getElem?_eq_none h1] at h; cases h
  have he : L[i] = e := by rw [List.getElem?_eq_getElem hi] at h; exact Option.some.inj h
  rw [List.take_succ_eq_append_getElem hi, he]
  unfold cntE
  rw [List.filter_append, List.length_append]
  cases hx : isEff e <;> simp [hx]
theorem cntE_mono {L : List Ent} : ∀ {i j : Nat}, i ≤ j → cntE (L.take i) ≤ cntE (L.take j) := by
  intro i j h
  have : L.take i = (L.take j).take i := by rw [List.take_take, Nat.min_eq_left h]
  rw [this]
  unfold cntE
  exact List.Sublist.length_le (List.Sublist.filter _ (List.take_sublist _ _))
theorem cntE_lt {L : List Ent} {i j : Nat} {e : Ent} (h : L[i]? = some e) (he : isEff e = true) (hij : i < j) : cntE (L.take i) < cntE (L.take j) := by
  have h1 := cntE_take_succ h
  rw [if_pos he] at h1
  have h2 := cntE_mono (L := L) (show i + 1 ≤ j from hij)
  omega
theorem cntE_exists {L : List Ent} : ∀ (i r : Nat), i ≤ L.length → r < cntE (L.take i) → ∃ k e, k < i ∧ L[k]? = some e ∧ isEff e = true ∧ cntE (L.take k) = r
  | 0, r, _, h => by simp [cntE] at h
  | i + 1, r, hi, h => by
    have he : L[i]? = some L[i] := List.getElem?_eq_getElem (by omega)
    have h1 := cntE_take_succ he
    by_cases hr : r < cntE (L.take i)
    · obtain ⟨k, e, q1, q2⟩ := cntE_exists i r (by omega) hr
      exact ⟨k, e, by omega, q2⟩
    · by_cases hef : isEff L[i] = true
      · rw [if_pos hef] at h1
        exact ⟨i, L[i], by omega, he, hef, by omega⟩
      · rw [if_neg hef] at h1
        omega
theorem filter_rank : ∀ {L : List Ent} {r : Nat} {b : Ent}, (L.filter isEff)[r]? = some b → ∃ i, L[i]? = some b ∧ cntE (L.take i) = r ∧ isEff b = true
  | [], r, b, h => by simp at h
  | e :: L, r, b, h => by
    simp only [List.filter_cons] at h
    cases he : isEff e with
    | false =>
      rw [he] at h
      obtain ⟨i, q1, q2, q3⟩ := filter_rank (L := L) (by simpa using h)
      refine ⟨i + 1, by simpa using q1, ?_, q3⟩
      simp only [List.take_succ_cons, cntE, List.filter_cons, he]
      exact q2
    | true =>
      rw [he] at h
      cases r with
      | zero =>
        simp at h; subst h
        exact ⟨0, rfl, by simp [cntE], he⟩
      | succ r =>
        obtain ⟨i, q1, q2, q3⟩ := filter_rank (L := L) (r := r) (by simpa using h)
        refine ⟨i + 1, by simpa using q1, ?_, q3⟩
        simp only [List.take_succ_cons, cntE, List.filter_cons, he, if_true, List.length_cons]
        unfold cntE at q2
        omega

theorem vOk_of {e : Ent} {j : Nat} : ∀ {l : List Ent} {r0 : Nat}, (∀ r b, l[r]? = some b → (Nat.testBit e.m b.i = true → r0 + r < j) ∧ (Nat.testBit b.m e.i = true → j ≤ r0 + r)) → vOk e j l r0 = true
  | [], _, _ => rfl
  | b :: l, r0, h => by
    unfold vOk
    obtain ⟨h1, h2⟩ := h 0 b rfl
    have e1 : cond (Nat.testBit e.m b.i) (Nat.blt r0 j) true = true := by
      cases ht : Nat.testBit e.m b.i with
      | false => rfl
      | true => simp only [cond_true]; rw [blt_iff]; simpa using h1 ht
    have e2 : cond (Nat.testBit b.m e.i) (Nat.ble j r0) true = true := by
      cases ht : Nat.testBit b.m e.i with
      | false => rfl
      | true => simp only [cond_true]; rw [ble_iff]; simpa using h2 ht
    rw [e1, e2]
    simp only [cond_true]
    refine vOk_of fun r b' hb => ?_
    obtain ⟨h3, h4⟩ := h (r + 1) b' (by simpa using hb)
    have hrw : Nat.succ r0 + r = r0 + (r + 1) := by simp only [Nat.succ_eq_add_one]; omega
    rw [hrw]
    exact ⟨h3, h4⟩

theorem readsOk_spec {E : Env} {nx0 : Nat} {tmF : Tr AV} {L effs : List Ent} {e : Ent} : ∀ {vs : List Ver} {j0 : Nat}, readsOk E nx0 tmF L effs e vs j0 = true → ∀ r v, vs[r]? = some v → vOk e (j0 + r) effs 0 = true →
    readOp E (addF v.hp (pend nx0 (selM e.m v.A) L)) tmF e.o = some e.val
  | [], j0, _, r, v, hv, _ => by simp at hv
  | v0 :: vs, j0, h, r, v, hv, hok => by
    unfold readsOk at h
    rw [cond_true_iff] at h
    obtain ⟨h1, h2⟩ := h
    cases r with
    | zero =>
      simp at hv; subst hv
      rw [Nat.add_zero] at hok
      rw [hok] at h1
      simp only [cond_true] at h1
      split at h1
      · cases h1
      · rename_i x hx
        rw [hx, aeq_ok h1]
    | succ r =>
      exact readsOk_spec h2 r v (by simpa using hv) (by rw [show Nat.succ j0 + r = j0 + (r + 1) by simp only [Nat.succ_eq_add_one]; omega]; exact hok)

theorem floatsOk_spec {nx0 N : Nat} {L : List Ent} : ∀ {vs : List Ver}, floatsOk nx0 N L vs = true → ∀ v ∈ vs, nx0 + N ≤ v.nx ∧ ∀ e ∈ L, ∀ ob, e.ob = some ob → Nat.testBit v.A e.i = false → v.hp.get (nx0 + e.i) = none
  | [], _, v, hv => by cases hv
  | v0 :: vs, h, v, hv => by
    unfold floatsOk at h
    rw [cond_true_iff, cond_true_iff] at h
    obtain ⟨h1, h2, h3⟩ := h
    cases hv with
    | head =>
      rw [ble_iff] at h1
      refine ⟨h1, fun e he ob ho hA => ?_⟩
      have := List.all_eq_true.1 h2 e he
      rw [ho] at this
      simp only [hA, cond_false] at this
      cases hg : v0.hp.get (nx0 + e.i) with
      | none => rfl
      | some x =>
        have hg' : v0.hp.get (Nat.add nx0 e.i) = some x := hg
        rw [hg'] at this; cases this
    | tail _ hm => exact floatsOk_spec h3 v hm

theorem lastV_get : ∀ (vs : List Ver) (v : Ver), (v :: vs)[vs.length]? = some (lastV vs v)
  | [], v => rfl
  | u :: vs, v => by
    show (v :: u :: vs)[vs.length + 1]? = some (lastV vs u)
    simpa using lastV_get vs u

theorem tmX_put {n : Nat} {ρ : Rho} {tm0 : Tr AV} {L : List Ent} {ex ex' : Nat → Bool} {a : Act} {e : Ent} {v : Value} (hn : Numbered L) (he : e ∈ L) (hlt : ∀ d, e.o.dst = some d → d < n)
    (hd : ∀ e' ∈ L, ∀ d, e.o.dst = some d → e'.o.dst = some d → e'.i = e.i) (hex : ∀ k, ex' k = if e.i = k then true else ex k) (ht : TmR ρ n (tmX ex tm0 L) a.tmps) (hv : VR ρ e.val v) : TmR ρ n (tmX ex' tm0 L) (a.put e.o.dst v).tmps := by
  refine ⟨?_, ?_⟩
  · cases hdst : e.o.dst with
    | none => simpa [Act.put] using ht.size
    | some d => simpa [Act.put] using ht.size
  · intro t x hx
    rw [tmX_get] at hx
    have hold := ht.get t
    rw [tmX_get] at hold
    cases hf : L.find? (hasDst t) with
    | some e1 =>
      rw [hf] at hx hold
      simp only at hx hold
      have h1 := List.mem_of_find?_eq_some hf
      have h2 : e1.o.dst = some t := by have := List.find?_some hf; exact hasDst_iff.1 this
      rw [hex] at hx
      by_cases hi : e.i = e1.i
      · have hee : e = e1 := hn.uniq he h1 hi
        subst hee
        rw [if_pos hi] at hx
        simp only [if_true] at hx
        cases hx
        rw [h2]
        refine ⟨v, ?_, hv⟩
        show (a.tmps.setIfInBounds t v)[t]? = some v
        exact Array.getElem?_setIfInBounds_self_of_lt (by rw [ht.size]; exact hlt t h2)
      · rw [if_neg hi] at hx
        by_cases hxe : ex e1.i = true
        · rw [if_pos hxe] at hx hold
          cases hx
          obtain ⟨u, q1, q2⟩ := hold _ rfl
          refine ⟨u, ?_, q2⟩
          cases hdst : e.o.dst with
          | none => exact q1
          | some d =>
            show (a.tmps.setIfInBounds d v)[t]? = some u
            rw [Array.getElem?_setIfInBounds_ne]
            · exact q1
            · intro hdt; subst hdt
              exact hi (hd e1 h1 d hdst h2).symm
        · rw [if_neg hxe] at hx hold
          obtain ⟨u, q1, q2⟩ := hold x hx
          refine ⟨u, ?_, q2⟩
          cases hdst : e.o.dst with
          | none => exact q1
          | some d =>
            show (a.tmps.setIfInBounds d v)[t]? = some u
            rw [Array.getElem?_setIfInBounds_ne]
            · exact q1
            · intro hdt; subst hdt
              exact hi (hd e1 h1 d hdst h2).symm
    | none =>
      rw [hf] at hx hold
      simp only at hx hold
      obtain ⟨u, q1, q2⟩ := hold x hx
      refine ⟨u, ?_, q2⟩
      cases hdst : e.o.dst with
      | none => exact q1
      | some d =>
        show (a.tmps.setIfInBounds d v)[t]? = some u
        rw [Array.getElem?_setIfInBounds_ne]
        · exact q1
        · intro hdt; subst hdt
          have := List.find?_eq_none.1 hf e he
          exact this (hasDst_iff.2 hdst)

end Go.Evo
