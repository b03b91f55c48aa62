/- A verified evaluator for the model of Go, part 9: what it reckons of a call, the call does in every world that its abstract heap speaks of. Conditions: none. -/
import Derived.Test.YtffdkcadpkfhoaaGreatDoorEh
import Derived.Scope
namespace Go.Evo

inductive FnG where
  | mk (f : Tr AV → Option AV)
noncomputable def FnG.app (c : FnG) : Tr AV → Option AV := FnG.rec (motive := fun _ => Tr AV → Option AV) (fun f => f) c
/-- An operand known once. -/
noncomputable def gC (x : Operand) : FnG :=
  match x with
  | .tmp t => .mk (Tr.getP (path t))
  | .const v => (match ofV v with
    | none => .mk (fun _ => none)
    | some y => .mk (fun _ => some y))
  | .global g => .mk (fun _ => some (.gptr g 0))
  | .func f => .mk (fun _ => some (.fn f []))
theorem gC_eq (x : Operand) (tm : Tr AV) : (gC x).app tm = evO tm x := by
  cases x with
  | tmp t => rfl
  | const v =>
    show (FnG.app (match ofV v with
      | none => .mk (fun _ => none)
      | some y => .mk (fun _ => some y))) tm = ofV v
    cases ofV v <;> rfl
  | global g => rfl
  | func f => rfl

abbrev KT := Tr AV → Hp → Nat → List Nat → Ev
/-- An operation known once: the state goes on to what comes next. -/
inductive COp where
  | mk (f : (E : Env) → Kit E → Tr AV → Hp → Nat → List Nat → KT → Ev)
noncomputable def COp.app (c : COp) : (E : Env) → Kit E → Tr AV → Hp → Nat → List Nat → KT → Ev :=
  COp.rec (motive := fun _ => (E : Env) → Kit E → Tr AV → Hp → Nat → List Nat → KT → Ev) (fun f => f) c

/-- Where a value goes. -/
inductive CDst where
  | mk (f : AV → Tr AV → Hp → Nat → List Nat → KT → Ev)
noncomputable def CDst.app (c : CDst) : AV → Tr AV → Hp → Nat → List Nat → KT → Ev := CDst.rec (motive := fun _ => AV → Tr AV → Hp → Nat → List Nat → KT → Ev) (fun f => f) c
noncomputable def dC (n : Nat) (dst : Option Nat) : CDst :=
  match dst with
  | none => .mk (fun _ tm hp nx df k => k tm hp nx df)
  | some d => cond (Nat.blt d n) (.mk (fun v tm hp nx df k => forceA v fun v => Tr.setK (some v) (path d) tm fun tm => k tm hp nx df)) (.mk (fun _ _ _ _ _ _ => .fail))

theorem dC_eq (n : Nat) (dst : Option Nat) (v : AV) (tm : Tr AV) (hp : Hp) (nx : Nat) (df : List Nat) (k : KT) : (dC n dst).app v tm hp nx df k = match putT n tm dst v with
    | none => .fail
    | some tm' => k tm' hp nx df := by
  cases dst with
  | none => rfl
  | some d =>
    have h1 : dC n (some d) = cond (Nat.blt d n) (.mk (fun v tm hp nx df k => forceA v fun v => Tr.setK (some v) (path d) tm fun tm => k tm hp nx df)) (.mk (fun _ _ _ _ _ _ => .fail)) := rfl
    have h2 : putT n tm (some d) v = cond (Nat.blt d n) (some (tm.set d v)) none := rfl
    rw [h1, h2]
    cases h : Nat.blt d n with
    | false => rfl
    | true =>
      show forceA v (fun v => Tr.setK (some v) (path d) tm fun tm => k tm hp nx df) = k (tm.set d v) hp nx df
      rw [forceA_eq, Tr.setK_eq]
      unfold Tr.set
      rw [Tr.setK_eq]

noncomputable def stepW (E : Env) (K : Kit E) (n : Nat) (ops : Array Oper) (o : Oper) (s : St) : Option St :=
  match wantA ops o s.tm with
  | none => none
  | some true => stepO E K n o s
  | some false => (match putT n s.tm o.dst (.tup []) with
    | none => none
    | some tm => some ⟨tm, s.hp, s.nx, s.df⟩)
theorem evOps_stepW (E : Env) (K : Kit E) (n : Nat) (ops : Array Oper) (o : Oper) (l : List Oper) (s : St) : evOps E K n ops (o :: l) s = match stepW E K n ops o s with
    | none => none
    | some s' => evOps E K n ops l s' := by
  rw [evOps_cons]
  unfold stepW
  cases wantA ops o s.tm with
  | none => rfl
  | some b =>
    cases b with
    | true => rfl
    | false =>
      simp only
      cases putT n s.tm o.dst (.tup []) with
      | none => rfl
      | some tm => simp only [forceT_eq]

noncomputable def goOn (r : Option St) (k : KT) : Ev := match r with
  | none => .fail
  | some s' => k s'.tm s'.hp s'.nx s'.df
def Good (n : Nat) (ops : Array Oper) (o : Oper) (c : COp) : Prop := ∀ (E : Env) (K : Kit E) (tm : Tr AV) (hp : Hp) (nx : Nat) (df : List Nat) (k : KT), c.app E K tm hp nx df k = goOn (stepW E K n ops o ⟨tm, hp, nx, df⟩) k

/-- Any operation, the slow way. -/
noncomputable def slowC (n : Nat) (ops : Array Oper) (o : Oper) : COp := .mk (fun E K tm hp nx df k => goOn (stepW E K n ops o ⟨tm, hp, nx, df⟩) k)
theorem slowC_ok (n : Nat) (ops : Array Oper) (o : Oper) : Good n ops o (slowC n ops o) := fun _ _ _ _ _ _ _ => rfl

theorem finO_go (n : Nat) (tm : Tr AV) (hp hp' : Hp) (nx nx' : Nat) (df : List Nat) (o : Oper) (v : AV) (k : KT) : goOn (finO n ⟨tm, hp, nx, df⟩ o v hp' nx') k = (dC n o.dst).app v tm hp' nx' df k := by
  rw [dC_eq]
  unfold finO
  rw [forceA_eq]
  simp only
  cases putT n tm o.dst v with
  | none => rfl
  | some tm' => simp only [mkSt_eq]; rfl


/-- Operations whose value hangs on the temporaries alone. -/
noncomputable def quietC2 (op : Op) : FnQ :=
  match op with
  | .move x => .mk (fun _ tm => (gC x).app tm)
  | .assign x => .mk (fun _ tm => (gC x).app tm)
  | .binOp b t x y _ => .mk (fun E tm => Option.rec (motive := fun _ => Option AV) none (fun u => Option.rec (motive := fun _ => Option AV) none (fun v => aBin E (isConstO x || isConstO y) b t u v) ((gC y).app tm)) ((gC x).app tm))
  | .unOp b _ x => .mk (fun _ tm => Option.rec (motive := fun _ => Option AV) none (fun u => aUn b u) ((gC x).app tm))
  | .fieldAddr t x f => .mk (fun E tm => Option.rec (motive := fun _ => Option AV) none (fun u => aFieldAddr E t u f) ((gC x).app tm))
  | .indexAddr t x y => .mk (fun E tm => Option.rec (motive := fun _ => Option AV) none (fun u => Option.rec (motive := fun _ => Option AV) none (fun v => aIndexAddr E t u v) ((gC y).app tm)) ((gC x).app tm))
  | .extract x j => .mk (fun _ tm => Option.rec (motive := fun _ => Option AV) none (fun u => aExtract u j) ((gC x).app tm))
  | op => quietC op
theorem quietC2_eq (op : Op) (E : Env) (tm : Tr AV) : (quietC2 op).app E tm = (quietC op).app E tm := by
  cases op <;> try rfl
  case move x => exact gC_eq x tm
  case assign x => exact gC_eq x tm
  case binOp b t x y ty =>
    show Option.rec (motive := fun _ => Option AV) none (fun u => Option.rec (motive := fun _ => Option AV) none (fun v => aBin E (isConstO x || isConstO y) b t u v) ((gC y).app tm)) ((gC x).app tm) = (match evO tm x with
      | none => none
      | some u => match evO tm y with
        | none => none
        | some v => aBin E (isConstO x || isConstO y) b t u v)
    rw [gC_eq, gC_eq]
    cases evO tm x <;> cases evO tm y <;> rfl
  case unOp b t x =>
    show Option.rec (motive := fun _ => Option AV) none (fun u => aUn b u) ((gC x).app tm) = (match evO tm x with
      | none => none
      | some u => aUn b u)
    rw [gC_eq]
    cases evO tm x <;> rfl
  case fieldAddr t x f =>
    show Option.rec (motive := fun _ => Option AV) none (fun u => aFieldAddr E t u f) ((gC x).app tm) = (match evO tm x with
      | none => none
      | some u => aFieldAddr E t u f)
    rw [gC_eq]
    cases evO tm x <;> rfl
  case indexAddr t x y =>
    show Option.rec (motive := fun _ => Option AV) none (fun u => Option.rec (motive := fun _ => Option AV) none (fun v => aIndexAddr E t u v) ((gC y).app tm)) ((gC x).app tm) = (match evO tm x with
      | none => none
      | some u => match evO tm y with
        | none => none
        | some v => aIndexAddr E t u v)
    rw [gC_eq, gC_eq]
    cases evO tm x <;> cases evO tm y <;> rfl
  case extract x j =>
    show Option.rec (motive := fun _ => Option AV) none (fun u => aExtract u j) ((gC x).app tm) = (match evO tm x with
      | none => none
      | some u => aExtract u j)
    rw [gC_eq]
    cases evO tm x <;> rfl

noncomputable def qCop (n : Nat) (o : Oper) : COp := .mk (fun E _ tm hp nx df k => Option.rec (motive := fun _ => Ev) .fail (fun v => (dC n o.dst).app v tm hp nx df k) ((quietC2 o.op).app E tm))
theorem qCop_ok {n : Nat} {ops : Array Oper} {o : Oper} (hg : o.guard = none) (hk : fastK o = qK o) (hn : ∀ tm, callee tm o = none) (hd : ∀ dq tm, deferOf dq tm o = none) : Good n ops o (qCop n o) := by
  intro E K tm hp nx df k
  show Option.rec (motive := fun _ => Ev) .fail (fun v => (dC n o.dst).app v tm hp nx df k) ((quietC2 o.op).app E tm) = _
  unfold stepW wantA
  rw [hg, quietC2_eq]
  simp only
  unfold stepO fastOp
  rw [hk]
  show _ = goOn (match (match (quietC o.op).app E tm with
    | none => none
    | some v => some (v, hp, nx)) with
    | some (v, hp, nx) => finO n ⟨tm, _, _, df⟩ o v hp nx
    | none => _) k
  cases h : (quietC o.op).app E tm with
  | none => simp only [hn, hd]; rfl
  | some v =>
    simp only
    exact (finO_go n tm hp hp nx nx df o v k).symm


noncomputable def lCop (n : Nat) (dst : Option Nat) (t : Nat) (x : Operand) : COp := .mk (fun E _ tm hp nx df k => Option.rec (motive := fun _ => Ev) .fail (fun u => Option.rec (motive := fun _ => Ev) .fail (fun v => (dC n dst).app v tm hp nx df k) (aLoad E hp t u)) ((gC x).app tm))
theorem lCop_ok {n : Nat} {ops : Array Oper} {dst : Option Nat} {t type : Nat} {x : Operand} {pos : String} {after : Array Edge} : Good n ops ⟨dst, .load t x, type, pos, after, none⟩ (lCop n dst t x) := by
  intro E K tm hp nx df k
  show Option.rec (motive := fun _ => Ev) .fail (fun u => Option.rec (motive := fun _ => Ev) .fail (fun v => (dC n dst).app v tm hp nx df k) (aLoad E hp t u)) ((gC x).app tm) = _
  show _ = goOn (match (match evO tm x with
    | none => none
    | some u => match aLoad E hp t u with
      | none => none
      | some v => some (v, hp, nx)) with
    | some (v, hp, nx) => finO n ⟨tm, _, _, df⟩ ⟨dst, .load t x, type, pos, after, none⟩ v hp nx
    | none => none) k
  rw [gC_eq]
  cases evO tm x with
  | none => rfl
  | some u =>
    simp only
    cases aLoad E hp t u with
    | none => rfl
    | some v =>
      simp only
      exact (finO_go n tm hp hp nx nx df ⟨dst, .load t x, type, pos, after, none⟩ v k).symm
noncomputable def sCop (n : Nat) (dst : Option Nat) (t : Nat) (x y : Operand) : COp := .mk (fun E _ tm hp nx df k => Option.rec (motive := fun _ => Ev) .fail (fun u => Option.rec (motive := fun _ => Ev) .fail (fun v => Option.rec (motive := fun _ => Ev) .fail (fun hp' => forceT hp' fun hp' => (dC n dst).app (.tup []) tm hp' nx df k) (aStore E hp t u v)) ((gC y).app tm)) ((gC x).app tm))
theorem sCop_ok {n : Nat} {ops : Array Oper} {dst : Option Nat} {t type : Nat} {x y : Operand} {pos : String} {after : Array Edge} : Good n ops ⟨dst, .store t x y, type, pos, after, none⟩ (sCop n dst t x y) := by
  intro E K tm hp nx df k
  show Option.rec (motive := fun _ => Ev) .fail (fun u => Option.rec (motive := fun _ => Ev) .fail (fun v => Option.rec (motive := fun _ => Ev) .fail (fun hp' => forceT hp' fun hp' => (dC n dst).app (.tup []) tm hp' nx df k) (aStore E hp t u v)) ((gC y).app tm)) ((gC x).app tm) = _
  show _ = goOn (match (match evO tm x with
    | none => none
    | some u => match evO tm y with
      | none => none
      | some v => match aStore E hp t u v with
        | none => none
        | some hp' => some (.tup [], hp', nx)) with
    | some (v, hp, nx) => finO n ⟨tm, _, _, df⟩ ⟨dst, .store t x y, type, pos, after, none⟩ v hp nx
    | none => none) k
  rw [gC_eq, gC_eq]
  cases evO tm x with
  | none => rfl
  | some u =>
    simp only
    cases evO tm y with
    | none => rfl
    | some v =>
      simp only
      cases aStore E hp t u v with
      | none => rfl
      | some hp' =>
        simp only [forceT_eq]
        exact (finO_go n tm hp hp' nx nx df ⟨dst, .store t x y, type, pos, after, none⟩ (.tup []) k).symm

noncomputable def bCop (n : Nat) (ops : Array Oper) (o : Oper) : COp := .mk (fun E K tm hp nx df k => Option.rec (motive := fun _ => Ev) (goOn (stepW E K n ops o ⟨tm, hp, nx, df⟩) k) (fun v => (dC n o.dst).app v tm hp nx df k) ((quietC2 o.op).app E tm))
theorem bCop_ok {n : Nat} {ops : Array Oper} {o : Oper} (hg : o.guard = none) (hk : fastK o = qxK o) : Good n ops o (bCop n ops o) := by
  intro E K tm hp nx df k
  show Option.rec (motive := fun _ => Ev) (goOn (stepW E K n ops o ⟨tm, hp, nx, df⟩) k) (fun v => (dC n o.dst).app v tm hp nx df k) ((quietC2 o.op).app E tm) = _
  rw [quietC2_eq]
  cases h : (quietC o.op).app E tm with
  | none => rfl
  | some v =>
    have hf : fastOp E K.X hp nx tm o = some (v, hp, nx) := by
      unfold fastOp
      rw [hk]
      show (match (quietC o.op).app E tm with
        | none => plainX E K.X hp nx tm o
        | some v => some (v, hp, nx)) = _
      rw [h]
    show (dC n o.dst).app v tm hp nx df k = goOn (stepW E K n ops o ⟨tm, hp, nx, df⟩) k
    unfold stepW wantA
    rw [hg]
    simp only
    unfold stepO
    simp only [hf]
    exact (finO_go n tm hp hp nx nx df o v k).symm

/-- Arguments, each known once. -/
noncomputable def asC (l : List FnG) : Tr AV → Option (List AV) :=
  List.rec (motive := fun _ => Tr AV → Option (List AV)) (fun _ => some []) (fun c _ ih tm => Option.rec (motive := fun _ => Option (List AV)) none (fun x => Option.rec (motive := fun _ => Option (List AV)) none (fun xs => some (x :: xs)) (ih tm)) (c.app tm)) l
theorem asC_eq (tm : Tr AV) : ∀ (l : List Operand), asC (l.map gC) tm = evOs tm l
  | [] => by unfold evOs; rfl
  | x :: l => by
    show Option.rec (motive := fun _ => Option (List AV)) none (fun x => Option.rec (motive := fun _ => Option (List AV)) none (fun xs => some (x :: xs)) (asC (l.map gC) tm)) ((gC x).app tm) = _
    rw [gC_eq, asC_eq tm l]
    conv => rhs; unfold evOs
    cases evO tm x <;> cases evOs tm l <;> rfl
/-- A call of a function that the text names. -/
noncomputable def fCop (n : Nat) (ops : Array Oper) (o : Oper) (g : Nat) (args : List Operand) : COp := .mk (fun E K tm hp nx df k =>
  Option.rec (motive := fun _ => Ev) .fail (fun xs => Option.rec (motive := fun _ => Ev) (goOn (stepW E K n ops o ⟨tm, hp, nx, df⟩) k) (fun r => Prod.rec (motive := fun _ => Ev) (fun v q => Prod.rec (motive := fun _ => Ev) (fun hp' nx' => forceT hp' fun hp' => forceN nx' fun nx' => (dC n o.dst).app v tm hp' nx' df k) q) r) (K.cf g xs hp nx)) (asC (args.map gC) tm))
theorem fCop_ok {n : Nat} {ops : Array Oper} {dst : Option Nat} {g type : Nat} {args : Array Operand} {ats : Array TypeId} {pos : String} {after : Array Edge} :
    Good n ops ⟨dst, .call ⟨.value (.func g), args, ats⟩, type, pos, after, none⟩ (fCop n ops ⟨dst, .call ⟨.value (.func g), args, ats⟩, type, pos, after, none⟩ g args.toList) := by
  intro E K tm hp nx df k
  show Option.rec (motive := fun _ => Ev) .fail (fun xs => Option.rec (motive := fun _ => Ev) (goOn (stepW E K n ops _ ⟨tm, hp, nx, df⟩) k) (fun r => Prod.rec (motive := fun _ => Ev) (fun v q => Prod.rec (motive := fun _ => Ev) (fun hp' nx' => forceT hp' fun hp' => forceN nx' fun nx' => (dC n dst).app v tm hp' nx' df k) q) r) (K.cf g xs hp nx)) (asC (args.toList.map gC) tm) = _
  rw [asC_eq]
  have hcal : callee tm ⟨dst, .call ⟨.value (.func g), args, ats⟩, type, pos, after, none⟩ = match evOs tm args.toList with
    | none => none
    | some xs => some (g, xs ++ []) := rfl
  have hst : stepW E K n ops ⟨dst, .call ⟨.value (.func g), args, ats⟩, type, pos, after, none⟩ ⟨tm, hp, nx, df⟩ = stepO E K n ⟨dst, .call ⟨.value (.func g), args, ats⟩, type, pos, after, none⟩ ⟨tm, hp, nx, df⟩ := rfl
  have hfo : fastOp E K.X hp nx tm ⟨dst, .call ⟨.value (.func g), args, ats⟩, type, pos, after, none⟩ = none := rfl
  cases ha : evOs tm args.toList with
  | none =>
    rw [ha] at hcal
    rw [hst]
    unfold stepO
    simp only [hfo, hcal]
    rfl
  | some xs =>
    rw [ha] at hcal
    simp only [List.append_nil] at hcal
    simp only
    cases hc : K.cf g xs hp nx with
    | none => rfl
    | some r =>
      obtain ⟨v, hp', nx'⟩ := r
      simp only [forceT_eq, forceN_eq]
      rw [hst]
      unfold stepO
      simp only [hfo, hcal, hc]
      exact (finO_go n tm hp hp' nx nx' df ⟨dst, .call ⟨.value (.func g), args, ats⟩, type, pos, after, none⟩ v k).symm

noncomputable def copU (n : Nat) (ops : Array Oper) (o : Oper) : COp :=
  match o.op with
  | .move _ => qCop n o
  | .assign _ => qCop n o
  | .pick _ _ _ => qCop n o
  | .binOp _ _ _ _ _ => qCop n o
  | .unOp _ _ _ => qCop n o
  | .nilCheck _ => qCop n o
  | .makeInterface _ _ => qCop n o
  | .makeFunc _ _ _ => qCop n o
  | .fieldAddr _ _ _ => qCop n o
  | .field _ _ _ => qCop n o
  | .indexAddr _ _ _ => qCop n o
  | .index _ _ _ => qCop n o
  | .extract _ _ => qCop n o
  | .slice _ _ _ _ _ => qCop n o
  | .build _ _ => qCop n o
  | .typeAssert _ _ _ _ => qCop n o
  | .load t x => lCop n o.dst t x
  | .store t x y => sCop n o.dst t x y
  | .convert _ _ _ => bCop n ops o
  | .call c => (match c.callee with
    | .builtin _ => bCop n ops o
    | .value (.func g) => fCop n ops o g c.args.toList
    | _ => slowC n ops o)
  | _ => slowC n ops o
noncomputable def cop (n : Nat) (ops : Array Oper) (o : Oper) : COp :=
  match o.guard with
  | some _ => slowC n ops o
  | none => copU n ops o
theorem cop_ok (n : Nat) (ops : Array Oper) (o : Oper) : Good n ops o (cop n ops o) := by
  obtain ⟨dst, op, type, pos, after, guard⟩ := o
  cases guard with
  | some g => exact slowC_ok n ops _
  | none =>
    cases op <;> first
      | exact slowC_ok n ops _
      | exact lCop_ok
      | exact sCop_ok
      | exact bCop_ok rfl rfl
      | exact qCop_ok rfl rfl (fun _ => rfl) (fun _ _ => rfl)
      | (rename_i c
         obtain ⟨cal, args, ats⟩ := c
         cases cal <;> first
           | exact slowC_ok n ops _
           | exact bCop_ok rfl rfl
           | (rename_i f
              cases f <;> first
                | exact slowC_ok n ops _
                | exact fCop_ok))

/-- The operations of a region, each known once. -/
noncomputable def runC (E : Env) (K : Kit E) (l : List COp) : Tr AV → Hp → Nat → List Nat → Ev :=
  List.rec (motive := fun _ => Tr AV → Hp → Nat → List Nat → Ev) (fun tm hp nx df => .norm ⟨tm, hp, nx, df⟩) (fun c _ ih tm hp nx df => c.app E K tm hp nx df ih) l
theorem runC_eq (E : Env) (K : Kit E) (n : Nat) (ops : Array Oper) : ∀ (l : List Oper) (tm : Tr AV) (hp : Hp) (nx : Nat) (df : List Nat), runC E K (l.map (cop n ops)) tm hp nx df = match evOps E K n ops l ⟨tm, hp, nx, df⟩ with
    | none => .fail
    | some s' => .norm s'
  | [], tm, hp, nx, df => rfl
  | o :: l, tm, hp, nx, df => by
    show (cop n ops o).app E K tm hp nx df (runC E K (l.map (cop n ops))) = _
    rw [cop_ok n ops o, evOps_stepW]
    cases h : stepW E K n ops o ⟨tm, hp, nx, df⟩ with
    | none => rfl
    | some s' => exact runC_eq E K n ops l s'.tm s'.hp s'.nx s'.df

end Go.Evo
namespace Go.Evo

inductive CF where
  | mk (f : (E : Env) → Kit E → Nat → St → Ev)
noncomputable def CF.app (c : CF) : (E : Env) → Kit E → Nat → St → Ev := CF.rec (motive := fun _ => (E : Env) → Kit E → Nat → St → Ev) (fun f => f) c

noncomputable def seqC (a b : CF) : CF := .mk (fun E K fuel s => Ev.rec (motive := fun _ => Ev) .fail (fun s' => b.app E K fuel s') (fun id s' => .exit id s') (fun s' => .ret s') (a.app E K fuel s))
noncomputable def condC (c : Operand) (a b : CF) : CF := .mk (fun E K fuel s => match (gC c).app s.tm with
  | some (.bool t) => Bool.rec (motive := fun _ => Ev) (b.app E K fuel s) (a.app E K fuel s) t
  | _ => .fail)
noncomputable def blockC (id : Nat) (a : CF) : CF := .mk (fun E K fuel s => Ev.rec (motive := fun _ => Ev) .fail (fun s' => .norm s') (fun id' s' => Bool.rec (motive := fun _ => Ev) (.exit id' s') (.norm s') (Nat.beq id' id)) (fun s' => .ret s') (a.app E K fuel s))
noncomputable def loopR (a : St → Ev) (fuel : Nat) : St → Ev := Nat.rec (motive := fun _ => St → Ev) (fun _ => .fail) (fun _ ih s => Ev.rec (motive := fun _ => Ev) .fail ih (fun id s' => .exit id s') (fun s' => .ret s') (a s)) fuel
noncomputable def loopC (a : CF) : CF := .mk (fun E K fuel s => loopR (a.app E K fuel) fuel s)
noncomputable def regC (n : Nat) (ops : Array Oper) : CF := .mk (fun E K _ s => St.rec (motive := fun _ => Ev) (fun tm hp nx df => runC E K (ops.toList.map (cop n ops)) tm hp nx df) s)
noncomputable def drawC (n : Nat) (ops : Array Oper) : CF := .mk (fun E K _ s => match evDraw E K n ops s with
  | none => .fail
  | some s' => .norm s')

noncomputable def cfC (n : Nat) : Code → CF
  | .skip => .mk (fun _ _ _ s => .norm s)
  | .region _ ops true => drawC n ops
  | .region _ ops false => regC n ops
  | .seq a b => seqC (cfC n a) (cfC n b)
  | .cond c a b => condC c (cfC n a) (cfC n b)
  | .block id a => blockC id (cfC n a)
  | .loop a => loopC (cfC n a)
  | .exit id => .mk (fun _ _ _ s => .exit id s)
  | .ret => .mk (fun _ _ _ s => .ret s)
  | .scope a => cfC n a
  | .label _ => .mk (fun _ _ _ s => .norm s)
  | _ => .mk (fun _ _ _ _ => .fail)

section
variable {E : Env} (ok : E.Ok) {K : Kit E} (hc : CallOk E K.cf) (hen : Enters E K.cf) {n : Nat}

def CfOk (E : Env) (K : Kit E) (n : Nat) (c : Code) (f : CF) : Prop := ∀ (fuel : Nat) (ρ : Rho) (s : St) (a : Act) (w : World) (r : Ev), SR E n ρ s a w → f.app E K fuel s = r → r ≠ .fail → c.wp E.P (EvQ E n ρ s w r) a w

theorem behind_refl {ρ : Rho} {s : St} {a : Act} {w : World} (hs : SR E n ρ s a w) : Behind E n ρ s w s a w := ⟨ρ, hs, G.refl _ _ _ _⟩

theorem seqC_ok {x y : Code} {f g : CF} (hx : CfOk E K n x f) (hy : CfOk E K n y g) : CfOk E K n (.seq x y) (seqC f g) := by
  intro fuel ρ s a w r hs h hr
  have h' : Ev.rec (motive := fun _ => Ev) .fail (fun s' => g.app E K fuel s') (fun id s' => .exit id s') (fun s' => .ret s') (f.app E K fuel s) = r := h
  apply wp_seq
  cases hf : f.app E K fuel s with
  | fail => rw [hf] at h'; exact absurd h'.symm hr
  | norm s1 =>
    rw [hf] at h'
    refine wp_mono (hx fuel ρ s a w _ hs hf (by simp)) ?_
    rintro e a1 w1 ⟨rfl, ρ1, h1, h2⟩
    exact wp_mono (hy fuel ρ1 s1 a1 w1 r h1 h' hr) fun e a2 w2 h3 => h3.trans h2
  | exit id s1 =>
    rw [hf] at h'
    have h'' : Ev.exit id s1 = r := h'
    subst h''
    refine wp_mono (hx fuel ρ s a w _ hs hf (by simp)) ?_
    rintro e a1 w1 ⟨rfl, h1⟩
    exact ⟨rfl, h1⟩
  | ret s1 =>
    rw [hf] at h'
    have h'' : Ev.ret s1 = r := h'
    subst h''
    refine wp_mono (hx fuel ρ s a w _ hs hf (by simp)) ?_
    rintro e a1 w1 ⟨rfl, h1⟩
    exact ⟨rfl, h1⟩

theorem condC_ok {c : Operand} {x y : Code} {f g : CF} (hx : CfOk E K n x f) (hy : CfOk E K n y g) : CfOk E K n (.cond c x y) (condC c f g) := by
  intro fuel ρ s a w r hs h hr
  have h' : (match (gC c).app s.tm with
    | some (.bool t) => Bool.rec (motive := fun _ => Ev) (g.app E K fuel s) (f.app E K fuel s) t
    | _ => .fail) = r := h
  rw [gC_eq] at h'
  split at h'
  · rename_i t hb
    have hv := evO_ok hs.tm hb
    unfold VR at hv
    cases t with
    | true => exact wp_cond hv (hx fuel ρ s a w r hs h' hr)
    | false => exact wp_cond hv (hy fuel ρ s a w r hs h' hr)
  · exact absurd h'.symm hr

theorem blockC_ok {id : Nat} {x : Code} {f : CF} (hx : CfOk E K n x f) : CfOk E K n (.block id x) (blockC id f) := by
  intro fuel ρ s a w r hs h hr
  have h' : Ev.rec (motive := fun _ => Ev) .fail (fun s' => .norm s') (fun id' s' => Bool.rec (motive := fun _ => Ev) (.exit id' s') (.norm s') (Nat.beq id' id)) (fun s' => .ret s') (f.app E K fuel s) = r := h
  apply wp_block
  cases hf : f.app E K fuel s with
  | fail => rw [hf] at h'; exact absurd h'.symm hr
  | norm s1 =>
    rw [hf] at h'
    have h'' : Ev.norm s1 = r := h'
    subst h''
    refine wp_mono (hx fuel ρ s a w _ hs hf (by simp)) ?_
    rintro e a1 w1 ⟨rfl, h1⟩
    exact ⟨rfl, h1⟩
  | ret s1 =>
    rw [hf] at h'
    have h'' : Ev.ret s1 = r := h'
    subst h''
    refine wp_mono (hx fuel ρ s a w _ hs hf (by simp)) ?_
    rintro e a1 w1 ⟨rfl, h1⟩
    exact ⟨rfl, h1⟩
  | exit id' s1 =>
    rw [hf] at h'
    have h'' : Bool.rec (motive := fun _ => Ev) (.exit id' s1) (.norm s1) (Nat.beq id' id) = r := h'
    refine wp_mono (hx fuel ρ s a w _ hs hf (by simp)) ?_
    rintro e a1 w1 ⟨rfl, h1⟩
    show if id' = id then EvQ E n ρ s w r .normal a1 w1 else EvQ E n ρ s w r (.exit id') a1 w1
    cases hb : Nat.beq id' id with
    | true =>
      rw [hb] at h''
      rw [Nat.beq_eq] at hb
      rw [if_pos hb]
      have h3 : Ev.norm s1 = r := h''
      subst h3
      exact ⟨rfl, h1⟩
    | false =>
      rw [hb] at h''
      have hne : id' ≠ id := by
        intro he
        subst he
        simp at hb
      rw [if_neg hne]
      have h3 : Ev.exit id' s1 = r := h''
      subst h3
      exact ⟨rfl, h1⟩

theorem loopC_ok {x : Code} {f : CF} (hx : CfOk E K n x f) : CfOk E K n (.loop x) (loopC f) := by
  intro fuel ρ s a w r hs h hr
  have main : ∀ (m : Nat) (ρ : Rho) (s : St) (a : Act) (w : World), SR E n ρ s a w → loopR (f.app E K fuel) m s = r → wpL E.P x (EvQ E n ρ s w r) a w := by
    intro m
    induction m with
    | zero => intro ρ s a w hs h; exact absurd h.symm hr
    | succ m ih =>
      intro ρ s a w hs h
      have h' : Ev.rec (motive := fun _ => Ev) .fail (loopR (f.app E K fuel) m) (fun id s' => .exit id s') (fun s' => .ret s') (f.app E K fuel s) = r := h
      apply wpL_round
      cases hf : f.app E K fuel s with
      | fail => rw [hf] at h'; exact absurd h'.symm hr
      | norm s1 =>
        rw [hf] at h'
        refine wp_mono (hx fuel ρ s a w _ hs hf (by simp)) ?_
        rintro e a1 w1 ⟨rfl, ρ1, h1, h2⟩
        exact wpL_mono (ih ρ1 s1 a1 w1 h1 h') fun e a2 w2 h3 => h3.trans h2
      | exit id' s1 =>
        rw [hf] at h'
        have h'' : Ev.exit id' s1 = r := h'
        subst h''
        refine wp_mono (hx fuel ρ s a w _ hs hf (by simp)) ?_
        rintro e a1 w1 ⟨rfl, h1⟩
        exact ⟨rfl, h1⟩
      | ret s1 =>
        rw [hf] at h'
        have h'' : Ev.ret s1 = r := h'
        subst h''
        refine wp_mono (hx fuel ρ s a w _ hs hf (by simp)) ?_
        rintro e a1 w1 ⟨rfl, h1⟩
        exact ⟨rfl, h1⟩
  exact wp_of_wpL (main fuel ρ s a w hs h)

theorem scopeC_ok {x : Code} {f : CF} (hx : CfOk E K n x f) : CfOk E K n (.scope x) f := by
  intro fuel ρ s a w r hs h hr
  refine wp_scope_straight (wp_mono (hx fuel ρ s a w r hs h hr) ?_)
  intro e a1 w1 hq
  cases e with
  | goto l => cases r with
    | fail => exact absurd rfl hr
    | norm s' => exact absurd hq.1 (by simp)
    | exit id s' => exact absurd hq.1 (by simp)
    | ret s' => exact absurd hq.1 (by simp)
  | _ => exact hq

include ok hc hen in
theorem regC_ok (id : Nat) (ops : Array Oper) : CfOk E K n (.region id ops false) (regC n ops) := by
  intro fuel ρ s a w r hs h hr
  obtain ⟨tm, hp, nx, df⟩ := s
  have h' : runC E K (ops.toList.map (cop n ops)) tm hp nx df = r := h
  rw [runC_eq] at h'
  cases hd : evOps E K n ops ops.toList ⟨tm, hp, nx, df⟩ with
  | none => rw [hd] at h'; exact absurd h'.symm hr
  | some s' =>
    rw [hd] at h'
    have h'' : Ev.norm s' = r := h'
    subst h''
    refine wp_region ?_
    have := evOps_ok ok hc hen (Q := EvQ E n ρ ⟨tm, hp, nx, df⟩ w (.norm s')) ops.toList 0 (fun j _ => by simp) hs hd (fun a' w' hb => ⟨rfl, hb⟩)
    rw [Array.length_toList] at this
    rwa [List.range_eq_range']

include ok hc hen in
theorem drawC_ok (id : Nat) (ops : Array Oper) : CfOk E K n (.region id ops true) (drawC n ops) := by
  intro fuel ρ s a w r hs h hr
  have h' : (match evDraw E K n ops s with | none => Ev.fail | some s' => .norm s') = r := h
  cases hd : evDraw E K n ops s with
  | none => rw [hd] at h'; exact absurd h'.symm hr
  | some s' =>
    rw [hd] at h'
    have h'' : Ev.norm s' = r := h'
    subst h''
    exact evDraw_ok ok hc hen hs hd fun a' w' hb => ⟨rfl, hb⟩

include ok hc hen in
theorem cfC_ok : ∀ (c : Code), CfOk E K n c (cfC n c)
  | .skip => fun fuel ρ s a w r hs h hr => by
    have h' : Ev.norm s = r := h
    subst h'
    exact wp_skip ⟨rfl, behind_refl hs⟩
  | .region id ops true => drawC_ok ok hc hen id ops
  | .region id ops false => regC_ok ok hc hen id ops
  | .seq x y => seqC_ok (cfC_ok x) (cfC_ok y)
  | .cond c x y => condC_ok (cfC_ok x) (cfC_ok y)
  | .block id x => blockC_ok (cfC_ok x)
  | .loop x => loopC_ok (cfC_ok x)
  | .exit id => fun fuel ρ s a w r hs h hr => by
    have h' : Ev.exit id s = r := h
    subst h'
    exact wp_exit ⟨rfl, behind_refl hs⟩
  | .ret => fun fuel ρ s a w r hs h hr => by
    have h' : Ev.ret s = r := h
    subst h'
    exact wp_ret ⟨rfl, behind_refl hs⟩
  | .rangeFunc f p as body => fun fuel ρ s a w r hs h hr => absurd (show Ev.fail = r from h).symm hr
  | .scope body => scopeC_ok (cfC_ok body)
  | .label l => fun fuel ρ s a w r hs h hr => by
    have h' : Ev.norm s = r := h
    subst h'
    exact wp_label ⟨rfl, behind_refl hs⟩
  | .goto l => fun fuel ρ s a w r hs h hr => absurd (show Ev.fail = r from h).symm hr
  | .refuse _ => fun fuel ρ s a w r hs h hr => absurd (show Ev.fail = r from h).symm hr
end
end Go.Evo
namespace Go.Evo

noncomputable def endC (E : Env) (dq : Nat → Bool) (rs : List ResultVar) (s : St) : Option (AV × Hp × Nat) :=
  St.rec (motive := fun _ => Option (AV × Hp × Nat)) (fun tm hp nx df => cond (List.rec (motive := fun _ => Bool) true (fun g _ ih => Bool.rec (motive := fun _ => Bool) false ih (dq g)) df) (match evRes E ⟨tm, hp, nx, df⟩ rs with
    | none => none
    | some xs => some (oneOf xs, hp, nx)) none) s
theorem endC_eq (E : Env) (dq : Nat → Bool) (fn : Func) (s : St) : endC E dq fn.results.toList s = finFn E dq fn s := by
  obtain ⟨tm, hp, nx, df⟩ := s
  unfold endC finFn
  have : ∀ l : List Nat, (List.rec (motive := fun _ => Bool) true (fun g _ ih => Bool.rec (motive := fun _ => Bool) false ih (dq g)) l : Bool) = l.all dq := by
    intro l
    induction l with
    | nil => rfl
    | cons g l ih =>
      show Bool.rec (motive := fun _ => Bool) false _ (dq g) = _
      rw [ih, List.all_cons]
      cases dq g <;> rfl
  show cond (List.rec (motive := fun _ => Bool) true (fun g _ ih => Bool.rec (motive := fun _ => Bool) false ih (dq g)) df) _ _ = _
  rw [this]
  rfl

/-- A function known once. -/
inductive CFn where
  | none
  | mk (n : Nat) (c : CF) (rs : List ResultVar)
noncomputable def cfn (F : Tr Func) (g : Nat) : CFn := match F.get g with
  | none => .none
  | some fn => (match fn.body with
    | none => .none
    | some c => forceN fn.ntmps fun n => .mk n (cfC n c) fn.results.toList)
noncomputable def runC2 (E : Env) (K : Kit E) (cfuel n : Nat) (c : CF) (rs : List ResultVar) (xs : List AV) (hp : Hp) (nx : Nat) : Option (AV × Hp × Nat) :=
  Bool.rec (motive := fun _ => Option (AV × Hp × Nat)) none (forceT (argsT xs 0 .nil) fun tm => Ev.rec (motive := fun _ => Option (AV × Hp × Nat)) none (fun s => endC E K.dq rs s) (fun _ _ => none) (fun s => endC E K.dq rs s) (c.app E K cfuel ⟨tm, hp, nx, []⟩)) (Nat.ble xs.length n)
noncomputable def callC (E : Env) (X : XKit E) (kf : CallFn) (dq : Nat → Bool) (cfuel fuel : Nat) : CallFn :=
  Nat.rec (motive := fun _ => CallFn) (fun _ _ _ _ => none) (fun _ ih g xs hp nx => match kf g xs hp nx with
    | some r => some r
    | none => CFn.rec (motive := fun _ => Option (AV × Hp × Nat)) none (fun n c rs => runC2 E ⟨ih, dq, X⟩ cfuel n c rs xs hp nx) (cfn E.F g)) fuel

section
variable {E : Env} (ok : E.Ok) (fns : Fns E)
include ok
theorem runC2_ok {K : Kit E} (hc : CallOk E K.cf) (hen : Enters E K.cf) (hq : ∀ g, K.dq g = true → Idle E.P g) {cfuel g : Nat} {fn : Func} {c : Code} (hf : E.P.funcs[g]? = some fn) (hb : fn.body = some c) {xs : List AV} {hp hp' : Hp} {nx nx' : Nat} {y : AV} (h : runC2 E K cfuel fn.ntmps (cfC fn.ntmps c) fn.results.toList xs hp nx = some (y, hp', nx'))
    {ρ : Rho} {w : World} {vs : Array Value} (r : E.R ρ hp nx w) (hv : VRs ρ xs vs.toList) : Calls E.P g vs w (CPost E ρ hp nx w y hp' nx') := by
  unfold runC2 at h
  cases hle : Nat.ble xs.length fn.ntmps with
  | false => rw [hle] at h; cases h
  | true =>
    rw [hle] at h
    simp only [forceT_eq] at h
    have hlen : vs.size = xs.length := by simpa using hv.length
    have hle' : vs.size ≤ fn.ntmps := by rw [hlen]; exact Nat.le_of_ble_eq_true hle
    refine calls_of_wp_defers hf hb ?_
    have hs : SR E fn.ntmps ρ ⟨argsT xs 0 .nil, hp, nx, []⟩ { tmps := vs ++ Array.replicate (fn.ntmps - vs.size) undef, defers := [] } w := by
      refine ⟨⟨by simp; omega, ?_⟩, r, rfl⟩
      intro i x hx
      have hx' : (argsT xs 0 .nil).get i = some x := hx
      rw [argsT_get] at hx'
      by_cases hi : 0 ≤ i ∧ i < 0 + xs.length
      · rw [if_pos hi] at hx'
        obtain ⟨v, q1, q2⟩ := hv.get i x (by simpa using hx')
        refine ⟨v, ?_, q2⟩
        rw [Array.getElem?_append_left (by omega)]
        simpa using q1
      · rw [if_neg hi] at hx'
        have : (Tr.nil : Tr AV).get i = none := Tr.getP_nil _
        rw [this] at hx'; cases hx'
    have fin : ∀ s', endC E K.dq fn.results.toList s' = some (y, hp', nx') → ∀ a' w', Behind E fn.ntmps ρ ⟨argsT xs 0 .nil, hp, nx, []⟩ w s' a' w' → Leaves E.P fn a'.tmps (CPost E ρ hp nx w y hp' nx') a'.defers .returning w' := by
      rintro s' hfin a' w' ⟨ρ', hs', hg⟩
      rw [endC_eq] at hfin
      unfold finFn at hfin
      cases hall : s'.df.all K.dq with
      | false => rw [hall] at hfin; cases hfin
      | true =>
        rw [hall] at hfin
        simp only [cond_true] at hfin
        cases hres : evRes E s' fn.results.toList with
        | none => rw [hres] at hfin; cases hfin
        | some ys =>
          rw [hres] at hfin; cases hfin
          refine leaves_idle hq hs'.df hall fun w'' hq' => ?_
          have hs'' : SR E fn.ntmps ρ' s' a' w'' := ⟨hs'.tm, R.of_heap hq'.heap hs'.r, hs'.df⟩
          obtain ⟨v, q1, q2⟩ := results_ok ok hs'' hres
          exact ⟨v, q1, v, ρ', rfl, q2, hs''.r, hg.trans (G.of_heap hq'.heap hq'.tape hq'.os hq'.output)⟩
    cases hev : (cfC fn.ntmps c).app E K cfuel ⟨argsT xs 0 .nil, hp, nx, []⟩ with
    | fail => rw [hev] at h; cases h
    | exit id s' => rw [hev] at h; cases h
    | norm s' =>
      rw [hev] at h
      refine wp_mono (cfC_ok ok hc hen c cfuel ρ _ _ w _ hs hev (by simp)) ?_
      rintro e a' w' ⟨rfl, hb'⟩
      exact fin s' h a' w' hb'
    | ret s' =>
      rw [hev] at h
      refine wp_mono (cfC_ok ok hc hen c cfuel ρ _ _ w _ hs hev (by simp)) ?_
      rintro e a' w' ⟨rfl, hb'⟩
      exact fin s' h a' w' hb'

include fns in
theorem callC_ok {X : XKit E} {kf : CallFn} (hk : CallOk E kf) (hke : Enters E kf) {dq : Nat → Bool} (hq : ∀ g, dq g = true → Idle E.P g) (cfuel : Nat) : ∀ fuel, CallOk E (callC E X kf dq cfuel fuel) ∧ Enters E (callC E X kf dq cfuel fuel) := by
  intro fuel
  induction fuel with
  | zero => exact ⟨fun g xs hp nx y hp' nx' h => (by cases h), fun g xs hp nx r h => (by cases h)⟩
  | succ fuel ih =>
    have eqn : ∀ g xs hp nx, callC E X kf dq cfuel (fuel + 1) g xs hp nx = match kf g xs hp nx with
      | some r => some r
      | none => CFn.rec (motive := fun _ => Option (AV × Hp × Nat)) none (fun n c rs => runC2 E ⟨callC E X kf dq cfuel fuel, dq, X⟩ cfuel n c rs xs hp nx) (cfn E.F g) := fun _ _ _ _ => rfl
    have body : ∀ g xs hp nx r, kf g xs hp nx = none → callC E X kf dq cfuel (fuel + 1) g xs hp nx = some r → ∃ fn c, E.F.get g = some fn ∧ fn.body = some c ∧ runC2 E ⟨callC E X kf dq cfuel fuel, dq, X⟩ cfuel fn.ntmps (cfC fn.ntmps c) fn.results.toList xs hp nx = some r := by
      intro g xs hp nx r hkf h
      rw [eqn, hkf] at h
      simp only at h
      unfold cfn at h
      cases hfn : E.F.get g with
      | none => rw [hfn] at h; cases h
      | some fn =>
        rw [hfn] at h
        simp only at h
        cases hb : fn.body with
        | none => rw [hb] at h; cases h
        | some c =>
          rw [hb] at h
          simp only [forceN_eq] at h
          exact ⟨fn, c, rfl, hb, h⟩
    refine ⟨?_, ?_⟩
    · intro g xs hp nx y hp' nx' h ρ w vs r hv
      cases hkf : kf g xs hp nx with
      | some q =>
        rw [eqn, hkf] at h; cases h
        exact hk g xs hp nx y hp' nx' hkf ρ w vs r hv
      | none =>
        obtain ⟨fn, c, hfn, hb, h⟩ := body g xs hp nx _ hkf h
        exact runC2_ok ok (K := ⟨callC E X kf dq cfuel fuel, dq, X⟩) ih.1 ih.2 hq (ok.fok g fn hfn) hb h r hv
    · intro g xs hp nx q h args w
      cases hkf : kf g xs hp nx with
      | some q' => exact hke g xs hp nx q' hkf args w
      | none =>
        obtain ⟨fn, c, hfn, hb, h⟩ := body g xs hp nx _ hkf h
        have hn := fns.name g fn hfn
        have hn' : ¬ fn.name = "runtime.NumGoroutine" := by intro h1; rw [h1] at hn; cases hn
        simp [callFunc, ok.fok g fn hfn, hn', hb]

end
end Go.Evo
namespace Go.Evo

noncomputable def fN {α : Type} (n : Nat) (k : Nat → α) : α := Nat.rec (motive := fun _ => (Nat → α) → α) (fun k => k 0) (fun m _ k => k (Nat.succ m)) n k
theorem fN_eq {α : Type} (n : Nat) (k : Nat → α) : fN n k = k n := by cases n <;> rfl
noncomputable def fI {α : Type} (n : Int) (k : Int → α) : α := Int.rec (motive := fun _ => (Int → α) → α) (fun m k => fN m fun m => k (Int.ofNat m)) (fun m k => fN m fun m => k (Int.negSucc m)) n k
theorem fI_eq {α : Type} (n : Int) (k : Int → α) : fI n k = k n := by
  cases n with
  | ofNat m => show fN m (fun m => k (Int.ofNat m)) = _; rw [fN_eq]
  | negSucc m => show fN m (fun m => k (Int.negSucc m)) = _; rw [fN_eq]
noncomputable def fB {α : Type} (b : Bool) (k : Bool → α) : α := Bool.rec (motive := fun _ => (Bool → α) → α) (fun k => k false) (fun k => k true) b k
theorem fB_eq {α : Type} (b : Bool) (k : Bool → α) : fB b k = k b := by cases b <;> rfl
noncomputable def f2 {α : Type} (i o : Nat) (k : Nat → Nat → α) : α := fN i fun i => fN o fun o => k i o
noncomputable def f4 {α : Type} (i o n c : Nat) (k : Nat → Nat → Nat → Nat → α) : α := fN i fun i => fN o fun o => fN n fun n => fN c fun c => k i o n c
/-- A value forced to the depth of one list. -/
noncomputable def fA0 {α : Type} (x : AV) (k : AV → α) : α :=
  AV.rec (motive_1 := fun _ => (AV → α) → α) (motive_2 := fun _ => (AV → α) → α)
    (fun b k => fB b fun b => k (.bool b)) (fun j n k => fI n fun n => k (.int j n)) (fun l k => k (.str l)) (fun k => k .pnil) (fun i o k => f2 i o fun i o => k (.ptr i o)) (fun g o k => k (.gptr g o)) (fun k => k .snil)
    (fun i o n c k => f4 i o n c fun i o n c => k (.sl i o n c)) (fun i o n c k => f4 i o n c fun i o n c => k (.slo i o n c)) (fun k => k .mnil) (fun i k => k (.map i)) (fun f cs _ k => k (.fn f cs)) (fun k => k .fnil) (fun k => k .inil) (fun t v _ k => k (.iface t v))
    (fun l _ k => k (.agg l)) (fun l _ k => k (.tup l)) (fun k => k .pnil) (fun _ _ _ _ k => k .pnil) x k
theorem fA0_eq {α : Type} (x : AV) (k : AV → α) : fA0 x k = k x := by
  cases x <;> first
    | rfl
    | (rename_i b; show fB b _ = _; rw [fB_eq]; done)
    | (rename_i j n; show fI n _ = _; rw [fI_eq]; done)
    | (rename_i i o; show f2 i o _ = _; unfold f2; rw [fN_eq, fN_eq]; done)
    | (rename_i i o n c; show f4 i o n c _ = _; unfold f4; rw [fN_eq, fN_eq, fN_eq, fN_eq])
noncomputable def fL {α : Type} (l : List AV) (k : List AV → α) : α := List.rec (motive := fun _ => (List AV → α) → α) (fun k => k []) (fun x _ ih k => fA0 x fun x => ih fun l => k (x :: l)) l k
theorem fL_eq {α : Type} : ∀ (l : List AV) (k : List AV → α), fL l k = k l
  | [], k => rfl
  | x :: l, k => by
    show fA0 x (fun x => fL l fun l => k (x :: l)) = _
    rw [fA0_eq, fL_eq]
noncomputable def forceV {α : Type} (x : AV) (k : AV → α) : α :=
  AV.rec (motive_1 := fun _ => (AV → α) → α) (motive_2 := fun _ => (AV → α) → α)
    (fun b k => fB b fun b => k (.bool b)) (fun j n k => fI n fun n => k (.int j n)) (fun l k => k (.str l)) (fun k => k .pnil) (fun i o k => f2 i o fun i o => k (.ptr i o)) (fun g o k => k (.gptr g o)) (fun k => k .snil)
    (fun i o n c k => f4 i o n c fun i o n c => k (.sl i o n c)) (fun i o n c k => f4 i o n c fun i o n c => k (.slo i o n c)) (fun k => k .mnil) (fun i k => k (.map i)) (fun f cs _ k => k (.fn f cs)) (fun k => k .fnil) (fun k => k .inil) (fun t v _ k => k (.iface t v))
    (fun l _ k => fL l fun l => k (.agg l)) (fun l _ k => fL l fun l => k (.tup l)) (fun k => k .pnil) (fun _ _ _ _ k => k .pnil) x k
theorem forceV_eq {α : Type} (x : AV) (k : AV → α) : forceV x k = k x := by
  cases x <;> first
    | rfl
    | (rename_i b; show fB b _ = _; rw [fB_eq]; done)
    | (rename_i j n; show fI n _ = _; rw [fI_eq]; done)
    | (rename_i i o; show f2 i o _ = _; unfold f2; rw [fN_eq, fN_eq]; done)
    | (rename_i i o n c; show f4 i o n c _ = _; unfold f4; rw [fN_eq, fN_eq, fN_eq, fN_eq]; done)
    | (rename_i l; show fL l _ = _; rw [fL_eq])

abbrev IF := IntKind → Int → Ev
noncomputable def intC (x : AV) (f : IntKind → Int → Ev) (d : Ev) : Ev :=
  AV.rec (motive_1 := fun _ => IF → Ev → Ev) (motive_2 := fun _ => IF → Ev → Ev) (fun _ _ d => d) (fun k n f _ => f k n) (fun _ _ d => d) (fun _ d => d) (fun _ _ _ d => d) (fun _ _ _ d => d) (fun _ d => d) (fun _ _ _ _ _ d => d) (fun _ _ _ _ _ d => d) (fun _ d => d) (fun _ _ d => d) (fun _ _ _ _ d => d) (fun _ d => d) (fun _ d => d) (fun _ _ _ _ d => d) (fun _ _ _ d => d) (fun _ _ _ d => d) (fun _ d => d) (fun _ _ _ _ _ d => d) x f d
noncomputable def boolC (x : AV) (f : Bool → Ev) (g d : Ev) : Ev :=
  AV.rec (motive_1 := fun _ => (Bool → Ev) → Ev → Ev → Ev) (motive_2 := fun _ => (Bool → Ev) → Ev → Ev → Ev) (fun b f _ _ => f b) (fun _ _ _ _ d => d) (fun _ _ _ d => d) (fun _ _ d => d) (fun _ _ _ _ d => d) (fun _ _ _ _ d => d) (fun _ _ d => d) (fun _ _ _ _ _ _ d => d) (fun _ _ _ _ _ _ d => d) (fun _ _ d => d) (fun _ _ _ d => d) (fun _ _ _ _ _ d => d) (fun _ _ d => d) (fun _ _ d => d) (fun _ _ _ _ _ d => d) (fun _ _ _ _ d => d) (fun _ _ _ g _ => g) (fun _ _ d => d) (fun _ _ _ _ _ _ d => d) x f g d
abbrev S4 := Nat → Nat → Nat → Nat → Ev
noncomputable def slC (x : AV) (f g : Nat → Nat → Nat → Nat → Ev) (d : Ev) : Ev :=
  AV.rec (motive_1 := fun _ => S4 → S4 → Ev → Ev) (motive_2 := fun _ => S4 → S4 → Ev → Ev) (fun _ _ _ d => d) (fun _ _ _ _ d => d) (fun _ _ _ d => d) (fun _ _ d => d) (fun _ _ _ _ d => d) (fun _ _ _ _ d => d) (fun _ _ d => d) (fun i o n c f _ _ => f i o n c) (fun i o n c _ g _ => g i o n c) (fun _ _ d => d) (fun _ _ _ d => d) (fun _ _ _ _ _ d => d) (fun _ _ d => d) (fun _ _ d => d) (fun _ _ _ _ _ d => d) (fun _ _ _ _ d => d) (fun _ _ _ _ d => d) (fun _ _ d => d) (fun _ _ _ _ _ _ d => d) x f g d
noncomputable def ptrC (x : AV) (f : Nat → Nat → Ev) (d : Ev) : Ev :=
  AV.rec (motive_1 := fun _ => (Nat → Nat → Ev) → Ev → Ev) (motive_2 := fun _ => (Nat → Nat → Ev) → Ev → Ev) (fun _ _ d => d) (fun _ _ _ d => d) (fun _ _ d => d) (fun _ d => d) (fun i o f _ => f i o) (fun _ _ _ d => d) (fun _ d => d) (fun _ _ _ _ _ d => d) (fun _ _ _ _ _ d => d) (fun _ d => d) (fun _ _ d => d) (fun _ _ _ _ d => d) (fun _ d => d) (fun _ d => d) (fun _ _ _ _ d => d) (fun _ _ _ d => d) (fun _ _ _ d => d) (fun _ d => d) (fun _ _ _ _ _ d => d) x f d

/-- Tries along a path that is known once. -/
inductive TG where
  | mk (f : Tr AV → (AV → Ev) → Ev)
noncomputable def TG.app (c : TG) : Tr AV → (AV → Ev) → Ev := TG.rec (motive := fun _ => Tr AV → (AV → Ev) → Ev) (fun f => f) c
noncomputable def tg : List Q4 → TG
  | [] => .mk (fun t k => Tr.rec (motive := fun _ => (AV → Ev) → Ev) (fun _ => .fail) (fun v _ _ _ _ _ _ _ _ k => Option.rec (motive := fun _ => Ev) .fail k v) t k)
  | q :: p => TG.rec (motive := fun _ => TG) (fun g => Q4.rec (motive := fun _ => TG)
      (.mk (fun t k => Tr.rec (motive := fun _ => (AV → Ev) → Ev) (fun _ => .fail) (fun _ a _ _ _ _ _ _ _ k => g a k) t k))
      (.mk (fun t k => Tr.rec (motive := fun _ => (AV → Ev) → Ev) (fun _ => .fail) (fun _ _ b _ _ _ _ _ _ k => g b k) t k))
      (.mk (fun t k => Tr.rec (motive := fun _ => (AV → Ev) → Ev) (fun _ => .fail) (fun _ _ _ c _ _ _ _ _ k => g c k) t k))
      (.mk (fun t k => Tr.rec (motive := fun _ => (AV → Ev) → Ev) (fun _ => .fail) (fun _ _ _ _ d _ _ _ _ k => g d k) t k)) q) (tg p)
theorem tg_ok : ∀ (p : List Q4) (t : Tr AV) (k : AV → Ev), (tg p).app t k = match Tr.getP p t with
    | none => .fail
    | some v => k v
  | [], t, k => by
    cases t with
    | nil => rfl
    | node v a b c d => cases v <;> rfl
  | q :: p, t, k => by
    have ih := tg_ok p
    have he : tg (q :: p) = TG.rec (motive := fun _ => TG) (fun g => Q4.rec (motive := fun _ => TG)
      (.mk (fun t k => Tr.rec (motive := fun _ => (AV → Ev) → Ev) (fun _ => .fail) (fun _ a _ _ _ _ _ _ _ k => g a k) t k))
      (.mk (fun t k => Tr.rec (motive := fun _ => (AV → Ev) → Ev) (fun _ => .fail) (fun _ _ b _ _ _ _ _ _ k => g b k) t k))
      (.mk (fun t k => Tr.rec (motive := fun _ => (AV → Ev) → Ev) (fun _ => .fail) (fun _ _ _ c _ _ _ _ _ k => g c k) t k))
      (.mk (fun t k => Tr.rec (motive := fun _ => (AV → Ev) → Ev) (fun _ => .fail) (fun _ _ _ _ d _ _ _ _ k => g d k) t k)) q) (tg p) := rfl
    rw [he]
    cases hg : tg p with
    | mk g =>
      rw [hg] at ih
      have ih' : ∀ t k, g t k = match Tr.getP p t with
        | none => .fail
        | some v => k v := ih
      cases t with
      | nil => cases q <;> rfl
      | node v a b c d => cases q <;> exact ih' _ k

/-- Putting into a trie along a path that is known once. -/
inductive TS where
  | mk (f : Option AV → Tr AV → (Tr AV → Ev) → Ev)
noncomputable def TS.app (c : TS) : Option AV → Tr AV → (Tr AV → Ev) → Ev := TS.rec (motive := fun _ => Option AV → Tr AV → (Tr AV → Ev) → Ev) (fun f => f) c
noncomputable def ts : List Q4 → TS
  | [] => .mk (fun x t k => Tr.rec (motive := fun _ => Option AV → (Tr AV → Ev) → Ev) (fun x k => k (.node x .nil .nil .nil .nil)) (fun _ a b c d _ _ _ _ x k => k (.node x a b c d)) t x k)
  | q :: p => TS.rec (motive := fun _ => TS) (fun g => Q4.rec (motive := fun _ => TS)
      (.mk (fun x t k => Tr.rec (motive := fun _ => Option AV → (Tr AV → Ev) → Ev) (fun x k => g x .nil fun a => k (.node none a .nil .nil .nil)) (fun v a b c d _ _ _ _ x k => g x a fun a => k (.node v a b c d)) t x k))
      (.mk (fun x t k => Tr.rec (motive := fun _ => Option AV → (Tr AV → Ev) → Ev) (fun x k => g x .nil fun b => k (.node none .nil b .nil .nil)) (fun v a b c d _ _ _ _ x k => g x b fun b => k (.node v a b c d)) t x k))
      (.mk (fun x t k => Tr.rec (motive := fun _ => Option AV → (Tr AV → Ev) → Ev) (fun x k => g x .nil fun c => k (.node none .nil .nil c .nil)) (fun v a b c d _ _ _ _ x k => g x c fun c => k (.node v a b c d)) t x k))
      (.mk (fun x t k => Tr.rec (motive := fun _ => Option AV → (Tr AV → Ev) → Ev) (fun x k => g x .nil fun d => k (.node none .nil .nil .nil d)) (fun v a b c d _ _ _ _ x k => g x d fun d => k (.node v a b c d)) t x k)) q) (ts p)
theorem ts_ok : ∀ (p : List Q4) (x : Option AV) (t : Tr AV) (k : Tr AV → Ev), (ts p).app x t k = k (Tr.setP x p t)
  | [], x, t, k => by cases t <;> rfl
  | q :: p, x, t, k => by
    have ih := ts_ok p
    have he : ts (q :: p) = TS.rec (motive := fun _ => TS) (fun g => Q4.rec (motive := fun _ => TS)
      (.mk (fun x t k => Tr.rec (motive := fun _ => Option AV → (Tr AV → Ev) → Ev) (fun x k => g x .nil fun a => k (.node none a .nil .nil .nil)) (fun v a b c d _ _ _ _ x k => g x a fun a => k (.node v a b c d)) t x k))
      (.mk (fun x t k => Tr.rec (motive := fun _ => Option AV → (Tr AV → Ev) → Ev) (fun x k => g x .nil fun b => k (.node none .nil b .nil .nil)) (fun v a b c d _ _ _ _ x k => g x b fun b => k (.node v a b c d)) t x k))
      (.mk (fun x t k => Tr.rec (motive := fun _ => Option AV → (Tr AV → Ev) → Ev) (fun x k => g x .nil fun c => k (.node none .nil .nil c .nil)) (fun v a b c d _ _ _ _ x k => g x c fun c => k (.node v a b c d)) t x k))
      (.mk (fun x t k => Tr.rec (motive := fun _ => Option AV → (Tr AV → Ev) → Ev) (fun x k => g x .nil fun d => k (.node none .nil .nil .nil d)) (fun v a b c d _ _ _ _ x k => g x d fun d => k (.node v a b c d)) t x k)) q) (ts p) := rfl
    rw [he]
    cases hg : ts p with
    | mk g =>
      rw [hg] at ih
      have ih' : ∀ x t k, g x t k = k (Tr.setP x p t) := ih
      cases t with
      | nil =>
        rw [Tr.setP_cons_nil]
        cases q <;> exact ih' x .nil _
      | node v a b c d =>
        rw [Tr.setP_cons_node]
        cases q
        · exact ih' x a _
        · exact ih' x b _
        · exact ih' x c _
        · exact ih' x d _

/-- A look into a trie. -/
noncomputable def getQ {α : Type} (p : List Q4) (t : Tr α) : Option α :=
  List.rec (motive := fun _ => Tr α → Option α) (fun t => Tr.rec (motive := fun _ => Option α) none (fun v _ _ _ _ _ _ _ _ => v) t)
    (fun q _ ih t => Tr.rec (motive := fun _ => Q4 → (Tr α → Option α) → Option α) (fun _ _ => none) (fun _ a b c d _ _ _ _ q ih => ih (Q4.rec (motive := fun _ => Tr α) a b c d q)) t q ih) p t
theorem getQ_eq {α : Type} : ∀ (p : List Q4) (t : Tr α), getQ p t = Tr.getP p t
  | [], t => rfl
  | q :: p, t => by
    cases t with
    | nil => rfl
    | node v a b c d => exact getQ_eq p _
end Go.Evo
