/- The reckoning of the law's own body, its step's strings left open. Conditions: none. -/
import Derived.Test.YtffdkcadpkfhoaaGreatDoorSa
import Derived.KernelRfl
namespace Go.Proofs.YtffdkcadpkfhoaaGreatDoor
open Go.Evo
noncomputable def stepA (op prec : Int) (a b c : List Nat) : AV := .agg [.int .i64 op, .str a, .str b, .str c, .int .i64 prec]
noncomputable def codeOf (f : Func) : Code := match f.body with
  | some c => c
  | none => .skip
noncomputable def sqL : Code → Code
  | .seq a _ => a
  | c => c
noncomputable def sqR : Code → Code
  | .seq _ b => b
  | c => c
noncomputable def opsOf' : Code → Array Oper
  | .region _ ops _ => ops
  | _ => #[]
noncomputable def idOf : Code → Nat
  | .region id _ _ => id
  | _ => 0
noncomputable def normS : Ev → St
  | .norm s => s
  | .ret s => s
  | _ => ⟨.nil, .nil, 0, []⟩
noncomputable def someS : Option St → St
  | some s => s
  | none => ⟨.nil, .nil, 0, []⟩
noncomputable def c3 : Code := codeOf Tryz.f3
noncomputable def n3 : Nat := 112
noncomputable def V3 : Nat := 2 ^ 112 - 1
noncomputable def r0 : Code := sqL c3
noncomputable def r1 : Code := sqL (sqL (sqR c3))
noncomputable def cnd : Code := sqR (sqL (sqR c3))
noncomputable def rest : Code := sqR (sqR c3)
noncomputable def ops1 : Array Oper := opsOf' r1
theorem c3_eq : c3 = .seq r0 (.seq (.seq (.region (idOf r1) ops1 false) cnd) rest) := by kernel_rfl
noncomputable def kf5 : CallFn := kfOf [(5, [], .bool true)]
noncomputable def K5 : Kit E0 := ⟨callV E0 X0 kf5 dq0 1000 9, dq0, X0⟩
section
variable (op prec : Int) (a b c : List Nat)
noncomputable def s0 : St := ⟨argsV V3 [stepA op prec a b c] 0 .nil, .nil, 0, []⟩
noncomputable def s1 : St := normS ((cfW E0 n3 V3 r0).app E0 K5 1000 (s0 op prec a b c))
theorem e1 : (cfW E0 n3 V3 r0).app E0 K5 1000 (s0 op prec a b c) = .norm (s1 op prec a b c) := by kernel_rfl
noncomputable def oAt (i : Nat) : Oper := match ops1.toList[i]? with
  | some o => o
  | none => default
theorem ops1_eq : ops1 = #[oAt 0, oAt 1, oAt 2, oAt 3, oAt 4, oAt 5] := by kernel_rfl
noncomputable def s2 : St := normS ((regR n3 V3 ops1 [oAt 0] []).app E0 K5 [] (s1 op prec a b c).tm (s1 op prec a b c).hp (s1 op prec a b c).nx (s1 op prec a b c).df)
theorem e2 : (regR n3 V3 ops1 [oAt 0] []).app E0 K5 [] (s1 op prec a b c).tm (s1 op prec a b c).hp (s1 op prec a b c).nx (s1 op prec a b c).df = .norm (s2 op prec a b c) := by kernel_rfl
theorem call4 : callee (s2 op prec a b c).tm (oAt 1) = some (4, [stepA op prec a b c]) := by kernel_rfl
noncomputable def s2' (t : Bool) : St := ⟨(s2 op prec a b c).tm.set 14 (.bool t), (s2 op prec a b c).hp, (s2 op prec a b c).nx, (s2 op prec a b c).df⟩
theorem put14 (t : Bool) : putT n3 (s2 op prec a b c).tm (oAt 1).dst (.bool t) = some (s2' op prec a b c t).tm := by kernel_rfl
noncomputable def s3 (t : Bool) : St := normS ((regR n3 V3 ops1 [oAt 2, oAt 3, oAt 4, oAt 5] []).app E0 K5 [] (s2' op prec a b c t).tm (s2' op prec a b c t).hp (s2' op prec a b c t).nx (s2' op prec a b c t).df)
theorem e3t : (regR n3 V3 ops1 [oAt 2, oAt 3, oAt 4, oAt 5] []).app E0 K5 [] (s2' op prec a b c true).tm (s2' op prec a b c true).hp (s2' op prec a b c true).nx (s2' op prec a b c true).df = .norm (s3 op prec a b c true) := by kernel_rfl
theorem e3f : (regR n3 V3 ops1 [oAt 2, oAt 3, oAt 4, oAt 5] []).app E0 K5 [] (s2' op prec a b c false).tm (s2' op prec a b c false).hp (s2' op prec a b c false).nx (s2' op prec a b c false).df = .norm (s3 op prec a b c false) := by kernel_rfl
theorem gd01 : (oAt 0).guard = none ∧ (oAt 1).guard = none := ⟨by kernel_rfl, by kernel_rfl⟩
noncomputable def sT : St := normS ((cfW E0 n3 V3 cnd).app E0 K5 1000 (s3 op prec a b c true))
theorem eT : (cfW E0 n3 V3 cnd).app E0 K5 1000 (s3 op prec a b c true) = .ret (sT op prec a b c) := by kernel_rfl
noncomputable def sF : St := normS ((cfW E0 n3 V3 cnd).app E0 K5 1000 (s3 op prec a b c false))
theorem eF : (cfW E0 n3 V3 cnd).app E0 K5 1000 (s3 op prec a b c false) = .norm (sF op prec a b c) := by kernel_rfl
noncomputable def sR : St := normS ((cfW E0 n3 V3 rest).app E0 K5 1000 (sF op prec a b c))
theorem eR : (cfW E0 n3 V3 rest).app E0 K5 1000 (sF op prec a b c) = .ret (sR op prec a b c) := by kernel_rfl
noncomputable def tru (r : Option (AV × Hp × Nat)) : Bool := match r with
  | some (z, _, _) => aeq z (.bool true)
  | none => false
theorem endT : tru (endC E0 dq0 Tryz.f3.results.toList (sT op prec a b c)) = true := by kernel_rfl
theorem endR : tru (endC E0 dq0 Tryz.f3.results.toList (sR op prec a b c)) = true := by kernel_rfl
end
theorem tru_spec {r : Option (AV × Hp × Nat)} (h : tru r = true) : ∃ hp nx, r = some (.bool true, hp, nx) := by
  unfold tru at h
  split at h
  · rename_i z hp nx
    have := aeq_ok h
    subst this
    exact ⟨hp, nx, rfl⟩
  · cases h
end Go.Proofs.YtffdkcadpkfhoaaGreatDoor
