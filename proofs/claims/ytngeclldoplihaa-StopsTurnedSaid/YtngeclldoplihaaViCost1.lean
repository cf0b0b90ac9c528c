/- Layers 17 and 18: small functions, as equations. -/
import Derived.Test.YtngeclldoplihaaViTypes
set_option maxRecDepth 100000
set_option linter.unusedVariables false
set_option linter.unusedSimpArgs false
namespace Go.Vi
open Go.Proofs
theorem E0det : E0.Det := env_det prims E0p
section
variable {bx : List Box} {tk : List (Nat × Nat)} {lo tlo : Nat} {R : Res}
/-- A number in a cell. -/
abbrev I (n : Int) : V := .int .i64 n
def far (a b : Int) : Int := if W (b - a) > W (a - b) then W (b - a) else W (a - b)
theorem far_ok (a b : Int) : callsV E0 60 [I a, I b] bx tk lo tlo R = R (I (far a b)) bx tk := by
  refine calls_iff E0good E0det ?_ R
  refine callsT_pure (g := Try.f60) (n := 12) (rs := [.tmp 4]) 5 [(0, I a), (1, I b)] rfl Try.func60 rfl (by kernel_rfl) rfl rfl (by simp) (by simp) rfl md60 rg60 ?_
  simp (config := { implicitDefEqProofs := false, contextual := true, maxSteps := 1000000 }) only [go_sem, Nat.reduceAdd, Nat.reduceMul, Nat.reduceLeDiff, Nat.reduceEqDiff, Nat.reduceLT, Nat.reduceBEq]
  simp [far]
def wild (n : Int) : Bool := ltI n (-1000) || ltI 1000 n
theorem wild_ok (n : Int) : callsV E0 16 [I n] bx tk lo tlo R = R (.bool (wild n)) bx tk := by
  refine calls_iff E0good E0det ?_ R
  refine callsT_pure (g := Try.f16) (n := 9) (rs := [.tmp 2]) 3 [(0, I n)] rfl Try.func16 rfl (by kernel_rfl) rfl rfl (by simp) (by simp) rfl md16 rg16 ?_
  simp (config := { implicitDefEqProofs := false, contextual := true, maxSteps := 1000000 }) only [go_sem, Nat.reduceAdd, Nat.reduceMul, Nat.reduceLeDiff, Nat.reduceEqDiff, Nat.reduceLT, Nat.reduceBEq]
  simp_all [wild]
def goal (x : Call) : Int := if eqI x.Kind 3 || eqI x.State 3 then x.To else x.From
theorem goal_ok (x : Call) : callsV E0 62 [.agg x.cells] bx tk lo tlo R = R (I (goal x)) bx tk := by
  refine calls_iff E0good E0det ?_ R
  refine callsT_pure (g := Try.f62) (n := 15) (rs := [.tmp 2]) 3 [(0, .agg x.cells)] rfl Try.func62 rfl (by kernel_rfl) rfl rfl (by simp) (by simp) rfl md62 rg62 ?_
  simp (config := { implicitDefEqProofs := false, contextual := true, maxSteps := 1000000 }) only [go_sem, Nat.reduceAdd, Nat.reduceMul, Nat.reduceLeDiff, Nat.reduceEqDiff, Nat.reduceLT, Nat.reduceBEq, Call.cells_eq]
  simp_all [goal]
theorem isNaN_ok (n : Int) : callsV E0 124 [I n] bx tk lo tlo R = R (.bool false) bx tk := by
  refine calls_iff E0good E0det ?_ R
  refine callsT_pure (g := Try.f124) (n := 6) (rs := [.tmp 2]) 3 [(0, I n)] rfl Try.func124 rfl (by kernel_rfl) rfl rfl (by simp) (by simp) rfl md124 rg124 ?_
  simp (config := { implicitDefEqProofs := false, contextual := true, maxSteps := 1000000 }) only [go_sem, Nat.reduceAdd, Nat.reduceMul, Nat.reduceLeDiff, Nat.reduceEqDiff, Nat.reduceLT, Nat.reduceBEq]
  simp [eqI]
end
end Go.Vi
