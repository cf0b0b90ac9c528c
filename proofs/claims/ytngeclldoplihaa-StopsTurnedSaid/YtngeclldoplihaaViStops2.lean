/- Layer 17: where a car stops and turns. -/
import Derived.Test.YtngeclldoplihaaViStops1
import Derived.Test.YtngeclldoplihaaViCost3
set_option maxRecDepth 100000
set_option linter.unusedVariables false
set_option linter.unusedSimpArgs false
namespace Go.Vi
open Go.Proofs
section
variable {bx : List Box} {tk : List (Nat × Nat)} {lo tlo : Nat} {R : Res}
def nstep (x : Car) (s : Int × Int) (n : Int) : Int × Int := if ltI 0 (far n x.Floor) && (eqI s.2 0 || leI (far n x.Floor) s.1) then (far n x.Floor, if ltI x.Floor n then 1 else -1) else s
def nearest (x : Car) (l : List Int) : Int := (l.foldl (nstep x) (0, 0)).2
def NearS (v : V) (x : Car) (l : List Int) (bx : List Box) (tk : List (Nat × Nat)) (i : Nat) (s : St) : Prop :=
  ∃ us ws : List (Nat × V), (look us 2 = .loc x.cells ∧ look us 5 = I ((l.take i).foldl (nstep x) (0, 0)).1 ∧ look us 6 = I ((l.take i).foldl (nstep x) (0, 0)).2 ∧ look ws 10 = v ∧ look ws 11 = I l.length ∧ look ws 12 = I i) ∧ s = ⟨tab2 43 10 us ws, bx, tk⟩
theorem nearest_ok {x : Car} {v : V} {l : List Int} (hv : IsL encI 1 v l) : callsV E0 70 [.agg x.cells, v] bx tk lo tlo R = R (I (nearest x l)) bx tk := by
  refine calls_iff E0good E0det ?_ R
  refine callsT_pure (g := Try.f70) (n := 43) (rs := [.tmp 4]) 10 [(0, .agg x.cells), (1, v)] rfl Try.func70 rfl (by kernel_rfl) rfl rfl (by simp) (by simp) rfl md70 rg70 ?_
  simp (config := { implicitDefEqProofs := false, contextual := true, maxSteps := 1000000 }) only [go_sem, Nat.reduceAdd, Nat.reduceMul, Nat.reduceLeDiff, Nat.reduceEqDiff, Nat.reduceLT, Nat.reduceBEq, hv.copy, hv.lenV, hv.lenK, hv.lk, hv.clear]
  refine wpv_for E0good l.length (NearS v x l bx tk) ?_ ?_ ?_
  · exact ⟨_, _, ⟨by simp [look, enumU], by simp [look, enumU], by simp [look, enumU], by simp [look, enumU], by simp [look, enumU], by simp [look, enumU]⟩, rfl⟩
  · intro i hi s hs
    obtain ⟨us, ws, ⟨s2, s5, s6, s10, s11, s12⟩, rfl⟩ := hs
    simp (config := { implicitDefEqProofs := false, contextual := true, maxSteps := 1000000 }) only [go_sem, Nat.reduceAdd, Nat.reduceMul, Nat.reduceLeDiff, Nat.reduceEqDiff, Nat.reduceLT, Nat.reduceBEq, s2, s5, s6, s10, s11, s12, hv.copy, hv.lk, hv.elem (by decide) hi, lt_cast hi, wrap_succ hi hv.len, asNat_cast, ← far.eq_1]
    repeat' (first | intro _ | refine And.intro ?_ ?_)
    all_goals (unfold NearS; rw [take_fold _ _ _ hi]; simp only [nstep, *, Bool.not_true, Bool.not_false, Bool.true_or, Bool.or_true, Bool.or_false, Bool.false_or, Bool.true_and, Bool.and_true, Bool.and_false, Bool.false_and, if_true, if_false, Bool.false_eq_true]; exact ⟨_, _, ⟨by simp [look, s2, s5, s6, s10, s11, s12], by simp [look, s2, s5, s6, s10, s11, s12], by simp [look, s2, s5, s6, s10, s11, s12], by simp [look, s2, s5, s6, s10, s11, s12], by simp [look, s2, s5, s6, s10, s11, s12], by simp [look, s2, s5, s6, s10, s11, s12]⟩, rfl⟩)
  · intro s hs
    obtain ⟨us, ws, ⟨s2, s5, s6, s10, s11, s12⟩, rfl⟩ := hs
    simp (config := { implicitDefEqProofs := false, contextual := true, maxSteps := 1000000 }) only [go_sem, Nat.reduceAdd, Nat.reduceMul, Nat.reduceLeDiff, Nat.reduceEqDiff, Nat.reduceLT, Nat.reduceBEq, s2, s5, s6, s10, s11, s12, lt_self]
    simp [nearest]
theorem else1_ok {x : Car} {n : Int} {rx : Nat} (h : bx[rx]? = some (.rows 5 [x.cells])) : callsV E0 106 [I n, .ptr rx 0 0] bx tk lo tlo R = R (.bool (!eqI n x.Floor)) bx tk := by
  refine calls_iff E0good E0det ?_ R
  refine callsT_pure (g := Try.f106) (n := 8) (rs := [.tmp 3]) 4 [(0, I n), (1, .ptr rx 0 0)] rfl Try.func106 rfl (by kernel_rfl) rfl rfl (by simp) (by simp) rfl md106 rg106 ?_
  simp (config := { implicitDefEqProofs := false, contextual := true, maxSteps := 1000000 }) only [go_sem, Nat.reduceAdd, Nat.reduceMul, Nat.reduceLeDiff, Nat.reduceEqDiff, Nat.reduceLT, Nat.reduceBEq, h]
def isElse (x : Car) (l : List Int) : Bool := l.any fun n => !eqI n x.Floor
theorem else_ok {x : Car} {v : V} {l : List Int} (hv : IsL encI 1 v l) : callsV E0 71 [.agg x.cells, v] bx tk lo tlo R = R (.bool (isElse x l)) bx tk := by
  refine calls_iff E0good E0det ?_ R
  refine callsT_pure (g := Try.f71) (n := 8) (rs := [.tmp 4]) 5 [(0, .agg x.cells), (1, v)] rfl Try.func71 rfl (by kernel_rfl) rfl rfl (by simp) (by simp) rfl md71 rg71 ?_
  simp (config := { implicitDefEqProofs := false, contextual := true, maxSteps := 1000000 }) only [go_sem, Nat.reduceAdd, Nat.reduceMul, Nat.reduceLeDiff, Nat.reduceEqDiff, Nat.reduceLT, Nat.reduceBEq, hv.copy, hv.lk]
  unfold wcall
  rw [contains_ok (p := fun n => !eqI n x.Floor) hv (fun n lo tlo R => else1_ok (by simp))]
  simp (config := { implicitDefEqProofs := false, contextual := true, maxSteps := 1000000 }) only [go_sem, Nat.reduceAdd, Nat.reduceMul, Nat.reduceLeDiff, Nat.reduceEqDiff, Nat.reduceLT, Nat.reduceBEq, isElse]
def answers (x : Car) (l : List Call) (n : Int) (c : Call) : Bool :=
  if !mine n c || !eqI (goal c) x.Floor then false else if eqI c.State 3 || eqI c.Kind 3 || eqI x.Dir 0 then true else eqI (dirC c) x.Dir || !ahead x (goals l n) x.Dir
theorem answers_ok {x : Car} {v : V} {l : List Call} {n : Int} {c : Call} (hv : IsL Call.cells 8 v l) (hlen : l.length ≤ 70) : callsV E0 76 [.agg x.cells, v, I n, .agg c.cells] bx tk lo tlo R = R (.bool (answers x l n c)) bx tk := by
  refine calls_iff E0good E0det ?_ R
  have hg : IsL encI 1 (mkL 1 ((goals l n).map encI)) (goals l n) := IsL.made (by have := goals_len l n; omega)
  refine callsT_pure (g := Try.f76) (n := 48) (rs := [.tmp 8]) 9 [(0, .agg x.cells), (1, v), (2, I n), (3, .agg c.cells)] rfl Try.func76 rfl (by kernel_rfl) rfl rfl (by simp) (by simp) rfl md76 rg76 ?_
  simp (config := { implicitDefEqProofs := false, contextual := true, maxSteps := 1000000 }) only [go_sem, Nat.reduceAdd, Nat.reduceMul, Nat.reduceLeDiff, Nat.reduceEqDiff, Nat.reduceLT, Nat.reduceBEq, hv.copy, hv.lk, hv.clear, ↓mine_ok, ↓goal_ok, ↓dir_ok, ↓goals_ok hv hlen, ↓ahead_ok hg, List.length_map]
  simp_all [answers]
theorem answered1_ok {x : Car} {v : V} {l : List Call} {n : Int} {c : Call} {r1 r2 r3 : Nat} (hv : IsL Call.cells 8 v l) (hlen : l.length ≤ 70) (h1 : bx[r1]? = some (.rows 5 [x.cells])) (h2 : bx[r2]? = some (.rows 1 [[v]])) (h3 : bx[r3]? = some (.rows 1 [[I n]])) :
    callsV E0 75 [.agg c.cells, .ptr r1 0 0, .ptr r2 0 0, .ptr r3 0 0] bx tk lo tlo R = R (.bool (answers x l n c)) bx tk := by
  refine calls_iff E0good E0det ?_ R
  refine callsT_pure (g := Try.f75) (n := 11) (rs := [.tmp 5]) 6 [(0, .agg c.cells), (1, .ptr r1 0 0), (2, .ptr r2 0 0), (3, .ptr r3 0 0)] rfl Try.func75 rfl (by kernel_rfl) rfl rfl (by simp) (by simp) rfl md75 rg75 ?_
  simp (config := { implicitDefEqProofs := false, contextual := true, maxSteps := 1000000 }) only [go_sem, Nat.reduceAdd, Nat.reduceMul, Nat.reduceLeDiff, Nat.reduceEqDiff, Nat.reduceLT, Nat.reduceBEq, h1, h2, h3, hv.copy, hv.lk, ↓answers_ok hv hlen]
def answered (x : Car) (l : List Call) (n : Int) : List Call := l.filter (answers x l n)
theorem answered_ok {x : Car} {v : V} {l : List Call} {n : Int} (hv : IsL Call.cells 8 v l) (hlen : l.length ≤ 70) : callsV E0 28 [.agg x.cells, v, I n] bx tk lo tlo R = R (mkL 8 ((answered x l n).map Call.cells)) bx tk := by
  refine calls_iff E0good E0det ?_ R
  refine callsT_pure (g := Try.f28) (n := 10) (rs := [.tmp 6]) 7 [(0, .agg x.cells), (1, v), (2, I n)] rfl Try.func28 rfl (by kernel_rfl) rfl rfl (by simp) (by simp) rfl md28 rg28 ?_
  simp (config := { implicitDefEqProofs := false, contextual := true, maxSteps := 1000000 }) only [go_sem, Nat.reduceAdd, Nat.reduceMul, Nat.reduceLeDiff, Nat.reduceEqDiff, Nat.reduceLT, Nat.reduceBEq, hv.copy, hv.lk, hv.cells]
  unfold wcall
  rw [pick_ok (p := answers x l n) hv hlen (by intros; refine answered1_ok hv hlen ?_ ?_ ?_; exact get_box0.trans rfl; exact get_boxk.trans rfl; exact get_boxk.trans rfl)]
  simp (config := { implicitDefEqProofs := false, contextual := true, maxSteps := 1000000 }) only [go_sem, Nat.reduceAdd, Nat.reduceMul, Nat.reduceLeDiff, Nat.reduceEqDiff, Nat.reduceLT, Nat.reduceBEq, answered]
def stop (x : Car) (l : List Call) (n : Int) : Bool := ltI 0 (answered x l n).length && (x.Moved || !isElse x (goals l n))
theorem stop_ok {x : Car} {v : V} {l : List Call} {n : Int} (hv : IsL Call.cells 8 v l) (hlen : l.length ≤ 70) : callsV E0 26 [.agg x.cells, v, I n] bx tk lo tlo R = R (.bool (stop x l n)) bx tk := by
  refine calls_iff E0good E0det ?_ R
  have hg : IsL encI 1 (mkL 1 ((goals l n).map encI)) (goals l n) := IsL.made (by have := goals_len l n; omega)
  refine callsT_pure (g := Try.f26) (n := 25) (rs := [.tmp 6]) 7 [(0, .agg x.cells), (1, v), (2, I n)] rfl Try.func26 rfl (by kernel_rfl) rfl rfl (by simp) (by simp) rfl md26 rg26 ?_
  simp (config := { implicitDefEqProofs := false, contextual := true, maxSteps := 1000000 }) only [go_sem, Nat.reduceAdd, Nat.reduceMul, Nat.reduceLeDiff, Nat.reduceEqDiff, Nat.reduceLT, Nat.reduceBEq, hv.copy, hv.lk, hv.clear, ↓answered_ok hv hlen, ↓goals_ok hv hlen, ↓else_ok hg, List.length_map]
  simp_all [stop]
def turnTo (x : Car) (l : List Call) (n : Int) : Int :=
  if eqI x.Dir 0 then nearest x (goals l n) else if ahead x (goals l n) x.Dir then x.Dir else if ahead x (goals l n) (W (-x.Dir)) then W (-x.Dir) else 0
theorem turn_ok {x : Car} {v : V} {l : List Call} {n : Int} (hv : IsL Call.cells 8 v l) (hlen : l.length ≤ 70) : callsV E0 25 [.agg x.cells, v, I n] bx tk lo tlo R = R (I (turnTo x l n)) bx tk := by
  refine calls_iff E0good E0det ?_ R
  have hg : IsL encI 1 (mkL 1 ((goals l n).map encI)) (goals l n) := IsL.made (by have := goals_len l n; omega)
  refine callsT_pure (g := Try.f25) (n := 36) (rs := [.tmp 6]) 27 [(0, .agg x.cells), (1, v), (2, I n)] rfl Try.func25 rfl (by kernel_rfl) rfl rfl (by simp) (by simp) rfl md25 rg25 ?_
  simp (config := { implicitDefEqProofs := false, contextual := true, maxSteps := 1000000 }) only [go_sem, Nat.reduceAdd, Nat.reduceMul, Nat.reduceLeDiff, Nat.reduceEqDiff, Nat.reduceLT, Nat.reduceBEq, hv.copy, hv.lk, hv.clear, ↓goals_ok hv hlen, ↓nearest_ok hg, ↓ahead_ok hg, List.length_map]
  simp_all [turnTo]
end
end Go.Vi
