/- Layer 18: how far a car goes. -/
import Derived.Test.YtngeclldoplihaaViCost2
set_option maxRecDepth 100000
set_option linter.unusedVariables false
set_option linter.unusedSimpArgs false
namespace Go.Vi
open Go.Proofs
section
variable {bx : List Box} {tk : List (Nat × Nat)} {lo tlo : Nat} {R : Res}
theorem ahead_ok' {xFloor : Int} {xDir : Int} {xDoor : Int} {xHeld : Int} {xMoved : Bool} {v : V} {l : List Int} {d : Int} (hv : IsL encI 1 v l) : callsV E0 27 [.agg [.int .i64 xFloor, .int .i64 xDir, .int .i64 xDoor, .int .i64 xHeld, .bool xMoved], v, I d] bx tk lo tlo R = R (.bool (ahead (Car.mk xFloor xDir xDoor xHeld xMoved) l d)) bx tk := ahead_ok (x := (Car.mk xFloor xDir xDoor xHeld xMoved)) hv
theorem ahead_one {xFloor : Int} {xDir : Int} {xDoor : Int} {xHeld : Int} {xMoved : Bool} {n d : Int} : callsV E0 27 [.agg [.int .i64 xFloor, .int .i64 xDir, .int .i64 xDoor, .int .i64 xHeld, .bool xMoved], .sl .full 1 [[I n]], I d] bx tk lo tlo R = R (.bool (ahead1 (Car.mk xFloor xDir xDoor xHeld xMoved) d n)) bx tk := by
  have h : IsL encI 1 (.sl .full 1 [[I n]]) [n] := IsL.sl (l := [n]) (by simp)
  have := ahead_ok (x := (Car.mk xFloor xDir xDoor xHeld xMoved)) (d := d) (bx := bx) (tk := tk) (lo := lo) (tlo := tlo) (R := R) h
  simpa [ahead, Car.cells_eq] using this
def farStep (x : Car) (o g : Int) : Int := if ahead1 x x.Dir g then (if far g x.Floor > o then far g x.Floor else o) else o
def farthest (x : Car) (l : List Int) : Int := l.foldl (farStep x) 0
theorem take_fold {α β : Type} (f : β → α → β) (b : β) (l : List α) {i : Nat} (hi : i < l.length) : (l.take (i + 1)).foldl f b = f ((l.take i).foldl f b) l[i] := by
  rw [List.take_succ_eq_append_getElem hi, List.foldl_append]; rfl
def FarS (v : V) (x : Car) (l : List Int) (bx : List Box) (tk : List (Nat × Nat)) (i : Nat) (s : St) : Prop :=
  ∃ us ws : List (Nat × V), (look us 2 = .loc x.cells ∧ look us 5 = I ((l.take i).foldl (farStep x) 0) ∧ look ws 8 = v ∧ look ws 9 = I l.length ∧ look ws 10 = I i) ∧ s = ⟨tab2 28 8 us ws, bx, tk⟩
theorem farthest_ok {x : Car} {v : V} {l : List Int} (hv : IsL encI 1 v l) : callsV E0 61 [.agg x.cells, v] bx tk lo tlo R = R (I (farthest x l)) bx tk := by
  refine calls_iff E0good E0det ?_ R
  refine callsT_pure (g := Try.f61) (n := 28) (rs := [.tmp 4]) 8 [(0, .agg x.cells), (1, v)] rfl Try.func61 rfl (by kernel_rfl) rfl rfl (by simp) (by simp) rfl md61 rg61 ?_
  simp (config := { implicitDefEqProofs := false, contextual := true, maxSteps := 1000000 }) only [go_sem, Nat.reduceAdd, Nat.reduceMul, Nat.reduceLeDiff, Nat.reduceEqDiff, Nat.reduceLT, Nat.reduceBEq, hv.copy, hv.lenV, hv.lenK, hv.lk, hv.clear, Car.cells_eq]
  refine wpv_for E0good l.length (FarS v x l bx tk) ?_ ?_ ?_
  · exact ⟨_, _, ⟨by simp [look, enumU, Car.cells_eq], by simp [look, enumU, Car.cells_eq], by simp [look, enumU, Car.cells_eq], by simp [look, enumU, Car.cells_eq], by simp [look, enumU, Car.cells_eq]⟩, rfl⟩
  · intro i hi s hs
    obtain ⟨us, ws, ⟨s2, s5, s8, s9, s10⟩, rfl⟩ := hs
    simp (config := { implicitDefEqProofs := false, contextual := true, maxSteps := 1000000 }) only [go_sem, Nat.reduceAdd, Nat.reduceMul, Nat.reduceLeDiff, Nat.reduceEqDiff, Nat.reduceLT, Nat.reduceBEq, s2, s5, s8, s9, s10, hv.copy, hv.lk, hv.elem (by decide) hi, lt_cast hi, wrap_succ hi hv.len, asNat_cast, Car.cells_eq, ↓ahead_one, ↓far_ok]
    refine ⟨fun h => ?_, fun h => ?_⟩ <;> (simp only [FarS, take_fold _ _ _ hi, farStep, h, Bool.false_eq_true, if_true, if_false]; exact ⟨_, _, ⟨by simp [look, s2, s5, s8, s9, s10], by simp [look, s2, s5, s8, s9, s10], by simp [look, s2, s5, s8, s9, s10], by simp [look, s2, s5, s8, s9, s10], by simp [look, s2, s5, s8, s9, s10]⟩, rfl⟩)
  · intro s hs
    obtain ⟨us, ws, ⟨s2, s5, s8, s9, s10⟩, rfl⟩ := hs
    simp (config := { implicitDefEqProofs := false, contextual := true, maxSteps := 1000000 }) only [go_sem, Nat.reduceAdd, Nat.reduceMul, Nat.reduceLeDiff, Nat.reduceEqDiff, Nat.reduceLT, Nat.reduceBEq, s2, s5, s8, s9, s10, lt_self, Car.cells_eq]
    simp [farthest]
theorem farthest_ok' {xFloor : Int} {xDir : Int} {xDoor : Int} {xHeld : Int} {xMoved : Bool} {v : V} {l : List Int} (hv : IsL encI 1 v l) : callsV E0 61 [.agg [.int .i64 xFloor, .int .i64 xDir, .int .i64 xDoor, .int .i64 xHeld, .bool xMoved], v] bx tk lo tlo R = R (I (farthest (Car.mk xFloor xDir xDoor xHeld xMoved) l)) bx tk := farthest_ok (x := (Car.mk xFloor xDir xDoor xHeld xMoved)) hv
def way (x : Car) (l : List Int) (floor dir : Int) : Int :=
  if eqI x.Dir 0 || eqI (far floor x.Floor) 0 then far floor x.Floor
  else if !ahead1 x x.Dir floor then W (W (farthest x l + farthest x l) + far floor x.Floor)
  else if eqI dir x.Dir || eqI dir 0 || leI (farthest x l) (far floor x.Floor) then far floor x.Floor
  else W (W (farthest x l + farthest x l) - far floor x.Floor)
theorem way_ok {x : Car} {v : V} {l : List Int} {floor dir : Int} (hv : IsL encI 1 v l) : callsV E0 17 [.agg x.cells, v, I floor, I dir] bx tk lo tlo R = R (I (way x l floor dir)) bx tk := by
  refine calls_iff E0good E0det ?_ R
  refine callsT_pure (g := Try.f17) (n := 60) (rs := [.tmp 8]) 28 [(0, .agg x.cells), (1, v), (2, I floor), (3, I dir)] rfl Try.func17 rfl (by kernel_rfl) rfl rfl (by simp) (by simp) rfl md17 rg17 ?_
  simp (config := { implicitDefEqProofs := false, contextual := true, maxSteps := 1000000 }) only [go_sem, Nat.reduceAdd, Nat.reduceMul, Nat.reduceLeDiff, Nat.reduceEqDiff, Nat.reduceLT, Nat.reduceBEq, hv.copy, hv.lk, hv.clear, Car.cells_eq, ↓far_ok, ↓farthest_ok' hv, ↓ahead_one]
  simp_all [way]
theorem way_ok' {xFloor : Int} {xDir : Int} {xDoor : Int} {xHeld : Int} {xMoved : Bool} {v : V} {l : List Int} {floor dir : Int} (hv : IsL encI 1 v l) : callsV E0 17 [.agg [.int .i64 xFloor, .int .i64 xDir, .int .i64 xDoor, .int .i64 xHeld, .bool xMoved], v, I floor, I dir] bx tk lo tlo R = R (I (way (Car.mk xFloor xDir xDoor xHeld xMoved) l floor dir)) bx tk := way_ok (x := (Car.mk xFloor xDir xDoor xHeld xMoved)) hv
end
end Go.Vi
