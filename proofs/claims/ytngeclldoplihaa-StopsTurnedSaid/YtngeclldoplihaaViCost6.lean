/- Layer 18: the cost; the reference's. -/
import Derived.Test.YtngeclldoplihaaViStops1
import Derived.Test.YtngeclldoplihaaViCost4
set_option maxRecDepth 100000
set_option linter.unusedVariables false
set_option linter.unusedSimpArgs false
namespace Go.Vi
open Go.Proofs
section
variable {bx : List Box} {tk : List (Nat × Nat)} {lo tlo : Nat} {R : Res}
def ofC (g : Config) (x : Car) (l : List Call) (n : Int) (c : Call) : Int := W (W (way x (goals l n) (goal c) (dirC c) + W ((goals l n).length * W (g.Door + 1))) + x.Door)
theorem of_ok {g : Config} {x : Car} {v : V} {l : List Call} {n : Int} {c : Call} (hv : IsL Call.cells 8 v l) (hlen : l.length ≤ 70) : callsV E0 20 [.agg g.cells, .agg x.cells, v, I n, .agg c.cells] bx tk lo tlo R = R (I (ofC g x l n c)) bx tk := by
  refine calls_iff E0good E0det ?_ R
  have hg : IsL encI 1 (mkL 1 ((goals l n).map encI)) (goals l n) := IsL.made (by have := goals_len l n; omega)
  refine callsT_pure (g := Try.f20) (n := 32) (rs := [.tmp 10]) 12 [(0, .agg g.cells), (1, .agg x.cells), (2, v), (3, I n), (4, .agg c.cells)] rfl Try.func20 rfl (by kernel_rfl) rfl rfl (by simp) (by simp) rfl md20 rg20 ?_
  simp (config := { implicitDefEqProofs := false, contextual := true, maxSteps := 1000000 }) only [go_sem, Nat.reduceAdd, Nat.reduceMul, Nat.reduceLeDiff, Nat.reduceEqDiff, Nat.reduceLT, Nat.reduceBEq, hv.copy, hv.lk, hv.clear, Config.cells_eq, Car.cells_eq, Call.cells_eq, ↓goals_ok hv hlen, ↓goal_ok', ↓dir_ok', ↓way_ok' hg, List.length_map]
  simp [ofC]
theorem of_ok' {gFloors : Int} {gCars : Int} {gSeats : Int} {gCalls : Int} {gLines : Int} {gKeys : Int} {gWindow : Int} {gBurst : Int} {gRate : Int} {gIdle : Int} {gIn : Int} {gOut : Int} {gFeed : Int} {gRetries : Int} {gLife : Int} {gDoor : Int} {gHolds : Int} {gSecret : Int} {xFloor : Int} {xDir : Int} {xDoor : Int} {xHeld : Int} {xMoved : Bool} {v : V} {l : List Call} {n : Int} {cId : Int} {cKind : Int} {cFrom : Int} {cTo : Int} {cCar : Int} {cState : Int} {cOwner : Int} {cBorn : Int} (hv : IsL Call.cells 8 v l) (hlen : l.length ≤ 70) : callsV E0 20 [.agg [.int .i64 gFloors, .int .i64 gCars, .int .i64 gSeats, .int .i64 gCalls, .int .i64 gLines, .int .i64 gKeys, .int .i64 gWindow, .int .i64 gBurst, .int .i64 gRate, .int .i64 gIdle, .int .i64 gIn, .int .i64 gOut, .int .i64 gFeed, .int .i64 gRetries, .int .i64 gLife, .int .i64 gDoor, .int .i64 gHolds, .int .u32 gSecret], .agg [.int .i64 xFloor, .int .i64 xDir, .int .i64 xDoor, .int .i64 xHeld, .bool xMoved], v, I n, .agg [.int .i64 cId, .int .i64 cKind, .int .i64 cFrom, .int .i64 cTo, .int .i64 cCar, .int .i64 cState, .int .i64 cOwner, .int .i64 cBorn]] bx tk lo tlo R = R (I (ofC (Config.mk gFloors gCars gSeats gCalls gLines gKeys gWindow gBurst gRate gIdle gIn gOut gFeed gRetries gLife gDoor gHolds gSecret) (Car.mk xFloor xDir xDoor xHeld xMoved) l n (Call.mk cId cKind cFrom cTo cCar cState cOwner cBorn))) bx tk := of_ok (g := (Config.mk gFloors gCars gSeats gCalls gLines gKeys gWindow gBurst gRate gIdle gIn gOut gFeed gRetries gLife gDoor gHolds gSecret)) (x := (Car.mk xFloor xDir xDoor xHeld xMoved)) (c := (Call.mk cId cKind cFrom cTo cCar cState cOwner cBorn)) hv hlen
/-! The reference's. -/
theorem rmine_ok (x : Call) (n : Int) : callsV E0 64 [.agg x.cells, I n] bx tk lo tlo R = R (.bool (mine n x)) bx tk := by
  refine calls_iff E0good E0det ?_ R
  refine callsT_pure (g := Try.f64) (n := 19) (rs := [.tmp 4]) 5 [(0, .agg x.cells), (1, I n)] rfl Try.func64 rfl (by kernel_rfl) rfl rfl (by simp) (by simp) rfl md64 rg64 ?_
  simp (config := { implicitDefEqProofs := false, contextual := true, maxSteps := 1000000 }) only [go_sem, Nat.reduceAdd, Nat.reduceMul, Nat.reduceLeDiff, Nat.reduceEqDiff, Nat.reduceLT, Nat.reduceBEq, Call.cells_eq]
  simp_all [mine]
theorem rmine_ok' {xId : Int} {xKind : Int} {xFrom : Int} {xTo : Int} {xCar : Int} {xState : Int} {xOwner : Int} {xBorn : Int} {n : Int} : callsV E0 64 [.agg [.int .i64 xId, .int .i64 xKind, .int .i64 xFrom, .int .i64 xTo, .int .i64 xCar, .int .i64 xState, .int .i64 xOwner, .int .i64 xBorn], I n] bx tk lo tlo R = R (.bool (mine n (Call.mk xId xKind xFrom xTo xCar xState xOwner xBorn))) bx tk := rmine_ok (Call.mk xId xKind xFrom xTo xCar xState xOwner xBorn) n
theorem rgoal_ok (x : Call) : callsV E0 65 [.agg x.cells] bx tk lo tlo R = R (I (goal x)) bx tk := by
  refine calls_iff E0good E0det ?_ R
  refine callsT_pure (g := Try.f65) (n := 15) (rs := [.tmp 2]) 3 [(0, .agg x.cells)] rfl Try.func65 rfl (by kernel_rfl) rfl rfl (by simp) (by simp) rfl md65 rg65 ?_
  simp (config := { implicitDefEqProofs := false, contextual := true, maxSteps := 1000000 }) only [go_sem, Nat.reduceAdd, Nat.reduceMul, Nat.reduceLeDiff, Nat.reduceEqDiff, Nat.reduceLT, Nat.reduceBEq, Call.cells_eq]
  simp_all [goal]
theorem rgoal_ok' {xId : Int} {xKind : Int} {xFrom : Int} {xTo : Int} {xCar : Int} {xState : Int} {xOwner : Int} {xBorn : Int} : callsV E0 65 [.agg [.int .i64 xId, .int .i64 xKind, .int .i64 xFrom, .int .i64 xTo, .int .i64 xCar, .int .i64 xState, .int .i64 xOwner, .int .i64 xBorn]] bx tk lo tlo R = R (I (goal (Call.mk xId xKind xFrom xTo xCar xState xOwner xBorn))) bx tk := rgoal_ok (Call.mk xId xKind xFrom xTo xCar xState xOwner xBorn)
def rdir (x : Call) : Int := if eqI x.Kind 1 || (eqI x.Kind 4 && ltI x.From x.To) then 1 else if eqI x.Kind 2 || eqI x.Kind 4 then -1 else 0
theorem rdir_ok (x : Call) : callsV E0 66 [.agg x.cells] bx tk lo tlo R = R (I (rdir x)) bx tk := by
  refine calls_iff E0good E0det ?_ R
  refine callsT_pure (g := Try.f66) (n := 26) (rs := [.tmp 2]) 3 [(0, .agg x.cells)] rfl Try.func66 rfl (by kernel_rfl) rfl rfl (by simp) (by simp) rfl md66 rg66 ?_
  simp (config := { implicitDefEqProofs := false, contextual := true, maxSteps := 1000000 }) only [go_sem, Nat.reduceAdd, Nat.reduceMul, Nat.reduceLeDiff, Nat.reduceEqDiff, Nat.reduceLT, Nat.reduceBEq, Call.cells_eq]
  simp_all [rdir]
theorem rdir_ok' {xId : Int} {xKind : Int} {xFrom : Int} {xTo : Int} {xCar : Int} {xState : Int} {xOwner : Int} {xBorn : Int} : callsV E0 66 [.agg [.int .i64 xId, .int .i64 xKind, .int .i64 xFrom, .int .i64 xTo, .int .i64 xCar, .int .i64 xState, .int .i64 xOwner, .int .i64 xBorn]] bx tk lo tlo R = R (I (rdir (Call.mk xId xKind xFrom xTo xCar xState xOwner xBorn))) bx tk := rdir_ok (Call.mk xId xKind xFrom xTo xCar xState xOwner xBorn)
def rat (x : RCar) (n : Int) : Int := W (W (n - x.Floor) * x.Dir)
def rfarStep (x : RCar) (o n : Int) : Int := if ltI o (rat x n) then rat x n else o
def rfar (x : RCar) (l : List Int) : Int := l.foldl (rfarStep x) 0
def rway (x : RCar) (l : List Int) (floor dir : Int) : Int :=
  if eqI x.Dir 0 then (if ltI x.Floor floor then W (floor - x.Floor) else W (x.Floor - floor))
  else if ltI (rat x floor) 0 then W (W (rfar x l + rfar x l) - rat x floor)
  else if eqI (rat x floor) 0 || eqI dir x.Dir || eqI dir 0 || leI (rfar x l) (rat x floor) then rat x floor
  else W (W (rfar x l + rfar x l) - rat x floor)
def RWayS (v : V) (x : RCar) (l : List Int) (floor dir : Int) (bx : List Box) (tk : List (Nat × Nat)) (i : Nat) (s : St) : Prop :=
  ∃ us ws : List (Nat × V), (look us 1 = v ∧ look us 3 = I dir ∧ look us 4 = .loc x.cells ∧ look us 9 = I (rat x floor) ∧ look us 10 = I ((l.take i).foldl (rfarStep x) 0) ∧ look us 11 = I i) ∧ s = ⟨tab2 85 13 us ws, bx, tk⟩
theorem rway_ok {x : RCar} {v : V} {l : List Int} {floor dir : Int} (hv : IsL encI 1 v l) : callsV E0 18 [.agg x.cells, v, I floor, I dir] bx tk lo tlo R = R (I (rway x l floor dir)) bx tk := by
  refine calls_iff E0good E0det ?_ R
  refine callsT_pure (g := Try.f18) (n := 85) (rs := [.tmp 8]) 13 [(0, .agg x.cells), (1, v), (2, I floor), (3, I dir)] rfl Try.func18 rfl (by kernel_rfl) rfl rfl (by simp) (by simp) rfl md18 rg18 ?_
  simp (config := { implicitDefEqProofs := false, contextual := true, maxSteps := 1000000 }) only [go_sem, Nat.reduceAdd, Nat.reduceMul, Nat.reduceLeDiff, Nat.reduceEqDiff, Nat.reduceLT, Nat.reduceBEq, hv.copy, hv.lk, hv.clear, RCar.cells_eq]
  repeat' (first | intro _ | refine And.intro ?_ ?_)
  all_goals try (simp_all [rway]; done)
  rename_i h1
  refine wpv_for E0good l.length (RWayS v x l floor dir bx tk) ?_ ?_ ?_
  · exact ⟨_, _, ⟨by simp [look, enumU, RCar.cells_eq, rat], by simp [look, enumU, RCar.cells_eq, rat], by simp [look, enumU, RCar.cells_eq, rat], by simp [look, enumU, RCar.cells_eq, rat], by simp [look, enumU, RCar.cells_eq, rat], by simp [look, enumU, RCar.cells_eq, rat]⟩, rfl⟩
  · intro i hi s hs
    obtain ⟨us, ws, ⟨s1, s3, s4, s9, s10, s11⟩, rfl⟩ := hs
    simp (config := { implicitDefEqProofs := false, contextual := true, maxSteps := 1000000 }) only [go_sem, Nat.reduceAdd, Nat.reduceMul, Nat.reduceLeDiff, Nat.reduceEqDiff, Nat.reduceLT, Nat.reduceBEq, s1, s3, s4, s9, s10, s11, hv.copy, hv.lk, hv.lenV, hv.lenK, hv.elem (by decide) hi, lt_cast hi, wrap_succ hi hv.len, asNat_cast, RCar.cells_eq]
    refine ⟨fun h => ?_, fun h => ?_⟩ <;> (have h' := h; simp only [← rat.eq_1] at h'; simp only [RWayS, take_fold _ _ _ hi, rfarStep, h', Bool.false_eq_true, if_true, if_false]; exact ⟨_, _, ⟨by simp [look, rat, RCar.cells_eq, s1, s3, s4, s9, s10, s11], by simp [look, rat, RCar.cells_eq, s1, s3, s4, s9, s10, s11], by simp [look, rat, RCar.cells_eq, s1, s3, s4, s9, s10, s11], by simp [look, rat, RCar.cells_eq, s1, s3, s4, s9, s10, s11], by simp [look, rat, RCar.cells_eq, s1, s3, s4, s9, s10, s11], by simp [look, rat, RCar.cells_eq, s1, s3, s4, s9, s10, s11]⟩, rfl⟩)
  · intro s hs
    obtain ⟨us, ws, ⟨s1, s3, s4, s9, s10, s11⟩, rfl⟩ := hs
    simp (config := { implicitDefEqProofs := false, contextual := true, maxSteps := 1000000 }) only [go_sem, Nat.reduceAdd, Nat.reduceMul, Nat.reduceLeDiff, Nat.reduceEqDiff, Nat.reduceLT, Nat.reduceBEq, s1, s3, s4, s9, s10, s11, lt_self, hv.copy, hv.lk, hv.lenV, hv.lenK, RCar.cells_eq]
    simp_all [rway, rfar]
theorem rway_ok' {xFloor : Int} {xDir : Int} {xDoor : Int} {xHeld : Int} {xMoved : Bool} {v : V} {l : List Int} {floor dir : Int} (hv : IsL encI 1 v l) : callsV E0 18 [.agg [.int .i64 xFloor, .int .i64 xDir, .int .i64 xDoor, .int .i64 xHeld, .bool xMoved], v, I floor, I dir] bx tk lo tlo R = R (I (rway (RCar.mk xFloor xDir xDoor xHeld xMoved) l floor dir)) bx tk := rway_ok (x := (RCar.mk xFloor xDir xDoor xHeld xMoved)) hv
def form (x : Car) : RCar := ⟨x.Floor, x.Dir, x.Door, x.Held, x.Moved⟩
theorem form_ok (x : Car) : callsV E0 19 [.agg x.cells] bx tk lo tlo R = R (.agg (form x).cells) bx tk := by
  refine calls_iff E0good E0det ?_ R
  refine callsT_pure (g := Try.f19) (n := 14) (rs := [.cell 2 37]) 3 [(0, .agg x.cells)] rfl Try.func19 rfl (by kernel_rfl) rfl rfl (by simp) (by simp) rfl md19 rg19 ?_
  simp (config := { implicitDefEqProofs := false, contextual := true, maxSteps := 1000000 }) only [go_sem, Nat.reduceAdd, Nat.reduceMul, Nat.reduceLeDiff, Nat.reduceEqDiff, Nat.reduceLT, Nat.reduceBEq, Car.cells_eq, RCar.cells_eq]
  simp [form]
end
end Go.Vi
