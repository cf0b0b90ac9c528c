/- Layer 18: the reference's cost; who costs least. -/
import Derived.Test.YtngeclldoplihaaViCost6
set_option maxRecDepth 100000
set_option linter.unusedVariables false
set_option linter.unusedSimpArgs false
namespace Go.Vi
open Go.Proofs
section
variable {bx : List Box} {tk : List (Nat × Nat)} {lo tlo : Nat} {R : Res}
def hasI (l : List Int) (n : Int) : Bool := l.any fun m => eqI m n
def rstep (n : Int) (acc : List Int) (c : Call) : List Int := if mine n c then (if hasI acc (goal c) then acc else acc ++ [goal c]) else acc
def rgoalsI (l : List Call) (n : Int) (i : Nat) : List Int := (l.take i).foldl (rstep n) []
def rgoals (l : List Call) (n : Int) : List Int := l.foldl (rstep n) []
theorem rgoalsI_succ {l : List Call} {n : Int} {i : Nat} (hi : i < l.length) : rgoalsI l n (i + 1) = rstep n (rgoalsI l n i) l[i] := take_fold _ _ _ hi
theorem rgoalsI_all (l : List Call) (n : Int) : rgoalsI l n l.length = rgoals l n := by simp [rgoalsI, rgoals]
theorem rstep_len (n : Int) (acc : List Int) (c : Call) : (rstep n acc c).length ≤ acc.length + 1 := by
  unfold rstep; split
  · split <;> simp
  · omega
theorem rgoals_len (n : Int) : ∀ (l : List Call) (acc : List Int), (l.foldl (rstep n) acc).length ≤ acc.length + l.length
  | [], acc => by simp
  | c :: l, acc => by
    have h1 := rgoals_len n l (rstep n acc c)
    have h2 := rstep_len n acc c
    simp only [List.foldl_cons, List.length_cons]
    omega
theorem rgoalsI_len {l : List Call} {n : Int} {i : Nat} : (rgoalsI l n i).length ≤ i := by
  have := rgoals_len n (l.take i) []
  simp at this
  unfold rgoalsI
  omega
theorem any_take {l : List Int} {p : Int → Bool} {j : Nat} (hj : j < l.length) : (l.take (j + 1)).any p = ((l.take j).any p || p l[j]) := by
  rw [List.take_succ_eq_append_getElem hj, List.any_append]; simp only [List.any_cons, List.any_nil, Bool.or_false]
def rof (g : Config) (x : RCar) (l : List Call) (n : Int) (c : Call) : Int := W (W (rway x (rgoals l n) (goal c) (rdir c) + W ((rgoals l n).length * W (g.Door + 1))) + x.Door)
def ROutS (v : V) (g : Config) (x : RCar) (l : List Call) (n : Int) (c : Call) (bx : List Box) (tk : List (Nat × Nat)) (i : Nat) (s : St) : Prop :=
  ∃ us ws : List (Nat × V), (look us 2 = v ∧ look us 3 = I n ∧ look us 5 = .loc g.cells ∧ look us 6 = .loc x.cells ∧ look us 9 = .loc c.cells ∧ look us 11 = accE tk 1 ((rgoalsI l n i).map encI) ∧ look us 12 = I i) ∧ s = ⟨tab2 73 16 us ws, bx, tkAt tk 1 ((rgoalsI l n i).map encI).length⟩
def RInS (v : V) (g : Config) (x : RCar) (l : List Call) (n : Int) (c : Call) (k : Nat) (m : Int) (bx : List Box) (tk : List (Nat × Nat)) (i : Nat) (s : St) : Prop :=
  ∃ us ws : List (Nat × V), (look us 2 = v ∧ look us 3 = I n ∧ look us 5 = .loc g.cells ∧ look us 6 = .loc x.cells ∧ look us 9 = .loc c.cells ∧ look us 11 = accE tk 1 ((rgoalsI l n k).map encI) ∧ look us 12 = I k ∧ look us 13 = I m ∧ look us 14 = .bool (hasI ((rgoalsI l n k).take i) m) ∧ look us 15 = I i) ∧ s = ⟨tab2 73 16 us ws, bx, tkAt tk 1 ((rgoalsI l n k).map encI).length⟩
theorem rof_ok {g : Config} {x : RCar} {v : V} {l : List Call} {n : Int} {c : Call} (hv : IsL Call.cells 8 v l) (hlen : l.length ≤ 70) : callsV E0 21 [.agg g.cells, .agg x.cells, v, I n, .agg c.cells] bx tk lo tlo R = R (I (rof g x l n c)) bx tk := by
  refine calls_iff E0good E0det ?_ R
  refine callsT_pure (g := Try.f21) (n := 73) (rs := [.tmp 10]) 16 [(0, .agg g.cells), (1, .agg x.cells), (2, v), (3, I n), (4, .agg c.cells)] rfl Try.func21 rfl (by kernel_rfl) rfl rfl (by simp) (by simp) rfl md21 rg21 ?_
  simp (config := { implicitDefEqProofs := false, contextual := true, maxSteps := 1000000 }) only [go_sem, Nat.reduceAdd, Nat.reduceMul, Nat.reduceLeDiff, Nat.reduceEqDiff, Nat.reduceLT, Nat.reduceBEq, hv.copy, hv.lk, hv.clear, Config.cells_eq, RCar.cells_eq, Call.cells_eq]
  refine wpv_for E0good l.length (ROutS v g x l n c bx tk) ?_ ?_ ?_
  · exact ⟨_, _, ⟨by simp [look, enumU, accE, rgoalsI, Config.cells_eq, RCar.cells_eq, Call.cells_eq], by simp [look, enumU, accE, rgoalsI, Config.cells_eq, RCar.cells_eq, Call.cells_eq], by simp [look, enumU, accE, rgoalsI, Config.cells_eq, RCar.cells_eq, Call.cells_eq], by simp [look, enumU, accE, rgoalsI, Config.cells_eq, RCar.cells_eq, Call.cells_eq], by simp [look, enumU, accE, rgoalsI, Config.cells_eq, RCar.cells_eq, Call.cells_eq], by simp [look, enumU, accE, rgoalsI, Config.cells_eq, RCar.cells_eq, Call.cells_eq], by simp [look, enumU, accE, rgoalsI, Config.cells_eq, RCar.cells_eq, Call.cells_eq]⟩, rfl⟩
  · intro i hi s hs
    obtain ⟨us, ws, ⟨s2, s3, s5, s6, s9, s11, s12⟩, rfl⟩ := hs
    simp (config := { implicitDefEqProofs := false, contextual := true, maxSteps := 1000000 }) only [go_sem, Nat.reduceAdd, Nat.reduceMul, Nat.reduceLeDiff, Nat.reduceEqDiff, Nat.reduceLT, Nat.reduceBEq, s2, s3, s5, s6, s9, s11, s12, hv.copy, hv.lk, hv.lenV, hv.lenK, hv.elem (by decide) hi, lt_cast hi, wrap_succ hi hv.len, asNat_cast, Call.cells_eq, ↓rmine_ok', ↓rgoal_ok']
    refine ⟨fun h => ?_, fun h => ?_⟩
    · refine wpv_for E0good ((rgoalsI l n i).map encI).length (RInS v g x l n c i (goal l[i]) bx tk) ?_ ?_ ?_
      · exact ⟨_, _, ⟨by simp [look, hasI, s2, s3, s5, s6, s9, s11, s12], by simp [look, hasI, s2, s3, s5, s6, s9, s11, s12], by simp [look, hasI, s2, s3, s5, s6, s9, s11, s12], by simp [look, hasI, s2, s3, s5, s6, s9, s11, s12], by simp [look, hasI, s2, s3, s5, s6, s9, s11, s12], by simp [look, hasI, s2, s3, s5, s6, s9, s11, s12], by simp [look, hasI, s2, s3, s5, s6, s9, s11, s12], by simp [look, hasI, s2, s3, s5, s6, s9, s11, s12], by simp [look, hasI, s2, s3, s5, s6, s9, s11, s12], by simp [look, hasI, s2, s3, s5, s6, s9, s11, s12]⟩, rfl⟩
      · intro j hj s hs
        obtain ⟨us, ws, ⟨s2, s3, s5, s6, s9, s11, s12, s13, s14, s15⟩, rfl⟩ := hs
        have hj' : j < (rgoalsI l n i).length := by simpa using hj
        have hacc : IsL encI 1 (accE tk 1 ((rgoalsI l n i).map encI)) (rgoalsI l n i) := acce_isL (by have := rgoalsI_len (l := l) (n := n) (i := i); omega)
        simp (config := { implicitDefEqProofs := false, contextual := true, maxSteps := 1000000 }) only [go_sem, Nat.reduceAdd, Nat.reduceMul, Nat.reduceLeDiff, Nat.reduceEqDiff, Nat.reduceLT, Nat.reduceBEq, s2, s3, s5, s6, s9, s11, s12, s13, s14, s15, hacc.elem (by decide) hj', lt_cast hj, wrap_succ hj' hacc.len, asNat_cast]
        have hany : hasI ((rgoalsI l n i).take (j + 1)) (goal l[i]) = (hasI ((rgoalsI l n i).take j) (goal l[i]) || eqI (rgoalsI l n i)[j] (goal l[i])) := any_take hj'
        refine ⟨fun h => ?_, fun h => ?_⟩ <;> exact ⟨_, _, ⟨by simp [look, hany, h, s2, s3, s5, s6, s9, s11, s12, s13, s14, s15], by simp [look, hany, h, s2, s3, s5, s6, s9, s11, s12, s13, s14, s15], by simp [look, hany, h, s2, s3, s5, s6, s9, s11, s12, s13, s14, s15], by simp [look, hany, h, s2, s3, s5, s6, s9, s11, s12, s13, s14, s15], by simp [look, hany, h, s2, s3, s5, s6, s9, s11, s12, s13, s14, s15], by simp [look, hany, h, s2, s3, s5, s6, s9, s11, s12, s13, s14, s15], by simp [look, hany, h, s2, s3, s5, s6, s9, s11, s12, s13, s14, s15], by simp [look, hany, h, s2, s3, s5, s6, s9, s11, s12, s13, s14, s15], by simp [look, hany, h, s2, s3, s5, s6, s9, s11, s12, s13, s14, s15], by simp [look, hany, h, s2, s3, s5, s6, s9, s11, s12, s13, s14, s15]⟩, rfl⟩
      · intro s hs
        obtain ⟨us, ws, ⟨s2, s3, s5, s6, s9, s11, s12, s13, s14, s15⟩, rfl⟩ := hs
        have h8 : (((rgoalsI l n i).map encI).length + 1) * 8 ≤ appLim := by have := rgoalsI_len (l := l) (n := n) (i := i); simp; unfold appLim; omega
        simp (config := { implicitDefEqProofs := false, contextual := true, maxSteps := 1000000 }) only [go_sem, Nat.reduceAdd, Nat.reduceMul, Nat.reduceLeDiff, Nat.reduceEqDiff, Nat.reduceLT, Nat.reduceBEq, s2, s3, s5, s6, s9, s11, s12, s13, s14, s15, hv.lk, hv.copy, lt_self, wrap_succ hi hv.len, h8, acce_app, Nat.le_refl]
        have ht : (rgoalsI l n i).take ((rgoalsI l n i).map encI).length = rgoalsI l n i := by simp
        rw [ht]
        refine ⟨fun h1 => ?_, fun h1 => ?_⟩
        · have e : rgoalsI l n (i + 1) = rgoalsI l n i := by rw [rgoalsI_succ hi]; simp [rstep, h, h1]
          unfold ROutS
          rw [e]
          exact ⟨_, _, ⟨by simp [look, s2, s3, s5, s6, s9, s11, s12, s13, s14, s15], by simp [look, s2, s3, s5, s6, s9, s11, s12, s13, s14, s15], by simp [look, s2, s3, s5, s6, s9, s11, s12, s13, s14, s15], by simp [look, s2, s3, s5, s6, s9, s11, s12, s13, s14, s15], by simp [look, s2, s3, s5, s6, s9, s11, s12, s13, s14, s15], by simp [look, s2, s3, s5, s6, s9, s11, s12, s13, s14, s15], by simp [look, s2, s3, s5, s6, s9, s11, s12, s13, s14, s15]⟩, rfl⟩
        · have e : rgoalsI l n (i + 1) = rgoalsI l n i ++ [goal l[i]] := by rw [rgoalsI_succ hi]; simp [rstep, h, h1]
          unfold ROutS
          rw [e, List.map_append, List.length_append]
          exact ⟨_, _, ⟨by simp [look, s2, s3, s5, s6, s9, s11, s12, s13, s14, s15], by simp [look, s2, s3, s5, s6, s9, s11, s12, s13, s14, s15], by simp [look, s2, s3, s5, s6, s9, s11, s12, s13, s14, s15], by simp [look, s2, s3, s5, s6, s9, s11, s12, s13, s14, s15], by simp [look, s2, s3, s5, s6, s9, s11, s12, s13, s14, s15], by simp [look, s2, s3, s5, s6, s9, s11, s12, s13, s14, s15], by simp [look, s2, s3, s5, s6, s9, s11, s12, s13, s14, s15]⟩, rfl⟩
    · have e : rgoalsI l n (i + 1) = rgoalsI l n i := by rw [rgoalsI_succ hi]; simp [rstep, h]
      unfold ROutS
      rw [e]
      exact ⟨_, _, ⟨by simp [look, s2, s3, s5, s6, s9, s11, s12], by simp [look, s2, s3, s5, s6, s9, s11, s12], by simp [look, s2, s3, s5, s6, s9, s11, s12], by simp [look, s2, s3, s5, s6, s9, s11, s12], by simp [look, s2, s3, s5, s6, s9, s11, s12], by simp [look, s2, s3, s5, s6, s9, s11, s12], by simp [look, s2, s3, s5, s6, s9, s11, s12]⟩, rfl⟩
  · intro s hs
    obtain ⟨us, ws, ⟨s2, s3, s5, s6, s9, s11, s12⟩, rfl⟩ := hs
    have hr : (rgoals l n).length ≤ 70 := by have := rgoals_len n l []; simp at this; unfold rgoals; omega
    have hg : IsL encI 1 (accE tk 1 ((rgoals l n).map encI)) (rgoals l n) := acce_isL (by omega)
    simp (config := { implicitDefEqProofs := false, contextual := true, maxSteps := 1000000 }) only [go_sem, Nat.reduceAdd, Nat.reduceMul, Nat.reduceLeDiff, Nat.reduceEqDiff, Nat.reduceLT, Nat.reduceBEq, s2, s3, s5, s6, s9, s11, s12, lt_self, hv.copy, hv.lk, hv.lenV, hv.lenK, rgoalsI_all, Config.cells_eq, RCar.cells_eq, Call.cells_eq, ↓rgoal_ok', ↓rdir_ok', ↓rway_ok' hg, List.length_map]
    simp [rof]
theorem rof_ok' {gFloors : Int} {gCars : Int} {gSeats : Int} {gCalls : Int} {gLines : Int} {gKeys : Int} {gWindow : Int} {gBurst : Int} {gRate : Int} {gIdle : Int} {gIn : Int} {gOut : Int} {gFeed : Int} {gRetries : Int} {gLife : Int} {gDoor : Int} {gHolds : Int} {gSecret : Int} {xFloor : Int} {xDir : Int} {xDoor : Int} {xHeld : Int} {xMoved : Bool} {v : V} {l : List Call} {n : Int} {cId : Int} {cKind : Int} {cFrom : Int} {cTo : Int} {cCar : Int} {cState : Int} {cOwner : Int} {cBorn : Int} (hv : IsL Call.cells 8 v l) (hlen : l.length ≤ 70) : callsV E0 21 [.agg [.int .i64 gFloors, .int .i64 gCars, .int .i64 gSeats, .int .i64 gCalls, .int .i64 gLines, .int .i64 gKeys, .int .i64 gWindow, .int .i64 gBurst, .int .i64 gRate, .int .i64 gIdle, .int .i64 gIn, .int .i64 gOut, .int .i64 gFeed, .int .i64 gRetries, .int .i64 gLife, .int .i64 gDoor, .int .i64 gHolds, .int .u32 gSecret], .agg [.int .i64 xFloor, .int .i64 xDir, .int .i64 xDoor, .int .i64 xHeld, .bool xMoved], v, I n, .agg [.int .i64 cId, .int .i64 cKind, .int .i64 cFrom, .int .i64 cTo, .int .i64 cCar, .int .i64 cState, .int .i64 cOwner, .int .i64 cBorn]] bx tk lo tlo R = R (I (rof (Config.mk gFloors gCars gSeats gCalls gLines gKeys gWindow gBurst gRate gIdle gIn gOut gFeed gRetries gLife gDoor gHolds gSecret) (RCar.mk xFloor xDir xDoor xHeld xMoved) l n (Call.mk cId cKind cFrom cTo cCar cState cOwner cBorn))) bx tk := rof_ok (g := (Config.mk gFloors gCars gSeats gCalls gLines gKeys gWindow gBurst gRate gIdle gIn gOut gFeed gRetries gLife gDoor gHolds gSecret)) (x := (RCar.mk xFloor xDir xDoor xHeld xMoved)) (c := (Call.mk cId cKind cFrom cTo cCar cState cOwner cBorn)) hv hlen
end
end Go.Vi
