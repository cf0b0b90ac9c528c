/- Layer 7: a configuration as a row of numbers. -/
import Derived.Test.YtngeclldoplihaaViCost1
set_option maxRecDepth 100000
set_option linter.unusedVariables false
set_option linter.unusedSimpArgs false
namespace Go.Vi
open Go.Proofs
section
variable {bx : List Box} {tk : List (Nat × Nat)} {lo tlo : Nat} {R : Res}
def cfgL (g : Config) : List Int := [g.Floors, g.Cars, g.Seats, g.Calls, g.Lines, g.Keys, g.Window, g.Burst, g.Rate, g.Idle, g.In, g.Out, g.Feed, g.Retries, g.Life, g.Door, g.Holds]
set_option maxHeartbeats 4000000 in
theorem list07_ok (g : Config) : callsV E0 59 [.agg g.cells] bx tk lo tlo R = R (.agg ((cfgL g).map fun n => I n)) bx tk := by
  refine calls_iff E0good E0det ?_ R
  refine callsT_pure (g := Try.f59) (n := 38) (rs := [.cell 2 114]) 3 [(0, .agg g.cells)] rfl Try.func59 rfl (by kernel_rfl) rfl rfl (by simp) (by simp) rfl md59 rg59 ?_
  simp (config := { implicitDefEqProofs := false, contextual := true, maxSteps := 1000000 }) only [go_sem, Nat.reduceAdd, Nat.reduceMul, Nat.reduceLeDiff, Nat.reduceEqDiff, Nat.reduceLT, Nat.reduceBEq, cfgL, List.map_cons, List.map_nil]
def cfgLow : List Int := [2, 1, 1, 1, 1, 1, 1, 1, 1, 1, 1, 1, 1, 0, 0, 1, 0]
def cfgHigh : List Int := [32, 4, 8, 64, 8, 64, 65536, 1024, 1024, 65536, 16, 16, 64, 8, 1048576, 4, 4]
def goodAt (g : Config) (i : Nat) : Bool := !(ltI ((cfgL g).getD i 0) (cfgLow.getD i 0) || ltI (cfgHigh.getD i 0) ((cfgL g).getD i 0))
def good (g : Config) : Bool := (List.range 17).all (goodAt g)
abbrev cI (n : Int) : V := I n
theorem cut_map {l : List Int} {i : Nat} (hi : i < l.length) : cut (l.map cI) i 1 = some [I (l.getD i 0)] := by
  have h1 : i + 1 ≤ (l.map cI).length := by simp; omega
  rw [cut_ok h1, List.drop_eq_getElem_cons (by simpa using hi)]
  simp [hi]
def GoodS (g : Config) (bx : List Box) (tk : List (Nat × Nat)) (i : Nat) (s : St) : Prop :=
  ∃ us ws : List (Nat × V), (look us 3 = .loc (cfgLow.map cI) ∧ look us 4 = .loc (cfgHigh.map cI) ∧ look us 5 = .loc ((cfgL g).map cI) ∧ look us 6 = I i) ∧ s = ⟨tab2 31 7 us ws, bx, tk⟩ ∧ ∀ j, j < i → goodAt g j = true
set_option maxHeartbeats 4000000 in
theorem good07_ok (g : Config) : callsV E0 14 [.agg g.cells] bx tk lo tlo R = R (.bool (good g)) bx tk := by
  refine calls_iff E0good E0det ?_ R
  refine callsT_pure (g := Try.f14) (n := 31) (rs := [.tmp 2]) 7 [(0, .agg g.cells)] rfl Try.func14 rfl (by kernel_rfl) rfl rfl (by simp) (by simp) rfl md14 rg14 ?_
  have hcf : ((cfgL g).map fun n => I n).length = 17 := rfl
  simp (config := { implicitDefEqProofs := false, contextual := true, maxSteps := 1000000 }) only [go_sem, Nat.reduceAdd, Nat.reduceMul, Nat.reduceLeDiff, Nat.reduceEqDiff, Nat.reduceLT, Nat.reduceBEq, ↓list07_ok, hcf]
  refine wpv_for E0good 17 (GoodS g bx tk) ?_ ?_ ?_
  · exact ⟨_, _, ⟨by first | rfl | simp [look, enumU, cfgLow, cfgHigh], by first | rfl | simp [look, enumU, cfgLow, cfgHigh], by first | rfl | simp [look, enumU, cfgLow, cfgHigh], by first | rfl | simp [look, enumU, cfgLow, cfgHigh]⟩, rfl, fun j hj => absurd hj (by omega)⟩
  · intro i hi s hs
    obtain ⟨us, ws, ⟨s3, s4, s5, s6⟩, rfl, hp⟩ := hs
    have w1 := wrap_succ hi (by decide)
    have w2 : ltI (i : Int) 17 = true := by simp [ltI]; omega
    simp (config := { implicitDefEqProofs := false, contextual := true, maxSteps := 1000000 }) only [go_sem, Nat.reduceAdd, Nat.reduceMul, Nat.reduceLeDiff, Nat.reduceEqDiff, Nat.reduceLT, Nat.reduceBEq, s3, s4, s5, s6, w1, w2, asNat_cast, Nat.zero_add, Nat.mul_one, hi, cut_map (l := cfgLow) hi, cut_map (l := cfgHigh) hi, cut_map (l := cfgL g) hi]
    have hbad : goodAt g i = false → good g = false := fun h => by
      cases hg : good g with
      | false => rfl
      | true =>
        have := List.all_eq_true.1 hg i (List.mem_range.2 hi)
        rw [h] at this; cases this
    refine ⟨fun h1 => ⟨fun h2 => ?_, fun h2 => ?_⟩, fun h1 => ?_⟩
    · rw [hbad (by simp only [goodAt, h1, h2, Bool.or_true, Bool.not_true])]
    · exact ⟨_, _, ⟨by simp [look, s3, s4, s5, s6], by simp [look, s3, s4, s5, s6], by simp [look, s3, s4, s5, s6], by simp [look, s3, s4, s5, s6]⟩, rfl, fun j hj => by
        by_cases hji : j = i
        · subst hji; simp only [goodAt, h1, h2, Bool.or_false, Bool.not_false]
        · exact hp j (by omega)⟩
    · rw [hbad (by simp only [goodAt, h1, Bool.true_or, Bool.not_true])]
  · intro s hs
    obtain ⟨us, ws, ⟨s3, s4, s5, s6⟩, rfl, hp⟩ := hs
    have w2 : ltI ((17 : Nat) : Int) 17 = false := by simp [ltI]
    simp (config := { implicitDefEqProofs := false, contextual := true, maxSteps := 1000000 }) only [go_sem, Nat.reduceAdd, Nat.reduceMul, Nat.reduceLeDiff, Nat.reduceEqDiff, Nat.reduceLT, Nat.reduceBEq, s3, s4, s5, s6, w2]
    have : good g = true := List.all_eq_true.2 fun j hj => hp j (List.mem_range.1 hj)
    simp [this]
theorem good07_ok' {gFloors : Int} {gCars : Int} {gSeats : Int} {gCalls : Int} {gLines : Int} {gKeys : Int} {gWindow : Int} {gBurst : Int} {gRate : Int} {gIdle : Int} {gIn : Int} {gOut : Int} {gFeed : Int} {gRetries : Int} {gLife : Int} {gDoor : Int} {gHolds : Int} {gSecret : Int} : callsV E0 14 [.agg [.int .i64 gFloors, .int .i64 gCars, .int .i64 gSeats, .int .i64 gCalls, .int .i64 gLines, .int .i64 gKeys, .int .i64 gWindow, .int .i64 gBurst, .int .i64 gRate, .int .i64 gIdle, .int .i64 gIn, .int .i64 gOut, .int .i64 gFeed, .int .i64 gRetries, .int .i64 gLife, .int .i64 gDoor, .int .i64 gHolds, .int .u32 gSecret]] bx tk lo tlo R = R (.bool (good (Config.mk gFloors gCars gSeats gCalls gLines gKeys gWindow gBurst gRate gIdle gIn gOut gFeed gRetries gLife gDoor gHolds gSecret))) bx tk := good07_ok (Config.mk gFloors gCars gSeats gCalls gLines gKeys gWindow gBurst gRate gIdle gIn gOut gFeed gRetries gLife gDoor gHolds gSecret)
end
end Go.Vi
