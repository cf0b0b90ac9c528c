/- Layer 18: what is more than is asked; the law CostTurned's walk. -/
import Derived.Test.YtngeclldoplihaaViCost3
set_option maxRecDepth 100000
set_option linter.unusedVariables false
set_option linter.unusedSimpArgs false
namespace Go.Vi
open Go.Proofs
theorem awake18 (lo tlo : Nat) : callX E0 prims fnTab (codeX E0 prims fnTab 200) 13 [] [] [] lo tlo = some (.bool true, [], []) := by kernel_rfl
theorem awake18_ok {lo tlo : Nat} {R : Res} : callsV E0 13 [] [] [] lo tlo R = R (.bool true) [] [] :=
  calls_iff E0good E0det (callsV_run E0good E0p tabOk 200 (awake18 lo tlo) ⟨rfl, rfl, rfl⟩) R
section
variable {bx : List Box} {tk : List (Nat × Nat)} {lo tlo : Nat} {R : Res}
def wildC (c : Call) : Bool := wild c.From || wild c.To
def odd (x : Car) (l : List Call) : Bool := wild x.Floor || ltI x.Dir (-1) || ltI 1 x.Dir || wild x.Door || ltI 70 l.length || l.any wildC
def OddS (v : V) (l : List Call) (bx : List Box) (tk : List (Nat × Nat)) (i : Nat) (s : St) : Prop :=
  ∃ us ws : List (Nat × V), (look us 1 = v ∧ look us 5 = I i) ∧ s = ⟨tab2 49 6 us ws, bx, tk⟩ ∧ ∀ j (hj : j < i) (hl : j < l.length), wildC l[j] = false
theorem odd_ok {x : Car} {v : V} {l : List Call} (hv : IsL Call.cells 8 v l) : callsV E0 15 [.agg x.cells, v] bx tk lo tlo R = R (.bool (odd x l)) bx tk := by
  refine calls_iff E0good E0det ?_ R
  refine callsT_pure (g := Try.f15) (n := 49) (rs := [.tmp 4]) 6 [(0, .agg x.cells), (1, v)] rfl Try.func15 rfl (by kernel_rfl) rfl rfl (by simp) (by simp) rfl md15 rg15 ?_
  simp (config := { implicitDefEqProofs := false, contextual := true, maxSteps := 1000000 }) only [go_sem, Nat.reduceAdd, Nat.reduceMul, Nat.reduceLeDiff, Nat.reduceEqDiff, Nat.reduceLT, Nat.reduceBEq, hv.copy, hv.lenV, hv.lenK, hv.lk, hv.clear, Car.cells_eq, ↓wild_ok]
  repeat' (first | intro _ | refine And.intro ?_ ?_)
  all_goals try (simp_all [odd]; done)
  rename_i h1 h2 h3 h4 h5
  have hodd : odd x l = l.any wildC := by simp [odd, h1, h2, h3, h4, h5]
  rw [hodd]
  refine wpv_for E0good l.length (OddS v l bx tk) ?_ ?_ ?_
  · exact ⟨_, _, ⟨by simp [look, enumU], by simp [look, enumU]⟩, rfl, fun j hj => absurd hj (by omega)⟩
  · intro i hi s hs
    obtain ⟨us, ws, ⟨s1, s5⟩, rfl, hp⟩ := hs
    simp (config := { implicitDefEqProofs := false, contextual := true, maxSteps := 1000000 }) only [go_sem, Nat.reduceAdd, Nat.reduceMul, Nat.reduceLeDiff, Nat.reduceEqDiff, Nat.reduceLT, Nat.reduceBEq, s1, s5, hv.copy, hv.lk, hv.lenV, hv.lenK, hv.elem (by decide) hi, lt_cast hi, wrap_succ hi hv.len, asNat_cast, ↓wild_ok, Call.cells_eq]
    repeat' (first | intro _ | refine And.intro ?_ ?_)
    all_goals first
      | (have hw : wildC l[i] = true := by simp_all [wildC]
         have : l.any wildC = true := List.any_eq_true.2 ⟨l[i], List.getElem_mem hi, hw⟩
         simp [this]; done)
      | (refine ⟨_, _, ⟨by simp [look, s1, s5], by simp [look, s1, s5]⟩, rfl, fun j hj hl => ?_⟩
         by_cases hji : j = i
         · subst hji; simp_all [wildC]
         · exact hp j (by omega) hl)
  · intro s hs
    obtain ⟨us, ws, ⟨s1, s5⟩, rfl, hp⟩ := hs
    simp (config := { implicitDefEqProofs := false, contextual := true, maxSteps := 1000000 }) only [go_sem, Nat.reduceAdd, Nat.reduceMul, Nat.reduceLeDiff, Nat.reduceEqDiff, Nat.reduceLT, Nat.reduceBEq, s1, s5, hv.copy, hv.lk, hv.lenV, hv.lenK, lt_self]
    have : l.any wildC = false := by
      rw [List.any_eq_false]
      intro x hx
      obtain ⟨j, hj, rfl⟩ := List.getElem_of_mem hx
      simpa using hp j hj hj
    simp [this]
theorem odd_ok' {xFloor : Int} {xDir : Int} {xDoor : Int} {xHeld : Int} {xMoved : Bool} {v : V} {l : List Call} (hv : IsL Call.cells 8 v l) : callsV E0 15 [.agg [.int .i64 xFloor, .int .i64 xDir, .int .i64 xDoor, .int .i64 xHeld, .bool xMoved], v] bx tk lo tlo R = R (.bool (odd (Car.mk xFloor xDir xDoor xHeld xMoved) l)) bx tk := odd_ok (x := (Car.mk xFloor xDir xDoor xHeld xMoved)) hv
end
end Go.Vi
