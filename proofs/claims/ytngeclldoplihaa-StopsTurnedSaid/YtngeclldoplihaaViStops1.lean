/- Layers 8 and 17: a call's direction; a car's calls and goals. -/
import Derived.Test.YtngeclldoplihaaViCost3
import Derived.Test.YtngeclldoplihaaViRefL
set_option maxRecDepth 100000
set_option linter.unusedVariables false
set_option linter.unusedSimpArgs false
namespace Go.Vi
open Go.Proofs
section
variable {bx : List Box} {tk : List (Nat × Nat)} {lo tlo : Nat} {R : Res}
theorem goal_ok' {xId : Int} {xKind : Int} {xFrom : Int} {xTo : Int} {xCar : Int} {xState : Int} {xOwner : Int} {xBorn : Int} : callsV E0 62 [.agg [.int .i64 xId, .int .i64 xKind, .int .i64 xFrom, .int .i64 xTo, .int .i64 xCar, .int .i64 xState, .int .i64 xOwner, .int .i64 xBorn]] bx tk lo tlo R = R (I (goal (Call.mk xId xKind xFrom xTo xCar xState xOwner xBorn))) bx tk := goal_ok (Call.mk xId xKind xFrom xTo xCar xState xOwner xBorn)
def cmp (a b : Int) : Int := if ltI a b then -1 else if ltI b a then 1 else 0
theorem cmp_ok (a b : Int) : callsV E0 101 [I a, I b] bx tk lo tlo R = R (I (cmp a b)) bx tk := by
  refine calls_iff E0good E0det ?_ R
  refine callsT_pure (g := Try.f101) (n := 20) (rs := [.tmp 4]) 7 [(0, I a), (1, I b)] rfl Try.func101 rfl (by kernel_rfl) rfl rfl (by simp) (by simp) rfl md101 rg101 ?_
  simp (config := { implicitDefEqProofs := false, contextual := true, maxSteps := 1000000 }) only [go_sem, Nat.reduceAdd, Nat.reduceMul, Nat.reduceLeDiff, Nat.reduceEqDiff, Nat.reduceLT, Nat.reduceBEq, ↓isNaN_ok]
  simp_all [cmp]
def dirC (x : Call) : Int := if eqI x.Kind 1 then 1 else if eqI x.Kind 2 then -1 else if eqI x.Kind 4 then (if ltI 0 (cmp x.To x.From) then 1 else -1) else 0
theorem dir_ok (x : Call) : callsV E0 63 [.agg x.cells] bx tk lo tlo R = R (I (dirC x)) bx tk := by
  refine calls_iff E0good E0det ?_ R
  refine callsT_pure (g := Try.f63) (n := 17) (rs := [.tmp 2]) 10 [(0, .agg x.cells)] rfl Try.func63 rfl (by kernel_rfl) rfl rfl (by simp) (by simp) rfl md63 rg63 ?_
  simp (config := { implicitDefEqProofs := false, contextual := true, maxSteps := 1000000 }) only [go_sem, Nat.reduceAdd, Nat.reduceMul, Nat.reduceLeDiff, Nat.reduceEqDiff, Nat.reduceLT, Nat.reduceBEq, Call.cells_eq, ↓cmp_ok]
  simp_all [dirC]
theorem dir_ok' {xId : Int} {xKind : Int} {xFrom : Int} {xTo : Int} {xCar : Int} {xState : Int} {xOwner : Int} {xBorn : Int} : callsV E0 63 [.agg [.int .i64 xId, .int .i64 xKind, .int .i64 xFrom, .int .i64 xTo, .int .i64 xCar, .int .i64 xState, .int .i64 xOwner, .int .i64 xBorn]] bx tk lo tlo R = R (I (dirC (Call.mk xId xKind xFrom xTo xCar xState xOwner xBorn))) bx tk := dir_ok (Call.mk xId xKind xFrom xTo xCar xState xOwner xBorn)
def mine (n : Int) (x : Call) : Bool := eqI x.Car n && (eqI x.State 2 || eqI x.State 3)
theorem mine_ok (x : Call) (n : Int) : callsV E0 103 [.agg x.cells, I n] bx tk lo tlo R = R (.bool (mine n x)) bx tk := by
  refine calls_iff E0good E0det ?_ R
  refine callsT_pure (g := Try.f103) (n := 19) (rs := [.tmp 4]) 5 [(0, .agg x.cells), (1, I n)] rfl Try.func103 rfl (by kernel_rfl) rfl rfl (by simp) (by simp) rfl md103 rg103 ?_
  simp (config := { implicitDefEqProofs := false, contextual := true, maxSteps := 1000000 }) only [go_sem, Nat.reduceAdd, Nat.reduceMul, Nat.reduceLeDiff, Nat.reduceEqDiff, Nat.reduceLT, Nat.reduceBEq, Call.cells_eq]
  simp_all [mine]
theorem mine_ok' {xId : Int} {xKind : Int} {xFrom : Int} {xTo : Int} {xCar : Int} {xState : Int} {xOwner : Int} {xBorn : Int} {n : Int} : callsV E0 103 [.agg [.int .i64 xId, .int .i64 xKind, .int .i64 xFrom, .int .i64 xTo, .int .i64 xCar, .int .i64 xState, .int .i64 xOwner, .int .i64 xBorn], I n] bx tk lo tlo R = R (.bool (mine n (Call.mk xId xKind xFrom xTo xCar xState xOwner xBorn))) bx tk := mine_ok (Call.mk xId xKind xFrom xTo xCar xState xOwner xBorn) n
theorem mine1_ok {x : Call} {n : Int} {r : Nat} (h : bx[r]? = some (.rows 1 [[I n]])) : callsV E0 102 [.agg x.cells, .ptr r 0 0] bx tk lo tlo R = R (.bool (mine n x)) bx tk := by
  refine calls_iff E0good E0det ?_ R
  refine callsT_pure (g := Try.f102) (n := 7) (rs := [.tmp 3]) 4 [(0, .agg x.cells), (1, .ptr r 0 0)] rfl Try.func102 rfl (by kernel_rfl) rfl rfl (by simp) (by simp) rfl md102 rg102 ?_
  simp (config := { implicitDefEqProofs := false, contextual := true, maxSteps := 1000000 }) only [go_sem, Nat.reduceAdd, Nat.reduceMul, Nat.reduceLeDiff, Nat.reduceEqDiff, Nat.reduceLT, Nat.reduceBEq, h, ↓mine_ok]
def pickR (p : Call → Bool) (l : List Call) (i : Nat) : List (List V) := ((l.take i).filter p).map Call.cells
theorem pickR_succ {p : Call → Bool} {l : List Call} {i : Nat} (hi : i < l.length) : pickR p l (i + 1) = if p l[i] then pickR p l i ++ [l[i].cells] else pickR p l i := by
  simp only [pickR]
  rw [List.take_succ_eq_append_getElem hi, List.filter_append]
  by_cases h : p l[i] = true
  · simp only [h, if_true, List.filter_cons, List.filter_nil, List.map_append, List.map_cons, List.map_nil]
  · simp [h, List.filter_cons]
theorem pickR_len {p : Call → Bool} {l : List Call} {i : Nat} : (pickR p l i).length ≤ i := by
  simp only [pickR, List.length_map]
  exact Nat.le_trans (List.length_filter_le _ _) (by simp; omega)
theorem pickR_all (p : Call → Bool) (l : List Call) : pickR p l l.length = (l.filter p).map Call.cells := by simp [pickR]
def PickS (v : V) (g : FuncId) (caps : List V) (l : List Call) (p : Call → Bool) (bx : List Box) (tk : List (Nat × Nat)) (i : Nat) (s : St) : Prop :=
  ∃ us ws : List (Nat × V), (look us 1 = .func (.func g) [] caps ∧ look us 5 = accV tk 8 (pickR p l i) ∧ look ws 8 = v ∧ look ws 9 = I l.length ∧ look ws 10 = I i) ∧ s = ⟨tab2 23 8 us ws, bx, tkAt tk 8 (pickR p l i).length⟩
theorem pick_ok {v : V} {g : FuncId} {caps : List V} {l : List Call} {p : Call → Bool} (hv : IsL Call.cells 8 v l) (hlen : l.length ≤ 70) (hf : ∀ (x : Call) tk lo tlo R, callsV E0 g (.agg x.cells :: caps) bx tk lo tlo R = R (.bool (p x)) bx tk) :
    callsV E0 74 [v, .func (.func g) [] caps] bx tk lo tlo R = R (mkL 8 ((l.filter p).map Call.cells)) bx tk := by
  refine calls_iff E0good E0det ?_ R
  refine callsT_pure (g := Try.f74) (n := 23) (rs := [.tmp 4]) 8 [(0, v), (1, .func (.func g) [] caps)] rfl Try.func74 rfl (by kernel_rfl) rfl rfl (by simp) (by simp) rfl md74 rg74 ?_
  simp (config := { implicitDefEqProofs := false, contextual := true, maxSteps := 1000000 }) only [go_sem, Nat.reduceAdd, Nat.reduceMul, Nat.reduceLeDiff, Nat.reduceEqDiff, Nat.reduceLT, Nat.reduceBEq, hv.copy, hv.lenV, hv.lenK, hv.lk, hv.clear]
  refine wpv_for E0good l.length (PickS v g caps l p bx tk) ?_ ?_ ?_
  · exact ⟨_, _, ⟨by simp [look, enumU, pickR, accV], by simp [look, enumU, pickR, accV], by simp [look, enumU, pickR, accV], by simp [look, enumU, pickR, accV], by simp [look, enumU, pickR, accV]⟩, rfl⟩
  · intro i hi s hs
    obtain ⟨us, ws, ⟨s1, s5, s8, s9, s10⟩, rfl⟩ := hs
    have h8 : ((pickR p l i).length + 1) * 64 ≤ appLim := by have := pickR_len (p := p) (l := l) (i := i); unfold appLim; omega
    simp (config := { implicitDefEqProofs := false, contextual := true, maxSteps := 1000000 }) only [go_sem, Nat.reduceAdd, Nat.reduceMul, Nat.reduceLeDiff, Nat.reduceEqDiff, Nat.reduceLT, Nat.reduceBEq, s1, s5, s8, s9, s10, look_clear, x_clear_func, acc_clear, hv.clear, x_clear_int, hv.copy, hv.lk, hv.elem (by decide) hi, lt_cast hi, wrap_succ hi hv.len, asNat_cast, ↓hf, h8, acc_app, Nat.le_refl]
    refine ⟨fun h => ?_, fun h => ?_⟩
    · have e : tkAt tk 8 (pickR p l (i + 1)).length = tkAt tk 8 ((pickR p l i).length + 1) := by rw [pickR_succ hi, if_pos h]; simp
      unfold PickS
      rw [e]
      exact ⟨_, _, ⟨by simp [look, pickR_succ hi, h, look_clear, x_clear_func, acc_clear, hv.clear, x_clear_int, s1, s5, s8, s9, s10], by simp [look, pickR_succ hi, h, look_clear, x_clear_func, acc_clear, hv.clear, x_clear_int, s1, s5, s8, s9, s10], by simp [look, pickR_succ hi, h, look_clear, x_clear_func, acc_clear, hv.clear, x_clear_int, s1, s5, s8, s9, s10], by simp [look, pickR_succ hi, h, look_clear, x_clear_func, acc_clear, hv.clear, x_clear_int, s1, s5, s8, s9, s10], by simp [look, pickR_succ hi, h, look_clear, x_clear_func, acc_clear, hv.clear, x_clear_int, s1, s5, s8, s9, s10]⟩, rfl⟩
    · have e : pickR p l (i + 1) = pickR p l i := by rw [pickR_succ hi]; simp [h]
      unfold PickS
      rw [e]
      exact ⟨_, _, ⟨by simp [look, look_clear, x_clear_func, acc_clear, hv.clear, x_clear_int, s1, s5, s8, s9, s10], by simp [look, look_clear, x_clear_func, acc_clear, hv.clear, x_clear_int, s1, s5, s8, s9, s10], by simp [look, look_clear, x_clear_func, acc_clear, hv.clear, x_clear_int, s1, s5, s8, s9, s10], by simp [look, look_clear, x_clear_func, acc_clear, hv.clear, x_clear_int, s1, s5, s8, s9, s10], by simp [look, look_clear, x_clear_func, acc_clear, hv.clear, x_clear_int, s1, s5, s8, s9, s10]⟩, rfl⟩
  · intro s hs
    obtain ⟨us, ws, ⟨s1, s5, s8, s9, s10⟩, rfl⟩ := hs
    simp (config := { implicitDefEqProofs := false, contextual := true, maxSteps := 1000000 }) only [go_sem, Nat.reduceAdd, Nat.reduceMul, Nat.reduceLeDiff, Nat.reduceEqDiff, Nat.reduceLT, Nat.reduceBEq, s1, s5, s8, s9, s10, lt_self, acc_fz, Nat.le_refl, pickR_all]
def mineL (l : List Call) (n : Int) : List Call := l.filter (mine n)
theorem mineL_ok {v : V} {l : List Call} {n : Int} (hv : IsL Call.cells 8 v l) (hlen : l.length ≤ 70) : callsV E0 67 [v, I n] bx tk lo tlo R = R (mkL 8 ((mineL l n).map Call.cells)) bx tk := by
  refine calls_iff E0good E0det ?_ R
  refine callsT_pure (g := Try.f67) (n := 8) (rs := [.tmp 4]) 5 [(0, v), (1, I n)] rfl Try.func67 rfl (by kernel_rfl) rfl rfl (by simp) (by simp) rfl md67 rg67 ?_
  simp (config := { implicitDefEqProofs := false, contextual := true, maxSteps := 1000000 }) only [go_sem, Nat.reduceAdd, Nat.reduceMul, Nat.reduceLeDiff, Nat.reduceEqDiff, Nat.reduceLT, Nat.reduceBEq, hv.copy, hv.lk]
  unfold wcall
  rw [pick_ok (p := mine n) hv hlen (by intros; exact mine1_ok (by simp))]
  simp (config := { implicitDefEqProofs := false, contextual := true, maxSteps := 1000000 }) only [go_sem, Nat.reduceAdd, Nat.reduceMul, Nat.reduceLeDiff, Nat.reduceEqDiff, Nat.reduceLT, Nat.reduceBEq, mineL]
def goalsR (l : List Call) (i : Nat) : List (List V) := rowsInt ((l.take i).map goal)
theorem pSort : E0.prim 68 = some (relOf sortP) := rfl
theorem pCompact : E0.prim 69 = some (relOf compactP) := rfl
theorem isort_len (zs : List Int) : (isort zs).length = zs.length := (isort_perm zs).length_eq
theorem goalsR_succ {l : List Call} {i : Nat} (hi : i < l.length) : goalsR l (i + 1) = goalsR l i ++ [[I (goal l[i])]] := by
  simp only [goalsR, rowsInt]
  rw [List.take_succ_eq_append_getElem hi]
  simp only [List.map_append, List.map_cons, List.map_nil]
theorem goalsR_len {l : List Call} {i : Nat} : (goalsR l i).length ≤ i := by simp [goalsR, rowsInt]; omega
theorem goalsR_all (l : List Call) : goalsR l l.length = rowsInt (l.map goal) := by simp [goalsR]
def goals (l : List Call) (n : Int) : List Int := compA none (isort ((mineL l n).map goal))
theorem goals_len (l : List Call) (n : Int) : (goals l n).length ≤ l.length := by
  unfold goals mineL
  refine Nat.le_trans (compA_length _ _) ?_
  rw [isort_len, List.length_map]
  exact List.length_filter_le _ _
def GoalS (v : V) (l : List Call) (bx : List Box) (tk : List (Nat × Nat)) (i : Nat) (s : St) : Prop :=
  ∃ us ws : List (Nat × V), (look us 5 = gRef bx (goalsR l i) ∧ look ws 10 = v ∧ look ws 11 = I l.length ∧ look ws 12 = I i) ∧ s = ⟨tab2 26 8 us ws, gBx bx 1 (goalsR l i), tk⟩
theorem goals_ok {v : V} {l : List Call} {n : Int} (hv : IsL Call.cells 8 v l) (hlen : l.length ≤ 70) : callsV E0 24 [v, I n] bx tk lo tlo R = R (mkL 1 ((goals l n).map encI)) bx tk := by
  refine calls_iff E0good E0det ?_ R
  have hml : (mineL l n).length ≤ 70 := Nat.le_trans (List.length_filter_le _ _) hlen
  have hm : IsL Call.cells 8 (mkL 8 ((mineL l n).map Call.cells)) (mineL l n) := IsL.made (by omega)
  refine callsT_pure (g := Try.f24) (n := 26) (rs := [.tmp 4]) 8 [(0, v), (1, I n)] rfl Try.func24 rfl (by kernel_rfl) rfl rfl (by simp) (by simp) rfl md24 rg24 ?_
  simp (config := { implicitDefEqProofs := false, contextual := true, maxSteps := 1000000 }) only [go_sem, Nat.reduceAdd, Nat.reduceMul, Nat.reduceLeDiff, Nat.reduceEqDiff, Nat.reduceLT, Nat.reduceBEq, hv.copy, hv.lk, ↓mineL_ok hv hlen, List.length_map]
  refine wpv_for E0good (mineL l n).length (GoalS (mkL 8 ((mineL l n).map Call.cells)) (mineL l n) bx tk) ?_ ?_ ?_
  · exact ⟨_, _, ⟨by first | rfl | simp [look, enumU, goalsR, gRef], by first | rfl | simp [look, enumU, goalsR, gRef], by first | rfl | simp [look, enumU, goalsR, gRef], by first | rfl | simp [look, enumU, goalsR, gRef]⟩, rfl⟩
  · intro i hi s hs
    obtain ⟨us, ws, ⟨s5, s10, s11, s12⟩, rfl⟩ := hs
    have h8 : ((goalsR (mineL l n) i).length + 1) * 8 ≤ appLim := by have := goalsR_len (l := mineL l n) (i := i); unfold appLim; omega
    simp (config := { implicitDefEqProofs := false, contextual := true, maxSteps := 1000000 }) only [go_sem, Nat.reduceAdd, Nat.reduceMul, Nat.reduceLeDiff, Nat.reduceEqDiff, Nat.reduceLT, Nat.reduceBEq, s5, s10, s11, s12, look_clear, gRef_clear, hm.clear, x_clear_int, hm.copy, hm.lk, hm.elem (by decide) hi, lt_cast hi, wrap_succ hi hm.len, asNat_cast, Call.cells_eq, ↓goal_ok', h8, gRef_app, Nat.le_refl]
    unfold GoalS
    rw [goalsR_succ hi]
    exact ⟨_, _, ⟨by simp [look, look_clear, x_clear_func, gRef_clear, hm.clear, x_clear_int, s5, s10, s11, s12], by simp [look, look_clear, x_clear_func, gRef_clear, hm.clear, x_clear_int, s5, s10, s11, s12], by simp [look, look_clear, x_clear_func, gRef_clear, hm.clear, x_clear_int, s5, s10, s11, s12], by simp [look, look_clear, x_clear_func, gRef_clear, hm.clear, x_clear_int, s5, s10, s11, s12]⟩, rfl⟩
  · intro s hs
    obtain ⟨us, ws, ⟨s5, s10, s11, s12⟩, rfl⟩ := hs
    have hl : ((mineL l n).map goal).length < 4611686018427387904 := by simp; omega
    have hl2 : (isort ((mineL l n).map goal)).length < 4611686018427387904 := by rw [isort_len]; exact hl
    rw [goalsR_all] at s5 ⊢
    unfold goals
    generalize (mineL l n).map goal = zs at hl hl2 s5
    have hlen2 := isort_len zs
    cases zs with
    | nil =>
      simp only [rowsInt, isort, gRef, gBx, List.map_nil] at s5 ⊢
      simp (config := { implicitDefEqProofs := false, contextual := true, maxSteps := 1000000 }) only [go_sem, Nat.reduceAdd, Nat.reduceMul, Nat.reduceLeDiff, Nat.reduceEqDiff, Nat.reduceLT, Nat.reduceBEq, s5, s10, s11, s12, lt_self, ↓sort_nil pSort, ↓compact_nil pCompact, compA, mkL]
    | cons z zs =>
      have e : gRef bx (rowsInt (z :: zs)) = gRef bx (rowsInt (isort (z :: zs))) := by
        cases hh : isort (z :: zs) with
        | nil => rw [hh] at hlen2; simp at hlen2
        | cons y ys => rw [hh] at hlen2; simp at hlen2; simp [gRef, rowsInt, hlen2]
      have hne : isort (z :: zs) ≠ [] := by intro hh; rw [hh] at hlen2; simp at hlen2
      have hsort : ∀ R, callsV E0 68 [gRef bx (rowsInt (isort (z :: zs)))] (gBx bx 1 (rowsInt (z :: zs))) tk bx.length tk.length R = R (.tuple []) (gBx bx 1 (rowsInt (isort (z :: zs)))) tk := by
        intro R; rw [← e]; exact sort_run pSort (Nat.le_refl _) hl
      rw [e] at s5
      generalize isort (z :: zs) = ys at hne hl2 hlen2 hsort s5
      have hle := compA_length ys none
      simp (config := { implicitDefEqProofs := false, contextual := true, maxSteps := 1000000 }) only [go_sem, Nat.reduceAdd, Nat.reduceMul, Nat.reduceLeDiff, Nat.reduceEqDiff, Nat.reduceLT, Nat.reduceBEq, s5, s10, s11, s12, lt_self, ↓hsort, ↓compact_run pCompact (Nat.le_refl _) hl2 hne, compact_fz (Nat.le_refl _) (compA_ne hne rfl) (n := ys.length) (k := ys.length - (compA none ys).length) (by omega)]
      rfl
end
end Go.Vi
