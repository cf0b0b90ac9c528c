/- Layers 17 and 18: what asks of a list whether some number is so; directions; ways. -/
import Derived.Test.YtngeclldoplihaaViCost1
set_option maxRecDepth 100000
set_option linter.unusedVariables false
set_option linter.unusedSimpArgs false
namespace Go.Vi
open Go.Proofs
abbrev encI (n : Int) : List V := [.int .i64 n]
section
variable {bx : List Box} {tk : List (Nat × Nat)} {lo tlo : Nat} {R : Res}
/-- Where the first such number is; -1: nowhere. -/
def idxF (p : Int → Bool) (l : List Int) : Int :=
  match l.findIdx? p with
  | some k => k
  | none => -1
theorem idxF_some {p : Int → Bool} {l : List Int} {i : Nat} (hi : i < l.length) (h : p l[i] = true) (hp : ∀ j (hj : j < i) (hl : j < l.length), p l[j] = false) : idxF p l = i := by
  have : l.findIdx? p = some i := List.findIdx?_eq_some_iff_getElem.2 ⟨hi, h, fun j hj => by rw [hp j hj (by omega)]; simp⟩
  simp [idxF, this]
theorem idxF_none {p : Int → Bool} {l : List Int} (hp : ∀ j (hl : j < l.length), p l[j] = false) : idxF p l = -1 := by
  have : l.findIdx? p = none := by
    rw [List.findIdx?_eq_none_iff]
    intro x hx
    obtain ⟨j, hj, rfl⟩ := List.getElem_of_mem hx
    exact hp j hj
  simp [idxF, this]
theorem idxF_any (p : Int → Bool) (l : List Int) : leI 0 (idxF p l) = l.any p := by
  unfold idxF
  cases h : l.findIdx? p with
  | none =>
    have := List.findIdx?_eq_none_iff.1 h
    simp [leI]
    intro x hx
    simpa using this x hx
  | some k =>
    obtain ⟨hk, h1, _⟩ := List.findIdx?_eq_some_iff_getElem.1 h
    simp [leI]
    exact ⟨l[k], List.getElem_mem hk, h1⟩
def IdxS (v : V) (g : FuncId) (caps : List V) (l : List Int) (p : Int → Bool) (bx : List Box) (tk : List (Nat × Nat)) (i : Nat) (s : St) : Prop :=
  ∃ us ws : List (Nat × V), (look us 0 = v ∧ look us 1 = .func (.func g) [] caps ∧ look ws 7 = I l.length ∧ look ws 8 = I i) ∧ s = ⟨tab2 19 6 us ws, bx, tk⟩ ∧ ∀ j (hj : j < i) (hl : j < l.length), p l[j] = false
theorem idx_ok {v : V} {g : FuncId} {caps : List V} {l : List Int} {p : Int → Bool} (hv : IsL encI 1 v l) (hf : ∀ n lo tlo R, callsV E0 g (I n :: caps) bx tk lo tlo R = R (.bool (p n)) bx tk) :
    callsV E0 107 [v, .func (.func g) [] caps] bx tk lo tlo R = R (I (idxF p l)) bx tk := by
  refine calls_iff E0good E0det ?_ R
  refine callsT_pure (g := Try.f107) (n := 19) (rs := [.tmp 4]) 6 [(0, v), (1, .func (.func g) [] caps)] rfl Try.func107 rfl (by kernel_rfl) rfl rfl (by simp) (by simp) rfl md107 rg107 ?_
  simp (config := { implicitDefEqProofs := false, contextual := true, maxSteps := 1000000 }) only [go_sem, Nat.reduceAdd, Nat.reduceMul, Nat.reduceLeDiff, Nat.reduceEqDiff, Nat.reduceLT, Nat.reduceBEq, hv.copy, hv.lenV, hv.lenK, hv.lk]
  refine wpv_for E0good l.length (IdxS v g caps l p bx tk) ?_ ?_ ?_
  · exact ⟨_, _, ⟨by simp [look, enumU], by simp [look, enumU], by simp [look, enumU], by simp [look, enumU]⟩, rfl, fun j hj => absurd hj (by omega)⟩
  · intro i hi s hs
    obtain ⟨us, ws, ⟨s0, s1, s7, s8⟩, rfl, hp⟩ := hs
    simp (config := { implicitDefEqProofs := false, contextual := true, maxSteps := 1000000 }) only [go_sem, Nat.reduceAdd, Nat.reduceMul, Nat.reduceLeDiff, Nat.reduceEqDiff, Nat.reduceLT, Nat.reduceBEq, s0, s1, s7, s8, hv.copy, hv.lk, hv.elem (by decide) hi, lt_cast hi, wrap_succ hi hv.len, asNat_cast, ↓hf]
    refine ⟨fun h => ?_, fun h => ⟨_, _, ⟨by simp [look, s0, s1, s7, s8], by simp [look, s0, s1, s7, s8], by simp [look, s0, s1, s7, s8], by simp [look, s0, s1, s7, s8]⟩, rfl, fun j hj hl => ?_⟩⟩
    · rw [idxF_some hi h hp]
    · by_cases hji : j = i
      · subst hji; exact h
      · exact hp j (by omega) hl
  · intro s hs
    obtain ⟨us, ws, ⟨s0, s1, s7, s8⟩, rfl, hp⟩ := hs
    simp (config := { implicitDefEqProofs := false, contextual := true, maxSteps := 1000000 }) only [go_sem, Nat.reduceAdd, Nat.reduceMul, Nat.reduceLeDiff, Nat.reduceEqDiff, Nat.reduceLT, Nat.reduceBEq, s0, s1, s7, s8, lt_self]
    rw [idxF_none fun j hl => hp j hl hl]
theorem contains_ok {v : V} {g : FuncId} {caps : List V} {l : List Int} {p : Int → Bool} (hv : IsL encI 1 v l) (hf : ∀ n lo tlo R, callsV E0 g (I n :: caps) bx tk lo tlo R = R (.bool (p n)) bx tk) :
    callsV E0 72 [v, .func (.func g) [] caps] bx tk lo tlo R = R (.bool (l.any p)) bx tk := by
  refine calls_iff E0good E0det ?_ R
  refine callsT_pure (g := Try.f72) (n := 9) (rs := [.tmp 4]) 5 [(0, v), (1, .func (.func g) [] caps)] rfl Try.func72 rfl (by kernel_rfl) rfl rfl (by simp) (by simp) rfl md72 rg72 ?_
  simp (config := { implicitDefEqProofs := false, contextual := true, maxSteps := 1000000 }) only [go_sem, Nat.reduceAdd, Nat.reduceMul, Nat.reduceLeDiff, Nat.reduceEqDiff, Nat.reduceLT, Nat.reduceBEq, hv.copy, hv.lk, ↓idx_ok hv hf, idxF_any]
def ahead1 (x : Car) (d n : Int) : Bool := (eqI d 1 && ltI x.Floor n) || (eqI d (-1) && ltI n x.Floor)
theorem ahead1_ok {x : Car} {d n : Int} {rd rx : Nat} (h1 : bx[rd]? = some (.rows 1 [[I d]])) (h2 : bx[rx]? = some (.rows 5 [x.cells])) :
    callsV E0 73 [I n, .ptr rd 0 0, .ptr rx 0 0] bx tk lo tlo R = R (.bool (ahead1 x d n)) bx tk := by
  refine calls_iff E0good E0det ?_ R
  refine callsT_pure (g := Try.f73) (n := 23) (rs := [.tmp 4]) 5 [(0, I n), (1, .ptr rd 0 0), (2, .ptr rx 0 0)] rfl Try.func73 rfl (by kernel_rfl) rfl rfl (by simp) (by simp) rfl md73 rg73 ?_
  simp (config := { implicitDefEqProofs := false, contextual := true, maxSteps := 1000000 }) only [go_sem, Nat.reduceAdd, Nat.reduceMul, Nat.reduceLeDiff, Nat.reduceEqDiff, Nat.reduceLT, Nat.reduceBEq, h1, h2, Car.cells_eq]
  simp_all [ahead1]
def ahead (x : Car) (l : List Int) (d : Int) : Bool := l.any (ahead1 x d)
theorem ahead_ok {x : Car} {v : V} {l : List Int} {d : Int} (hv : IsL encI 1 v l) : callsV E0 27 [.agg x.cells, v, I d] bx tk lo tlo R = R (.bool (ahead x l d)) bx tk := by
  refine calls_iff E0good E0det ?_ R
  refine callsT_pure (g := Try.f27) (n := 10) (rs := [.tmp 6]) 7 [(0, .agg x.cells), (1, v), (2, I d)] rfl Try.func27 rfl (by kernel_rfl) rfl rfl (by simp) (by simp) rfl md27 rg27 ?_
  simp (config := { implicitDefEqProofs := false, contextual := true, maxSteps := 1000000 }) only [go_sem, Nat.reduceAdd, Nat.reduceMul, Nat.reduceLeDiff, Nat.reduceEqDiff, Nat.reduceLT, Nat.reduceBEq, hv.copy, hv.lk, Car.cells_eq]
  unfold wcall
  rw [contains_ok (p := ahead1 x d) hv (fun n lo tlo R => ahead1_ok (by simp) (by simp [Car.cells_eq]))]
  simp (config := { implicitDefEqProofs := false, contextual := true, maxSteps := 1000000 }) only [go_sem, Nat.reduceAdd, Nat.reduceMul, Nat.reduceLeDiff, Nat.reduceEqDiff, Nat.reduceLT, Nat.reduceBEq, ahead]
end
end Go.Vi
