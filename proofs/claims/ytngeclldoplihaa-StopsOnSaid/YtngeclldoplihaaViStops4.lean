/- The law StopsOn: the walk. -/
import Derived.Test.YtngeclldoplihaaViStops3
set_option maxRecDepth 100000
set_option linter.unusedVariables false
set_option linter.unusedSimpArgs false
namespace Go.Vi
open Go.Proofs
def OnS (v : V) (x : Car) (n : Int) (i : Nat) (s : St) : Prop :=
  ∃ us ws : List (Nat × V), (look us 1 = v ∧ look us 2 = I n ∧ look us 3 = .loc x.cells ∧ look us 10 = I i) ∧ s = ⟨tab2 152 12 us ws, [], []⟩
theorem isL_get {α : Type} {enc : α → List V} {es : Nat} {v : V} {l : List α} (h : IsL enc es v l) (h0 : 0 < es) (st : St) {a : α} (ha : l = [a]) : elemAddr st es 0 v = some (.iptr (enc a), st) := by
  subst ha; exact h.elem h0 (i := 0) (by simp) st
set_option maxHeartbeats 2000000 in
theorem on_walk {x : Car} {v : V} {l : List Call} {n : Int} (hv : IsL Call.cells 8 v l) : callsV E0 5 [.agg x.cells, v, I n] [] [] 0 0 (fun u _ _ => u = .bool true) := by
  by_cases hgr : great x l = true
  · refine callsT_pure (g := Try.f5) (n := 152) (rs := [.tmp 6]) 12 [(0, .agg x.cells), (1, v), (2, I n)] rfl Try.func5 rfl (by kernel_rfl) rfl rfl (by simp) (by simp) rfl md5 rg5 ?_
    simp (config := { implicitDefEqProofs := false, contextual := true, maxSteps := 1000000 }) only [go_sem, Nat.reduceAdd, Nat.reduceMul, Nat.reduceLeDiff, Nat.reduceEqDiff, Nat.reduceLT, Nat.reduceBEq, hv.copy, hv.lenV, hv.lenK, hv.lk, hv.clear, ↓awake17_ok, ↓great_ok hv, hgr]
  have hgr' : great x l = false := by simpa using hgr
  have hf := great_false hgr'
  have hlen := hf.len
  have hg : IsL encI 1 (mkL 1 ((goals l n).map encI)) (goals l n) := IsL.made (by have := goals_len l n; omega)
  by_cases hnil : goals l n = []
  · have hst : stop x l n = false := by
      cases hs : stop x l n with
      | false => rfl
      | true => exact absurd hnil (stop_some hs).2
    have htu := turn_nil (x := x) hnil
    refine callsT_pure (g := Try.f5) (n := 152) (rs := [.tmp 6]) 12 [(0, .agg x.cells), (1, v), (2, I n)] rfl Try.func5 rfl (by kernel_rfl) rfl rfl (by simp) (by simp) rfl md5 rg5 ?_
    simp (config := { implicitDefEqProofs := false, contextual := true, maxSteps := 1000000 }) only [go_sem, Nat.reduceAdd, Nat.reduceMul, Nat.reduceLeDiff, Nat.reduceEqDiff, Nat.reduceLT, Nat.reduceBEq, hv.copy, hv.lenV, hv.lenK, hv.lk, hv.clear, ↓awake17_ok, ↓great_ok hv, hgr', ↓goals_ok hv hlen, ↓turn_ok hv hlen, ↓stop_ok hv hlen, hnil, hst, htu, List.map_nil, mkL, eqI]
    simp
  have hpos : eqI ((goals l n).length : Int) 0 = false := by
    cases h : goals l n with
    | nil => exact absurd h hnil
    | cons a r => simp [eqI]; omega
  have hA : (!eqI (turnTo x l n) 0) = true → ahead x (goals l n) (turnTo x l n) = true := fun h => turn_ahead hf (by intro h0; rw [h0] at h; simp [eqI] at h)
  have hB : stop x l n = false → eqI (turnTo x l n) 0 = false := fun h => by
    cases ht : eqI (turnTo x l n) 0 with
    | false => rfl
    | true =>
      have := stop_here (turn_zero hf (eqI_true.1 ht)) hnil
      rw [this] at h; cases h
  have hC : stop x l n = true → eqI ((answered x l n).length : Int) 0 = false := fun h => by
    have := (stop_some h).1
    simp [eqI]; intro h0; rw [h0] at this; simp at this
  have hone : ∀ st, eqI ((goals l n).length : Int) 1 = true → elemAddr st 1 0 (mkL 1 ((goals l n).map encI)) = some (.iptr (encI ((goals l n).headD 0)), st) := by
    intro st h
    have h1 : (goals l n).length = 1 := by simp [eqI] at h; omega
    obtain ⟨a, ha⟩ := List.length_eq_one_iff.1 h1
    rw [isL_get hg (by decide) st ha, ha]; rfl
  have hD : stop x l n = false → eqI ((goals l n).length : Int) 1 = true → eqI ((goals l n).headD 0) x.Floor = false := by
    intro hs h
    have h1 : (goals l n).length = 1 := by simp [eqI] at h; omega
    obtain ⟨a, ha⟩ := List.length_eq_one_iff.1 h1
    cases he : eqI ((goals l n).headD 0) x.Floor with
    | false => rfl
    | true =>
      have : stop x l n = true := stop_here (by
        intro b hb
        rw [ha] at hb he
        simp at hb
        subst hb
        exact eqI_true.1 he) hnil
      rw [this] at hs; cases hs
  cases hS : stop x l n with
  | true =>
    have hC' := hC hS
    refine callsT_pure (g := Try.f5) (n := 152) (rs := [.tmp 6]) 12 [(0, .agg x.cells), (1, v), (2, I n)] rfl Try.func5 rfl (by kernel_rfl) rfl rfl (by simp) (by simp) rfl md5 rg5 ?_
    simp (config := { implicitDefEqProofs := false, contextual := true, maxSteps := 1000000 }) only [go_sem, Nat.reduceAdd, Nat.reduceMul, Nat.reduceLeDiff, Nat.reduceEqDiff, Nat.reduceLT, Nat.reduceBEq, hv.copy, hv.lenV, hv.lenK, hv.lk, hv.clear, ↓awake17_ok, ↓great_ok hv, hgr', ↓goals_ok hv hlen, ↓turn_ok hv hlen, ↓stop_ok hv hlen, ↓answered_ok hv hlen, ↓ahead_ok hg, List.length_map, hpos, hone, hS, hA, hC']
  | false =>
    have hT := hB hS
    have hA' := hA (by rw [hT]; rfl)
    have hD' := hD hS
    refine callsT_pure (g := Try.f5) (n := 152) (rs := [.tmp 6]) 12 [(0, .agg x.cells), (1, v), (2, I n)] rfl Try.func5 rfl (by kernel_rfl) rfl rfl (by simp) (by simp) rfl md5 rg5 ?_
    simp (config := { implicitDefEqProofs := false, contextual := true, maxSteps := 1000000 }) only [go_sem, Nat.reduceAdd, Nat.reduceMul, Nat.reduceLeDiff, Nat.reduceEqDiff, Nat.reduceLT, Nat.reduceBEq, hv.copy, hv.lenV, hv.lenK, hv.lk, hv.clear, ↓awake17_ok, ↓great_ok hv, hgr', ↓goals_ok hv hlen, ↓turn_ok hv hlen, ↓stop_ok hv hlen, ↓answered_ok hv hlen, ↓ahead_ok hg, List.length_map, hpos, hone, hS, hT, hA', hD']
    repeat' (first | intro _ | refine And.intro ?_ ?_)
    all_goals
      have hm : x.Moved = true := by assumption
      have hon : ∀ c ∈ l, onC x n c = false := fun c hc => on_stops hS hm hc
      refine wpv_for E0good l.length (OnS v x n) ?_ ?_ ?_
      · exact ⟨_, _, ⟨by simp [look, enumU], by simp [look, enumU], by simp [look, enumU], by simp [look, enumU]⟩, rfl⟩
      · intro i hi s hs
        obtain ⟨us, ws, ⟨s1, s2, s3, s10⟩, rfl⟩ := hs
        have ho := hon l[i] (List.getElem_mem hi)
        simp (config := { implicitDefEqProofs := false, contextual := true, maxSteps := 1000000 }) only [go_sem, Nat.reduceAdd, Nat.reduceMul, Nat.reduceLeDiff, Nat.reduceEqDiff, Nat.reduceLT, Nat.reduceBEq, s1, s2, s3, s10, hv.copy, hv.lk, hv.lenV, hv.lenK, hv.clear, look_clear, x_clear_int, x_clear_loc, hv.elem (by decide) hi, lt_cast hi, wrap_succ hi hv.len, asNat_cast]
        repeat' (first | intro _ | refine And.intro ?_ ?_)
        all_goals first
          | (exact ⟨_, _, ⟨by simp [look, look_clear, x_clear_int, x_clear_loc, hv.clear, s1, s2, s3, s10], by simp [look, look_clear, x_clear_int, x_clear_loc, hv.clear, s1, s2, s3, s10], by simp [look, look_clear, x_clear_int, x_clear_loc, hv.clear, s1, s2, s3, s10], by simp [look, look_clear, x_clear_int, x_clear_loc, hv.clear, s1, s2, s3, s10]⟩, rfl⟩)
          | (exfalso; simp_all [onC, mine]; done)
      · intro s hs
        obtain ⟨us, ws, ⟨s1, s2, s3, s10⟩, rfl⟩ := hs
        simp (config := { implicitDefEqProofs := false, contextual := true, maxSteps := 1000000 }) only [go_sem, Nat.reduceAdd, Nat.reduceMul, Nat.reduceLeDiff, Nat.reduceEqDiff, Nat.reduceLT, Nat.reduceBEq, s1, s2, s3, s10, hv.copy, hv.lk, hv.lenV, hv.lenK, lt_self]
end Go.Vi
