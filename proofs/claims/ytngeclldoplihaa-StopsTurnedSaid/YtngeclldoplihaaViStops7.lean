/- The law StopsTurned: the walk. -/
import Derived.Test.YtngeclldoplihaaViStops6
set_option maxRecDepth 100000
set_option linter.unusedVariables false
set_option linter.unusedSimpArgs false
namespace Go.Vi
open Go.Proofs
theorem aggCall : aggEq Try.prog 30 = some ((Call.cells ⟨0, 0, 0, 0, 0, 0, 0, 0⟩).map kindC) := by kernel_rfl
theorem neq_call (c : Call) : binAny Try.prog .neq 30 (.agg c.cells) (.agg c.cells) = some (.bool false) := by
  have h := bin_agg (op := .neq) (t := 30) («as» := c.cells) (bs := c.cells) aggCall rfl rfl
  rw [h, binAgg_neq]
  simp [Call.cells_eq, eqCells_int, eqCells_nil, om, eqI]
theorem eqB_self (b : Bool) : eqB b b = true := by cases b <;> rfl
theorem eqI_self (a : Int) : eqI a a = true := by simp [eqI]
theorem neq_call' (c : Call) : binAny E0.P .neq 30 (.agg c.cells) (.agg c.cells) = some (.bool false) := neq_call c
def oversR (l : List Call) (i : Nat) : List (List V) := ((l.take i).map over).map Call.cells
theorem oversR_succ {l : List Call} {i : Nat} (hi : i < l.length) : oversR l (i + 1) = oversR l i ++ [(over l[i]).cells] := by
  simp only [oversR]
  rw [List.take_succ_eq_append_getElem hi]
  simp only [List.map_append, List.map_cons, List.map_nil]
theorem oversR_len {l : List Call} {i : Nat} : (oversR l i).length ≤ i := by simp [oversR]; omega
theorem oversR_all (l : List Call) : oversR l l.length = (l.map over).map Call.cells := by simp [oversR]
def difC (c : Call) : Bool := eqI c.Kind 4 && eqI c.From c.To
def To1S (v : V) (x : Car) (l : List Call) (n : Int) (i : Nat) (s : St) : Prop :=
  ∃ us ws : List (Nat × V), (look us 1 = v ∧ look us 2 = I n ∧ look us 3 = .loc x.cells ∧ look us 7 = accE [] 8 (oversR l i) ∧ look us 8 = I i) ∧ s = ⟨tab2 165 19 us ws, [], tkAt [] 8 (oversR l i).length⟩ ∧ ∀ j (hj : j < i) (hl : j < l.length), difC l[j] = false
def To2S (v w : V) (x : Car) (l a : List Call) (n : Int) (tk : List (Nat × Nat)) (i : Nat) (s : St) : Prop :=
  ∃ us ws : List (Nat × V), (look us 1 = v ∧ look us 2 = I n ∧ look us 3 = .loc x.cells ∧ look us 7 = w ∧ look us 9 = .loc (upside x).cells ∧ look us 10 = mkL 8 (a.map Call.cells) ∧ look us 11 = mkL 8 ((a.map over).map Call.cells) ∧ look us 12 = I i) ∧ s = ⟨tab2 165 19 us ws, [], tk⟩
def To3S (x : Car) (G : List Int) (t u : Int) (tk : List (Nat × Nat)) (i : Nat) (s : St) : Prop :=
  ∃ us ws : List (Nat × V), (look us 3 = .loc x.cells ∧ look us 13 = I t ∧ look us 14 = I u ∧ look us 15 = mkL 1 (G.map encI) ∧ look us 16 = .bool (tieI x G i) ∧ look us 17 = I i) ∧ s = ⟨tab2 165 19 us ws, [], tk⟩
def To4S (x : Car) (G : List Int) (t u : Int) (k : Nat) (tk : List (Nat × Nat)) (i : Nat) (s : St) : Prop :=
  ∃ us ws : List (Nat × V), (look us 3 = .loc x.cells ∧ look us 13 = I t ∧ look us 14 = I u ∧ look us 15 = mkL 1 (G.map encI) ∧ look us 16 = .bool (tieI x G k || pairs x G k i) ∧ look us 17 = I k ∧ look us 18 = I i) ∧ s = ⟨tab2 165 19 us ws, [], tk⟩
set_option maxHeartbeats 2000000 in
theorem sturned_walk {x : Car} {v : V} {l : List Call} {n : Int} (hv : IsL Call.cells 8 v l) : callsV E0 6 [.agg x.cells, v, I n] [] [] 0 0 (fun u _ _ => u = .bool true) := by
  by_cases hgr : great x l = true
  · refine callsT_pure (g := Try.f6) (n := 165) (rs := [.tmp 6]) 19 [(0, .agg x.cells), (1, v), (2, I n)] rfl Try.func6 rfl (by kernel_rfl) rfl rfl (by simp) (by simp) rfl md6 rg6 ?_
    simp (config := { implicitDefEqProofs := false, contextual := true, maxSteps := 1000000 }) only [go_sem, Nat.reduceAdd, Nat.reduceMul, Nat.reduceLeDiff, Nat.reduceEqDiff, Nat.reduceLT, Nat.reduceBEq, hv.copy, hv.lenV, hv.lenK, hv.lk, hv.clear, ↓awake17_ok, ↓great_ok hv, hgr]
  have hgr' : great x l = false := by simpa using hgr
  have hf := great_false hgr'
  have hlen := hf.len
  refine callsT_pure (g := Try.f6) (n := 165) (rs := [.tmp 6]) 19 [(0, .agg x.cells), (1, v), (2, I n)] rfl Try.func6 rfl (by kernel_rfl) rfl rfl (by simp) (by simp) rfl md6 rg6 ?_
  simp (config := { implicitDefEqProofs := false, contextual := true, maxSteps := 1000000 }) only [go_sem, Nat.reduceAdd, Nat.reduceMul, Nat.reduceLeDiff, Nat.reduceEqDiff, Nat.reduceLT, Nat.reduceBEq, hv.copy, hv.lenV, hv.lenK, hv.lk, hv.clear, ↓awake17_ok, ↓great_ok hv, hgr']
  refine wpv_for E0good l.length (To1S v x l n) ?_ ?_ ?_
  · exact ⟨_, _, ⟨by simp [look, enumU, oversR, accE], by simp [look, enumU, oversR, accE], by simp [look, enumU, oversR, accE], by simp [look, enumU, oversR, accE], by simp [look, enumU, oversR, accE]⟩, rfl, fun j hj => absurd hj (by omega)⟩
  · intro i hi s hs
    obtain ⟨us, ws, ⟨s1, s2, s3, s7, s8⟩, rfl, hp⟩ := hs
    have h8 : ((oversR l i).length + 1) * 64 ≤ appLim := by have := oversR_len (l := l) (i := i); unfold appLim; omega
    simp (config := { implicitDefEqProofs := false, contextual := true, maxSteps := 1000000 }) only [go_sem, Nat.reduceAdd, Nat.reduceMul, Nat.reduceLeDiff, Nat.reduceEqDiff, Nat.reduceLT, Nat.reduceBEq, s1, s2, s3, s7, s8, hv.copy, hv.lk, hv.lenV, hv.lenK, hv.elem (by decide) hi, lt_cast hi, wrap_succ hi hv.len, asNat_cast, ↓over_ok, h8, acce_app (tk := []), Nat.zero_le]
    repeat' (first | intro _ | refine And.intro ?_ ?_)
    all_goals
      have e : tkAt [] 8 (oversR l (i + 1)).length = tkAt [] 8 ((oversR l i).length + 1) := by rw [oversR_succ hi]; simp
      unfold To1S
      rw [e]
      exact ⟨_, _, ⟨by simp [look, oversR_succ hi, s1, s2, s3, s7, s8], by simp [look, oversR_succ hi, s1, s2, s3, s7, s8], by simp [look, oversR_succ hi, s1, s2, s3, s7, s8], by simp [look, oversR_succ hi, s1, s2, s3, s7, s8], by simp [look, oversR_succ hi, s1, s2, s3, s7, s8]⟩, rfl, fun j hj hl => by
        by_cases hji : j = i
        · subst hji; simp_all [difC]
        · exact hp j (by omega) hl⟩
  intro s hs
  obtain ⟨us, ws, ⟨s1, s2, s3, s7, s8⟩, rfl, hp⟩ := hs
  have hmir : Mir x l := ⟨hf, fun c hc he => by
    obtain ⟨j, hj, rfl⟩ := List.getElem_of_mem hc
    have := hp j hj hj
    simp [difC, eqI, he.1, he.2] at this⟩
  have hw : IsL Call.cells 8 (accE [] 8 (oversR l l.length)) (l.map over) := by rw [oversR_all]; exact acce_isL (by simp; omega)
  have hlen' : (l.map over).length ≤ 70 := by simp; omega
  have hup : Car.mk (IntKind.i64.wrap (33 - x.Floor)) (IntKind.i64.wrap (0 - x.Dir)) x.Door x.Held x.Moved = upside x := by rw [Int.zero_sub]; rfl
  have hst := stop_over (n := n) hmir
  have han := answered_over (n := n) hmir
  have hal : (answered x l n).length ≤ 70 := Nat.le_trans (List.length_filter_le _ _) hlen
  have hA1 : IsL Call.cells 8 (mkL 8 ((answered x l n).map Call.cells)) (answered x l n) := IsL.made (by omega)
  have hA2 : IsL Call.cells 8 (mkL 8 (((answered x l n).map over).map Call.cells)) ((answered x l n).map over) := IsL.made (by simp; omega)
  have hG : IsL encI 1 (mkL 1 ((goals l n).map encI)) (goals l n) := IsL.made (by have := goals_len l n; omega)
  simp (config := { implicitDefEqProofs := false, contextual := true, maxSteps := 1000000 }) only [go_sem, Nat.reduceAdd, Nat.reduceMul, Nat.reduceLeDiff, Nat.reduceEqDiff, Nat.reduceLT, Nat.reduceBEq, s1, s2, s3, s7, s8, hv.copy, hv.lk, hv.lenV, hv.lenK, hv.clear, look_clear, x_clear_int, x_clear_loc, lt_self, ↓stop_ok hv hlen, ↓stop_ok hw hlen', ↓answered_ok hv hlen, ↓answered_ok hw hlen', List.length_map, hup, hst, han, eqB_self, eqI_self]
  have hsame : ∀ i (hi : i < (answered x l n).length), ((answered x l n).map over)[i]'(by simpa using hi) = over (answered x l n)[i] := fun i hi => by simp
  generalize tkAt [] 8 (oversR l l.length).length = tk'
  refine wpv_for E0good (answered x l n).length (To2S v (accE [] 8 (oversR l l.length)) x l (answered x l n) n tk') ?_ ?_ ?_
  · exact ⟨_, _, ⟨by simp [look, enumU, look_clear, x_clear_int, x_clear_loc, hv.clear, acce_clear, s1, s2, s3, s7, s8], by simp [look, enumU, look_clear, x_clear_int, x_clear_loc, hv.clear, acce_clear, s1, s2, s3, s7, s8], by simp [look, enumU, look_clear, x_clear_int, x_clear_loc, hv.clear, acce_clear, s1, s2, s3, s7, s8], by simp [look, enumU, look_clear, x_clear_int, x_clear_loc, hv.clear, acce_clear, s1, s2, s3, s7, s8], by simp [look, enumU, look_clear, x_clear_int, x_clear_loc, hv.clear, acce_clear, s1, s2, s3, s7, s8], by simp [look, enumU, look_clear, x_clear_int, x_clear_loc, hv.clear, acce_clear, s1, s2, s3, s7, s8], by simp [look, enumU, look_clear, x_clear_int, x_clear_loc, hv.clear, acce_clear, s1, s2, s3, s7, s8], by simp [look, enumU, look_clear, x_clear_int, x_clear_loc, hv.clear, acce_clear, s1, s2, s3, s7, s8]⟩, rfl⟩
  · intro i hi s hs
    obtain ⟨us, ws, ⟨s1, s2, s3, s7, s9, s10, s11, s12⟩, rfl⟩ := hs
    have hi2 : i < ((answered x l n).map over).length := by simpa using hi
    simp (config := { implicitDefEqProofs := false, contextual := true, maxSteps := 1000000 }) only [go_sem, Nat.reduceAdd, Nat.reduceMul, Nat.reduceLeDiff, Nat.reduceEqDiff, Nat.reduceLT, Nat.reduceBEq, s1, s2, s3, s7, s9, s10, s11, s12, hA1.copy, hA1.lk, hA1.lenV, hA1.lenK, hA1.elem (by decide) hi, hA2.copy, hA2.lk, hA2.elem (by decide) hi2, lt_cast hi, wrap_succ hi hA1.len, asNat_cast, ↓over_ok, List.length_map, hsame i hi, neq_call']
    exact ⟨_, _, ⟨by simp [look, s1, s2, s3, s7, s9, s10, s11, s12], by simp [look, s1, s2, s3, s7, s9, s10, s11, s12], by simp [look, s1, s2, s3, s7, s9, s10, s11, s12], by simp [look, s1, s2, s3, s7, s9, s10, s11, s12], by simp [look, s1, s2, s3, s7, s9, s10, s11, s12], by simp [look, s1, s2, s3, s7, s9, s10, s11, s12], by simp [look, s1, s2, s3, s7, s9, s10, s11, s12], by simp [look, s1, s2, s3, s7, s9, s10, s11, s12]⟩, rfl⟩
  intro s hs
  obtain ⟨us, ws, ⟨s1, s2, s3, s7, s9, s10, s11, s12⟩, rfl⟩ := hs
  simp (config := { implicitDefEqProofs := false, contextual := true, maxSteps := 1000000 }) only [go_sem, Nat.reduceAdd, Nat.reduceMul, Nat.reduceLeDiff, Nat.reduceEqDiff, Nat.reduceLT, Nat.reduceBEq, s1, s2, s3, s7, s9, s10, s11, s12, hv.copy, hv.lk, hv.lenV, hv.lenK, hv.clear, hA1.copy, hA1.lk, hA1.lenV, hA1.lenK, List.length_map, lt_self, ↓turn_ok hv hlen, ↓turn_ok hw hlen', ↓goals_ok hv hlen]
  refine wpv_for E0good (goals l n).length (To3S x (goals l n) (turnTo x l n) (turnTo (upside x) (l.map over) n) tk') ?_ ?_ ?_
  · exact ⟨_, _, ⟨by simp [look, tieI, s1, s2, s3, s7, s9, s10, s11, s12], by simp [look, tieI, s1, s2, s3, s7, s9, s10, s11, s12], by simp [look, tieI, s1, s2, s3, s7, s9, s10, s11, s12], by simp [look, tieI, s1, s2, s3, s7, s9, s10, s11, s12], by simp [look, tieI, s1, s2, s3, s7, s9, s10, s11, s12], by simp [look, tieI, s1, s2, s3, s7, s9, s10, s11, s12]⟩, rfl⟩
  · intro i hi s hs
    obtain ⟨us, ws, ⟨s3, s13, s14, s15, s16, s17⟩, rfl⟩ := hs
    simp (config := { implicitDefEqProofs := false, contextual := true, maxSteps := 1000000 }) only [go_sem, Nat.reduceAdd, Nat.reduceMul, Nat.reduceLeDiff, Nat.reduceEqDiff, Nat.reduceLT, Nat.reduceBEq, s3, s13, s14, s15, s16, s17, lt_cast hi, List.length_map]
    refine wpv_for E0good i (To4S x (goals l n) (turnTo x l n) (turnTo (upside x) (l.map over) n) i tk') ?_ ?_ ?_
    · exact ⟨_, _, ⟨by simp [look, pairs, s3, s13, s14, s15, s16, s17], by simp [look, pairs, s3, s13, s14, s15, s16, s17], by simp [look, pairs, s3, s13, s14, s15, s16, s17], by simp [look, pairs, s3, s13, s14, s15, s16, s17], by simp [look, pairs, s3, s13, s14, s15, s16, s17], by simp [look, pairs, s3, s13, s14, s15, s16, s17], by simp [look, pairs, s3, s13, s14, s15, s16, s17]⟩, rfl⟩
    · intro j hj s hs
      obtain ⟨us, ws, ⟨s3, s13, s14, s15, s16, s17, s18⟩, rfl⟩ := hs
      have hj' : j < (goals l n).length := by omega
      have hgi : (goals l n)[i] = (goals l n).getD i 0 := by simp [hi]
      have hgj : (goals l n)[j] = (goals l n).getD j 0 := by simp [hj']
      simp (config := { implicitDefEqProofs := false, contextual := true, maxSteps := 1000000 }) only [go_sem, Nat.reduceAdd, Nat.reduceMul, Nat.reduceLeDiff, Nat.reduceEqDiff, Nat.reduceLT, Nat.reduceBEq, s3, s13, s14, s15, s16, s17, s18, lt_cast hj, hG.elem (by decide) hi, hG.elem (by decide) hj', hG.copy, hG.lk, asNat_cast, wrap_succ hj' hG.len, hgi, hgj]
      have hpj : (tieI x (goals l n) i || pairs x (goals l n) i (j + 1)) = ((tieI x (goals l n) i || pairs x (goals l n) i j) || eqI (W ((goals l n).getD i 0 - x.Floor)) (W (x.Floor - (goals l n).getD j 0))) := by rw [pairs_succ, Bool.or_assoc]
      repeat' (first | intro _ | refine And.intro ?_ ?_)
      all_goals
        rename_i hh
        unfold To4S
        simp only [hpj, hh, Bool.true_or, Bool.false_or]
        exact ⟨_, _, ⟨by simp [look, s3, s13, s14, s15, s16, s17, s18], by simp [look, s3, s13, s14, s15, s16, s17, s18], by simp [look, s3, s13, s14, s15, s16, s17, s18], by simp [look, s3, s13, s14, s15, s16, s17, s18], by simp [look, s3, s13, s14, s15, s16, s17, s18], by simp [look, s3, s13, s14, s15, s16, s17, s18], by simp [look, s3, s13, s14, s15, s16, s17, s18]⟩, rfl⟩
    · intro s hs
      obtain ⟨us, ws, ⟨s3, s13, s14, s15, s16, s17, s18⟩, rfl⟩ := hs
      simp (config := { implicitDefEqProofs := false, contextual := true, maxSteps := 1000000 }) only [go_sem, Nat.reduceAdd, Nat.reduceMul, Nat.reduceLeDiff, Nat.reduceEqDiff, Nat.reduceLT, Nat.reduceBEq, s3, s13, s14, s15, s16, s17, s18, lt_self, wrap_succ hi hG.len]
      exact ⟨_, _, ⟨by simp [look, tieI_succ, s3, s13, s14, s15, s16, s17, s18], by simp [look, tieI_succ, s3, s13, s14, s15, s16, s17, s18], by simp [look, tieI_succ, s3, s13, s14, s15, s16, s17, s18], by simp [look, tieI_succ, s3, s13, s14, s15, s16, s17, s18], by simp [look, tieI_succ, s3, s13, s14, s15, s16, s17, s18], by simp [look, tieI_succ, s3, s13, s14, s15, s16, s17, s18]⟩, rfl⟩
  intro s hs
  obtain ⟨us, ws, ⟨s3, s13, s14, s15, s16, s17⟩, rfl⟩ := hs
  simp (config := { implicitDefEqProofs := false, contextual := true, maxSteps := 1000000 }) only [go_sem, Nat.reduceAdd, Nat.reduceMul, Nat.reduceLeDiff, Nat.reduceEqDiff, Nat.reduceLT, Nat.reduceBEq, s3, s13, s14, s15, s16, s17, lt_self, List.length_map]
  rcases turn_over (n := n) hmir with h | ⟨hz, ht, h1, h2⟩
  · have : eqI (turnTo x l n) (IntKind.i64.wrap (0 - turnTo (upside x) (l.map over) n)) = true := by rw [Int.zero_sub]; exact eqI_true.2 h
    intro hn
    rw [this] at hn; cases hn
  · intro _
    simp only [h1, h2, ht, eqI_true.2 hz, eqI_self]
    simp
end Go.Vi
