/- The law CostLeast: the walk and the plain law. -/
import Derived.Test.YtngeclldoplihaaViCost9
set_option maxRecDepth 100000
set_option linter.unusedVariables false
set_option linter.unusedSimpArgs false
namespace Go.Vi
open Go.Proofs
/-! The plain law. -/
theorem form_getD (l : List Car) (i : Nat) : (l.map form).getD i rcar0 = form (l.getD i car0) := by
  simp only [List.getD_eq_getElem?_getD, List.getElem?_map]
  cases l[i]? <;> rfl
theorem least_same {g : Config} {l : List Car} {cs : List Call} {c : Call} {fr : List Bool} (hl : ∀ x ∈ l, odd x cs = false) (hc : inF (goal c)) : ∀ i, i ≤ min l.length fr.length →
    (lfold g l cs c fr i).2 = (rlfold g (l.map form) cs c fr i : Int) ∧ (rlfold g (l.map form) cs c fr i ≠ 0 → (lfold g l cs c fr i).1 = rof g ((l.map form).getD (rlfold g (l.map form) cs c fr i - 1) rcar0) cs (rlfold g (l.map form) cs c fr i : Int) c)
  | 0, _ => by simp [lfold, rlfold]
  | i + 1, hi => by
    obtain ⟨h1, h2⟩ := least_same (g := g) (fr := fr) hl hc i (by omega)
    have hi1 : i < l.length := by omega
    have hsk : skips fr c i = (!fr.getD i false || (eqI c.Kind 3 && !eqI c.Car ((i + 1 : Nat) : Int))) := by
      have : leI (fr.length : Int) (i : Int) = false := by simp only [leI, decide_eq_false_iff_not]; omega
      simp only [skips, this, Bool.false_or]
    have hm : l.getD i car0 ∈ l := by rw [getD_eq hi1]; exact List.getElem_mem hi1
    have hco : costAt g l cs c i = rcostAt g (l.map form) cs c i := by
      unfold costAt rcostAt
      rw [form_getD]
      exact of_rof (hl _ hm) hc
    rw [lfold_succ, rlfold_succ]
    generalize lfold g l cs c fr i = s at h1 h2
    have hb := rlfold_le (g := g) (l := l.map form) (cs := cs) (c := c) (fr := fr) (i := i)
    generalize rlfold g (l.map form) cs c fr i = b at h1 h2 hb
    unfold lstep rlstep
    rw [hsk]
    by_cases hs : (!fr.getD i false || (eqI c.Kind 3 && !eqI c.Car ((i + 1 : Nat) : Int))) = true
    · rw [if_pos hs, if_pos hs]; exact ⟨h1, h2⟩
    · rw [if_neg hs, if_neg hs, hco, h1]
      by_cases hz : b = 0
      · have e1 : eqI (b : Int) 0 = true := by simp [eqI, hz]
        rw [e1, Bool.true_or, Bool.true_or, if_pos rfl, if_pos rfl]
        exact ⟨rfl, fun _ => rfl⟩
      · rw [h2 hz]
        split
        · exact ⟨rfl, fun _ => rfl⟩
        · exact ⟨h1, h2⟩
theorem least_past {g : Config} {l : List Car} {cs : List Call} {c : Call} {fr : List Bool} : ∀ k, lfold g l cs c fr (fr.length + k) = lfold g l cs c fr fr.length
  | 0 => rfl
  | k + 1 => by
    have : skips fr c (fr.length + k) = true := by simp [skips, leI]
    rw [← Nat.add_assoc, lfold_succ, lstep, if_pos this, least_past k]
theorem least_eq {g : Config} {l : List Car} {cs : List Call} {c : Call} {fr : List Bool} (hl : ∀ x ∈ l, odd x cs = false) (hc : inF (goal c)) :
    (lfold g l cs c fr l.length).2 = (rlfold g (l.map form) cs c fr (min (l.map form).length fr.length) : Int) := by
  have h := (least_same (g := g) (fr := fr) hl hc (min l.length fr.length) (Nat.le_refl _)).1
  rw [List.length_map, ← h]
  by_cases hle : l.length ≤ fr.length
  · rw [show min l.length fr.length = l.length by omega]
  · rw [show min l.length fr.length = fr.length by omega]
    obtain ⟨k, hk⟩ : ∃ k, l.length = fr.length + k := ⟨l.length - fr.length, by omega⟩
    rw [hk, least_past k]
/-! The walk. -/
theorem new_ok {bx : List Box} {tk : List (Nat × Nat)} {lo tlo : Nat} {R : Res} : callsV E0 30 [] bx tk lo tlo R = R (.agg (Car.mk 1 0 0 0 true).cells) bx tk := by
  refine calls_iff E0good E0det ?_ R
  refine callsT_pure (g := Try.f30) (n := 2) (rs := [.cell 0 26]) 1 [] rfl Try.func30 rfl (by kernel_rfl) rfl rfl (by simp) (by simp) rfl md30 rg30 ?_
  simp (config := { implicitDefEqProofs := false, contextual := true, maxSteps := 1000000 }) only [go_sem, Nat.reduceAdd, Nat.reduceMul, Nat.reduceLeDiff, Nat.reduceEqDiff, Nat.reduceLT, Nat.reduceBEq, Car.cells_eq]
def formsR (l : List Car) (i : Nat) : List (List V) := ((l.take i).map form).map RCar.cells
theorem formsR_succ {l : List Car} {i : Nat} (hi : i < l.length) : formsR l (i + 1) = formsR l i ++ [(form l[i]).cells] := by
  simp only [formsR]
  rw [List.take_succ_eq_append_getElem hi]
  simp only [List.map_append, List.map_cons, List.map_nil]
theorem formsR_len {l : List Car} {i : Nat} : (formsR l i).length ≤ i := by simp [formsR]; omega
theorem formsR_all (l : List Car) : formsR l l.length = (l.map form).map RCar.cells := by simp [formsR]
def ClS (g : Config) (v w f : V) (l : List Car) (c : Call) (cs : List Call) (i : Nat) (s : St) : Prop :=
  ∃ us ws : List (Nat × V), (look us 1 = v ∧ look us 2 = w ∧ look us 4 = f ∧ look us 5 = .loc g.cells ∧ look us 8 = .loc c.cells ∧ look us 11 = accE [] 5 (formsR l i) ∧ look us 12 = I i) ∧ s = ⟨tab2 63 13 us ws, [], tkAt [] 5 (formsR l i).length⟩ ∧ ∀ j (hj : j < i) (hl : j < l.length), odd l[j] cs = false
set_option maxHeartbeats 1000000 in
theorem cleast_walk {g : Config} {v w f : V} {l : List Car} {cs : List Call} {c : Call} {fr : List Bool} (hv : IsL Car.cells 5 v l) (hw : IsL Call.cells 8 w cs) (hf : IsL encB 1 f fr) : callsV E0 7 [.agg g.cells, v, w, .agg c.cells, f] [] [] 0 0 (fun u _ _ => u = .bool true) := by
  have hc1 : IsL Call.cells 8 (.sl .full 8 [c.cells]) [c] := IsL.sl (l := [c]) (by simp)
  refine callsT_pure (g := Try.f7) (n := 63) (rs := [.tmp 10]) 13 [(0, .agg g.cells), (1, v), (2, w), (3, .agg c.cells), (4, f)] rfl Try.func7 rfl (by kernel_rfl) rfl rfl (by simp) (by simp) rfl md7 rg7 ?_
  simp (config := { implicitDefEqProofs := false, contextual := true, maxSteps := 1000000 }) only [go_sem, Nat.reduceAdd, Nat.reduceMul, Nat.reduceLeDiff, Nat.reduceEqDiff, Nat.reduceLT, Nat.reduceBEq, hv.copy, hv.lenV, hv.lenK, hv.lk, hv.clear, hw.copy, hw.lk, hw.clear, hf.copy, hf.lk, hf.clear, ↓awake18_ok, ↓good07_ok, ↓new_ok, ↓odd_ok hc1]
  repeat' (first | intro _ | refine And.intro ?_ ?_)
  rename_i h1 h2 h3
  have hcg : inF (goal c) := (odd_false h3).2.2.2 c List.mem_cons_self
  have hl8 : l.length ≤ 8 := by simp [ltI] at h2; omega
  refine wpv_for E0good l.length (ClS g v w f l c cs) ?_ ?_ ?_
  · exact ⟨_, _, ⟨by simp [look, enumU, accE, formsR], by simp [look, enumU, accE, formsR], by simp [look, enumU, accE, formsR], by simp [look, enumU, accE, formsR], by simp [look, enumU, accE, formsR], by simp [look, enumU, accE, formsR], by simp [look, enumU, accE, formsR]⟩, rfl, fun j hj => absurd hj (by omega)⟩
  · intro i hi s hs
    obtain ⟨us, ws, ⟨s1, s2, s4, s5, s8, s11, s12⟩, rfl, hp⟩ := hs
    have h8 : ((formsR l i).length + 1) * 40 ≤ appLim := by have := formsR_len (l := l) (i := i); unfold appLim; omega
    simp (config := { implicitDefEqProofs := false, contextual := true, maxSteps := 1000000 }) only [go_sem, Nat.reduceAdd, Nat.reduceMul, Nat.reduceLeDiff, Nat.reduceEqDiff, Nat.reduceLT, Nat.reduceBEq, s1, s2, s4, s5, s8, s11, s12, hv.copy, hv.lk, hv.lenV, hv.lenK, hv.elem (by decide) hi, hw.copy, hw.lk, lt_cast hi, wrap_succ hi hv.len, asNat_cast, ↓odd_ok hw, ↓form_ok, h8, acce_app (tk := []), Nat.zero_le]
    repeat' (first | intro _ | refine And.intro ?_ ?_)
    rename_i ho
    have e : tkAt [] 5 (formsR l (i + 1)).length = tkAt [] 5 ((formsR l i).length + 1) := by rw [formsR_succ hi]; simp
    unfold ClS
    rw [e]
    exact ⟨_, _, ⟨by simp [look, formsR_succ hi, s1, s2, s4, s5, s8, s11, s12], by simp [look, formsR_succ hi, s1, s2, s4, s5, s8, s11, s12], by simp [look, formsR_succ hi, s1, s2, s4, s5, s8, s11, s12], by simp [look, formsR_succ hi, s1, s2, s4, s5, s8, s11, s12], by simp [look, formsR_succ hi, s1, s2, s4, s5, s8, s11, s12], by simp [look, formsR_succ hi, s1, s2, s4, s5, s8, s11, s12], by simp [look, formsR_succ hi, s1, s2, s4, s5, s8, s11, s12]⟩, rfl, fun j hj hl => by
      by_cases hji : j = i
      · subst hji; exact ho
      · exact hp j (by omega) hl⟩
  · intro s hs
    obtain ⟨us, ws, ⟨s1, s2, s4, s5, s8, s11, s12⟩, rfl, hp⟩ := hs
    have hl : ∀ x ∈ l, odd x cs = false := by
      intro x hx
      obtain ⟨j, hj, rfl⟩ := List.getElem_of_mem hx
      exact hp j hj hj
    have hlen : 0 < l.length → cs.length ≤ 70 := fun h0 => (odd_false (hp 0 h0 h0)).2.2.1
    have hlen' : 0 < (l.map form).length → cs.length ≤ 70 := by rw [List.length_map]; exact hlen
    have hr : IsL RCar.cells 5 (accE [] 5 (formsR l l.length)) (l.map form) := by rw [formsR_all]; exact acce_isL (by simp; omega)
    have hA : eqI (lfold g l cs c fr l.length).2 (rlfold g (l.map form) cs c fr (min (l.map form).length fr.length)) = true := eqI_true.2 (least_eq hl hcg)
    simp (config := { implicitDefEqProofs := false, contextual := true, maxSteps := 1000000 }) only [go_sem, Nat.reduceAdd, Nat.reduceMul, Nat.reduceLeDiff, Nat.reduceEqDiff, Nat.reduceLT, Nat.reduceBEq, s1, s2, s4, s5, s8, s11, s12, hv.copy, hv.lk, hv.lenV, hv.lenK, hw.copy, hw.lk, hf.copy, hf.lk, lt_self, ↓least_ok hv hw hf hlen, ↓rleast_ok hr hw hf hlen', hA]
end Go.Vi
