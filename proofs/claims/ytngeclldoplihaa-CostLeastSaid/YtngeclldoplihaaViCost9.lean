/- Layer 18: who costs least. -/
import Derived.Test.YtngeclldoplihaaViCost8
set_option maxRecDepth 100000
set_option linter.unusedVariables false
set_option linter.unusedSimpArgs false
namespace Go.Vi
open Go.Proofs
section
variable {bx : List Box} {tk : List (Nat × Nat)} {lo tlo : Nat} {R : Res}
abbrev encB (b : Bool) : List V := [.bool b]
theorem getD_eq {α : Type} {l : List α} {i : Nat} (hi : i < l.length) (d : α) : l.getD i d = l[i] := by simp [hi]
def car0 : Car := ⟨0, 0, 0, 0, false⟩
def rcar0 : RCar := ⟨0, 0, 0, 0, false⟩
/-- Who is not asked: who isn't free, and who isn't meant. -/
def skips (fr : List Bool) (c : Call) (i : Nat) : Bool := leI fr.length i || (!fr.getD i false || (eqI c.Kind 3 && !eqI c.Car ((i + 1 : Nat) : Int)))
def costAt (g : Config) (l : List Car) (cs : List Call) (c : Call) (i : Nat) : Int := ofC g (l.getD i car0) cs ((i + 1 : Nat) : Int) c
def lstep (g : Config) (l : List Car) (cs : List Call) (c : Call) (fr : List Bool) (s : Int × Int) (i : Nat) : Int × Int :=
  if skips fr c i then s else if eqI s.2 0 || ltI (costAt g l cs c i) s.1 then (costAt g l cs c i, ((i + 1 : Nat) : Int)) else s
def lfold (g : Config) (l : List Car) (cs : List Call) (c : Call) (fr : List Bool) (i : Nat) : Int × Int := (List.range i).foldl (lstep g l cs c fr) (0, 0)
theorem lfold_succ {g : Config} {l : List Car} {cs : List Call} {c : Call} {fr : List Bool} {i : Nat} : lfold g l cs c fr (i + 1) = lstep g l cs c fr (lfold g l cs c fr i) i := by
  simp [lfold, List.range_succ]
theorem elem_when {α : Type} {enc : α → List V} {es : Nat} {v : V} {l : List α} {d : α} (hv : IsL enc es v l) (h0 : 0 < es) {i : Nat} (st : St) (h : leI l.length i = false) : elemAddr st es i v = some (.iptr (enc (l.getD i d)), st) := by
  have hi : i < l.length := by simp [leI] at h; omega
  rw [hv.elem h0 hi, getD_eq hi]
def LeastS (g : Config) (v w f : V) (l : List Car) (cs : List Call) (c : Call) (fr : List Bool) (bx : List Box) (tk : List (Nat × Nat)) (i : Nat) (s : St) : Prop :=
  ∃ us ws : List (Nat × V), (look us 2 = w ∧ look us 4 = f ∧ look us 5 = .loc g.cells ∧ look us 8 = .loc c.cells ∧ look us 11 = I (lfold g l cs c fr i).1 ∧ look us 12 = I (lfold g l cs c fr i).2 ∧ look ws 16 = v ∧ look ws 17 = I l.length ∧ look ws 18 = I i) ∧ s = ⟨tab2 65 16 us ws, bx, tk⟩
theorem least_ok {g : Config} {v w f : V} {l : List Car} {cs : List Call} {c : Call} {fr : List Bool} (hv : IsL Car.cells 5 v l) (hw : IsL Call.cells 8 w cs) (hf : IsL encB 1 f fr) (hlen : 0 < l.length → cs.length ≤ 70) :
    callsV E0 31 [.agg g.cells, v, w, .agg c.cells, f] bx tk lo tlo R = R (I (lfold g l cs c fr l.length).2) bx tk := by
  refine calls_iff E0good E0det ?_ R
  refine callsT_pure (g := Try.f31) (n := 65) (rs := [.tmp 10]) 16 [(0, .agg g.cells), (1, v), (2, w), (3, .agg c.cells), (4, f)] rfl Try.func31 rfl (by kernel_rfl) rfl rfl (by simp) (by simp) rfl md31 rg31 ?_
  simp (config := { implicitDefEqProofs := false, contextual := true, maxSteps := 1000000 }) only [go_sem, Nat.reduceAdd, Nat.reduceMul, Nat.reduceLeDiff, Nat.reduceEqDiff, Nat.reduceLT, Nat.reduceBEq, hv.copy, hv.lenV, hv.lenK, hv.lk, hv.clear, hw.copy, hw.lk, hw.clear, hf.copy, hf.lk, hf.clear]
  refine wpv_for E0good l.length (LeastS g v w f l cs c fr bx tk) ?_ ?_ ?_
  · exact ⟨_, _, ⟨by simp [look, enumU, lfold], by simp [look, enumU, lfold], by simp [look, enumU, lfold], by simp [look, enumU, lfold], by simp [look, enumU, lfold], by simp [look, enumU, lfold], by simp [look, enumU, lfold], by simp [look, enumU, lfold], by simp [look, enumU, lfold]⟩, rfl⟩
  · intro i hi s hs
    obtain ⟨us, ws, ⟨s2, s4, s5, s8, s11, s12, s16, s17, s18⟩, rfl⟩ := hs
    have hlen := hlen (by omega)
    have hl : l[i] = l.getD i car0 := (getD_eq hi _).symm
    simp (config := { implicitDefEqProofs := false, contextual := true, maxSteps := 1000000 }) only [go_sem, Nat.reduceAdd, Nat.reduceMul, Nat.reduceLeDiff, Nat.reduceEqDiff, Nat.reduceLT, Nat.reduceBEq, s2, s4, s5, s8, s11, s12, s16, s17, s18, hv.copy, hv.lk, hw.copy, hw.lk, hf.copy, hf.lk, hf.lenV, hf.lenK, hv.clear, hw.clear, hf.clear, look_clear, x_clear_int, x_clear_loc, hv.elem (by decide) hi, elem_when (d := false) hf (by decide), lt_cast hi, wrap_succ hi hv.len, asNat_cast, ↓of_ok hw hlen, hl]
    repeat' (first | intro _ | refine And.intro ?_ ?_)
    all_goals (unfold LeastS; rw [lfold_succ]; simp only [lstep, skips, costAt, *, Bool.not_true, Bool.not_false, Bool.true_or, Bool.or_true, Bool.or_false, Bool.false_or, Bool.true_and, Bool.and_true, Bool.and_false, Bool.false_and, if_true, if_false, Bool.false_eq_true]; exact ⟨_, _, ⟨by simp [look, look_clear, x_clear_int, x_clear_loc, hv.clear, hw.clear, hf.clear, s2, s4, s5, s8, s11, s12, s16, s17, s18], by simp [look, look_clear, x_clear_int, x_clear_loc, hv.clear, hw.clear, hf.clear, s2, s4, s5, s8, s11, s12, s16, s17, s18], by simp [look, look_clear, x_clear_int, x_clear_loc, hv.clear, hw.clear, hf.clear, s2, s4, s5, s8, s11, s12, s16, s17, s18], by simp [look, look_clear, x_clear_int, x_clear_loc, hv.clear, hw.clear, hf.clear, s2, s4, s5, s8, s11, s12, s16, s17, s18], by simp [look, look_clear, x_clear_int, x_clear_loc, hv.clear, hw.clear, hf.clear, s2, s4, s5, s8, s11, s12, s16, s17, s18], by simp [look, look_clear, x_clear_int, x_clear_loc, hv.clear, hw.clear, hf.clear, s2, s4, s5, s8, s11, s12, s16, s17, s18], by simp [look, look_clear, x_clear_int, x_clear_loc, hv.clear, hw.clear, hf.clear, s2, s4, s5, s8, s11, s12, s16, s17, s18], by simp [look, look_clear, x_clear_int, x_clear_loc, hv.clear, hw.clear, hf.clear, s2, s4, s5, s8, s11, s12, s16, s17, s18], by simp [look, look_clear, x_clear_int, x_clear_loc, hv.clear, hw.clear, hf.clear, s2, s4, s5, s8, s11, s12, s16, s17, s18]⟩, rfl⟩)
  · intro s hs
    obtain ⟨us, ws, ⟨s2, s4, s5, s8, s11, s12, s16, s17, s18⟩, rfl⟩ := hs
    simp (config := { implicitDefEqProofs := false, contextual := true, maxSteps := 1000000 }) only [go_sem, Nat.reduceAdd, Nat.reduceMul, Nat.reduceLeDiff, Nat.reduceEqDiff, Nat.reduceLT, Nat.reduceBEq, s2, s4, s5, s8, s11, s12, s16, s17, s18, lt_self]
def rcostAt (g : Config) (l : List RCar) (cs : List Call) (c : Call) (i : Nat) : Int := rof g (l.getD i rcar0) cs ((i + 1 : Nat) : Int) c
def rlstep (g : Config) (l : List RCar) (cs : List Call) (c : Call) (fr : List Bool) (b : Nat) (i : Nat) : Nat :=
  if (!fr.getD i false || (eqI c.Kind 3 && !eqI c.Car ((i + 1 : Nat) : Int))) then b else if eqI b 0 || ltI (rcostAt g l cs c i) (rof g (l.getD (b - 1) rcar0) cs (b : Int) c) then i + 1 else b
def rlfold (g : Config) (l : List RCar) (cs : List Call) (c : Call) (fr : List Bool) (i : Nat) : Nat := (List.range i).foldl (rlstep g l cs c fr) 0
theorem rlfold_succ {g : Config} {l : List RCar} {cs : List Call} {c : Call} {fr : List Bool} {i : Nat} : rlfold g l cs c fr (i + 1) = rlstep g l cs c fr (rlfold g l cs c fr i) i := by
  simp [rlfold, List.range_succ]
theorem rlfold_le {g : Config} {l : List RCar} {cs : List Call} {c : Call} {fr : List Bool} : ∀ {i : Nat}, rlfold g l cs c fr i ≤ i
  | 0 => by simp [rlfold]
  | i + 1 => by
    have := rlfold_le (g := g) (l := l) (cs := cs) (c := c) (fr := fr) (i := i)
    rw [rlfold_succ]
    unfold rlstep
    split
    · omega
    · split <;> omega
def RLeastS (g : Config) (v w f : V) (l : List RCar) (cs : List Call) (c : Call) (fr : List Bool) (bx : List Box) (tk : List (Nat × Nat)) (i : Nat) (s : St) : Prop :=
  ∃ us ws : List (Nat × V), (look us 1 = v ∧ look us 2 = w ∧ look us 4 = f ∧ look us 5 = .loc g.cells ∧ look us 8 = .loc c.cells ∧ look us 11 = I (rlfold g l cs c fr i) ∧ look us 12 = I i) ∧ s = ⟨tab2 70 13 us ws, bx, tk⟩
theorem rleast_ok {g : Config} {v w f : V} {l : List RCar} {cs : List Call} {c : Call} {fr : List Bool} (hv : IsL RCar.cells 5 v l) (hw : IsL Call.cells 8 w cs) (hf : IsL encB 1 f fr) (hlen : 0 < l.length → cs.length ≤ 70) :
    callsV E0 32 [.agg g.cells, v, w, .agg c.cells, f] bx tk lo tlo R = R (I (rlfold g l cs c fr (min l.length fr.length))) bx tk := by
  refine calls_iff E0good E0det ?_ R
  refine callsT_pure (g := Try.f32) (n := 70) (rs := [.tmp 10]) 13 [(0, .agg g.cells), (1, v), (2, w), (3, .agg c.cells), (4, f)] rfl Try.func32 rfl (by kernel_rfl) rfl rfl (by simp) (by simp) rfl md32 rg32 ?_
  simp (config := { implicitDefEqProofs := false, contextual := true, maxSteps := 1000000 }) only [go_sem, Nat.reduceAdd, Nat.reduceMul, Nat.reduceLeDiff, Nat.reduceEqDiff, Nat.reduceLT, Nat.reduceBEq, hv.copy, hv.lenV, hv.lenK, hv.lk, hv.clear, hw.copy, hw.lk, hw.clear, hf.copy, hf.lk, hf.clear]
  refine wpv_for E0good (min l.length fr.length) (RLeastS g v w f l cs c fr bx tk) ?_ ?_ ?_
  · exact ⟨_, _, ⟨by simp [look, enumU, rlfold], by simp [look, enumU, rlfold], by simp [look, enumU, rlfold], by simp [look, enumU, rlfold], by simp [look, enumU, rlfold], by simp [look, enumU, rlfold], by simp [look, enumU, rlfold]⟩, rfl⟩
  · intro i hi s hs
    obtain ⟨us, ws, ⟨s1, s2, s4, s5, s8, s11, s12⟩, rfl⟩ := hs
    have hi1 : i < l.length := by omega
    have hi2 : i < fr.length := by omega
    have hlen := hlen (by omega)
    have hl : l[i] = l.getD i rcar0 := (getD_eq hi1 _).symm
    have hf2 : fr[i] = fr.getD i false := (getD_eq hi2 _).symm
    have hb := rlfold_le (g := g) (l := l) (cs := cs) (c := c) (fr := fr) (i := i)
    have hll := hv.len
    generalize hB : rlfold g l cs c fr i = b at hb
    rw [hB] at s11
    have e1 : eqI (b : Int) 0 = false → IntKind.i64.wrap ((b : Int) - 1) = ((b - 1 : Nat) : Int) := by
      intro h
      have h1 : b ≠ 0 := by rintro rfl; simp [eqI] at h
      have := wrap_id (n := (b : Int) - 1) (by omega) (by omega)
      simp only [W] at this
      rw [this]; omega
    have e2 : ∀ st, eqI (b : Int) 0 = false → elemAddr st 5 (b - 1) v = some (.iptr (l.getD (b - 1) rcar0).cells, st) := by
      intro st h
      have h1 : b ≠ 0 := by rintro rfl; simp [eqI] at h
      exact elem_when hv (by decide) st (by simp [leI]; omega)
    simp (config := { implicitDefEqProofs := false, contextual := true, maxSteps := 1000000 }) only [go_sem, Nat.reduceAdd, Nat.reduceMul, Nat.reduceLeDiff, Nat.reduceEqDiff, Nat.reduceLT, Nat.reduceBEq, s1, s2, s4, s5, s8, s11, s12, hv.copy, hv.lk, hw.copy, hw.lk, hf.copy, hf.lk, hf.lenV, hf.lenK, hv.lenV, hv.lenK, hv.elem (by decide) hi1, hf.elem (by decide) hi2, lt_cast hi1, lt_cast hi2, wrap_succ hi1 hv.len, asNat_cast, ↓rof_ok hw hlen, hl, hf2, e1, e2]
    repeat' (first | intro _ | refine And.intro ?_ ?_)
    all_goals (unfold RLeastS; rw [rlfold_succ, hB]; simp only [rlstep, rcostAt, *, Bool.not_true, Bool.not_false, Bool.true_or, Bool.or_true, Bool.or_false, Bool.false_or, Bool.true_and, Bool.and_true, Bool.and_false, Bool.false_and, if_true, if_false, Bool.false_eq_true]; exact ⟨_, _, ⟨by simp [look, s1, s2, s4, s5, s8, s11, s12], by simp [look, s1, s2, s4, s5, s8, s11, s12], by simp [look, s1, s2, s4, s5, s8, s11, s12], by simp [look, s1, s2, s4, s5, s8, s11, s12], by simp [look, s1, s2, s4, s5, s8, s11, s12], by simp [look, s1, s2, s4, s5, s8, s11, s12], by simp [look, s1, s2, s4, s5, s8, s11, s12]⟩, rfl⟩)
  · intro s hs
    obtain ⟨us, ws, ⟨s1, s2, s4, s5, s8, s11, s12⟩, rfl⟩ := hs
    by_cases h : l.length ≤ fr.length
    · have e : min l.length fr.length = l.length := by omega
      rw [e] at s12 s11 ⊢
      simp (config := { implicitDefEqProofs := false, contextual := true, maxSteps := 1000000 }) only [go_sem, Nat.reduceAdd, Nat.reduceMul, Nat.reduceLeDiff, Nat.reduceEqDiff, Nat.reduceLT, Nat.reduceBEq, s1, s2, s4, s5, s8, s11, s12, lt_self, hv.copy, hv.lk, hf.copy, hf.lk, hf.lenV, hf.lenK, hv.lenV, hv.lenK]
    · have e : min l.length fr.length = fr.length := by omega
      have h' : fr.length < l.length := by omega
      rw [e] at s12 s11 ⊢
      simp (config := { implicitDefEqProofs := false, contextual := true, maxSteps := 1000000 }) only [go_sem, Nat.reduceAdd, Nat.reduceMul, Nat.reduceLeDiff, Nat.reduceEqDiff, Nat.reduceLT, Nat.reduceBEq, s1, s2, s4, s5, s8, s11, s12, lt_self, lt_cast h', hv.copy, hv.lk, hf.copy, hf.lk, hf.lenV, hf.lenK, hv.lenV, hv.lenK]
end
end Go.Vi
