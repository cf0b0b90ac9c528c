/- The law CostExact: the walk and the plain law. -/
import Derived.Test.YtngeclldoplihaaViCfg1
import Derived.Test.YtngeclldoplihaaViPlain18
set_option maxRecDepth 100000
set_option linter.unusedVariables false
set_option linter.unusedSimpArgs false
namespace Go.Vi
open Go.Proofs
def CeS (g : Config) (x : Car) (v w : V) (l : List Int) (n : Int) (c : Call) (floor dir : Int) (i : Nat) (s : St) : Prop :=
  ∃ us ws : List (Nat × V), (look us 2 = v ∧ look us 3 = w ∧ look us 4 = I n ∧ look us 6 = I floor ∧ look us 7 = I dir ∧ look us 8 = .loc g.cells ∧ look us 9 = .loc x.cells ∧ look us 13 = .loc c.cells ∧ look us 17 = I i) ∧ s = ⟨tab2 82 18 us ws, [], []⟩ ∧ ∀ j (hj : j < i) (hl : j < l.length), wild l[j] = false
set_option maxHeartbeats 8000000 in
theorem exact_walk {g : Config} {x : Car} {v w : V} {l : List Int} {cs : List Call} {n : Int} {c : Call} {floor dir : Int} (hv : IsL encI 1 v l) (hw : IsL Call.cells 8 w cs) : callsV E0 3 [.agg g.cells, .agg x.cells, v, w, I n, .agg c.cells, I floor, I dir] [] [] 0 0 (fun u _ _ => u = .bool true) := by
  have hc1 : IsL Call.cells 8 (.sl .full 8 [c.cells]) [c] := IsL.sl (l := [c]) (by simp)
  refine callsT_pure (g := Try.f3) (n := 82) (rs := [.tmp 16]) 18 [(0, .agg g.cells), (1, .agg x.cells), (2, v), (3, w), (4, I n), (5, .agg c.cells), (6, I floor), (7, I dir)] rfl Try.func3 rfl (by kernel_rfl) rfl rfl (by simp) (by simp) rfl md3 rg3 ?_
  simp (config := { implicitDefEqProofs := false, contextual := true, maxSteps := 1000000 }) only [go_sem, Nat.reduceAdd, Nat.reduceMul, Nat.reduceLeDiff, Nat.reduceEqDiff, Nat.reduceLT, Nat.reduceBEq, hv.copy, hv.lenV, hv.lenK, hv.lk, hv.clear, hw.copy, hw.lk, hw.clear, ↓awake18_ok, ↓good07_ok, ↓odd_ok hw, ↓odd_ok hc1, ↓wild_ok]
  repeat' (first | intro _ | refine And.intro ?_ ?_)
  rename_i h1 h2 h3 h4 h5
  obtain ⟨hx, hd, hlen, _⟩ := odd_false h2
  have hfl := wild_false.1 h5
  refine wpv_for E0good l.length (CeS g x v w l n c floor dir) ?_ ?_ ?_
  · exact ⟨_, _, ⟨by simp [look, enumU], by simp [look, enumU], by simp [look, enumU], by simp [look, enumU], by simp [look, enumU], by simp [look, enumU], by simp [look, enumU], by simp [look, enumU], by simp [look, enumU]⟩, rfl, fun j hj => absurd hj (by omega)⟩
  · intro i hi s hs
    obtain ⟨us, ws, ⟨s2, s3, s4, s6, s7, s8, s9, s13, s17⟩, rfl, hp⟩ := hs
    simp (config := { implicitDefEqProofs := false, contextual := true, maxSteps := 1000000 }) only [go_sem, Nat.reduceAdd, Nat.reduceMul, Nat.reduceLeDiff, Nat.reduceEqDiff, Nat.reduceLT, Nat.reduceBEq, s2, s3, s4, s6, s7, s8, s9, s13, s17, hv.copy, hv.lk, hv.lenV, hv.lenK, hv.elem (by decide) hi, lt_cast hi, wrap_succ hi hv.len, asNat_cast, ↓wild_ok]
    repeat' (first | intro _ | refine And.intro ?_ ?_)
    rename_i hw'
    exact ⟨_, _, ⟨by simp [look, s2, s3, s4, s6, s7, s8, s9, s13, s17], by simp [look, s2, s3, s4, s6, s7, s8, s9, s13, s17], by simp [look, s2, s3, s4, s6, s7, s8, s9, s13, s17], by simp [look, s2, s3, s4, s6, s7, s8, s9, s13, s17], by simp [look, s2, s3, s4, s6, s7, s8, s9, s13, s17], by simp [look, s2, s3, s4, s6, s7, s8, s9, s13, s17], by simp [look, s2, s3, s4, s6, s7, s8, s9, s13, s17], by simp [look, s2, s3, s4, s6, s7, s8, s9, s13, s17], by simp [look, s2, s3, s4, s6, s7, s8, s9, s13, s17]⟩, rfl, fun j hj hl => by
      by_cases hji : j = i
      · subst hji; exact hw'
      · exact hp j (by omega) hl⟩
  · intro s hs
    obtain ⟨us, ws, ⟨s2, s3, s4, s6, s7, s8, s9, s13, s17⟩, rfl, hp⟩ := hs
    have hl : ∀ n ∈ l, inF n := by
      intro n hn
      obtain ⟨j, hj, rfl⟩ := List.getElem_of_mem hn
      exact wild_false.1 (hp j hj hj)
    have hA := way_rway (dir := dir) hx hd hl hfl
    have hB := of_rof (g := g) (n := n) h2 ((odd_false h3).2.2.2 c List.mem_cons_self)
    have hA' : eqI (way x l floor dir) (rway (form x) l floor dir) = true := eqI_true.2 hA
    have hB' : eqI (ofC g x cs n c) (rof g (form x) cs n c) = true := eqI_true.2 hB
    simp (config := { implicitDefEqProofs := false, contextual := true, maxSteps := 1000000 }) only [go_sem, Nat.reduceAdd, Nat.reduceMul, Nat.reduceLeDiff, Nat.reduceEqDiff, Nat.reduceLT, Nat.reduceBEq, s2, s3, s4, s6, s7, s8, s9, s13, s17, hv.copy, hv.lk, hv.lenV, hv.lenK, hw.copy, hw.lk, lt_self, ↓way_ok hv, ↓form_ok, ↓rway_ok hv, ↓of_ok hw hlen, ↓rof_ok hw hlen, hA', hB']
end Go.Vi
