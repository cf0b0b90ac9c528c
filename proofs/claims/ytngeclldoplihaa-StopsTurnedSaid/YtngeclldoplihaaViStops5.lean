/- The law StopsTurned: plain. -/
import Derived.Test.YtngeclldoplihaaViStops3
set_option maxRecDepth 100000
set_option linter.unusedVariables false
set_option linter.unusedSimpArgs false
namespace Go.Vi
open Go.Proofs
def overK (k : Int) : Int := if eqI k 1 then 2 else if eqI k 2 then 1 else k
def over (c : Call) : Call := { c with From := W (33 - c.From), To := W (33 - c.To), Kind := overK c.Kind }
section
variable {bx : List Box} {tk : List (Nat × Nat)} {lo tlo : Nat} {R : Res}
set_option maxHeartbeats 2000000 in
theorem over_ok (c : Call) : callsV E0 29 [.agg c.cells] bx tk lo tlo R = R (.agg (over c).cells) bx tk := by
  refine calls_iff E0good E0det ?_ R
  refine callsT_pure (g := Try.f29) (n := 20) (rs := [.cell 2 30]) 17 [(0, .agg c.cells)] rfl Try.func29 rfl (by kernel_rfl) rfl rfl (by simp) (by simp) rfl md29 rg29 ?_
  simp (config := { implicitDefEqProofs := false, contextual := true, maxSteps := 1000000 }) only [go_sem, Nat.reduceAdd, Nat.reduceMul, Nat.reduceLeDiff, Nat.reduceEqDiff, Nat.reduceLT, Nat.reduceBEq]
  repeat' (first | intro _ | refine And.intro ?_ ?_)
  all_goals first
    | rfl
    | (simp only [over, overK, *, if_true, if_false, Bool.false_eq_true]; rfl)
end
/-- A car, mirrored. -/
def upside (x : Car) : Car := { x with Floor := W (33 - x.Floor), Dir := W (-x.Dir) }
def mir (a : Int) : Int := 33 - a
structure Mir (x : Car) (l : List Call) : Prop where
  fits : Fits x l
  dif : ∀ c ∈ l, ¬ (c.Kind = 4 ∧ c.From = c.To)
section plain
variable {x : Car} {l : List Call} {n : Int}
theorem over_eq (h : Fits x l) {c : Call} (hc : c ∈ l) : over c = { c with From := 33 - c.From, To := 33 - c.To, Kind := overK c.Kind } := by
  have := h.calls c hc
  unfold over
  rw [wrap_id (n := 33 - c.From) (by omega) (by omega), wrap_id (n := 33 - c.To) (by omega) (by omega)]
theorem up_eq (h : Fits x l) : upside x = { x with Floor := 33 - x.Floor, Dir := -x.Dir } := by
  unfold upside
  have := h.fl
  rw [wrap_id (n := 33 - x.Floor) (by omega) (by omega), neg_dir' h.dir]
theorem overK_3 (k : Int) : eqI (overK k) 3 = eqI k 3 := by
  unfold overK
  by_cases h1 : eqI k 1 = true
  · have := eqI_true.1 h1; subst this; rfl
  · rw [if_neg h1]
    by_cases h2 : eqI k 2 = true
    · have := eqI_true.1 h2; subst this; rfl
    · rw [if_neg h2]
theorem mine_over (c : Call) : mine n (over c) = mine n c := rfl
theorem goal_over (h : Fits x l) {c : Call} (hc : c ∈ l) : goal (over c) = 33 - goal c := by
  rw [over_eq h hc]
  unfold goal
  simp only [overK_3]
  split <;> rfl
theorem dir_over (h : Mir x l) {c : Call} (hc : c ∈ l) : dirC (over c) = -dirC c := by
  have hd := h.dif c hc
  rw [dir_eq, dir_eq, over_eq h.fits hc]
  unfold rdir overK
  simp only [eqI, ltI, decide_eq_true_eq, Bool.or_eq_true, Bool.and_eq_true]
  by_cases h1 : c.Kind = 1
  · simp [h1]
  · by_cases h2 : c.Kind = 2
    · simp [h2]
    · by_cases h4 : c.Kind = 4
      · simp only [h4]
        have hne : c.From ≠ c.To := fun e => hd ⟨h4, e⟩
        by_cases hlt : c.From < c.To
        · have : ¬ (33 - c.From < 33 - c.To) := by omega
          simp [hlt, this]
        · have : 33 - c.From < 33 - c.To := by omega
          simp [hlt, this]
      · simp [h1, h2, h4]
theorem goals_over (h : Fits x l) {a : Int} : a ∈ goals (l.map over) n ↔ 33 - a ∈ goals l n := by
  rw [goals_mem, goals_mem]
  constructor
  · rintro ⟨c', hc', hm, rfl⟩
    obtain ⟨c, hc, rfl⟩ := List.mem_map.1 hc'
    exact ⟨c, hc, hm, by rw [goal_over h hc]; omega⟩
  · rintro ⟨c, hc, hm, hg⟩
    exact ⟨over c, List.mem_map_of_mem hc, hm, by rw [goal_over h hc]; omega⟩
theorem ahead_over (h : Fits x l) {d : Int} : ahead (upside x) (goals (l.map over) n) (-d) = ahead x (goals l n) d := by
  rw [Bool.eq_iff_iff, ahead_iff, ahead_iff, up_eq h]
  constructor
  · rintro ⟨a, ha, k⟩
    exact ⟨33 - a, (goals_over h).1 ha, by simp only at k; omega⟩
  · rintro ⟨a, ha, k⟩
    exact ⟨33 - a, (goals_over h).2 (by rw [show 33 - (33 - a) = a by omega]; exact ha), by simp only; omega⟩
theorem else_over (h : Fits x l) : isElse (upside x) (goals (l.map over) n) = isElse x (goals l n) := by
  rw [Bool.eq_iff_iff, else_iff, else_iff, up_eq h]
  constructor
  · rintro ⟨a, ha, k⟩
    exact ⟨33 - a, (goals_over h).1 ha, by simp only at k; omega⟩
  · rintro ⟨a, ha, k⟩
    exact ⟨33 - a, (goals_over h).2 (by rw [show 33 - (33 - a) = a by omega]; exact ha), by simp only; omega⟩
theorem eqI_congr {a b c d : Int} (h : a = b ↔ c = d) : eqI a b = eqI c d := by
  rw [Bool.eq_iff_iff, eqI_true, eqI_true]; exact h
theorem answers_over (h : Mir x l) {c : Call} (hc : c ∈ l) : answers (upside x) (l.map over) n (over c) = answers x l n c := by
  have e1 : (upside x).Dir = -x.Dir := by rw [up_eq h.fits]
  have e2 : (upside x).Floor = 33 - x.Floor := by rw [up_eq h.fits]
  unfold answers
  rw [mine_over, goal_over h.fits hc, dir_over h hc, e1, e2, ahead_over h.fits]
  have e3 : (over c).State = c.State := rfl
  have e4 : eqI (over c).Kind 3 = eqI c.Kind 3 := overK_3 c.Kind
  rw [e3, e4, eqI_congr (show 33 - goal c = 33 - x.Floor ↔ goal c = x.Floor by omega), eqI_congr (show -x.Dir = 0 ↔ x.Dir = 0 by omega), eqI_congr (show -dirC c = -x.Dir ↔ dirC c = x.Dir by omega)]
theorem answered_over (h : Mir x l) : answered (upside x) (l.map over) n = (answered x l n).map over := by
  unfold answered
  rw [List.filter_map]
  congr 1
  exact List.filter_congr fun c hc => answers_over h hc
theorem stop_over (h : Mir x l) : stop (upside x) (l.map over) n = stop x l n := by
  unfold stop
  rw [answered_over h, else_over h.fits, List.length_map]
  rfl
/-! What is nearest, on a sorted row. -/
structure NearI (F : Int) (P : List Int) (s : Int × Int) : Prop where
  cases : (s.2 = 0 ∧ ∀ c ∈ P, c = F) ∨ (s.2 = 1 ∧ (∃ a ∈ P, F < a ∧ s.1 = a - F) ∧ ∀ c ∈ P, c < F → s.1 ≤ F - c) ∨ (s.2 = -1 ∧ (∃ b ∈ P, b < F ∧ s.1 = F - b) ∧ ∀ c ∈ P, F < c → s.1 < c - F)
  least : s.2 ≠ 0 → ∀ c ∈ P, (F < c → s.1 ≤ c - F) ∧ (c < F → s.1 ≤ F - c)
theorem near_step {F a : Int} {P : List Int} {s : Int × Int} (hx : x.Floor = F) (hF : 1 ≤ F ∧ F ≤ 33) (ha : 0 ≤ a ∧ a ≤ 33) (hP : ∀ c ∈ P, c < a) (h : NearI F P s) : NearI F (P ++ [a]) (nstep x s a) := by
  have hfar : far a x.Floor = if a < F then F - a else a - F := by
    rw [far_eq (by unfold inF; omega) (by unfold inF; omega), hx]
    split <;> split <;> omega
  have hmem : ∀ c, c ∈ P ++ [a] ↔ c ∈ P ∨ c = a := by simp
  obtain ⟨hc, hl⟩ := h
  unfold nstep
  rw [hfar]
  by_cases h0 : a = F
  · have e : ltI 0 (if a < F then F - a else a - F) = false := by simp [ltI]; split <;> omega
    rw [e, Bool.false_and, if_neg (by simp)]
    refine ⟨?_, fun hs c hm => ?_⟩
    · rcases hc with ⟨k1, k2⟩ | ⟨k1, ⟨b, k2, k3⟩, k4⟩ | ⟨k1, ⟨b, k2, k3⟩, k4⟩
      · exact .inl ⟨k1, fun c hm => by rcases (hmem c).1 hm with hm | rfl; exact k2 c hm; exact h0⟩
      · exact .inr (.inl ⟨k1, ⟨b, (hmem b).2 (.inl k2), k3⟩, fun c hm hlt => by rcases (hmem c).1 hm with hm | rfl; exact k4 c hm hlt; omega⟩)
      · exact .inr (.inr ⟨k1, ⟨b, (hmem b).2 (.inl k2), k3⟩, fun c hm hlt => by rcases (hmem c).1 hm with hm | rfl; exact k4 c hm hlt; omega⟩)
    · rcases (hmem c).1 hm with hm | rfl
      · exact hl hs c hm
      · omega
  · have e : ltI 0 (if a < F then F - a else a - F) = true := by simp [ltI]; split <;> omega
    rw [e, Bool.true_and]
    by_cases hlt : a < F
    · rw [if_pos hlt]
      have hPF : ∀ c ∈ P, c < F := fun c hm => by have := hP c hm; omega
      have e2 : ltI x.Floor a = false := by simp [ltI, hx]; omega
      have ht : (eqI s.2 0 || leI (F - a) s.1) = true := by
        rcases hc with ⟨k1, k2⟩ | ⟨k1, ⟨b, k2, k3⟩, k4⟩ | ⟨k1, ⟨b, k2, k3⟩, k4⟩
        · simp [eqI, k1]
        · have := hPF b k2; omega
        · have := hP b k2; simp [leI]; right; omega
      rw [if_pos ht, e2]
      refine ⟨.inr (.inr ⟨rfl, ⟨a, (hmem a).2 (.inr rfl), hlt, rfl⟩, fun c hm hF => ?_⟩), fun _ c hm => ?_⟩
      · rcases (hmem c).1 hm with hm | rfl
        · have := hPF c hm; omega
        · omega
      · rcases (hmem c).1 hm with hm | rfl
        · have := hPF c hm; have := hP c hm; simp only; omega
        · simp only; omega
    · rw [if_neg hlt]
      have e2 : ltI x.Floor a = true := by simp [ltI, hx]; omega
      by_cases ht : (eqI s.2 0 || leI (a - F) s.1) = true
      · rw [if_pos ht, e2]
        have hle : ∀ c ∈ P, c < F → a - F ≤ F - c := by
          intro c hm hlt
          rcases hc with ⟨k1, k2⟩ | ⟨k1, ⟨b, k2, k3⟩, k4⟩ | ⟨k1, ⟨b, k2, k3⟩, k4⟩
          · have := k2 c hm; omega
          · have h1 : eqI s.2 0 = false := by simp [eqI, k1]
            rw [h1, Bool.false_or, leI_true] at ht
            have := k4 c hm hlt; omega
          · have h1 : eqI s.2 0 = false := by simp [eqI, k1]
            rw [h1, Bool.false_or, leI_true] at ht
            have := (hl (by omega) c hm).2 hlt; omega
        refine ⟨.inr (.inl ⟨rfl, ⟨a, (hmem a).2 (.inr rfl), by omega, rfl⟩, fun c hm hlt => ?_⟩), fun _ c hm => ⟨fun hF => ?_, fun hF => ?_⟩⟩
        · rcases (hmem c).1 hm with hm | rfl
          · exact hle c hm hlt
          · omega
        · rcases (hmem c).1 hm with hm | rfl
          · rcases hc with ⟨k1, k2⟩ | ⟨k1, ⟨b, k2, k3⟩, k4⟩ | ⟨k1, ⟨b, k2, k3⟩, k4⟩
            · have := k2 c hm; omega
            · have h1 : eqI s.2 0 = false := by simp [eqI, k1]
              rw [h1, Bool.false_or, leI_true] at ht
              have := (hl (by omega) c hm).1 hF; simp only; omega
            · have h1 : eqI s.2 0 = false := by simp [eqI, k1]
              rw [h1, Bool.false_or, leI_true] at ht
              have := (hl (by omega) c hm).1 hF; simp only; omega
          · simp
        · rcases (hmem c).1 hm with hm | rfl
          · exact hle c hm hF
          · omega
      · rw [if_neg ht]
        simp only [Bool.or_eq_true, eqI_true, leI_true, not_or] at ht
        refine ⟨?_, fun hs c hm => ?_⟩
        · rcases hc with ⟨k1, k2⟩ | ⟨k1, ⟨b, k2, k3⟩, k4⟩ | ⟨k1, ⟨b, k2, k3⟩, k4⟩
          · exact absurd k1 ht.1
          · exact .inr (.inl ⟨k1, ⟨b, (hmem b).2 (.inl k2), k3⟩, fun c hm hlt => by rcases (hmem c).1 hm with hm | rfl; exact k4 c hm hlt; omega⟩)
          · exact .inr (.inr ⟨k1, ⟨b, (hmem b).2 (.inl k2), k3⟩, fun c hm hlt => by rcases (hmem c).1 hm with hm | rfl; exact k4 c hm hlt; omega⟩)
        · rcases (hmem c).1 hm with hm | rfl
          · exact hl hs c hm
          · omega
end plain
end Go.Vi
