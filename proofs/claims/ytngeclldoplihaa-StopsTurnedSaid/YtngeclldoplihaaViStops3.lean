/- The law StopsOn: the walk and the plain law. -/
import Derived.Test.YtngeclldoplihaaViStops2
import Derived.Test.YtngeclldoplihaaViPlain18
set_option maxRecDepth 100000
set_option linter.unusedVariables false
set_option linter.unusedSimpArgs false
namespace Go.Vi
open Go.Proofs
theorem awake17 (lo tlo : Nat) : callX E0 prims fnTab (codeX E0 prims fnTab 200) 22 [] [] [] lo tlo = some (.bool true, [], []) := by kernel_rfl
theorem awake17_ok {lo tlo : Nat} {R : Res} : callsV E0 22 [] [] [] lo tlo R = R (.bool true) [] [] :=
  calls_iff E0good E0det (callsV_run E0good E0p tabOk 200 (awake17 lo tlo) ⟨rfl, rfl, rfl⟩) R
def greatC (c : Call) : Bool := ltI c.From 0 || ltI 32 c.From || ltI c.To 0 || ltI 32 c.To
def great (x : Car) (l : List Call) : Bool := ltI 70 l.length || ltI x.Floor 1 || ltI 32 x.Floor || ltI x.Dir (-1) || ltI 1 x.Dir || l.any greatC
section
variable {bx : List Box} {tk : List (Nat × Nat)} {lo tlo : Nat} {R : Res}
def GreatS (v : V) (l : List Call) (bx : List Box) (tk : List (Nat × Nat)) (i : Nat) (s : St) : Prop :=
  ∃ us ws : List (Nat × V), (look us 1 = v ∧ look us 5 = I i) ∧ s = ⟨tab2 65 6 us ws, bx, tk⟩ ∧ ∀ j (hj : j < i) (hl : j < l.length), greatC l[j] = false
set_option maxHeartbeats 1000000 in
theorem great_ok {x : Car} {v : V} {l : List Call} (hv : IsL Call.cells 8 v l) : callsV E0 23 [.agg x.cells, v] bx tk lo tlo R = R (.bool (great x l)) bx tk := by
  refine calls_iff E0good E0det ?_ R
  refine callsT_pure (g := Try.f23) (n := 65) (rs := [.tmp 4]) 6 [(0, .agg x.cells), (1, v)] rfl Try.func23 rfl (by kernel_rfl) rfl rfl (by simp) (by simp) rfl md23 rg23 ?_
  simp (config := { implicitDefEqProofs := false, contextual := true, maxSteps := 1000000 }) only [go_sem, Nat.reduceAdd, Nat.reduceMul, Nat.reduceLeDiff, Nat.reduceEqDiff, Nat.reduceLT, Nat.reduceBEq, hv.copy, hv.lenV, hv.lenK, hv.lk, hv.clear]
  repeat' (first | intro _ | refine And.intro ?_ ?_)
  all_goals try (simp_all [great]; done)
  rename_i h1 h2 h3 h4 h5
  have hgr : great x l = l.any greatC := by simp only [great, h1, h2, h3, h4, h5, Bool.false_or]
  rw [hgr]
  refine wpv_for E0good l.length (GreatS v l bx tk) ?_ ?_ ?_
  · exact ⟨_, _, ⟨by simp [look, enumU], by simp [look, enumU]⟩, rfl, fun j hj => absurd hj (by omega)⟩
  · intro i hi s hs
    obtain ⟨us, ws, ⟨s1, s5⟩, rfl, hp⟩ := hs
    simp (config := { implicitDefEqProofs := false, contextual := true, maxSteps := 1000000 }) only [go_sem, Nat.reduceAdd, Nat.reduceMul, Nat.reduceLeDiff, Nat.reduceEqDiff, Nat.reduceLT, Nat.reduceBEq, s1, s5, hv.copy, hv.lk, hv.lenV, hv.lenK, hv.elem (by decide) hi, lt_cast hi, wrap_succ hi hv.len, asNat_cast]
    repeat' (first | intro _ | refine And.intro ?_ ?_)
    all_goals first
      | (have hw : greatC l[i] = true := by simp_all [greatC]
         have : l.any greatC = true := List.any_eq_true.2 ⟨l[i], List.getElem_mem hi, hw⟩
         simp [this]; done)
      | (refine ⟨_, _, ⟨by simp [look, s1, s5], by simp [look, s1, s5]⟩, rfl, fun j hj hl => ?_⟩
         by_cases hji : j = i
         · subst hji; simp_all [greatC]
         · exact hp j (by omega) hl)
  · intro s hs
    obtain ⟨us, ws, ⟨s1, s5⟩, rfl, hp⟩ := hs
    simp (config := { implicitDefEqProofs := false, contextual := true, maxSteps := 1000000 }) only [go_sem, Nat.reduceAdd, Nat.reduceMul, Nat.reduceLeDiff, Nat.reduceEqDiff, Nat.reduceLT, Nat.reduceBEq, s1, s5, hv.copy, hv.lk, hv.lenV, hv.lenK, lt_self]
    have : l.any greatC = false := by
      rw [List.any_eq_false]
      intro x hx
      obtain ⟨j, hj, rfl⟩ := List.getElem_of_mem hx
      simpa using hp j hj hj
    simp [this]
end
/-! The plain law. -/
structure Fits (x : Car) (l : List Call) : Prop where
  len : l.length ≤ 70
  fl : 1 ≤ x.Floor ∧ x.Floor ≤ 32
  dir : dirOk x.Dir
  calls : ∀ c ∈ l, 0 ≤ c.From ∧ c.From ≤ 32 ∧ 0 ≤ c.To ∧ c.To ≤ 32
theorem great_false {x : Car} {l : List Call} (h : great x l = false) : Fits x l := by
  simp only [great, Bool.or_eq_false_iff] at h
  obtain ⟨⟨⟨⟨⟨h1, h2⟩, h3⟩, h4⟩, h5⟩, h6⟩ := h
  refine ⟨?_, ?_, ?_, fun c hc => ?_⟩
  · simp [ltI] at h1; omega
  · simp [ltI] at h2 h3; omega
  · simp [ltI] at h4 h5; unfold dirOk; omega
  · have := List.any_eq_false.1 h6 c hc
    simp [greatC, ltI] at this
    omega
theorem Fits.goal {x : Car} {l : List Call} (h : Fits x l) {c : Call} (hc : c ∈ l) : 0 ≤ goal c ∧ goal c ≤ 32 := by
  have := h.calls c hc
  unfold Go.Vi.goal
  split <;> omega
theorem Fits.goals {x : Car} {l : List Call} (h : Fits x l) {n a : Int} (ha : a ∈ goals l n) : 0 ≤ a ∧ a ≤ 32 := by
  obtain ⟨c, h1, _, rfl⟩ := goals_mem.1 ha
  exact h.goal h1
theorem far_pos {x : Car} {a : Int} (hx : 1 ≤ x.Floor ∧ x.Floor ≤ 32) (ha : 0 ≤ a ∧ a ≤ 32) : ltI 0 (far a x.Floor) = true ↔ a ≠ x.Floor := by
  rw [far_eq (by unfold inF; omega) (by unfold inF; omega)]
  simp only [ltI_true]
  split <;> omega
/-- What nearest finds. -/
theorem near_fold {x : Car} (hx : 1 ≤ x.Floor ∧ x.Floor ≤ 32) : ∀ (l : List Int) (s : Int × Int), (∀ a ∈ l, 0 ≤ a ∧ a ≤ 32) → (s.2 = 0 ∨ s.2 = 1 ∨ s.2 = -1) →
    ((l.foldl (nstep x) s).2 = 0 ∧ s.2 = 0 ∧ (∀ a ∈ l, a = x.Floor)) ∨ ((l.foldl (nstep x) s).2 = 1 ∧ (s.2 = 1 ∨ ∃ a ∈ l, x.Floor < a)) ∨ ((l.foldl (nstep x) s).2 = -1 ∧ (s.2 = -1 ∨ ∃ a ∈ l, a < x.Floor))
  | [], s, _, h => by rcases h with h | h | h <;> simp [h]
  | a :: l, s, hl, h => by
    have ha := hl a List.mem_cons_self
    have hl' : ∀ b ∈ l, 0 ≤ b ∧ b ≤ 32 := fun b hb => hl b (List.mem_cons_of_mem _ hb)
    have key : (nstep x s a = s ∧ (s.2 = 0 → a = x.Floor)) ∨ ((nstep x s a).2 = 1 ∧ x.Floor < a) ∨ ((nstep x s a).2 = -1 ∧ a < x.Floor) := by
      unfold nstep
      by_cases hf : ltI 0 (far a x.Floor) = true
      · have hne := (far_pos hx ha).1 hf
        by_cases hc : (eqI s.2 0 || leI (far a x.Floor) s.1) = true
        · rw [hf, hc]
          simp only [Bool.and_self, if_true, ltI_true]
          split
          · exact .inr (.inl ⟨rfl, by assumption⟩)
          · exact .inr (.inr ⟨rfl, by omega⟩)
        · refine .inl ⟨?_, fun h0 => ?_⟩
          · rw [if_neg]; simp [hc]
          · exfalso; apply hc; simp [eqI, h0]
      · have : a = x.Floor := Classical.byContradiction fun hne => hf ((far_pos hx ha).2 hne)
        refine .inl ⟨?_, fun _ => this⟩
        rw [if_neg]; simp [hf]
    rw [List.foldl_cons]
    rcases key with ⟨k1, k2⟩ | ⟨k1, k2⟩ | ⟨k1, k2⟩
    · rw [k1]
      rcases near_fold hx l s hl' h with ⟨g1, g2, g3⟩ | ⟨g1, g2⟩ | ⟨g1, g2⟩
      · exact .inl ⟨g1, g2, fun b hb => by rcases List.mem_cons.1 hb with rfl | hb; exact k2 g2; exact g3 b hb⟩
      · exact .inr (.inl ⟨g1, g2.imp id fun ⟨b, hb, e⟩ => ⟨b, List.mem_cons_of_mem _ hb, e⟩⟩)
      · exact .inr (.inr ⟨g1, g2.imp id fun ⟨b, hb, e⟩ => ⟨b, List.mem_cons_of_mem _ hb, e⟩⟩)
    · rcases near_fold hx l (nstep x s a) hl' (.inr (.inl k1)) with ⟨g1, g2, g3⟩ | ⟨g1, g2⟩ | ⟨g1, g2⟩
      · omega
      · exact .inr (.inl ⟨g1, .inr ⟨a, List.mem_cons_self, k2⟩⟩)
      · rcases g2 with g2 | ⟨b, hb, e⟩
        · omega
        · exact .inr (.inr ⟨g1, .inr ⟨b, List.mem_cons_of_mem _ hb, e⟩⟩)
    · rcases near_fold hx l (nstep x s a) hl' (.inr (.inr k1)) with ⟨g1, g2, g3⟩ | ⟨g1, g2⟩ | ⟨g1, g2⟩
      · omega
      · rcases g2 with g2 | ⟨b, hb, e⟩
        · omega
        · exact .inr (.inl ⟨g1, .inr ⟨b, List.mem_cons_of_mem _ hb, e⟩⟩)
      · exact .inr (.inr ⟨g1, .inr ⟨a, List.mem_cons_self, k2⟩⟩)
theorem near_cases {x : Car} {l : List Int} (hx : 1 ≤ x.Floor ∧ x.Floor ≤ 32) (hl : ∀ a ∈ l, 0 ≤ a ∧ a ≤ 32) :
    (nearest x l = 0 ∧ ∀ a ∈ l, a = x.Floor) ∨ (nearest x l = 1 ∧ ∃ a ∈ l, x.Floor < a) ∨ (nearest x l = -1 ∧ ∃ a ∈ l, a < x.Floor) := by
  rcases near_fold hx l (0, 0) hl (.inl rfl) with ⟨g1, _, g3⟩ | ⟨g1, g2⟩ | ⟨g1, g2⟩
  · exact .inl ⟨g1, g3⟩
  · rcases g2 with g2 | g2
    · cases g2
    · exact .inr (.inl ⟨g1, g2⟩)
  · rcases g2 with g2 | g2
    · cases g2
    · exact .inr (.inr ⟨g1, g2⟩)
theorem ahead_iff {x : Car} {l : List Int} {d : Int} : ahead x l d = true ↔ ∃ a ∈ l, (d = 1 ∧ x.Floor < a) ∨ (d = -1 ∧ a < x.Floor) := by
  simp [ahead, ahead1, eqI, ltI]
theorem else_iff {x : Car} {l : List Int} : isElse x l = true ↔ ∃ a ∈ l, a ≠ x.Floor := by
  simp [isElse, eqI]
/-- Where all goals are here, a car stops if it has any. -/
theorem stop_here {x : Car} {l : List Call} {n : Int} (h : ∀ a ∈ goals l n, a = x.Floor) (hne : goals l n ≠ []) : stop x l n = true := by
  have hel : isElse x (goals l n) = false := by
    cases he : isElse x (goals l n) with
    | false => rfl
    | true => obtain ⟨a, ha, e⟩ := else_iff.1 he; exact absurd (h a ha) e
  obtain ⟨a, r, hg⟩ : ∃ a r, goals l n = a :: r := by
    cases hg : goals l n with
    | nil => exact absurd hg hne
    | cons a r => exact ⟨a, r, rfl⟩
  obtain ⟨c, h1, h2, h3⟩ := goals_mem.1 (show a ∈ goals l n by rw [hg]; exact List.mem_cons_self)
  have ha : a = x.Floor := h a (by rw [hg]; exact List.mem_cons_self)
  have hah : ahead x (goals l n) x.Dir = false := by
    cases he : ahead x (goals l n) x.Dir with
    | false => rfl
    | true =>
      obtain ⟨b, hb, e⟩ := ahead_iff.1 he
      have := h b hb
      omega
  have hans : answers x l n c = true := by
    unfold answers
    rw [h2, h3, hah]
    simp [eqI, ha]
  have : c ∈ answered x l n := List.mem_filter.2 ⟨h1, hans⟩
  unfold stop
  rw [hel]
  have hp : 0 < (answered x l n).length := List.length_pos_of_mem this
  simp [ltI, hp]
theorem stop_some {x : Car} {l : List Call} {n : Int} (h : stop x l n = true) : 0 < (answered x l n).length ∧ goals l n ≠ [] := by
  simp [stop, ltI] at h
  refine ⟨h.1, ?_⟩
  obtain ⟨c, hc⟩ := List.exists_mem_of_length_pos h.1
  have := List.mem_filter.1 hc
  intro hg
  have hm : mine n c = true := by
    have := this.2
    unfold answers at this
    cases hm : mine n c with
    | true => rfl
    | false => rw [hm] at this; simp at this
  have : goal c ∈ goals l n := goals_mem.2 ⟨c, this.1, hm, rfl⟩
  rw [hg] at this
  cases this
theorem turn_nil {x : Car} {l : List Call} {n : Int} (h : goals l n = []) : turnTo x l n = 0 := by
  unfold turnTo
  rw [h]
  simp [nearest, ahead]
theorem neg_dir' {d : Int} (h : dirOk d) : W (-d) = -d := wrap_id (by unfold dirOk at h; omega) (by unfold dirOk at h; omega)
theorem turn_zero {x : Car} {l : List Call} {n : Int} (hf : Fits x l) (h : turnTo x l n = 0) : ∀ a ∈ goals l n, a = x.Floor := by
  intro a ha
  unfold turnTo at h
  have hd := hf.dir
  by_cases h0 : x.Dir = 0
  · have e : eqI x.Dir 0 = true := eqI_true.2 h0
    rw [if_pos e] at h
    rcases near_cases hf.fl (fun b hb => hf.goals hb) with ⟨_, g⟩ | ⟨g, _⟩ | ⟨g, _⟩
    · exact g a ha
    · omega
    · omega
  · have e : ¬ eqI x.Dir 0 = true := fun h1 => h0 (eqI_true.1 h1)
    rw [if_neg e, neg_dir' hd] at h
    split at h
    · exact absurd h h0
    · rename_i h1
      split at h
      · omega
      · rename_i h2
        unfold dirOk at hd
        apply Classical.byContradiction
        intro hne
        by_cases hlt : x.Floor < a
        · by_cases hD : x.Dir = 1
          · exact h1 (ahead_iff.2 ⟨a, ha, .inl ⟨hD, hlt⟩⟩)
          · exact h2 (ahead_iff.2 ⟨a, ha, .inl ⟨by omega, hlt⟩⟩)
        · by_cases hD : x.Dir = 1
          · exact h2 (ahead_iff.2 ⟨a, ha, .inr ⟨by omega, by omega⟩⟩)
          · exact h1 (ahead_iff.2 ⟨a, ha, .inr ⟨by omega, by omega⟩⟩)
theorem turn_ahead {x : Car} {l : List Call} {n : Int} (hf : Fits x l) (h : turnTo x l n ≠ 0) : ahead x (goals l n) (turnTo x l n) = true := by
  unfold turnTo at h ⊢
  by_cases e : eqI x.Dir 0 = true
  · rw [if_pos e] at h ⊢
    rcases near_cases hf.fl (fun b hb => hf.goals hb) with ⟨g, _⟩ | ⟨g, b, hb, k⟩ | ⟨g, b, hb, k⟩
    · exact absurd g h
    · exact ahead_iff.2 ⟨b, hb, .inl ⟨g, k⟩⟩
    · exact ahead_iff.2 ⟨b, hb, .inr ⟨g, k⟩⟩
  · rw [if_neg e] at h ⊢
    split at h
    · rename_i h1; rw [if_pos h1]; exact h1
    · rename_i h1
      rw [if_neg h1]
      split at h
      · rename_i h2; rw [if_pos h2]; exact h2
      · exact absurd rfl h
def onC (x : Car) (n : Int) (c : Call) : Bool := mine n c && ((eqI c.State 2 && ((eqI c.Kind 1 && eqI x.Dir 1) || (eqI c.Kind 2 && eqI x.Dir (-1))) && eqI c.From x.Floor) || (eqI c.Kind 3 && eqI c.To x.Floor))
theorem on_stops {x : Car} {l : List Call} {n : Int} (hs : stop x l n = false) (hm : x.Moved = true) {c : Call} (hc : c ∈ l) : onC x n c = false := by
  cases ho : onC x n c with
  | false => rfl
  | true =>
    exfalso
    have hans : answers x l n c = true := by
      simp only [onC, Bool.and_eq_true, Bool.or_eq_true, eqI_true] at ho
      obtain ⟨h1, h2⟩ := ho
      unfold answers goal dirC
      rw [h1]
      rcases h2 with ⟨⟨k1, (⟨k2, k3⟩ | ⟨k2, k3⟩)⟩, k4⟩ | ⟨k2, k4⟩ <;> simp_all [eqI]
    have : c ∈ answered x l n := List.mem_filter.2 ⟨hc, hans⟩
    have hp : 0 < (answered x l n).length := List.length_pos_of_mem this
    have : stop x l n = true := by simp [stop, hm, ltI, hp]
    rw [this] at hs; cases hs
end Go.Vi
