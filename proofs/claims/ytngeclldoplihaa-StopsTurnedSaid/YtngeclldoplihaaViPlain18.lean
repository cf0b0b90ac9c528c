/- Layer 18: the code's cost is the reference's: plain. -/
import Derived.Test.YtngeclldoplihaaViCost7
import Derived.Test.YtngeclldoplihaaViCost5
set_option linter.unusedVariables false
set_option linter.unusedSimpArgs false
namespace Go.Vi
/-! Goals as sets. -/
theorem compA_mem : ∀ (zs : List Int) (q : Int), (∀ z ∈ zs, q ≤ z) → zs.Pairwise (· ≤ ·) → ∀ a, a ∈ compA (some q) zs ↔ a ∈ zs ∧ a ≠ q
  | [], q, _, _, a => by simp [compA]
  | x :: l, q, hq, hs, a => by
    have hx := hq x List.mem_cons_self
    have hl : ∀ z ∈ l, x ≤ z := fun z hz => (List.pairwise_cons.1 hs).1 z hz
    have hs' := (List.pairwise_cons.1 hs).2
    by_cases h : q = x
    · subst h
      have : compA (some q) (q :: l) = compA (some q) l := by simp [compA]
      rw [this, compA_mem l q hl hs' a, List.mem_cons]
      constructor
      · rintro ⟨h1, h2⟩; exact ⟨.inr h1, h2⟩
      · rintro ⟨h1 | h1, h2⟩
        · exact absurd h1 h2
        · exact ⟨h1, h2⟩
    · have : compA (some q) (x :: l) = x :: compA (some x) l := by simp [compA, h]
      rw [this, List.mem_cons, List.mem_cons, compA_mem l x hl hs' a]
      constructor
      · rintro (h1 | ⟨h1, h2⟩)
        · exact ⟨.inl h1, by omega⟩
        · have := hl a h1; exact ⟨.inr h1, by omega⟩
      · rintro ⟨h1 | h1, h2⟩
        · exact .inl h1
        · by_cases ha : a = x
          · exact .inl ha
          · exact .inr ⟨h1, ha⟩
theorem compA_nodup : ∀ (zs : List Int) (q : Int), (∀ z ∈ zs, q ≤ z) → zs.Pairwise (· ≤ ·) → (compA (some q) zs).Nodup
  | [], q, _, _ => by simp [compA]
  | x :: l, q, hq, hs => by
    have hl : ∀ z ∈ l, x ≤ z := fun z hz => (List.pairwise_cons.1 hs).1 z hz
    have hs' := (List.pairwise_cons.1 hs).2
    by_cases h : q = x
    · subst h
      have : compA (some q) (q :: l) = compA (some q) l := by simp [compA]
      rw [this]; exact compA_nodup l q hl hs'
    · have : compA (some q) (x :: l) = x :: compA (some x) l := by simp [compA, h]
      rw [this]
      exact List.nodup_cons.2 ⟨fun hm => ((compA_mem l x hl hs' x).1 hm).2 rfl, compA_nodup l x hl hs'⟩
theorem compA_none {zs : List Int} (hs : zs.Pairwise (· ≤ ·)) : (∀ a, a ∈ compA none zs ↔ a ∈ zs) ∧ (compA none zs).Nodup := by
  cases zs with
  | nil => simp [compA]
  | cons x l =>
    have hl : ∀ z ∈ l, x ≤ z := fun z hz => (List.pairwise_cons.1 hs).1 z hz
    have hs' := (List.pairwise_cons.1 hs).2
    have e : compA none (x :: l) = x :: compA (some x) l := by simp [compA]
    rw [e]
    refine ⟨fun a => ?_, List.nodup_cons.2 ⟨fun hm => ((compA_mem l x hl hs' x).1 hm).2 rfl, compA_nodup l x hl hs'⟩⟩
    rw [List.mem_cons, List.mem_cons, compA_mem l x hl hs' a]
    constructor
    · rintro (h | ⟨h, _⟩)
      · exact .inl h
      · exact .inr h
    · rintro (h | h)
      · exact .inl h
      · by_cases ha : a = x
        · exact .inl ha
        · exact .inr ⟨h, ha⟩
theorem goals_mem {l : List Call} {n a : Int} : a ∈ goals l n ↔ ∃ c ∈ l, mine n c = true ∧ goal c = a := by
  unfold goals
  rw [(compA_none (isort_sorted _)).1, (isort_perm _).mem_iff]
  simp only [mineL, List.mem_map, List.mem_filter]
  constructor
  · rintro ⟨c, ⟨h1, h2⟩, h3⟩; exact ⟨c, h1, h2, h3⟩
  · rintro ⟨c, h1, h2, h3⟩; exact ⟨c, ⟨h1, h2⟩, h3⟩
theorem goals_nodup (l : List Call) (n : Int) : (goals l n).Nodup := (compA_none (isort_sorted _)).2
theorem hasI_true {l : List Int} {n : Int} : hasI l n = true ↔ n ∈ l := by
  simp [hasI, eqI]
theorem rgoals_fold (n : Int) : ∀ (l : List Call) (acc : List Int), acc.Nodup → (l.foldl (rstep n) acc).Nodup ∧ ∀ a, a ∈ l.foldl (rstep n) acc ↔ a ∈ acc ∨ ∃ c ∈ l, mine n c = true ∧ goal c = a
  | [], acc, h => by simp [h]
  | c :: l, acc, h => by
    have hn : (rstep n acc c).Nodup := by
      unfold rstep
      split
      · split
        · exact h
        · rename_i h1
          have : goal c ∉ acc := fun hm => h1 (hasI_true.2 hm)
          refine List.nodup_append.2 ⟨h, by simp, fun a ha b hb => ?_⟩
          simp at hb
          subst hb
          exact fun e => this (e ▸ ha)
      · exact h
    have hm : ∀ a, a ∈ rstep n acc c ↔ a ∈ acc ∨ (mine n c = true ∧ goal c = a) := by
      intro a
      unfold rstep
      split
      · rename_i h0
        split
        · rename_i h1
          have := hasI_true.1 h1
          simp only [h0, true_and]
          constructor
          · exact .inl
          · rintro (h2 | rfl)
            · exact h2
            · exact this
        · simp only [h0, true_and, List.mem_append, List.mem_singleton]
          constructor
          · rintro (h2 | rfl)
            · exact .inl h2
            · exact .inr rfl
          · rintro (h2 | rfl)
            · exact .inl h2
            · exact .inr rfl
      · rename_i h0
        simp [h0]
    obtain ⟨k1, k2⟩ := rgoals_fold n l _ hn
    refine ⟨k1, fun a => ?_⟩
    rw [List.foldl_cons, k2, hm]
    simp only [List.mem_cons, exists_eq_or_imp, or_assoc]
theorem rgoals_mem {l : List Call} {n a : Int} : a ∈ rgoals l n ↔ ∃ c ∈ l, mine n c = true ∧ goal c = a := by
  have := (rgoals_fold n l [] (by simp)).2 a
  simpa [rgoals] using this
theorem rgoals_nodup (l : List Call) (n : Int) : (rgoals l n).Nodup := (rgoals_fold n l [] (by simp)).1
theorem goals_perm (l : List Call) (n : Int) : (goals l n).Perm (rgoals l n) :=
  (List.perm_ext_iff_of_nodup (goals_nodup l n) (rgoals_nodup l n)).2 fun a => goals_mem.trans rgoals_mem.symm
/-! Ways. -/
theorem rat_eq {x : Car} {a : Int} (hx : inF x.Floor) (hd : dirOk x.Dir) (ha : inF a) : rat (form x) a = (a - x.Floor) * x.Dir := by
  unfold rat form inF dirOk at *
  simp only
  rw [wrap_id (n := a - x.Floor) (by omega) (by omega)]
  have : x.Dir = -1 ∨ x.Dir = 0 ∨ x.Dir = 1 := by omega
  rcases this with h | h | h <;> rw [h] <;> exact wrap_id (by omega) (by omega)
theorem step_eq {x : Car} {o a : Int} (hx : inF x.Floor) (hd : dirOk x.Dir) (ha : inF a) (ho : 0 ≤ o) : farStep x o a = rfarStep (form x) o a := by
  unfold farStep rfarStep
  rw [rat_eq hx hd ha, far_eq ha hx]
  unfold ahead1
  simp only [eqI, ltI]
  unfold inF dirOk at *
  have : x.Dir = -1 ∨ x.Dir = 0 ∨ x.Dir = 1 := by omega
  rcases this with h | h | h <;> rw [h] <;> simp <;> (repeat' split) <;> (try (intros; omega)) <;> omega
theorem fold_eq {x : Car} (hx : inF x.Floor) (hd : dirOk x.Dir) : ∀ (l : List Int) (o : Int), (∀ n ∈ l, inF n) → 0 ≤ o → l.foldl (farStep x) o = l.foldl (rfarStep (form x)) o
  | [], _, _, _ => rfl
  | a :: l, o, h, ho => by
    simp only [List.foldl_cons]
    rw [← step_eq hx hd (h a List.mem_cons_self) ho]
    exact fold_eq hx hd l _ (fun n hn => h n (List.mem_cons_of_mem _ hn)) (Int.le_trans ho farStep_ge)
/-- What a number does to what is farthest. -/
def reach (x : Car) (a : Int) : Int := if ahead1 x x.Dir a then far a x.Floor else 0
theorem fold_le {x : Car} : ∀ (l : List Int) (o b : Int), 0 ≤ o → (l.foldl (farStep x) o ≤ b ↔ o ≤ b ∧ ∀ a ∈ l, reach x a ≤ b)
  | [], o, b, _ => by simp
  | a :: l, o, b, ho => by
    rw [List.foldl_cons, fold_le l _ b (Int.le_trans ho farStep_ge)]
    have : farStep x o a ≤ b ↔ o ≤ b ∧ reach x a ≤ b := by
      unfold farStep reach
      split
      · split <;> omega
      · omega
    rw [this, and_assoc]
    simp only [List.forall_mem_cons]
theorem farthest_set {x : Car} {l m : List Int} (h : ∀ a, a ∈ l ↔ a ∈ m) : farthest x l = farthest x m := by
  apply Int.le_antisymm
  · exact (fold_le l 0 _ (Int.le_refl 0)).2 ⟨((fold_le m 0 _ (Int.le_refl 0)).1 (Int.le_refl _)).1, fun a ha => ((fold_le m 0 _ (Int.le_refl 0)).1 (Int.le_refl _)).2 a ((h a).1 ha)⟩
  · exact (fold_le m 0 _ (Int.le_refl 0)).2 ⟨((fold_le l 0 _ (Int.le_refl 0)).1 (Int.le_refl _)).1, fun a ha => ((fold_le l 0 _ (Int.le_refl 0)).1 (Int.le_refl _)).2 a ((h a).2 ha)⟩
theorem way_set {x : Car} {l m : List Int} {floor dir : Int} (h : ∀ a, a ∈ l ↔ a ∈ m) : way x l floor dir = way x m floor dir := by
  unfold way
  rw [farthest_set h]
theorem way_rway {x : Car} {l : List Int} {floor dir : Int} (hx : inF x.Floor) (hd : dirOk x.Dir) (hl : ∀ n ∈ l, inF n) (hf : inF floor) : way x l floor dir = rway (form x) l floor dir := by
  have e1 : rfar (form x) l = farthest x l := (fold_eq hx hd l 0 hl (Int.le_refl 0)).symm
  have h1 := farthest_bound hx hl
  have h2 := far_bound hf hx
  rw [way_eq hx hl hf]
  unfold rway
  rw [e1, rat_eq hx hd hf]
  have e2 : (form x).Dir = x.Dir := rfl
  have e3 : (form x).Floor = x.Floor := rfl
  rw [e2, e3, far_eq hf hx] at *
  unfold inF at hx hf
  rw [wrap_id (n := floor - x.Floor) (by omega) (by omega), wrap_id (n := x.Floor - floor) (by omega) (by omega), wrap_id (n := farthest x l + farthest x l) (by omega) (by omega)]
  unfold ahead1
  simp only [eqI, ltI, leI]
  unfold dirOk at hd
  have : x.Dir = -1 ∨ x.Dir = 0 ∨ x.Dir = 1 := by omega
  generalize farthest x l = F at *
  rcases this with h | h | h
  · rw [h]
    rw [wrap_id (n := F + F - (floor - x.Floor) * -1) (by omega) (by omega)]
    simp
    repeat' split
    all_goals first | omega | (simp_all; omega) | skip
  · rw [h]
    simp
    repeat' split
    all_goals first | omega | (simp_all; omega) | skip
  · rw [h]
    rw [wrap_id (n := F + F - (floor - x.Floor) * 1) (by omega) (by omega)]
    simp
    repeat' split
    all_goals first | omega | (simp_all; omega) | skip
theorem dir_eq (c : Call) : dirC c = rdir c := by
  unfold dirC rdir cmp
  simp only [eqI, ltI]
  by_cases h1 : c.Kind = 1
  · simp [h1]
  · by_cases h2 : c.Kind = 2
    · simp [h2]
    · by_cases h4 : c.Kind = 4
      · simp [h4]
        by_cases ha : c.To < c.From
        · have : ¬ c.From < c.To := by omega
          simp [ha, this]
        · by_cases hb : c.From < c.To
          · simp [ha, hb]
          · simp [ha, hb]
      · simp [h1, h2, h4]
theorem odd_false {x : Car} {l : List Call} (h : odd x l = false) : inF x.Floor ∧ dirOk x.Dir ∧ l.length ≤ 70 ∧ ∀ c ∈ l, inF (goal c) := by
  simp only [odd, Bool.or_eq_false_iff] at h
  obtain ⟨⟨⟨⟨⟨h1, h2⟩, h3⟩, h4⟩, h5⟩, h6⟩ := h
  refine ⟨wild_false.1 h1, ?_, ?_, fun c hc => ?_⟩
  · simp [ltI] at h2 h3; unfold dirOk; omega
  · simp [ltI] at h5; omega
  · have := List.any_eq_false.1 h6 c hc
    simp only [wildC, Bool.or_eq_true, not_or, Bool.not_eq_true] at this
    unfold goal
    split
    · exact wild_false.1 this.2
    · exact wild_false.1 this.1
theorem of_rof {g : Config} {x : Car} {l : List Call} {n : Int} {c : Call} (h : odd x l = false) (hcg : inF (goal c)) : ofC g x l n c = rof g (form x) l n c := by
  obtain ⟨hx, hd, _, hl⟩ := odd_false h
  have hgo : ∀ a ∈ rgoals l n, inF a := by
    intro a ha
    obtain ⟨c, h1, _, rfl⟩ := rgoals_mem.1 ha
    exact hl c h1
  unfold ofC rof
  rw [way_set (m := rgoals l n) (fun a => goals_mem.trans rgoals_mem.symm), way_rway hx hd hgo hcg, dir_eq, (goals_perm l n).length_eq]
  rfl
end Go.Vi
