/- The law StopsTurned: plain: where a car turns. -/
import Derived.Test.YtngeclldoplihaaViStops5
set_option maxRecDepth 100000
set_option linter.unusedVariables false
set_option linter.unusedSimpArgs false
namespace Go.Vi
open Go.Proofs
theorem compA_strict : ∀ (zs : List Int) (q : Int), (∀ z ∈ zs, q ≤ z) → zs.Pairwise (· ≤ ·) → (compA (some q) zs).Pairwise (· < ·)
  | [], q, _, _ => by simp [compA]
  | x :: l, q, hq, hs => by
    have hl : ∀ z ∈ l, x ≤ z := fun z hz => (List.pairwise_cons.1 hs).1 z hz
    have hs' := (List.pairwise_cons.1 hs).2
    by_cases h : q = x
    · subst h
      have : compA (some q) (q :: l) = compA (some q) l := by simp [compA]
      rw [this]; exact compA_strict l q hl hs'
    · have : compA (some q) (x :: l) = x :: compA (some x) l := by simp [compA, h]
      rw [this]
      exact List.pairwise_cons.2 ⟨fun a ha => by have := (compA_mem l x hl hs' a).1 ha; have := hl a this.1; omega, compA_strict l x hl hs'⟩
theorem goals_strict (l : List Call) (n : Int) : (goals l n).Pairwise (· < ·) := by
  unfold goals
  have hs := isort_sorted ((mineL l n).map goal)
  generalize isort ((mineL l n).map goal) = zs at hs
  cases zs with
  | nil => simp [compA]
  | cons x l =>
    have hl : ∀ z ∈ l, x ≤ z := fun z hz => (List.pairwise_cons.1 hs).1 z hz
    have hs' := (List.pairwise_cons.1 hs).2
    have e : compA none (x :: l) = x :: compA (some x) l := by simp [compA]
    rw [e]
    exact List.pairwise_cons.2 ⟨fun a ha => by have := (compA_mem l x hl hs' a).1 ha; have := hl a this.1; omega, compA_strict l x hl hs'⟩
theorem near_all {x : Car} {F : Int} (hx : x.Floor = F) (hF : 1 ≤ F ∧ F ≤ 33) : ∀ (r P : List Int) (s : Int × Int), NearI F P s → (P ++ r).Pairwise (· < ·) → (∀ a ∈ r, 0 ≤ a ∧ a ≤ 33) → NearI F (P ++ r) (r.foldl (nstep x) s)
  | [], P, s, h, _, _ => by simpa using h
  | a :: r, P, s, h, hp, hr => by
    have hP : ∀ c ∈ P, c < a := fun c hc => (List.pairwise_append.1 hp).2.2 c hc a List.mem_cons_self
    have := near_all hx hF r (P ++ [a]) (nstep x s a) (near_step hx hF (hr a List.mem_cons_self) hP h) (by simpa using hp) fun b hb => hr b (List.mem_cons_of_mem _ hb)
    simpa using this
theorem near_I {x : Car} {l : List Int} (hF : 1 ≤ x.Floor ∧ x.Floor ≤ 33) (hs : l.Pairwise (· < ·)) (hl : ∀ a ∈ l, 0 ≤ a ∧ a ≤ 33) : NearI x.Floor l (l.foldl (nstep x) (0, 0)) := by
  have := near_all (x := x) rfl hF l [] (0, 0) ⟨.inl ⟨rfl, by simp⟩, by simp⟩ (by simpa using hs) hl
  simpa using this
def pairs (x : Car) (G : List Int) (p j : Nat) : Bool := (List.range j).any fun q => eqI (W (G.getD p 0 - x.Floor)) (W (x.Floor - G.getD q 0))
def tieI (x : Car) (G : List Int) (i : Nat) : Bool := (List.range i).any fun p => pairs x G p p
theorem pairs_succ {x : Car} {G : List Int} {p j : Nat} : pairs x G p (j + 1) = (pairs x G p j || eqI (W (G.getD p 0 - x.Floor)) (W (x.Floor - G.getD j 0))) := by
  simp [pairs, List.range_succ]
theorem tieI_succ {x : Car} {G : List Int} {i : Nat} : tieI x G (i + 1) = (tieI x G i || pairs x G i i) := by
  simp [tieI, List.range_succ]
/-- Two goals as far off on both sides. -/
theorem tie_of {x : Car} {G : List Int} (hs : G.Pairwise (· < ·)) {a b : Int} (ha : a ∈ G) (hb : b ∈ G) (hlt : b < a) (h : a - x.Floor = x.Floor - b) : tieI x G G.length = true := by
  obtain ⟨p, hp, rfl⟩ := List.getElem_of_mem ha
  obtain ⟨q, hq, rfl⟩ := List.getElem_of_mem hb
  have hqp : q < p := by
    rcases Nat.lt_trichotomy q p with h1 | h1 | h1
    · exact h1
    · subst h1; omega
    · have := (List.pairwise_iff_getElem.1 hs) p q hp hq h1; omega
  refine List.any_eq_true.2 ⟨p, List.mem_range.2 hp, List.any_eq_true.2 ⟨q, List.mem_range.2 hqp, ?_⟩⟩
  rw [getD_eq' hp, getD_eq' hq, h]
  simp [eqI]
where
  getD_eq' {l : List Int} {i : Nat} (hi : i < l.length) : l.getD i 0 = l[i] := by simp [hi]
theorem turn_over {x : Car} {l : List Call} {n : Int} (h : Mir x l) :
    turnTo x l n = W (-turnTo (upside x) (l.map over) n) ∨ (x.Dir = 0 ∧ tieI x (goals l n) (goals l n).length = true ∧ turnTo x l n = 1 ∧ turnTo (upside x) (l.map over) n = 1) := by
  have e1 : (upside x).Dir = -x.Dir := by rw [up_eq h.fits]
  have e2 : (upside x).Floor = 33 - x.Floor := by rw [up_eq h.fits]
  have hd := h.fits.dir
  have hd' : dirOk (-x.Dir) := by unfold dirOk at *; omega
  by_cases h0 : x.Dir = 0
  · have k1 : turnTo x l n = nearest x (goals l n) := by unfold turnTo; rw [if_pos (eqI_true.2 h0)]
    have k2 : turnTo (upside x) (l.map over) n = nearest (upside x) (goals (l.map over) n) := by unfold turnTo; rw [if_pos (eqI_true.2 (by omega))]
    rw [k1, k2]
    have hfl := h.fits.fl
    have n1 := near_I (x := x) (by omega) (goals_strict l n) fun a ha => by have := h.fits.goals ha; omega
    have n2 := near_I (x := upside x) (by omega) (goals_strict (l.map over) n) fun a ha => by have := h.fits.goals ((goals_over h.fits).1 ha); omega
    have mem' : ∀ a, a ∈ goals l n → 33 - a ∈ goals (l.map over) n := fun a ha => (goals_over h.fits).2 (by rw [show 33 - (33 - a) = a by omega]; exact ha)
    have mem : ∀ a, a ∈ goals (l.map over) n → 33 - a ∈ goals l n := fun a ha => (goals_over h.fits).1 ha
    unfold nearest
    rw [e2] at n2
    obtain ⟨c1, l1⟩ := n1
    obtain ⟨c2, l2⟩ := n2
    generalize List.foldl (nstep x) (0, 0) (goals l n) = s at c1 l1 ⊢
    generalize List.foldl (nstep (upside x)) (0, 0) (goals (l.map over) n) = t at c2 l2 ⊢
    rcases c1 with ⟨p1, p2⟩ | ⟨p1, ⟨a, p2, p3, p4⟩, p5⟩ | ⟨p1, ⟨a, p2, p3, p4⟩, p5⟩
    · rcases c2 with ⟨q1, q2⟩ | ⟨q1, ⟨b, q2, q3, q4⟩, q5⟩ | ⟨q1, ⟨b, q2, q3, q4⟩, q5⟩
      · left; rw [p1, q1]; rfl
      · have := p2 _ (mem b q2); omega
      · have := p2 _ (mem b q2); omega
    · rcases c2 with ⟨q1, q2⟩ | ⟨q1, ⟨b, q2, q3, q4⟩, q5⟩ | ⟨q1, ⟨b, q2, q3, q4⟩, q5⟩
      · have := q2 _ (mem' a p2); omega
      · right
        refine ⟨h0, ?_, p1, q1⟩
        have hb := mem b q2
        have h1 := p5 _ hb (by omega)
        have h2 := q5 _ (mem' a p2) (by omega)
        exact tie_of (goals_strict l n) p2 hb (by omega) (by omega)
      · left; rw [p1, q1]; rfl
    · rcases c2 with ⟨q1, q2⟩ | ⟨q1, ⟨b, q2, q3, q4⟩, q5⟩ | ⟨q1, ⟨b, q2, q3, q4⟩, q5⟩
      · have := q2 _ (mem' a p2); omega
      · left; rw [p1, q1]; rfl
      · have h1 := p5 _ (mem b q2) (by omega)
        have h2 := q5 _ (mem' a p2) (by omega)
        omega
  · left
    have n0 : ¬ eqI x.Dir 0 = true := fun e => h0 (eqI_true.1 e)
    have n1 : ¬ eqI (upside x).Dir 0 = true := fun e => by have := eqI_true.1 e; omega
    unfold turnTo
    rw [if_neg n0, if_neg n1, e1, neg_dir' hd, neg_dir' hd', ahead_over h.fits, ahead_over h.fits]
    split
    · rw [neg_dir' hd']; omega
    · split
      · rw [neg_dir' (by unfold dirOk at *; omega)]; omega
      · rfl
end Go.Vi
