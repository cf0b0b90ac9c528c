/- The machine has one outcome: a call's post may be asked at it; and how loops are walked. -/
import Derived.Test.YtngeclldoplihaaViRun
import Derived.Test.YtngeclldoplihaaViPrim
set_option linter.unusedVariables false
set_option linter.unusedSimpArgs false
namespace Go.Vi
def DetC (C : CallT) : Prop := ∀ f args bx tk lo tlo (R : Res) v b t, C f args bx tk lo tlo R → C f args bx tk lo tlo (fun v' b' t' => v' = v ∧ b' = b ∧ t' = t) → R v b t
def DetW (W : WT) : Prop := ∀ f lo tlo c st (Q : Ex → St → Prop) e s, W f lo tlo c st Q → W f lo tlo c st (fun e' s' => e' = e ∧ s' = s) → Q e s
section det
variable {E : Env} {C : CallT} {fn rg lo tlo : Nat} {ds : List Oper}
theorem wpOne_det (hC : C.Good) (hD : DetC C) {d : Option Nat} {op : Op} {gd : Option (Nat × Bool)} {st s : St} {K : St → Prop} (h : wpOne E C fn rg lo tlo ds d op gd st K) (hs : wpOne E C fn rg lo tlo ds d op gd st (fun s' => s' = s)) : K s := by
  unfold wpOne at h hs
  cases hw : wantV ds st gd with
  | none => rw [hw] at h; exact h.elim
  | some b =>
    rw [hw] at h hs
    cases b with
    | false =>
      rw [guardK_false] at h hs
      subst hs
      exact h
    | true =>
      rw [guardK_true] at h hs
      cases ho : opV E fn rg lo tlo st d op with
      | some p =>
        rw [ho] at h hs
        have h1 := locK_k h
        have h2 := locK_k hs
        subst h2
        exact h1
      | none =>
        rw [ho, stepK_none] at h hs
        cases hc : calleeOf st op with
        | none => rw [hc] at h; exact h.elim
        | some q =>
          rw [hc] at h hs
          simp only [callK] at h hs
          obtain ⟨v, b, t, h1, h2⟩ := hC.point _ _ _ _ _ _ _ hs
          have h3 := locK_k (hD _ _ _ _ _ _ _ _ _ _ h h2)
          have h4 := locK_k h1
          subst h4
          exact h3
theorem wpList_det (hC : C.Good) (hD : DetC C) : ∀ {l : List Oper} {st s : St} {K : St → Prop}, wpList E C fn rg lo tlo ds l st K → wpList E C fn rg lo tlo ds l st (fun s' => s' = s) → K s
  | [], st, s, K, h, hs => by
    simp only [wpList] at h hs
    subst hs
    exact h
  | o :: l, st, s, K, h, hs => by
    obtain ⟨s1, h1, h2⟩ := wpOne_point hC hs
    have h3 := wpOne_det hC hD h h2
    exact wpList_det hC hD h3 h1
theorem endOf_det {f : FuncId} {rs : List ResultVar} {bx : List Box} {tk : List (Nat × Nat)} {R : Res} {e : Ex} {s : St} {v : V} {b : List Box} {t : List (Nat × Nat)} (h : endOf E f rs bx tk R e s) (hp : endOf E f rs bx tk (fun v' b' t' => v' = v ∧ b' = b ∧ t' = t) e s) : R v b t := by
  cases e with
  | exit id => exact h.elim
  | normal | ret =>
    simp only [endOf] at h hp
    split at h
    · exact h.elim
    · rename_i us hus
      rw [hus] at hp
      simp only at hp
      cases hm : E.mode f with
      | pure =>
        rw [hm] at h hp
        simp only at h hp
        split at h
        · rename_i ws hws
          rw [hws] at hp
          obtain ⟨rfl, rfl, rfl⟩ := hp
          exact h
        · exact h.elim
      | make => rw [hm] at h hp; obtain ⟨rfl, rfl, rfl⟩ := hp; exact h
      | obj => rw [hm] at h hp; obtain ⟨rfl, rfl, rfl⟩ := hp; exact h
def Env.Det (E : Env) : Prop := ∀ f p args bx tk lo tlo (R : Res) v b t, E.prim f = some p → p args bx tk lo tlo R → p args bx tk lo tlo (fun v' b' t' => v' = v ∧ b' = b ∧ t' = t) → R v b t
theorem callBy_det (hE : E.Det) {W : WT} (hm : UpW W W) (hp : PtW W) (hW : DetW W) : DetC (callBy E W) := by
  intro f args bx tk lo tlo R v b t h hs
  unfold callBy at h hs
  split at h
  · rename_i hpr
    simp only [hpr] at hs
    exact hE _ _ _ _ _ _ _ _ _ _ _ hpr h hs
  · rename_i hpr
    simp only [hpr] at hs
    split at h
    · exact h.elim
    · rename_i hf
      simp only [hf] at hs
      split at h
      · exact h.elim
      · rename_i hb
        simp only [hb] at hs
        obtain ⟨e, s, h1, h2⟩ := hp _ _ _ _ _ _ hs.2.2.2
        exact endOf_det (hW _ _ _ _ _ _ _ _ h.2.2.2 h2) h1
theorem wpk_det (hE : E.Good) (hD : E.Det) : ∀ k, DetW (wpk E k)
  | 0 => fun _ _ _ _ _ _ _ _ h => h.elim
  | k + 1 => by
    intro fn lo tlo c st Q e s h hs
    have ih := wpk_det hE hD k
    have hm := wpk_up hE k
    have hp := wpk_point hE k
    cases c <;> unfold wpk at h hs <;> try (exact h.elim)
    case skip => obtain ⟨rfl, rfl⟩ := hs; exact h
    case exit id => obtain ⟨rfl, rfl⟩ := hs; exact h
    case ret => obtain ⟨rfl, rfl⟩ := hs; exact h
    case region id ops draw =>
      obtain ⟨s1, h1, h2⟩ := wpList_point (callBy_good hE hm hp) hs
      obtain ⟨rfl, rfl⟩ := h1
      exact wpList_det (callBy_good hE hm hp) (callBy_det hD hm hp ih) h h2
    case seq a b =>
      obtain ⟨e1, s1, h1, h2⟩ := hp _ _ _ _ _ _ hs
      have h3 := ih _ _ _ _ _ _ _ _ h h2
      cases e1 with
      | normal => exact ih _ _ _ _ _ _ _ _ h3 h1
      | exit id => obtain ⟨rfl, rfl⟩ := h1; exact h3
      | ret => obtain ⟨rfl, rfl⟩ := h1; exact h3
    case loop b =>
      obtain ⟨e1, s1, h1, h2⟩ := hp _ _ _ _ _ _ hs
      have h3 := ih _ _ _ _ _ _ _ _ h h2
      cases e1 with
      | normal => exact ih _ _ _ _ _ _ _ _ h3 h1
      | exit id => obtain ⟨rfl, rfl⟩ := h1; exact h3
      | ret => obtain ⟨rfl, rfl⟩ := h1; exact h3
    case cond c a b =>
      obtain ⟨t, ht, h⟩ := h
      obtain ⟨t', ht', hs⟩ := hs
      rw [ht] at ht'
      injection ht' with ht'
      injection ht' with ht'
      subst ht'
      exact ih _ _ _ _ _ _ _ _ h hs
    case block id b =>
      obtain ⟨e1, s1, h1, h2⟩ := hp _ _ _ _ _ _ hs
      have h3 := ih _ _ _ _ _ _ _ _ h h2
      cases e1 with
      | exit j =>
        simp only [blockK] at h1 h3
        split at h1
        · rename_i hj; rw [if_pos hj] at h3; obtain ⟨rfl, rfl⟩ := h1; exact h3
        · rename_i hj; rw [if_neg hj] at h3; obtain ⟨rfl, rfl⟩ := h1; exact h3
      | normal => obtain ⟨rfl, rfl⟩ := h1; exact h3
      | ret => obtain ⟨rfl, rfl⟩ := h1; exact h3
theorem callsV_det (hE : E.Good) (hD : E.Det) : DetC (callsV E) := by
  intro f args bx tk lo tlo R v b t ⟨k, h⟩ ⟨k', h'⟩
  have up : ∀ {k k' : Nat}, k ≤ k' → UpC (callBy E (wpk E k)) (callBy E (wpk E k')) := fun hk => callBy_up hE (UpW.trans_id (fun _ _ _ _ _ _ h => wpk_le hE hk h) (wpk_up hE _))
  exact callBy_det hD (wpk_up hE _) (wpk_point hE _) (wpk_det hE hD (max k k')) _ _ _ _ _ _ _ _ _ _ (up (Nat.le_max_left k k') _ _ _ _ _ _ _ _ h fun _ _ _ h => h) (up (Nat.le_max_right k k') _ _ _ _ _ _ _ _ h' fun _ _ _ h => h)
theorem env_det (p : FuncId → Option PX) (h : ∀ f, E.prim f = (p f).map relOf) : E.Det := by
  intro f q args bx tk lo tlo R v b t hf hq hs
  rw [h] at hf
  cases hp : p f with
  | none => rw [hp] at hf; cases hf
  | some x =>
    rw [hp] at hf
    simp only [Option.map_some, Option.some.injEq] at hf
    subst hf
    obtain ⟨v1, b1, t1, e1, h1⟩ := relOf_eq hq
    obtain ⟨v2, b2, t2, e2, h2⟩ := relOf_eq hs
    rw [e1] at e2
    injection e2 with e2
    injection e2 with q1 q2
    injection q2 with q2 q3
    subst q1
    subst q2
    subst q3
    obtain ⟨rfl, rfl, rfl⟩ := h2
    exact h1
/-- A call that is known to come to one answer, as an equation. -/
theorem calls_iff (hE : E.Good) (hD : E.Det) {f : FuncId} {args : List V} {bx : List Box} {tk : List (Nat × Nat)} {v : V} {b : List Box} {t : List (Nat × Nat)} (h : callsV E f args bx tk lo tlo (fun v' b' t' => v' = v ∧ b' = b ∧ t' = t)) (R : Res) : callsV E f args bx tk lo tlo R = R v b t :=
  propext ⟨fun k => callsV_det hE hD _ _ _ _ _ _ _ _ _ _ k h, fun k => callsV_mono hE h (by rintro v' b' t' ⟨rfl, rfl, rfl⟩; exact k)⟩
end det
section loops
variable {E : Env} (hE : E.Good) {fn : FuncId} {lo tlo : Nat} {st : St} {Q Q' : Ex → St → Prop}
include hE in
theorem wpv_loop_step {b : Code} {s : St} (h : wpv E fn lo tlo b s (thenK (fun s' => wpv E fn lo tlo (.loop b) s' Q) Q)) : wpv E fn lo tlo (.loop b) s Q := by
  obtain ⟨k, h⟩ := h
  obtain ⟨e, s', hq, h1⟩ := wpk_point hE k _ _ _ _ _ _ h
  cases e with
  | normal =>
    obtain ⟨k2, h2⟩ := hq
    refine ⟨max k k2 + 1, ?_⟩
    unfold wpk
    exact wpk_up hE _ _ _ _ _ _ _ _ (wpk_le hE (Nat.le_max_left k k2) h1) (by rintro _ _ ⟨rfl, rfl⟩; exact wpk_le hE (Nat.le_max_right _ _) h2)
  | exit id => exact ⟨k + 1, by unfold wpk; exact wpk_up hE _ _ _ _ _ _ _ _ h1 (by rintro _ _ ⟨rfl, rfl⟩; exact hq)⟩
  | ret => exact ⟨k + 1, by unfold wpk; exact wpk_up hE _ _ _ _ _ _ _ _ h1 (by rintro _ _ ⟨rfl, rfl⟩; exact hq)⟩
/-- A loop that counts up to n. -/
theorem wpv_for (hE : E.Good) {b : Code} (n : Nat) (S : Nat → St → Prop) (h0 : S 0 st) (step : ∀ i, i < n → ∀ s, S i s → wpv E fn lo tlo b s (thenK (S (i + 1)) Q)) (done : ∀ s, S n s → wpv E fn lo tlo b s (thenK (fun _ => False) Q)) :
    wpv E fn lo tlo (.loop b) st Q := by
  have key : ∀ m i s, n - i = m → i ≤ n → S i s → wpv E fn lo tlo (.loop b) s Q := by
    intro m
    induction m with
    | zero =>
      intro i s hm hi hs
      have : i = n := by omega
      subst this
      exact wpv_loop_step hE (wpv_mono hE (done s hs) fun e s' h => by cases e <;> first | exact h.elim | exact h)
    | succ m ih =>
      intro i s hm hi hs
      refine wpv_loop_step hE (wpv_mono hE (step i (by omega) s hs) fun e s' h => ?_)
      cases e with
      | normal => exact ih (i + 1) s' (by omega) (by omega) h
      | exit id => exact h
      | ret => exact h
  exact key n 0 st rfl (Nat.zero_le _) h0
end loops
end Go.Vi
