/- Laws of the abstract machine's weakest precondition: more rounds and weaker posts keep it; it has one outcome; how it is computed. -/
import Derived.Test.YtngeclldoplihaaViCore
set_option linter.unusedVariables false
set_option linter.unusedSimpArgs false
namespace Go.Vi

abbrev WT := FuncId → Nat → Nat → Code → St → (Ex → St → Prop) → Prop
def UpC (C C' : CallT) : Prop := ∀ f args bx tk lo tlo R R', C f args bx tk lo tlo R → (∀ v b t, R v b t → R' v b t) → C' f args bx tk lo tlo R'
def UpW (W W' : WT) : Prop := ∀ f lo tlo c st Q Q', W f lo tlo c st Q → (∀ e s, Q e s → Q' e s) → W' f lo tlo c st Q'
def PtW (W : WT) : Prop := ∀ f lo tlo c st Q, W f lo tlo c st Q → ∃ e s, Q e s ∧ W f lo tlo c st (fun e' s' => e' = e ∧ s' = s)
/-- A transformer that keeps what follows from its post, and has an outcome. -/
structure CallT.Good (C : CallT) : Prop where
  mono : UpC C C
  point : ∀ f args bx tk lo tlo R, C f args bx tk lo tlo R → ∃ v b t, R v b t ∧ C f args bx tk lo tlo (fun v' b' t' => v' = v ∧ b' = b ∧ t' = t)
structure Env.Good (E : Env) : Prop where
  mono : ∀ f p args bx tk lo tlo (R R' : Res), E.prim f = some p → p args bx tk lo tlo R → (∀ v b t, R v b t → R' v b t) → p args bx tk lo tlo R'
  point : ∀ f p args bx tk lo tlo (R : Res), E.prim f = some p → p args bx tk lo tlo R → ∃ v b t, R v b t ∧ p args bx tk lo tlo (fun v' b' t' => v' = v ∧ b' = b ∧ t' = t)

section one
variable {E : Env} {C C' : CallT} {fn : FuncId} {rg lo tlo : Nat} {ds : List Oper}
theorem guardK_mono {w : Option Bool} {r r' s s' : Prop} (hr : r → r') (hs : s → s') (h : guardK w r s) : guardK w r' s' := by
  cases w with
  | none => exact h
  | some b => exact ⟨fun hb => hr (h.1 hb), fun hb => hs (h.2 hb)⟩
theorem stepK_mono {r : Option (V × St)} {c c' : Prop} {k k' : V → St → Prop} (hc : c → c') (hk : ∀ v s, k v s → k' v s) (h : stepK r c k) : stepK r c' k' := by
  cases r with
  | none => exact hc h
  | some p => exact hk _ _ h
theorem callK_mono {r : Option (FuncId × List V)} {k k' : FuncId → List V → Prop} (hk : ∀ v s, k v s → k' v s) (h : callK r k) : callK r k' := by
  cases r with
  | none => exact h
  | some p => exact hk _ _ h
theorem locK_mono {L : Nat → Bool} {d : Option Nat} {v : V} {k k' : Prop} (hk : k → k') (h : locK L d v k) : locK L d v k' := by
  unfold locK at *
  split <;> simp only [] at h
  · exact ⟨h.1, hk h.2⟩
  · exact hk h
theorem locK_k {L : Nat → Bool} {d : Option Nat} {v : V} {k : Prop} (h : locK L d v k) : k := by
  unfold locK at h
  split at h
  · exact h.2
  · exact h
theorem wpOne_mono {d : Option Nat} {op : Op} {gd : Option (Nat × Bool)} {st : St} {K K' : St → Prop} (hC : UpC C C')
    (hK : ∀ s, K s → K' s) (h : wpOne E C fn rg lo tlo ds d op gd st K) : wpOne E C' fn rg lo tlo ds d op gd st K' :=
  guardK_mono (stepK_mono (callK_mono fun _ _ h => hC _ _ _ _ _ _ _ _ h fun _ _ _ => locK_mono (hK _)) fun _ _ => locK_mono (hK _)) (hK _) h
theorem wpList_mono (hC : UpC C C') :
    ∀ {l : List Oper} {st : St} {K K' : St → Prop}, (∀ s, K s → K' s) → wpList E C fn rg lo tlo ds l st K → wpList E C' fn rg lo tlo ds l st K'
  | [], _, _, _, hK, h => hK _ h
  | _ :: _, _, _, _, hK, h => wpOne_mono hC (fun _ hs => wpList_mono hC hK hs) h
theorem wpOne_point (hC : C.Good) {d : Option Nat} {op : Op} {gd : Option (Nat × Bool)} {st : St} {K : St → Prop} (h : wpOne E C fn rg lo tlo ds d op gd st K) :
    ∃ s, K s ∧ wpOne E C fn rg lo tlo ds d op gd st (fun s' => s' = s) := by
  unfold wpOne at *
  cases hw : wantV ds st gd with
  | none => simp only [hw] at h; exact h.elim
  | some b =>
    cases b with
    | false => simp only [hw, guardK_false] at h ⊢; exact ⟨_, h, rfl⟩
    | true =>
      simp only [hw, guardK_true] at h ⊢
      cases hv : opV E fn rg lo tlo st d op with
      | some p => simp only [hv] at h ⊢; exact ⟨_, locK_k h, locK_mono (fun _ => rfl) h⟩
      | none =>
        simp only [hv, stepK_none] at h ⊢
        cases hc : calleeOf st op with
        | none => simp only [hc] at h; exact h.elim
        | some p =>
          simp only [hc] at h ⊢
          obtain ⟨v, b, t, hR, hp⟩ := hC.point _ _ _ _ _ _ _ h
          exact ⟨_, locK_k hR, hC.mono _ _ _ _ _ _ _ _ hp (by rintro v' b' t' ⟨rfl, rfl, rfl⟩; exact locK_mono (fun _ => rfl) hR)⟩
theorem wpList_point (hC : C.Good) : ∀ {l : List Oper} {st : St} {K : St → Prop}, wpList E C fn rg lo tlo ds l st K →
    ∃ s, K s ∧ wpList E C fn rg lo tlo ds l st (fun s' => s' = s)
  | [], st, _, h => ⟨st, h, rfl⟩
  | o :: l, st, K, h => by
    obtain ⟨s, hs, h1⟩ := wpOne_point hC h
    obtain ⟨s2, hs2, h2⟩ := wpList_point hC hs
    exact ⟨s2, hs2, wpOne_mono hC.mono (by rintro _ rfl; exact h2) h1⟩
end one

section by_
variable {E : Env} (hE : E.Good) {W W' : WT}
theorem endOf_mono {f : FuncId} {fn : List ResultVar} {bx : List Box} {tk : List (Nat × Nat)} {R R' : Res} (h : ∀ v b t, R v b t → R' v b t) : ∀ e s, endOf E f fn bx tk R e s → endOf E f fn bx tk R' e s := by
  intro e s hh
  cases e with
  | exit id => exact hh
  | normal | ret =>
    simp only [endOf] at hh ⊢
    split
    · rename_i hn; simp only [hn] at hh
    · rename_i hs; simp only [hs] at hh
      cases hm : E.mode f <;> simp only [hm] at hh ⊢
      case pure => split <;> rename_i hf <;> simp only [hf] at hh; exact h _ _ _ hh
      all_goals exact h _ _ _ hh
theorem endOf_point {f : FuncId} {fn : List ResultVar} {bx : List Box} {tk : List (Nat × Nat)} {R : Res} {e : Ex} {s : St} (h : endOf E f fn bx tk R e s) :
    ∃ v b t, R v b t ∧ endOf E f fn bx tk (fun v' b' t' => v' = v ∧ b' = b ∧ t' = t) e s := by
  cases e with
  | exit id => exact h.elim
  | normal | ret =>
    simp only [endOf] at h ⊢
    split at h
    · exact h.elim
    · cases hm : E.mode f <;> simp only [hm] at h ⊢
      case pure => split at h <;> first | exact h.elim | exact ⟨_, _, _, h, rfl, rfl, rfl⟩
      all_goals exact ⟨_, _, _, h, rfl, rfl, rfl⟩
include hE in
theorem callBy_up (hW : UpW W W') : UpC (callBy E W) (callBy E W') := by
  intro f args bx tk lo tlo R R' h hR
  unfold callBy at *
  split
  · rename_i hp; simp only [hp] at h; exact hE.mono _ _ _ _ _ _ _ _ _ hp h hR
  · rename_i hp; simp only [hp] at h
    split
    · rename_i hf; simp only [hf] at h
    · rename_i hf; simp only [hf] at h
      split
      · rename_i hb; simp only [hb] at h
      · rename_i hb; simp only [hb] at h
        exact ⟨h.1, h.2.1, h.2.2.1, hW _ _ _ _ _ _ _ h.2.2.2 (endOf_mono hR)⟩
include hE in
theorem callBy_good (hm : UpW W W) (hp : PtW W) : (callBy E W).Good := by
  refine ⟨callBy_up hE hm, ?_⟩
  intro f args bx tk lo tlo R h
  unfold callBy at h
  split at h
  · rename_i hpr
    obtain ⟨v, b, t, hR, h'⟩ := hE.point _ _ _ _ _ _ _ _ hpr h
    exact ⟨v, b, t, hR, by unfold callBy; simp only [hpr]; exact h'⟩
  · rename_i hpr
    split at h
    · exact h.elim
    · rename_i hf
      split at h
      · exact h.elim
      · rename_i hb
        obtain ⟨h1, h2, h2b, h3⟩ := h
        obtain ⟨e, s, hq, h4⟩ := hp _ _ _ _ _ _ h3
        obtain ⟨v, b, t, hR, h5⟩ := endOf_point hq
        exact ⟨v, b, t, hR, by unfold callBy; simp only [hpr, hf, hb]; exact ⟨h1, h2, h2b, hm _ _ _ _ _ _ _ h4 (by rintro e' s' ⟨rfl, rfl⟩; exact h5)⟩⟩
end by_

theorem thenK_mono {n n' : St → Prop} {Q Q' : Ex → St → Prop} (hn : ∀ s, n s → n' s) (hQ : ∀ e s, Q e s → Q' e s) : ∀ e s, thenK n Q e s → thenK n' Q' e s := by
  intro e s h; cases e <;> first | exact hn _ h | exact hQ _ _ h
theorem blockK_mono {id : Nat} {Q Q' : Ex → St → Prop} (hQ : ∀ e s, Q e s → Q' e s) : ∀ e s, blockK id Q e s → blockK id Q' e s := by
  intro e s h
  cases e with
  | exit j =>
    simp only [blockK] at h ⊢
    split <;> rename_i hj <;> simp only [hj, if_true, if_false] at h
    · exact hQ _ _ h
    · exact hQ _ _ h
  | normal => exact hQ _ _ h
  | ret => exact hQ _ _ h
section rounds
variable {E : Env} (hE : E.Good)
include hE in
theorem wpk_up : ∀ (k : Nat), UpW (wpk E k) (wpk E k)
  | 0 => fun _ _ _ _ _ _ _ h _ => h.elim
  | k + 1 => by
    intro fn lo tlo c st Q Q' h hQ
    have ih := wpk_up k
    cases c <;> unfold wpk at h ⊢ <;> try (exact h)
    case skip => exact hQ _ _ h
    case exit id => exact hQ _ _ h
    case ret => exact hQ _ _ h
    case region id ops draw => exact wpList_mono (callBy_up hE ih) (fun s hs => hQ _ _ hs) h
    case seq a b => exact ih _ _ _ _ _ _ _ h (thenK_mono (fun s hs => ih _ _ _ _ _ _ _ hs hQ) hQ)
    case cond c a b => obtain ⟨t, ht, h⟩ := h; exact ⟨t, ht, ih _ _ _ _ _ _ _ h hQ⟩
    case block id b => exact ih _ _ _ _ _ _ _ h (blockK_mono hQ)
    case loop b => exact ih _ _ _ _ _ _ _ h (thenK_mono (fun s hs => ih _ _ _ _ _ _ _ hs hQ) hQ)
theorem UpW.trans_id {W W' : WT} (h : ∀ f lo tlo c st Q, W f lo tlo c st Q → W' f lo tlo c st Q) (hm : UpW W' W') : UpW W W' :=
  fun _ _ _ _ _ _ _ a b => hm _ _ _ _ _ _ _ (h _ _ _ _ _ _ a) b
include hE in
theorem wpk_succ : ∀ (k : Nat) fn lo tlo c st Q, wpk E k fn lo tlo c st Q → wpk E (k + 1) fn lo tlo c st Q
  | 0 => fun _ _ _ _ _ _ h => h.elim
  | k + 1 => by
    intro fn lo tlo c st Q h
    have ih := wpk_succ k
    have ih' : UpW (wpk E k) (wpk E (k + 1)) := UpW.trans_id ih (wpk_up hE _)
    cases c <;> unfold wpk at h ⊢ <;> try (exact h)
    case region id ops draw => exact wpList_mono (callBy_up hE ih') (fun s hs => hs) h
    case seq a b => exact ih' _ _ _ _ _ _ _ h (thenK_mono (fun s hs => ih _ _ _ _ _ _ hs) fun _ _ h => h)
    case cond c a b => obtain ⟨t, ht, h⟩ := h; exact ⟨t, ht, ih _ _ _ _ _ _ h⟩
    case block id b => exact ih _ _ _ _ _ _ h
    case loop b => exact ih' _ _ _ _ _ _ _ h (thenK_mono (fun s hs => ih _ _ _ _ _ _ hs) fun _ _ h => h)
include hE in
theorem wpk_le {k k' : Nat} (hk : k ≤ k') {fn : FuncId} {lo tlo : Nat} {c : Code} {st : St} {Q : Ex → St → Prop} (h : wpk E k fn lo tlo c st Q) : wpk E k' fn lo tlo c st Q := by
  induction hk with
  | refl => exact h
  | step _ ih => exact wpk_succ hE _ _ _ _ _ _ _ ih
include hE in
theorem wpk_point : ∀ (k : Nat), PtW (wpk E k)
  | 0 => fun _ _ _ _ _ _ h => h.elim
  | k + 1 => by
    intro fn lo tlo c st Q h
    have ih := wpk_point k
    have hm := wpk_up hE k
    cases c <;> unfold wpk at h <;> try (exact h.elim)
    case skip => exact ⟨_, _, h, by unfold wpk; exact ⟨rfl, rfl⟩⟩
    case exit id => exact ⟨_, _, h, by unfold wpk; exact ⟨rfl, rfl⟩⟩
    case ret => exact ⟨_, _, h, by unfold wpk; exact ⟨rfl, rfl⟩⟩
    case region id ops draw =>
      obtain ⟨s, hs, h2⟩ := wpList_point (callBy_good hE hm ih) h
      exact ⟨_, _, hs, by unfold wpk; exact wpList_mono (callBy_up hE hm) (fun s' hs' => ⟨rfl, hs'⟩) h2⟩
    case seq a b =>
      obtain ⟨e, s, hq, h1⟩ := ih _ _ _ _ _ _ h
      cases e with
      | normal =>
        obtain ⟨e2, s2, hq2, h2⟩ := ih _ _ _ _ _ _ hq
        exact ⟨e2, s2, hq2, by unfold wpk; exact hm _ _ _ _ _ _ _ h1 (by rintro _ _ ⟨rfl, rfl⟩; exact h2)⟩
      | exit id => exact ⟨_, s, hq, by unfold wpk; exact hm _ _ _ _ _ _ _ h1 (by rintro _ _ ⟨rfl, rfl⟩; exact ⟨rfl, rfl⟩)⟩
      | ret => exact ⟨_, s, hq, by unfold wpk; exact hm _ _ _ _ _ _ _ h1 (by rintro _ _ ⟨rfl, rfl⟩; exact ⟨rfl, rfl⟩)⟩
    case loop b =>
      obtain ⟨e, s, hq, h1⟩ := ih _ _ _ _ _ _ h
      cases e with
      | normal =>
        obtain ⟨e2, s2, hq2, h2⟩ := ih _ _ _ _ _ _ hq
        exact ⟨e2, s2, hq2, by unfold wpk; exact hm _ _ _ _ _ _ _ h1 (by rintro _ _ ⟨rfl, rfl⟩; exact h2)⟩
      | exit id => exact ⟨_, s, hq, by unfold wpk; exact hm _ _ _ _ _ _ _ h1 (by rintro _ _ ⟨rfl, rfl⟩; exact ⟨rfl, rfl⟩)⟩
      | ret => exact ⟨_, s, hq, by unfold wpk; exact hm _ _ _ _ _ _ _ h1 (by rintro _ _ ⟨rfl, rfl⟩; exact ⟨rfl, rfl⟩)⟩
    case cond c a b =>
      obtain ⟨t, ht, h⟩ := h
      obtain ⟨e, s, hq, h1⟩ := ih _ _ _ _ _ _ h
      exact ⟨e, s, hq, by unfold wpk; exact ⟨t, ht, h1⟩⟩
    case block id b =>
      obtain ⟨e, s, hq, h1⟩ := ih _ _ _ _ _ _ h
      cases e with
      | exit j =>
        by_cases hj : j = id
        · simp only [blockK, hj, if_true] at hq
          exact ⟨_, s, hq, by unfold wpk; exact hm _ _ _ _ _ _ _ h1 (by rintro _ _ ⟨rfl, rfl⟩; simp [blockK, hj])⟩
        · simp only [blockK, hj, if_false] at hq
          exact ⟨_, s, hq, by unfold wpk; exact hm _ _ _ _ _ _ _ h1 (by rintro _ _ ⟨rfl, rfl⟩; simp [blockK, hj])⟩
      | normal => exact ⟨_, s, hq, by unfold wpk; exact hm _ _ _ _ _ _ _ h1 (by rintro _ _ ⟨rfl, rfl⟩; exact ⟨rfl, rfl⟩)⟩
      | ret => exact ⟨_, s, hq, by unfold wpk; exact hm _ _ _ _ _ _ _ h1 (by rintro _ _ ⟨rfl, rfl⟩; exact ⟨rfl, rfl⟩)⟩
end rounds

/-- The weakest precondition, whatever the rounds. -/
def wpv (E : Env) (fn : FuncId) (lo tlo : Nat) (c : Code) (st : St) (Q : Ex → St → Prop) : Prop := ∃ k, wpk E k fn lo tlo c st Q

section rules
variable {E : Env} (hE : E.Good) {fn : FuncId} {lo tlo : Nat} {st : St} {Q Q' : Ex → St → Prop}
include hE in
theorem wpv_mono {c : Code} (h : wpv E fn lo tlo c st Q) (hQ : ∀ e s, Q e s → Q' e s) : wpv E fn lo tlo c st Q' := let ⟨k, h⟩ := h; ⟨k, wpk_up hE k _ _ _ _ _ _ _ h hQ⟩
include hE in
theorem wpv_point {c : Code} (h : wpv E fn lo tlo c st Q) : ∃ e s, Q e s ∧ wpv E fn lo tlo c st (fun e' s' => e' = e ∧ s' = s) :=
  let ⟨k, h⟩ := h; let ⟨e, s, hq, h'⟩ := wpk_point hE k _ _ _ _ _ _ h; ⟨e, s, hq, k, h'⟩
include hE in
theorem callsV_up : UpC (callsV E) (callsV E) := fun _ _ _ _ _ _ _ _ ⟨k, h⟩ hR => ⟨k, callBy_up hE (wpk_up hE k) _ _ _ _ _ _ _ _ h hR⟩
include hE in
theorem callsV_mono {f : FuncId} {args : List V} {bx : List Box} {tk : List (Nat × Nat)} {R R' : Res} (h : callsV E f args bx tk lo tlo R) (hR : ∀ v b t, R v b t → R' v b t) : callsV E f args bx tk lo tlo R' :=
  callsV_up hE _ _ _ _ _ _ _ _ h hR
include hE in
theorem callsV_good : CallT.Good (callsV E) :=
  ⟨callsV_up hE, fun _ _ _ _ _ _ _ ⟨k, h⟩ => let ⟨v, b, t, hR, h'⟩ := (callBy_good hE (wpk_up hE k) (wpk_point hE k)).point _ _ _ _ _ _ _ h; ⟨v, b, t, hR, k, h'⟩⟩
theorem wpv_skip (h : Q .normal st) : wpv E fn lo tlo .skip st Q := ⟨1, h⟩
theorem wpv_exit {id : Nat} (h : Q (.exit id) st) : wpv E fn lo tlo (.exit id) st Q := ⟨1, h⟩
theorem wpv_ret (h : Q .ret st) : wpv E fn lo tlo .ret st Q := ⟨1, h⟩
theorem wpv_seq (hE : E.Good) {a b : Code} (h : wpv E fn lo tlo a st (thenK (fun s => wpv E fn lo tlo b s Q) Q)) : wpv E fn lo tlo (.seq a b) st Q := by
  obtain ⟨k, h⟩ := h
  obtain ⟨e, s, hq, h1⟩ := wpk_point hE k _ _ _ _ _ _ h
  cases e with
  | normal =>
    obtain ⟨k2, h2⟩ := hq
    refine ⟨max k k2 + 1, ?_⟩
    unfold wpk
    exact wpk_up hE _ _ _ _ _ _ _ _ (wpk_le hE (Nat.le_max_left k k2) h1) (by rintro _ _ ⟨rfl, rfl⟩; exact wpk_le hE (Nat.le_max_right _ _) h2)
  | exit id => exact ⟨k + 1, by unfold wpk; exact wpk_up hE _ _ _ _ _ _ _ _ h1 (by rintro _ _ ⟨rfl, rfl⟩; exact hq)⟩
  | ret => exact ⟨k + 1, by unfold wpk; exact wpk_up hE _ _ _ _ _ _ _ _ h1 (by rintro _ _ ⟨rfl, rfl⟩; exact hq)⟩
theorem wpv_block {id : Nat} {b : Code} (h : wpv E fn lo tlo b st (blockK id Q)) : wpv E fn lo tlo (.block id b) st Q := by
  obtain ⟨k, h⟩ := h
  exact ⟨k + 1, by unfold wpk; exact h⟩
theorem wpv_cond {c : Operand} {a b : Code} {t : Bool} (hc : ev st c = some (.bool t)) (h : wpv E fn lo tlo (if t then a else b) st Q) : wpv E fn lo tlo (.cond c a b) st Q := by
  obtain ⟨k, h⟩ := h
  exact ⟨k + 1, by unfold wpk; exact ⟨t, hc, h⟩⟩
theorem wpList_rounds (hE : E.Good) {rg : Nat} {ds : List Oper} : ∀ {l : List Oper} {st : St} {K : St → Prop}, wpList E (callsV E) fn rg lo tlo ds l st K →
    ∃ k, wpList E (callBy E (wpk E k)) fn rg lo tlo ds l st K
  | [], _, _, h => ⟨0, h⟩
  | o :: l, st, K, h => by
    obtain ⟨s, hs, h1⟩ := wpOne_point (callsV_good hE) h
    obtain ⟨k2, h2⟩ := wpList_rounds hE hs
    have h3 : ∃ k, wpOne E (callBy E (wpk E k)) fn rg lo tlo ds o.dst o.op o.guard st (fun s' => s' = s) := by
      unfold wpOne at h1 ⊢
      cases hw : wantV ds st o.guard with
      | none => simp only [hw] at h1; exact h1.elim
      | some b =>
        cases b with
        | false => simp only [hw, guardK_false] at h1 ⊢; exact ⟨0, h1⟩
        | true =>
          simp only [hw, guardK_true] at h1 ⊢
          cases hv : opV E fn rg lo tlo st o.dst o.op with
          | some p => simp only [hv] at h1 ⊢; exact ⟨0, h1⟩
          | none =>
            simp only [hv, stepK_none] at h1 ⊢
            cases hc : calleeOf st o.op with
            | none => simp only [hc] at h1; exact h1.elim
            | some p =>
              simp only [hc] at h1 ⊢
              obtain ⟨k, hk⟩ := h1
              exact ⟨k, hk⟩
    obtain ⟨k1, h3⟩ := h3
    have up : ∀ {k k' : Nat}, k ≤ k' → UpC (callBy E (wpk E k)) (callBy E (wpk E k')) := fun hk => callBy_up hE (UpW.trans_id (fun _ _ _ _ _ _ h => wpk_le hE hk h) (wpk_up hE _))
    refine ⟨max k1 k2, ?_⟩
    exact wpOne_mono (up (Nat.le_max_left k1 k2)) (by rintro _ rfl; exact wpList_mono (up (Nat.le_max_right k1 k2)) (fun _ h => h) h2) h3
theorem wpv_region (hE : E.Good) {id : Nat} {ops : Array Oper} {draw : Bool} (h : wpList E (callsV E) fn id lo tlo ops.toList ops.toList st (Q .normal)) : wpv E fn lo tlo (.region id ops draw) st Q := by
  obtain ⟨k, h⟩ := wpList_rounds hE h
  exact ⟨k + 1, by unfold wpk; exact h⟩
/-- A loop, by an invariant and a measure. -/
theorem wpv_loop (hE : E.Good) {b : Code} (I : St → Prop) (μ : St → Nat) (h0 : I st)
    (round : ∀ s, I s → wpv E fn lo tlo b s (thenK (fun s' => I s' ∧ μ s' < μ s) Q)) : wpv E fn lo tlo (.loop b) st Q := by
  have key : ∀ n s, μ s = n → I s → wpv E fn lo tlo (.loop b) s Q := by
    intro n
    induction n using Nat.strongRecOn with
    | _ n ih =>
      intro s hn hI
      obtain ⟨k, h⟩ := round s hI
      obtain ⟨e, s', hq, h1⟩ := wpk_point hE k _ _ _ _ _ _ h
      cases e with
      | normal =>
        obtain ⟨k2, h2⟩ := ih (μ s') (hn ▸ hq.2) s' rfl hq.1
        refine ⟨max k k2 + 1, ?_⟩
        unfold wpk
        exact wpk_up hE _ _ _ _ _ _ _ _ (wpk_le hE (Nat.le_max_left k k2) h1) (by rintro _ _ ⟨rfl, rfl⟩; exact wpk_le hE (Nat.le_max_right _ _) h2)
      | exit id => exact ⟨k + 1, by unfold wpk; exact wpk_up hE _ _ _ _ _ _ _ _ h1 (by rintro _ _ ⟨rfl, rfl⟩; exact hq)⟩
      | ret => exact ⟨k + 1, by unfold wpk; exact wpk_up hE _ _ _ _ _ _ _ _ h1 (by rintro _ _ ⟨rfl, rfl⟩; exact hq)⟩
  exact key _ st rfl h0
/-- A call of a function with a body. -/
theorem callsV_intro {f : FuncId} {g : Func} {c : Code} {n : Nat} {rs : List ResultVar} {args : List V} {bx : List Box} {tk : List (Nat × Nat)} {R : Res} {m : Mode} (tm : List V) (hp : E.prim f = none) (hf : E.P.funcs[f]? = some g) (hb : g.body = some c)
    (hn : (g.name == "runtime.NumGoroutine") = false) (ht : g.ntmps = n) (hr : g.results.toList = rs) (hl : args.length ≤ n) (htm : args ++ List.replicate (n - args.length) .undef = tm) (hm : E.mode f = m) (hr2 : regionsOK E f c = true)
    (h : wpv E f (floor m lo bx.length) (floor m tlo tk.length) c ⟨tm, bx, tk⟩ (endOf E f rs bx tk R)) :
    callsV E f args bx tk lo tlo R := by
  obtain ⟨k, h⟩ := h
  subst ht
  subst hr
  subst htm
  subst hm
  refine ⟨k, ?_⟩
  unfold callBy
  simp only [hp, hf, hb]
  exact ⟨hn, hl, hr2, h⟩
theorem callsV_pure {f : FuncId} {g : Func} {c : Code} {n : Nat} {rs : List ResultVar} {args : List V} {bx : List Box} {tk : List (Nat × Nat)} {R : Res} (tm : List V) (hp : E.prim f = none) (hf : E.P.funcs[f]? = some g) (hb : g.body = some c)
    (hn : (g.name == "runtime.NumGoroutine") = false) (ht : g.ntmps = n) (hr : g.results.toList = rs) (hl : args.length ≤ n) (htm : args ++ List.replicate (n - args.length) .undef = tm) (hm : E.mode f = .pure) (hr2 : regionsOK E f c = true)
    (h : wpv E f bx.length tk.length c ⟨tm, bx, tk⟩ (endOf E f rs bx tk R)) :
    callsV E f args bx tk lo tlo R := callsV_intro tm hp hf hb hn ht hr hl htm hm hr2 h
theorem callsV_obj {f : FuncId} {g : Func} {c : Code} {n : Nat} {rs : List ResultVar} {args : List V} {bx : List Box} {tk : List (Nat × Nat)} {R : Res} (tm : List V) (hp : E.prim f = none) (hf : E.P.funcs[f]? = some g) (hb : g.body = some c)
    (hn : (g.name == "runtime.NumGoroutine") = false) (ht : g.ntmps = n) (hr : g.results.toList = rs) (hl : args.length ≤ n) (htm : args ++ List.replicate (n - args.length) .undef = tm) (hm : E.mode f = .obj) (hr2 : regionsOK E f c = true)
    (h : wpv E f lo tlo c ⟨tm, bx, tk⟩ (endOf E f rs bx tk R)) :
    callsV E f args bx tk lo tlo R := callsV_intro tm hp hf hb hn ht hr hl htm hm hr2 h
end rules
end Go.Vi
