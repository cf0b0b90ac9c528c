/- Slots that hold a variable's own cells are those that the environment names. -/
import Derived.Test.YtngeclldoplihaaViMem2
set_option linter.unusedVariables false
set_option linter.unusedSimpArgs false
namespace Go.Vi
def NL (v : V) : Prop := ∀ cs, v ≠ .loc cs
def LocI (E : Env) (fn : FuncId) (st : St) : Prop := ∀ t cs, nth st.tm t = .loc cs → E.loc fn t = true
/-- Later slots hold places only where slots did. -/
def LocSub (st st' : St) : Prop := ∀ t cs, nth st'.tm t = .loc cs → ∃ cs', nth st.tm t = .loc cs'
section loc
variable {P : Program} {E : Env} {fn rg lo tlo : Nat} {st st' : St} {d : Option Nat} {v : V} {C : CallT}
theorem LocSub.same (h : st'.tm = st.tm) : LocSub st st' := fun t cs ht => ⟨cs, by rw [← h]; exact ht⟩
theorem LocI.sub (h : LocI E fn st) (hs : LocSub st st') : LocI E fn st' := fun t cs ht => let ⟨_, h'⟩ := hs t cs ht; h t _ h'
theorem LocI.put (h : LocI E fn st) (hv : ∀ cs, v = .loc cs → ∃ n, d = some n ∧ E.loc fn n = true) : LocI E fn (st.put d v) := by
  intro t cs ht
  cases d with
  | none => exact h t cs ht
  | some d =>
    simp only [St.put] at ht
    by_cases hd : d < st.tm.length
    · rw [nth_upd _ _ _ _ hd] at ht
      split at ht
      · rename_i e
        subst e
        obtain ⟨n, e, h2⟩ := hv cs ht
        injection e with e
        subst e
        exact h2
      · exact h t cs ht
    · rw [upd_ge _ _ _ (by omega)] at ht
      exact h t cs ht
theorem locK_and {L : Nat → Bool} {k k' : Prop} (h : locK L d v k) (hk : (∀ cs, v = .loc cs → ∃ n, d = some n ∧ L n = true) → k → k') : locK L d v k' := by
  unfold locK at *
  split at h
  · rename_i cs
    exact ⟨h.1, hk (fun cs' e => h.1) h.2⟩
  · rename_i hne
    exact hk (fun cs e => (hne cs e).elim) h
theorem newRows_tm {es : Nat} {asRef : Bool} {rows news : List (List V)} (h : newRows st es asRef rows news = some (v, st')) : st'.tm = st.tm := by
  unfold newRows at h
  split at h
  · split at h
    · cases h
    · injection h with h; injection h with h1 h2; subst h2; rfl
  · split at h
    · injection h with h; injection h with h1 h2; subst h2; rfl
    · cases h
theorem appendV_tm {es : Nat} {asRef : Bool} {s : V} {news : List (List V)} (h : appendV st lo tlo es asRef s news = some (v, st')) : st'.tm = st.tm := by
  unfold appendV at h
  split at h
  · exact newRows_tm h
  · split at h
    · exact newRows_tm h
    · cases h
  · obtain ⟨q, _, h⟩ := ob_eq h
    split at h
    · injection h with h; injection h with h1 h2; subst h2; rfl
    · cases h
  · obtain ⟨q, _, h⟩ := ob_eq h
    split at h
    · injection h with h; injection h with h1 h2; subst h2; rfl
    · cases h
  · cases h
theorem store_tm {ad : Ad} {vs : List V} (h : storeAt st lo ad vs = some st') : LocSub st st' := by
  intro t cs ht
  unfold storeAt at h
  split at h
  · obtain ⟨p, _, h⟩ := ob_eq h
    obtain ⟨row, _, h⟩ := ob_eq h
    split at h
    · injection h with h; subst h; exact ⟨cs, ht⟩
    · cases h
  · cases h
  · rename_i u off
    obtain ⟨cs0, h0, h⟩ := ob_eq h
    split at h
    · injection h with h; subst h
      have hu : nth st.tm u = .loc cs0 := by
        unfold locCells at h0
        split at h0
        · rename_i e; injection h0 with h0; subst h0; exact e
        · cases h0
      by_cases hd : u < st.tm.length
      · simp only at ht
        rw [nth_upd _ _ _ _ hd] at ht
        split at ht
        · rename_i e; subst e; exact ⟨cs0, hu⟩
        · exact ⟨cs, ht⟩
      · simp only at ht
        rw [upd_ge _ _ _ (by omega)] at ht
        exact ⟨cs, ht⟩
    · cases h
theorem allocV_sub {b : Bool} {n : Nat} {cs : List V} (h : allocV st b n cs = some (v, st')) : LocSub st st' := by
  unfold allocV at h
  split at h
  · injection h with h; injection h with h1 h2; subst h2
    intro t cs' ht
    simp only at ht
    rw [nth_map] at ht
    exact ⟨_, clearL_loc.1 ht⟩
  · injection h with h; injection h with h1 h2; subst h2
    exact LocSub.same rfl
theorem opV_sub {op : Op} (h : opV E fn rg lo tlo st d op = some (v, st')) : LocSub st st' := by
  have keep : ∀ {u : V}, some (u, st) = some (v, st') → LocSub st st' := by
    intro u h; injection h with h; injection h with h1 h2; subst h2; exact LocSub.same rfl
  have keepM : ∀ {β : Type} {o : Option β} {f : β → V}, om o (fun r => (f r, st)) = some (v, st') → LocSub st st' := by
    intro β o f h; obtain ⟨r, _, h⟩ := om_eq h; injection h with h1 h2; subst h2; exact LocSub.same rfl
  have keepI : ∀ {c : Prop} [Decidable c] {o : Option (V × St)}, (if c then o else none) = some (v, st') → (o = some (v, st') → LocSub st st') → LocSub st st' := by
    intro c _ o h k; split at h; exact k h; cases h
  unfold opV at h
  split at h
  · exact keepM (f := id) h
  · exact keepM (f := id) h
  · obtain ⟨u, _, h⟩ := ob_eq h; exact keepM (f := id) h
  · obtain ⟨cs, _, h⟩ := ob_eq h; obtain ⟨n, _, h⟩ := ob_eq h; exact allocV_sub h
  · obtain ⟨n, _, h⟩ := ob_eq h
    obtain ⟨ag, _, h⟩ := ob_eq h
    obtain ⟨u, _, h⟩ := ob_eq h
    obtain ⟨cs, _, h⟩ := ob_eq h
    obtain ⟨n, _, h⟩ := ob_eq h; exact allocV_sub h
  · obtain ⟨n, _, h⟩ := ob_eq h
    obtain ⟨ag, _, h⟩ := ob_eq h
    obtain ⟨ad, h1, h⟩ := ob_eq h
    obtain ⟨cs, h2, h⟩ := ob_eq h
    exact keepM (f := id) h
  · obtain ⟨n, _, h⟩ := ob_eq h
    obtain ⟨ag, _, h⟩ := ob_eq h
    obtain ⟨ad, h1, h⟩ := ob_eq h
    obtain ⟨u, _, h⟩ := ob_eq h
    obtain ⟨cs, _, h⟩ := ob_eq h
    obtain ⟨s, h2, h3⟩ := om_eq h
    injection h3 with h3 h4; subst h4
    exact store_tm h2
  · rename_i x
    cases x <;> simp only [opNil] at h <;> try (cases h; done)
    exact keepM (f := id) h
  · obtain ⟨u, _, h⟩ := ob_eq h
    obtain ⟨u', _, h⟩ := ob_eq h
    exact keepM (f := id) h
  · obtain ⟨u, _, h⟩ := ob_eq h
    exact keepM (f := id) h
  · obtain ⟨u, _, h⟩ := ob_eq h
    obtain ⟨u', _, h⟩ := ob_eq h
    split at h
    · exact keepM h
    · cases h
  · obtain ⟨z, _, h⟩ := ob_eq h
    obtain ⟨ps, _, h⟩ := ob_eq h
    split at h
    · exact keepM (f := V.agg) h
    · obtain ⟨q, _, h⟩ := ob_eq h
      obtain ⟨m, _, h⟩ := ob_eq h
      obtain ⟨ag, _, h⟩ := ob_eq h
      exact keepM (f := V.agg) h
  · obtain ⟨e, _, h⟩ := ob_eq h
    obtain ⟨es, _, h⟩ := ob_eq h
    obtain ⟨ag, _, h⟩ := ob_eq h
    obtain ⟨z, _, h⟩ := ob_eq h
    obtain ⟨ps, _, h⟩ := ob_eq h
    refine keepI h fun h => ?_
    obtain ⟨cs, _, h⟩ := ob_eq h
    split at h
    · injection h with h; injection h with h1 h2; subst h2
      exact LocSub.same rfl
    · exact keepI h keep
  · obtain ⟨u, _, h⟩ := ob_eq h
    exact keepM (f := fun b => V.func _ u b) h
  · obtain ⟨u, _, h⟩ := ob_eq h
    exact keepI h keep
  · obtain ⟨u, h1, h⟩ := ob_eq h
    split at h
    · exact keepM (f := id) h
    · cases h
  · obtain ⟨ad, _, h⟩ := ob_eq h
    obtain ⟨p, _, h⟩ := ob_eq h
    split at h
    · cases h
    · exact keep h
  · obtain ⟨u, h1, h⟩ := ob_eq h
    split at h
    · obtain ⟨p, _, h⟩ := ob_eq h
      obtain ⟨vs, h2, h⟩ := ob_eq h
      exact keepM (f := id) h
    · cases h
  · obtain ⟨u, _, h⟩ := ob_eq h
    obtain ⟨j, _, h⟩ := ob_eq h
    split at h
    · obtain ⟨n, _, h⟩ := ob_eq h
      obtain ⟨x, _, h⟩ := ob_eq h
      unfold elemAddr at h
      split at h
      · obtain ⟨row, _, h⟩ := ob_eq h
        exact keepI h keep
      · obtain ⟨row, _, h⟩ := ob_eq h
        exact keepI h keep
      · cases h
    · obtain ⟨q, _, h⟩ := ob_eq h
      obtain ⟨m, _, h⟩ := ob_eq h
      obtain ⟨ad, _, h⟩ := ob_eq h
      exact keepI h keep
  · obtain ⟨u, _, h⟩ := ob_eq h
    obtain ⟨j, _, h⟩ := ob_eq h
    obtain ⟨x, h1, h⟩ := ob_eq h
    split at h
    · exact keepI h fun h => keepM (f := id) h
    · obtain ⟨q, _, h⟩ := ob_eq h
      obtain ⟨m, _, h⟩ := ob_eq h
      obtain ⟨ag, _, h⟩ := ob_eq h
      refine keepI h fun h => ?_
      obtain ⟨vs, h2, h⟩ := ob_eq h
      exact keepM (f := id) h
    · cases h
  · obtain ⟨e, _, h⟩ := ob_eq h
    obtain ⟨u, _, h⟩ := ob_eq h
    obtain ⟨n, _, h⟩ := ob_eq h
    obtain ⟨l, _, h⟩ := ob_eq h
    obtain ⟨hh, _, h⟩ := ob_eq h
    exact keepI h fun h => keepM (f := id) h
  · unfold opLen at h
    split at h
    · obtain ⟨vs, _, h⟩ := ob_eq h
      split at h
      · exact keepI h fun h => keepM (f := fun n : Nat => V.int .i64 n) h
      · cases h
    · cases h
  · obtain ⟨vs, _, h⟩ := ob_eq h
    exact keepM (f := id) h
  · obtain ⟨vs, _, h⟩ := ob_eq h
    exact keepM (f := id) h
  · unfold opAppend at h
    split at h
    · obtain ⟨e, _, h⟩ := ob_eq h
      obtain ⟨q, _, h⟩ := ob_eq h
      obtain ⟨vs, _, h⟩ := ob_eq h
      split at h
      · obtain ⟨news, _, h⟩ := ob_eq h
        obtain ⟨olds, _, h⟩ := ob_eq h
        exact keepI h fun h => LocSub.same (appendV_tm h)
      · cases h
    · cases h
  · cases h
/-- One operation, a list, a piece of code keep it. -/
theorem wpOne_loc (hC : UpC C C) {ds : List Oper} {op : Op} {gd : Option (Nat × Bool)} {K : St → Prop} (hl : LocI E fn st) (h : wpOne E C fn rg lo tlo ds d op gd st K) : wpOne E C fn rg lo tlo ds d op gd st (fun s => K s ∧ LocI E fn s) := by
  unfold wpOne at h ⊢
  cases hw : wantV ds st gd with
  | none => rw [hw] at h; exact h
  | some b =>
    rw [hw] at h
    refine ⟨fun hb => ?_, fun hb => ⟨h.2 hb, hl.put (fun cs e => by cases e)⟩⟩
    have h1 := h.1 hb
    cases hop : opV E fn rg lo tlo st d op with
    | some q =>
      rw [hop] at h1
      exact locK_and h1 fun hv k => ⟨k, (hl.sub (opV_sub hop)).put hv⟩
    | none =>
      rw [hop] at h1
      refine callK_mono (fun f args h => hC _ _ _ _ _ _ _ _ h fun v bx tk h => locK_and h fun hv k => ⟨k, ?_⟩) h1
      exact LocI.put (st := { st with bx := bx, tk := tk }) (hl.sub (LocSub.same rfl)) hv
theorem wpList_loc (hC : UpC C C) {ds : List Oper} : ∀ {l : List Oper} {st : St} {K : St → Prop}, LocI E fn st → wpList E C fn rg lo tlo ds l st K → wpList E C fn rg lo tlo ds l st (fun s => K s ∧ LocI E fn s)
  | [], _, _, hl, h => ⟨h, hl⟩
  | _ :: _, _, _, hl, h => wpOne_mono hC (fun _ hs => wpList_loc hC hs.2 hs.1) (wpOne_loc hC hl h)
theorem wpk_loc (hE : E.Good) : ∀ (k : Nat) (fn lo tlo : Nat) (c : Code) (st : St) (Q : Ex → St → Prop), LocI E fn st → wpk E k fn lo tlo c st Q → wpk E k fn lo tlo c st (fun e s => Q e s ∧ LocI E fn s)
  | 0 => fun _ _ _ _ _ _ _ h => h
  | k + 1 => by
    intro fn lo tlo c st Q hl h
    have ih := wpk_loc hE k
    cases c <;> unfold wpk at h ⊢ <;> try (exact h)
    case skip => exact ⟨h, hl⟩
    case exit id => exact ⟨h, hl⟩
    case ret => exact ⟨h, hl⟩
    case region id ops draw => exact wpList_loc (callBy_up hE (wpk_up hE k)) hl h
    case seq a b =>
      refine wpk_up hE k _ _ _ _ _ _ _ (ih _ _ _ _ _ _ hl h) fun e s hq => ?_
      cases e with
      | normal => exact ih _ _ _ _ _ _ hq.2 hq.1
      | exit id => exact hq
      | ret => exact hq
    case cond c a b => obtain ⟨t, ht, h⟩ := h; exact ⟨t, ht, ih _ _ _ _ _ _ hl h⟩
    case block id b =>
      refine wpk_up hE k _ _ _ _ _ _ _ (ih _ _ _ _ _ _ hl h) fun e s hq => ?_
      cases e with
      | normal => exact hq
      | ret => exact hq
      | exit j =>
        obtain ⟨h1, h2⟩ := hq
        simp only [blockK] at h1 ⊢
        split
        · rename_i e; rw [if_pos e] at h1; exact ⟨h1, h2⟩
        · rename_i e; rw [if_neg e] at h1; exact ⟨h1, h2⟩
    case loop b =>
      refine wpk_up hE k _ _ _ _ _ _ _ (ih _ _ _ _ _ _ hl h) fun e s hq => ?_
      cases e with
      | normal => exact ih _ _ _ _ _ _ hq.2 hq.1
      | exit id => exact hq
      | ret => exact hq
end loc
end Go.Vi
