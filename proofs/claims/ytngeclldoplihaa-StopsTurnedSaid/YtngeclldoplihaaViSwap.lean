/- Operations that may be done in either order. -/
import Derived.Test.YtngeclldoplihaaViLoc
set_option linter.unusedVariables false
set_option linter.unusedSimpArgs false
namespace Go.Vi
/-- Two states agree on what an operand looks at. -/
def Sees (st st2 : St) (x : Operand) : Prop := ∀ t, x = .tmp t → nth st2.tm t = nth st.tm t
def SeesOp (op : Op) (st st2 : St) : Prop := ∀ x ∈ op.operands.toList, Sees st st2 x
def LocAgree (st st2 : St) : Prop := ∀ t cs, nth st.tm t = .loc cs → nth st2.tm t = .loc cs
def ExtB (bx bx2 : List Box) : Prop := ∀ (r : Nat) (b : Box), bx[r]? = some b → bx2[r]? = some b
def Agree : Cls → St → St → Prop
  | .P, _, _ => True
  | .R, st, st2 => LocAgree st st2 ∧ ExtB st.bx st2.bx
  | _, st, st2 => st2.bx = st.bx ∧ st2.tk = st.tk
def Effect : Cls → St → List Box → List (Nat × Nat) → Prop
  | .P, st, bx, tk => bx = st.bx ∧ tk = st.tk
  | .R, st, bx, tk => bx = st.bx ∧ tk = st.tk
  | .C, st, bx, tk => bx = st.bx ∧ tk = st.tk
  | .A, st, bx, tk => ExtB st.bx bx
  | .T, st, bx, tk => bx = st.bx
  | _, _, _, _ => True
def resSt : Cls → St → List Box → List (Nat × Nat) → St
  | .P, st, _, _ => st
  | .R, st, _, _ => st
  | _, st, bx, tk => { st with bx := bx, tk := tk }
section swap
variable {P : Program} {E : Env} {C : CallT} {fn rg lo tlo : Nat} {d : Option Nat} {st st1 st2 st' : St} {v : V} {op : Op}
theorem ev_sees {x : Operand} (h : Sees st st2 x) : ev st2 x = ev st x := by
  cases x with
  | tmp t => simp only [ev, St.get]; rw [h t rfl]
  | _ => rfl
theorem adr_sees {x : Operand} (h : Sees st st2 x) : adr st2 x = adr st x := by
  cases x with
  | tmp t => simp only [adr, St.get]; rw [h t rfl]
  | _ => rfl
theorem evs_sees {xs : List Operand} (h : ∀ x ∈ xs, Sees st st2 x) : evs st2 xs = evs st xs := by
  induction xs with
  | nil => rfl
  | cons x xs ih => simp only [evs]; rw [ev_sees (h x List.mem_cons_self), ih fun y hy => h y (List.mem_cons_of_mem x hy)]
theorem evParts_sees {ps : List (Nat × Operand)} (h : ∀ p ∈ ps, Sees st st2 p.2) : evParts st2 ps = evParts st ps := by
  induction ps with
  | nil => rfl
  | cons p ps ih =>
    obtain ⟨i, x⟩ := p
    simp only [evParts]
    rw [ev_sees (h (i, x) List.mem_cons_self), ih fun y hy => h y (List.mem_cons_of_mem _ hy)]
theorem opNil_sees {x : Operand} (h : Sees st st2 x) (k : opNil st x = some (v, st')) : st' = st ∧ opNil st2 x = some (v, st2) := by
  cases x with
  | tmp t =>
    obtain ⟨u, h1, h2⟩ := om_eq k
    injection h2 with h2 h3; subst h2; subst h3
    refine ⟨rfl, ?_⟩
    simp only [opNil, St.get] at h1 ⊢
    rw [h t rfl, h1]; rfl
  | _ => cases k
theorem opV_P (hc : clsOp E fn rg op = .P) (hs : SeesOp op st st2) (h : opV E fn rg lo tlo st d op = some (v, st')) : st' = st ∧ opV E fn rg lo tlo st2 d op = some (v, st2) := by
  unfold opV at h
  split at h
  · rename_i x
    have e1 := ev_sees (hs x (by simp [Op.operands]))
    obtain ⟨u, h1, h2⟩ := om_eq h; injection h2 with h2 h3; subst h2; subst h3
    exact ⟨rfl, by simp only [opV, opMove, e1, h1, om_some]⟩
  · rename_i x
    have e1 := ev_sees (hs x (by simp [Op.operands]))
    obtain ⟨u, h1, h2⟩ := om_eq h; injection h2 with h2 h3; subst h2; subst h3
    exact ⟨rfl, by simp only [opV, opMove, e1, h1, om_some]⟩
  · rename_i c a b
    have e1 := ev_sees (hs c (by simp [Op.operands]))
    have e2 := ev_sees (hs a (by simp [Op.operands]))
    have e3 := ev_sees (hs b (by simp [Op.operands]))
    obtain ⟨u, h1, h⟩ := ob_eq h
    obtain ⟨r, h2, h3⟩ := om_eq h; injection h3 with h3 h4; subst h3; subst h4
    exact ⟨rfl, by simp only [opV, opPick, e1, e2, e3, h1, h2, ob_some, om_some]⟩
  · simp [clsOp] at hc
  · simp [clsOp] at hc
  · simp [clsOp] at hc
  · simp [clsOp] at hc
  · exact opNil_sees (hs _ (by simp [Op.operands])) h
  · rename_i o t x y t'
    have e1 := ev_sees (hs x (by simp [Op.operands]))
    have e2 := ev_sees (hs y (by simp [Op.operands]))
    obtain ⟨u, h1, h⟩ := ob_eq h
    obtain ⟨u', h2, h⟩ := ob_eq h
    obtain ⟨r, h3, h4⟩ := om_eq h; injection h4 with h4 h5; subst h4; subst h5
    exact ⟨rfl, by simp only [opV, opBin, e1, e2, h1, h2, h3, ob_some, om_some]⟩
  · rename_i o t x
    have e1 := ev_sees (hs x (by simp [Op.operands]))
    obtain ⟨u, h1, h⟩ := ob_eq h
    obtain ⟨r, h3, h4⟩ := om_eq h; injection h4 with h4 h5; subst h4; subst h5
    exact ⟨rfl, by simp only [opV, opUn, e1, h1, h3, ob_some, om_some]⟩
  · rename_i s t x
    have e1 := ev_sees (hs x (by simp [Op.operands]))
    obtain ⟨k0, h0, h⟩ := ob_eq h
    obtain ⟨u, h1, h⟩ := ob_eq h
    split at h
    · obtain ⟨r, h3, h4⟩ := om_eq h; injection h4 with h4 h5; subst h4; subst h5
      exact ⟨rfl, by simp only [opV, opConv, e1, h0, h1, h3, ob_some, om_some]⟩
    · cases h
  · rename_i t ps
    have e1 : evParts st2 ps.toList = evParts st ps.toList := evParts_sees fun p hp => hs p.2 (by simp [Op.operands]; exact ⟨p.1, by simpa using hp⟩)
    obtain ⟨z, h0, h⟩ := ob_eq h
    obtain ⟨us, h1, h⟩ := ob_eq h
    split at h
    · rename_i hb
      obtain ⟨r, h3, h4⟩ := om_eq h; injection h4 with h4 h5; subst h4; subst h5
      exact ⟨rfl, by simp only [opV, opBuild, e1, h0, h1, h3, ob_some, om_some, hb, if_true]⟩
    · rename_i hb
      obtain ⟨q, h3, h⟩ := ob_eq h
      obtain ⟨m, h4, h⟩ := ob_eq h
      obtain ⟨ag, h5, h⟩ := ob_eq h
      obtain ⟨r, h6, h7⟩ := om_eq h; injection h7 with h7 h8; subst h7; subst h8
      exact ⟨rfl, by simp only [opV, opBuild, e1, h0, h1, h3, h4, h5, h6, ob_some, om_some, if_neg hb]⟩
  · rename_i t len ps
    have e1 : evParts st2 ps.toList = evParts st ps.toList := evParts_sees fun p hp => hs p.2 (by simp [Op.operands]; exact ⟨p.1, by simpa using hp⟩)
    have hbl : E.boxLit fn rg = false := by
      cases hb : E.boxLit fn rg with
      | false => rfl
      | true => simp [clsOp, hb] at hc
    rw [hbl] at h
    obtain ⟨e, h1, h⟩ := ob_eq h
    obtain ⟨es, h2, h⟩ := ob_eq h
    obtain ⟨ag, h3, h⟩ := ob_eq h
    obtain ⟨z, h4, h⟩ := ob_eq h
    obtain ⟨us, h5, h⟩ := ob_eq h
    split at h
    · rename_i hcc
      obtain ⟨cs, h6, h⟩ := ob_eq h
      simp only [Bool.false_eq_true, if_false] at h
      split at h
      · rename_i hp
        injection h with h; injection h with h7 h8; subst h7; subst h8
        exact ⟨rfl, by simp only [opV, hbl, opLit, e1, h1, h2, h3, h4, h5, ob_some, if_pos hcc, h6, Bool.false_eq_true, if_false, hp, if_true]⟩
      · cases h
    · cases h
  · rename_i f a b
    have e1 : evs st2 a.toList = evs st a.toList := evs_sees fun x hx => hs x (by simp [Op.operands]; exact .inl (by simpa using hx))
    have e2 : evs st2 b.toList = evs st b.toList := evs_sees fun x hx => hs x (by simp [Op.operands]; exact .inr (by simpa using hx))
    obtain ⟨u, h1, h⟩ := ob_eq h
    obtain ⟨r, h3, h4⟩ := om_eq h; injection h4 with h4 h5; subst h4; subst h5
    exact ⟨rfl, by simp only [opV, opFunc, e1, e2, h1, h3, ob_some, om_some]⟩
  · rename_i t x
    have e1 := ev_sees (hs x (by simp [Op.operands]))
    obtain ⟨u, h1, h⟩ := ob_eq h
    split at h
    · rename_i hcc
      injection h with h; injection h with h7 h8; subst h7; subst h8
      exact ⟨rfl, by simp only [opV, opIface, e1, h1, ob_some, if_pos hcc]⟩
    · cases h
  · rename_i x i
    have e1 := ev_sees (hs x (by simp [Op.operands]))
    obtain ⟨u, h1, h⟩ := ob_eq h
    split at h
    · obtain ⟨r, h3, h4⟩ := om_eq h; injection h4 with h4 h5; subst h4; subst h5
      exact ⟨rfl, by simp only [opV, opExtract, e1, h1, h3, ob_some, om_some]⟩
    · cases h
  · rename_i s x f
    have e1 := adr_sees (hs x (by simp [Op.operands]))
    obtain ⟨ad, h1, h⟩ := ob_eq h
    obtain ⟨p, h2, h⟩ := ob_eq h
    split at h
    · cases h
    · rename_i hcc
      injection h with h; injection h with h7 h8; subst h7; subst h8
      exact ⟨rfl, by simp only [opV, opFieldAddr, e1, h1, h2, ob_some, if_neg hcc]⟩
  · rename_i s x f
    have e1 := ev_sees (hs x (by simp [Op.operands]))
    obtain ⟨u, h1, h⟩ := ob_eq h
    split at h
    · obtain ⟨p, h2, h⟩ := ob_eq h
      obtain ⟨vs, h3, h⟩ := ob_eq h
      obtain ⟨r, h4, h5⟩ := om_eq h; injection h5 with h5 h6; subst h5; subst h6
      exact ⟨rfl, by simp only [opV, opField, e1, h1, h2, h3, h4, ob_some, om_some]⟩
    · cases h
  · simp [clsOp] at hc
  · rename_i t x i
    have e1 := ev_sees (hs x (by simp [Op.operands]))
    have e2 := ev_sees (hs i (by simp [Op.operands]))
    obtain ⟨u, h1, h⟩ := ob_eq h
    obtain ⟨j, h2, h⟩ := ob_eq h
    obtain ⟨y, h3, h⟩ := ob_eq h
    split at h
    · split at h
      · rename_i hcc
        obtain ⟨r, h4, h5⟩ := om_eq h; injection h5 with h5 h6; subst h5; subst h6
        exact ⟨rfl, by simp only [opV, opIndex, e1, e2, h1, h2, h3, h4, ob_some, om_some, if_pos hcc]⟩
      · cases h
    · obtain ⟨q, h4, h⟩ := ob_eq h
      obtain ⟨m, h5, h⟩ := ob_eq h
      obtain ⟨ag, h6, h⟩ := ob_eq h
      split at h
      · rename_i hcc
        obtain ⟨vs, h7, h⟩ := ob_eq h
        obtain ⟨r, h8, h9⟩ := om_eq h; injection h9 with h9 h10; subst h9; subst h10
        exact ⟨rfl, by simp only [opV, opIndex, e1, e2, h1, h2, h3, h4, h5, h6, h7, h8, ob_some, om_some, if_pos hcc]⟩
      · cases h
    · cases h
  · simp [clsOp] at hc
  · rename_i xs ts
    have e1 : evs st2 xs.toList = evs st xs.toList := evs_sees fun x hx => hs x (by simp [Op.operands, Call.operands]; simpa using hx)
    unfold opLen at h
    split at h
    · rename_i hts
      obtain ⟨vs, h1, h⟩ := ob_eq h
      split at h
      · split at h
        · rename_i hcc
          obtain ⟨n, h2, h3⟩ := om_eq h; injection h3 with h3 h4; subst h3; subst h4
          exact ⟨rfl, by simp only [opV, opLen, hts, e1, h1, h2, ob_some, om_some, if_pos hcc]⟩
        · cases h
      · cases h
    · cases h
  · rename_i xs ts
    have e1 : evs st2 xs.toList = evs st xs.toList := evs_sees fun x hx => hs x (by simp [Op.operands, Call.operands]; simpa using hx)
    obtain ⟨u, h1, h⟩ := ob_eq h
    obtain ⟨r, h3, h4⟩ := om_eq h; injection h4 with h4 h5; subst h4; subst h5
    exact ⟨rfl, by simp only [opV, opMax, e1, h1, h3, ob_some, om_some]⟩
  · rename_i xs ts
    have e1 : evs st2 xs.toList = evs st xs.toList := evs_sees fun x hx => hs x (by simp [Op.operands, Call.operands]; simpa using hx)
    obtain ⟨u, h1, h⟩ := ob_eq h
    obtain ⟨r, h3, h4⟩ := om_eq h; injection h4 with h4 h5; subst h4; subst h5
    exact ⟨rfl, by simp only [opV, opMin, e1, h1, h3, ob_some, om_some]⟩
  · simp only [clsOp] at hc
    split at hc <;> cases hc
  · cases h
theorem rowsIn_ext (h : ExtB st.bx st2.bx) {r : Nat} {rs : List (List V)} (k : rowsIn st.bx[r]? = some rs) : rowsIn st2.bx[r]? = some rs := by
  cases hb : st.bx[r]? with
  | none => rw [hb] at k; cases k
  | some b => rw [hb] at k; rw [h r b hb]; exact k
theorem boxIn_ext (h : ExtB st.bx st2.bx) {r : Nat} {p : Nat × List (List V)} (k : boxIn st.bx[r]? = some p) : boxIn st2.bx[r]? = some p := by
  cases hb : st.bx[r]? with
  | none => rw [hb] at k; cases k
  | some b => rw [hb] at k; rw [h r b hb]; exact k
theorem cellsAt_ext (hl : LocAgree st st2) (h : ExtB st.bx st2.bx) {ad : Ad} {n : Nat} {cs : List V} (k : cellsAt st ad n = some cs) : cellsAt st2 ad n = some cs := by
  cases ad with
  | box r i off =>
    simp only [cellsAt, rowAt] at k ⊢
    obtain ⟨row, h1, h2⟩ := ob_eq k
    obtain ⟨rs, h3, h4⟩ := ob_eq h1
    rw [rowsIn_ext h h3]
    simp only [ob_some, h4, h2]
  | imm cs => exact k
  | loc t off =>
    simp only [cellsAt] at k ⊢
    obtain ⟨us, h1, h2⟩ := ob_eq k
    have : st2.get t = .loc us := by
      unfold locCells at h1
      split at h1
      · rename_i e; injection h1 with h1; subst h1; exact hl t _ e
      · cases h1
    rw [this]
    exact h2
theorem bound_sees {n : Nat} {x : Option Operand} (h : ∀ y, x = some y → Sees st st2 y) : bound st2 n x = bound st n x := by
  cases x with
  | none => rfl
  | some y => simp only [bound]; rw [ev_sees (h y rfl)]
theorem sliceV_ext (h : ExtB st.bx st2.bx) {n l hh : Nat} {u : V} {b : Bool} (k : sliceV st n u l hh b = some v) : sliceV st2 n u l hh b = some v := by
  unfold sliceV at k ⊢
  split at k <;> try (exact k)
  obtain ⟨p, h1, h2⟩ := ob_eq k
  rw [boxIn_ext h h1]
  exact h2
theorem cls_R (h : clsOp E fn rg op = .R) : (∃ t x i, op = .indexAddr t x i) ∨ (∃ t x, op = .load t x) ∨ (∃ t x l hh, op = .slice t x l hh none) := by
  unfold clsOp at h
  split at h
  all_goals first
    | (cases h; done)
    | exact .inl ⟨_, _, _, rfl⟩
    | exact .inr (.inl ⟨_, _, rfl⟩)
    | exact .inr (.inr ⟨_, _, _, _, rfl⟩)
    | (split at h <;> cases h)
theorem cls_A (h : clsOp E fn rg op = .A) : (∃ t, op = .alloc t) ∨ (∃ t x, op = .box t x) ∨ (∃ t n ps, op = .buildSlice t n ps ∧ E.boxLit fn rg = true) := by
  unfold clsOp at h
  split at h
  all_goals first
    | (cases h; done)
    | exact .inl ⟨_, rfl⟩
    | exact .inr (.inl ⟨_, _, rfl⟩)
    | (split at h <;> first | (cases h; done) | (rename_i hb; exact .inr (.inr ⟨_, _, _, rfl, hb⟩)))
theorem cls_T (h : clsOp E fn rg op = .T) : ∃ xs ts, op = .call ⟨.builtin .append, xs, ts⟩ ∧ E.refApp fn rg = false := by
  unfold clsOp at h
  split at h
  all_goals first
    | (cases h; done)
    | (split at h <;> first | (cases h; done) | (rename_i hb; exact ⟨_, _, rfl, by simpa using hb⟩))
theorem cls_call' (h : clsOp E fn rg op = .C ∨ clsOp E fn rg op = .W) : ∃ f xs ts, op = .call ⟨.value f, xs, ts⟩ := by
  unfold clsOp at h
  split at h
  all_goals first
    | (rcases h with h | h <;> cases h; done)
    | exact ⟨_, _, _, rfl⟩
    | (split at h <;> rcases h with h | h <;> cases h)
theorem opV_R (hc : clsOp E fn rg op = .R) (hs : SeesOp op st st2) (hl : LocAgree st st2) (hb : ExtB st.bx st2.bx) (h : opV E fn rg lo tlo st d op = some (v, st')) : st' = st ∧ opV E fn rg lo tlo st2 d op = some (v, st2) := by
  rcases cls_R hc with ⟨t, x, i, rfl⟩ | ⟨t, x, rfl⟩ | ⟨t, x, l, hh, rfl⟩
  · have e1 := ev_sees (hs x (by simp [Op.operands]))
    have e3 := adr_sees (hs x (by simp [Op.operands]))
    have e2 := ev_sees (hs i (by simp [Op.operands]))
    obtain ⟨u, h1, h⟩ := ob_eq h
    obtain ⟨j, h2, h⟩ := ob_eq h
    split at h
    · rename_i ee he
      obtain ⟨n, h3, h⟩ := ob_eq h
      obtain ⟨x', h4, h⟩ := ob_eq h
      unfold elemAddr at h
      split at h
      · obtain ⟨row, h5, h⟩ := ob_eq h
        split at h
        · rename_i hcc
          injection h with h; injection h with h6 h7; subst h6; subst h7
          exact ⟨rfl, by simp only [opV, opIndexAddr, e1, e2, h1, h2, he, h3, h4, elemAddr, h5, ob_some, if_pos hcc]⟩
        · cases h
      · obtain ⟨row, h5, h⟩ := ob_eq h
        split at h
        · rename_i hcc
          injection h with h; injection h with h6 h7; subst h6; subst h7
          exact ⟨rfl, by simp only [opV, opIndexAddr, e1, e2, h1, h2, he, h3, h4, elemAddr, boxIn_ext hb h5, ob_some, if_pos hcc]⟩
        · cases h
      · cases h
    · rename_i he
      obtain ⟨q, h3, h⟩ := ob_eq h
      obtain ⟨m, h4, h⟩ := ob_eq h
      obtain ⟨ad, h5, h⟩ := ob_eq h
      split at h
      · rename_i hcc
        injection h with h; injection h with h6 h7; subst h6; subst h7
        exact ⟨rfl, by simp only [opV, opIndexAddr, e3, e2, h1, h2, he, h3, h4, h5, ob_some, if_pos hcc]⟩
      · cases h
  · have e1 := adr_sees (hs x (by simp [Op.operands]))
    obtain ⟨n, h1, h⟩ := ob_eq h
    obtain ⟨ag, h2, h⟩ := ob_eq h
    obtain ⟨ad, h3, h⟩ := ob_eq h
    obtain ⟨cs, h4, h⟩ := ob_eq h
    obtain ⟨u, h5, h6⟩ := om_eq h
    injection h6 with h6 h7; subst h6; subst h7
    exact ⟨rfl, by simp only [opV, opLoad, e1, h1, h2, h3, cellsAt_ext hl hb h4, h5, ob_some, om_some]⟩
  · · have e1 := ev_sees (hs x (by simp [Op.operands]))
      have e2 : ∀ n, bound st2 n l = bound st n l := fun n => bound_sees fun y hy => hs y (by subst hy; simp [Op.operands])
      have e3 : ∀ n, bound st2 n hh = bound st n hh := fun n => bound_sees fun y hy => hs y (by subst hy; simp [Op.operands])
      obtain ⟨e, h1, h⟩ := ob_eq h
      obtain ⟨u, h2, h⟩ := ob_eq h
      obtain ⟨n, h3, h⟩ := ob_eq h
      obtain ⟨a, h4, h⟩ := ob_eq h
      obtain ⟨b, h5, h⟩ := ob_eq h
      split at h
      · rename_i hcc
        obtain ⟨r, h6, h7⟩ := om_eq h
        injection h7 with h7 h8; subst h7; subst h8
        exact ⟨rfl, by simp only [opV, opSlice, e1, e2, e3, h1, h2, h3, h4, h5, ob_some, if_pos hcc, sliceV_ext hb h6, om_some]⟩
      · cases h
theorem opV_A (hc : clsOp E fn rg op = .A) (hd : ∀ n, d = some n → E.loc fn n = false) (hs : SeesOp op st st2) (hb : st2.bx = st.bx) (h : opV E fn rg lo tlo st d op = some (v, st')) :
    ∃ b, st' = { st with bx := st.bx ++ [b] } ∧ opV E fn rg lo tlo st2 d op = some (v, { st2 with bx := st.bx ++ [b] }) := by
  have al : ∀ {n : Nat} {cs : List V}, d = some n → allocV st (E.loc fn n) n cs = some (v, st') → ∃ b, st' = { st with bx := st.bx ++ [b] } ∧ allocV st2 (E.loc fn n) n cs = some (v, { st2 with bx := st.bx ++ [b] }) := by
    intro n cs hn h
    simp only [allocV, hd n hn, Bool.false_eq_true, if_false] at h ⊢
    injection h with h; injection h with h1 h2; subst h1; subst h2
    exact ⟨_, rfl, by rw [hb]⟩
  rcases cls_A hc with ⟨t, rfl⟩ | ⟨t, x, rfl⟩ | ⟨t, len, ps, rfl, hbl⟩
  · obtain ⟨cs, h1, h⟩ := ob_eq h
    obtain ⟨n, h2, h⟩ := ob_eq h
    obtain ⟨b, q1, q2⟩ := al h2 h
    exact ⟨b, q1, by simp only [opV, opAlloc, h1, h2, ob_some, q2]⟩
  · have e1 := ev_sees (hs x (by simp [Op.operands]))
    obtain ⟨n, h1, h⟩ := ob_eq h
    obtain ⟨ag, h2, h⟩ := ob_eq h
    obtain ⟨u, h3, h⟩ := ob_eq h
    obtain ⟨cs, h4, h⟩ := ob_eq h
    obtain ⟨n, h5, h⟩ := ob_eq h
    obtain ⟨b, q1, q2⟩ := al h5 h
    exact ⟨b, q1, by simp only [opV, opBox, e1, h1, h2, h3, h4, h5, ob_some, q2]⟩
  · have e1 : evParts st2 ps.toList = evParts st ps.toList := evParts_sees fun p hp => hs p.2 (by simp [Op.operands]; exact ⟨p.1, by simpa using hp⟩)
    simp only [opV, hbl] at h
    obtain ⟨e, h1, h⟩ := ob_eq h
    obtain ⟨es, h2, h⟩ := ob_eq h
    obtain ⟨ag, h3, h⟩ := ob_eq h
    obtain ⟨z, h4, h⟩ := ob_eq h
    obtain ⟨us, h5, h⟩ := ob_eq h
    split at h
    · rename_i hcc
      obtain ⟨cs, h6, h⟩ := ob_eq h
      simp only [if_true] at h
      injection h with h; injection h with h7 h8; subst h7; subst h8
      exact ⟨_, rfl, by simp only [opV, hbl, opLit, e1, h1, h2, h3, h4, h5, ob_some, if_pos hcc, h6, if_true, hb]⟩
    · cases h
theorem rowsOf_same (hb : st2.bx = st.bx) (u : V) : rowsOf st2 u = rowsOf st u := by unfold rowsOf; rw [hb]
theorem newRows_T (hb : st2.bx = st.bx) (ht : st2.tk = st.tk) {es : Nat} {rows news : List (List V)} (h : newRows st es false rows news = some (v, st')) : ∃ tk, st' = { st with tk := tk } ∧ newRows st2 es false rows news = some (v, { st2 with tk := tk }) := by
  unfold newRows at h ⊢
  simp only [Bool.false_eq_true, if_false] at h ⊢
  split at h
  · rename_i hp
    injection h with h; injection h with h1 h2; subst h1; subst h2
    exact ⟨_, rfl, by rw [ht, if_pos hp]⟩
  · cases h
theorem appendV_T (hb : st2.bx = st.bx) (ht : st2.tk = st.tk) {es : Nat} {s : V} {news : List (List V)} (h : appendV st lo tlo es false s news = some (v, st')) : ∃ tk, st' = { st with tk := tk } ∧ appendV st2 lo tlo es false s news = some (v, { st2 with tk := tk }) := by
  unfold appendV at h ⊢
  split at h
  · exact newRows_T hb ht h
  · split at h
    · rename_i hcc
      obtain ⟨tk, q1, q2⟩ := newRows_T hb ht h
      exact ⟨tk, q1, by simp only [if_pos hcc, q2]⟩
    · cases h
  · obtain ⟨q, h1, h⟩ := ob_eq h
    split at h
    · rename_i hcc
      injection h with h; injection h with h2 h3; subst h2; subst h3
      exact ⟨_, rfl, by simp only [ht, h1, ob_some, if_pos hcc]⟩
    · cases h
  · obtain ⟨q, h1, h⟩ := ob_eq h
    split at h
    · rename_i hcc; exact absurd hcc.1 (by simp)
    · cases h
  · cases h
theorem opV_T (hc : clsOp E fn rg op = .T) (hs : SeesOp op st st2) (hb : st2.bx = st.bx) (ht : st2.tk = st.tk) (h : opV E fn rg lo tlo st d op = some (v, st')) :
    ∃ tk, st' = { st with tk := tk } ∧ opV E fn rg lo tlo st2 d op = some (v, { st2 with tk := tk }) := by
  obtain ⟨xs, ts, rfl, hr⟩ := cls_T hc
  · have e1 : evs st2 xs.toList = evs st xs.toList := evs_sees fun x hx => hs x (by simp [Op.operands, Call.operands]; simpa using hx)
    simp only [opV, hr] at h ⊢
    unfold opAppend at h ⊢
    split at h
    · obtain ⟨e, h1, h⟩ := ob_eq h
      obtain ⟨q, h2, h⟩ := ob_eq h
      obtain ⟨vs, h3, h⟩ := ob_eq h
      split at h
      · obtain ⟨news, h4, h⟩ := ob_eq h
        obtain ⟨olds, h5, h⟩ := ob_eq h
        split at h
        · rename_i hcc
          obtain ⟨tk, q1, q2⟩ := appendV_T hb ht h
          exact ⟨tk, q1, by simp only [e1, h1, h2, h3, rowsOf_same hb, h4, h5, ob_some, if_pos hcc, q2]⟩
        · cases h
      · cases h
    · cases h
theorem callee_sees (hs : SeesOp op st st2) : calleeOf st2 op = calleeOf st op := by
  unfold calleeOf
  split
  · rename_i f xs ts
    have e1 := ev_sees (hs f (by simp [Op.operands, Call.operands]))
    have e2 : evs st2 xs.toList = evs st xs.toList := evs_sees fun x hx => hs x (by simp [Op.operands, Call.operands]; exact .inr (by simpa using hx))
    unfold callee
    rw [e1]
    congr
    funext u
    split
    · rw [e2]
    · rfl
  · rfl
theorem callee_none {q : FuncId × List V} (h : calleeOf st op = some q) (st2 : St) : opV E fn rg lo tlo st2 d op = none := by
  unfold calleeOf at h
  split at h
  · rfl
  · cases h
theorem ExtB.refl (bx : List Box) : ExtB bx bx := fun _ _ h => h
theorem ExtB.push (bx : List Box) (b : Box) : ExtB bx (bx ++ [b]) := fun r x h => by
  have hr := (List.getElem?_eq_some_iff.1 h).1
  rw [List.getElem?_append_left hr]; exact h
/-- An operation by its class. -/
theorem opV_cls (hd : ∀ n, d = some n → E.loc fn n = false) (hx : clsOp E fn rg op ≠ .X) (h : opV E fn rg lo tlo st d op = some (v, st')) :
    ∃ bx tk, st' = resSt (clsOp E fn rg op) st bx tk ∧ Effect (clsOp E fn rg op) st bx tk ∧ ∀ st2, SeesOp op st st2 → Agree (clsOp E fn rg op) st st2 → opV E fn rg lo tlo st2 d op = some (v, resSt (clsOp E fn rg op) st2 bx tk) := by
  have refl : SeesOp op st st := fun x _ t _ => rfl
  cases hc : clsOp E fn rg op with
  | P => exact ⟨st.bx, st.tk, (opV_P hc refl h).1, ⟨rfl, rfl⟩, fun st2 hs _ => (opV_P hc hs h).2⟩
  | R => exact ⟨st.bx, st.tk, (opV_R hc refl (fun _ _ h => h) (ExtB.refl _) h).1, ⟨rfl, rfl⟩, fun st2 hs ha => (opV_R hc hs ha.1 ha.2 h).2⟩
  | A =>
    obtain ⟨b, q1, _⟩ := opV_A hc hd refl rfl h
    refine ⟨st.bx ++ [b], st.tk, q1, ExtB.push _ _, fun st2 hs ha => ?_⟩
    obtain ⟨b2, q2, q3⟩ := opV_A hc hd hs ha.1 h
    have e : b2 = b := by
      rw [q1] at q2
      injection q2 with _ q2 _
      have := List.append_cancel_left q2
      injection this with this
      exact this.symm
    subst e
    rw [q3]
    obtain ⟨tm2, bx2, tk2⟩ := st2
    have := ha.2
    simp only at this
    subst this
    rfl
  | T =>
    obtain ⟨tk, q1, _⟩ := opV_T hc refl rfl rfl h
    refine ⟨st.bx, tk, q1, rfl, fun st2 hs ha => ?_⟩
    obtain ⟨tk2, q2, q3⟩ := opV_T hc hs ha.1 ha.2 h
    have e : tk2 = tk := by
      rw [q1] at q2
      injection q2 with _ _ q2
      exact q2.symm
    subst e
    rw [q3]
    obtain ⟨tm2, bx2, tk2⟩ := st2
    have := ha.1
    simp only at this
    subst this
    rfl
  | C | W =>
    exfalso
    obtain ⟨f, xs, ts, rfl⟩ := cls_call' (by first | exact .inl hc | exact .inr hc)
    cases h
  | X => exact absurd hc hx
theorem cls_call (hx : clsOp E fn rg op ≠ .X) {q : FuncId × List V} (h : calleeOf st op = some q) :
    (clsOp E fn rg op = .C ∧ E.prim q.1 = none ∧ E.mode q.1 = .pure) ∨ clsOp E fn rg op = .W := by
  unfold calleeOf at h
  split at h
  · rename_i f xs ts
    cases f with
    | func g =>
      simp only [clsOp]
      have e : q.1 = g := by
        unfold callee at h
        obtain ⟨u, h1, h⟩ := ob_eq h
        simp only [ev, Option.some.injEq] at h1
        subst h1
        simp only at h
        obtain ⟨vs, _, h2⟩ := om_eq h
        rw [← h2]
      subst e
      split <;> rename_i hcc
      · simp only [Bool.and_eq_true, Option.isNone_iff_eq_none] at hcc
        refine .inl ⟨rfl, hcc.1, ?_⟩
        have h2 := hcc.2
        cases hm : E.mode q.1 <;> rw [hm] at h2 <;> first | rfl | cases h2
      · exact .inr rfl
    | _ => exact .inr rfl
  · cases h
theorem looks_sees {ops : Array Oper} {o : Oper} (h : ∀ t ∈ o.looksAt ops, nth st2.tm t = nth st.tm t) : SeesOp o.op st st2 := by
  intro x hx t e
  subst e
  exact h t (List.mem_append_left _ (List.mem_filterMap.2 ⟨.tmp t, hx, rfl⟩))
theorem dstAt_get : ∀ (l : List Oper) (j : Nat), dstAt l j = (l[j]?).bind (·.dst)
  | [], j => rfl
  | x :: l, 0 => rfl
  | x :: l, j + 1 => by simp [dstAt, dstAt_get l j]
theorem looks_want {ops : Array Oper} {o : Oper} (h : ∀ t ∈ o.looksAt ops, nth st2.tm t = nth st.tm t) : wantV ops.toList st2 o.guard = wantV ops.toList st o.guard := by
  cases hg : o.guard with
  | none => rfl
  | some q =>
    obtain ⟨j, want⟩ := q
    simp only [wantV]
    rw [dstAt_get]
    cases hd : (ops.toList[j]?).bind (·.dst) with
    | none => rfl
    | some t =>
      simp only [slotTrue, St.get]
      have : t ∈ o.looksAt ops := by
        refine List.mem_append_right _ ?_
        rw [hg]
        have e1 : ops[j]? = ops.toList[j]? := by simp
        simp only [e1, hd]
        simp
      rw [h t this]
theorem locK_nl {L : Nat → Bool} (hd : ∀ n, d = some n → L n = false) {k : Prop} (h : locK L d v k) : (∀ cs, v ≠ .loc cs) ∧ k := by
  unfold locK at h
  split at h
  · obtain ⟨⟨n, h1, h2⟩, _⟩ := h
    rw [hd n h1] at h2
    cases h2
  · rename_i hne; exact ⟨hne, h⟩
theorem locK_of {L : Nat → Bool} (hv : ∀ cs, v ≠ .loc cs) {k : Prop} (h : k) : locK L d v k := by
  unfold locK
  split
  · exact absurd rfl (hv _)
  · exact h
theorem resSt_same (c : Cls) (st : St) : resSt c st st.bx st.tk = st := by cases c <;> rfl
theorem clsOf_ok {o : Oper} (hx : clsOf E fn rg o ≠ .X) : clsOf E fn rg o = clsOp E fn rg o.op ∧ ∀ n, o.dst = some n → E.loc fn n = false := by
  unfold clsOf at *
  split at hx
  · exact absurd rfl hx
  · rename_i hl
    refine ⟨by rw [if_neg hl], fun n hn => ?_⟩
    simp only [locDst, hn] at hl
    simpa using hl
theorem agree_same {c : Cls} (h : c ≠ .P ∧ c ≠ .R → st2.bx = st.bx ∧ st2.tk = st.tk) : resSt c st2 st.bx st.tk = st2 := by
  cases c <;> first | rfl | (obtain ⟨h1, h2⟩ := h ⟨by simp, by simp⟩; simp only [resSt, ← h1, ← h2])
/-- One operation, told by its class. -/
theorem one_cls (hC : C.Good) (hPu : ∀ f, E.prim f = none → E.mode f = .pure → ∀ args bx tk lo tlo R, C f args bx tk lo tlo R → C f args bx tk lo tlo (fun v b t => b = bx ∧ t = tk ∧ R v b t)) {ops : Array Oper} {o : Oper} {K : St → Prop} (hx : clsOf E fn rg o ≠ .X)
    (h : wpOne E C fn rg lo tlo ops.toList o.dst o.op o.guard st K) :
    ∃ v bx tk, (∀ cs, v ≠ .loc cs) ∧ Effect (clsOf E fn rg o) st bx tk ∧ K ((resSt (clsOf E fn rg o) st bx tk).put o.dst v) ∧
      ∀ st2, (∀ t ∈ o.looksAt ops, nth st2.tm t = nth st.tm t) → Agree (clsOf E fn rg o) st st2 → ∀ K2 : St → Prop, K2 ((resSt (clsOf E fn rg o) st2 bx tk).put o.dst v) → wpOne E C fn rg lo tlo ops.toList o.dst o.op o.guard st2 K2 := by
  obtain ⟨hcls, hd⟩ := clsOf_ok hx
  rw [hcls] at hx ⊢
  unfold wpOne at h
  cases hw : wantV ops.toList st o.guard with
  | none => rw [hw] at h; exact h.elim
  | some b =>
    rw [hw] at h
    cases b with
    | false =>
      refine ⟨.undef, st.bx, st.tk, fun cs e => (by cases e), ?_, ?_, fun st2 hl ha K2 hk => ?_⟩
      · cases clsOp E fn rg o.op <;> first | trivial | exact ⟨rfl, rfl⟩ | exact ExtB.refl _ | rfl
      · rw [resSt_same]; exact h.2 rfl
      · unfold wpOne
        rw [looks_want hl, hw, guardK_false]
        rw [agree_same] at hk
        · exact hk
        · intro hne
          revert ha
          revert hne
          cases clsOp E fn rg o.op <;> intro hne ha <;> first | exact absurd rfl hne.1 | exact absurd rfl hne.2 | exact ha
    | true =>
      have h1 := h.1 rfl
      cases hop : opV E fn rg lo tlo st o.dst o.op with
      | some p =>
        obtain ⟨v, st'⟩ := p
        rw [hop] at h1
        obtain ⟨hv, hk⟩ := locK_nl hd h1
        obtain ⟨bx, tk, q1, q2, q3⟩ := opV_cls hd hx hop
        refine ⟨v, bx, tk, hv, q2, ?_, fun st2 hl ha K2 hk2 => ?_⟩
        · rw [← q1]; exact hk
        · unfold wpOne
          rw [looks_want hl, hw, guardK_true, q3 st2 (looks_sees hl) ha]
          exact locK_of hv hk2
      | none =>
        rw [hop, stepK_none] at h1
        cases hc : calleeOf st o.op with
        | none => rw [hc] at h1; exact h1.elim
        | some q =>
          obtain ⟨f, args⟩ := q
          rw [hc, callK_some] at h1
          have hcl := cls_call hx hc
          rcases hcl with ⟨hcl, hp, hm⟩ | hcl
          · have h2 := hPu f hp hm _ _ _ _ _ _ h1
            obtain ⟨v, bx, tk, ⟨rfl, rfl, hR⟩, hpt⟩ := hC.point _ _ _ _ _ _ _ h2
            obtain ⟨hv, hk⟩ := locK_nl hd hR
            rw [hcl]
            refine ⟨v, st.bx, st.tk, hv, ⟨rfl, rfl⟩, hk, fun st2 hl ha K2 hk2 => ?_⟩
            unfold wpOne
            rw [looks_want hl, hw, guardK_true, callee_none (st := st) hc, stepK_none, callee_sees (looks_sees hl), hc, callK_some, ha.1, ha.2]
            exact hC.mono _ _ _ _ _ _ _ _ hpt (by rintro v' b' t' ⟨rfl, rfl, rfl⟩; exact locK_of hv hk2)
          · obtain ⟨v, bx, tk, hR, hpt⟩ := hC.point _ _ _ _ _ _ _ h1
            obtain ⟨hv, hk⟩ := locK_nl hd hR
            rw [hcl]
            refine ⟨v, bx, tk, hv, trivial, hk, fun st2 hl ha K2 hk2 => ?_⟩
            unfold wpOne
            rw [looks_want hl, hw, guardK_true, callee_none (st := st) hc, stepK_none, callee_sees (looks_sees hl), hc, callK_some, ha.1, ha.2]
            exact hC.mono _ _ _ _ _ _ _ _ hpt (by rintro v' b' t' ⟨rfl, rfl, rfl⟩; exact locK_of hv hk2)
theorem upd_comm {l : List V} {i j : Nat} {x y : V} (h : i ≠ j) : upd (upd l i x) j y = upd (upd l j y) i x := by
  induction l generalizing i j with
  | nil => rfl
  | cons z l ih =>
    cases i with
    | zero => cases j with
      | zero => exact absurd rfl h
      | succ j => rfl
    | succ i => cases j with
      | zero => rfl
      | succ j => simp only [upd]; rw [ih (by omega)]
theorem put_tm {d : Option Nat} : (st.put d v).tm = (match d with | some d => upd st.tm d v | none => st.tm) := by cases d <;> rfl
theorem nth_upd_ne {l : List V} {i j : Nat} {x : V} (h : j ≠ i) : nth (upd l i x) j = nth l j := by
  by_cases hi : i < l.length
  · rw [nth_upd _ _ _ _ hi, if_neg h]
  · rw [upd_ge _ _ _ (by omega)]
theorem nth_put_ne {d : Option Nat} {t : Nat} (h : ∀ n, d = some n → t ≠ n) : nth (st.put d v).tm t = nth st.tm t := by
  cases d with
  | none => rfl
  | some n => exact nth_upd_ne (h n rfl)
theorem resSt_tm (c : Cls) (st : St) (bx : List Box) (tk : List (Nat × Nat)) : (resSt c st bx tk).tm = st.tm := by cases c <;> rfl
theorem put_loc_back {d : Option Nat} (hv : ∀ cs, v ≠ .loc cs) {t : Nat} {cs : List V} (h : nth (st.put d v).tm t = .loc cs) : nth st.tm t = .loc cs := by
  cases d with
  | none => exact h
  | some n =>
    simp only [St.put] at h
    by_cases hi : n < st.tm.length
    · rw [nth_upd _ _ _ _ hi] at h
      split at h
      · exact absurd h (hv cs)
      · exact h
    · rw [upd_ge _ _ _ (by omega)] at h; exact h
theorem put_put {d e : Option Nat} {u v : V} {s s' : St} (hne : ∀ n, d = some n → e ≠ some n) (htm : s.tm = s'.tm) (hb : s.bx = s'.bx) (ht : s.tk = s'.tk) : (s.put d u).put e v = (s'.put e v).put d u := by
  obtain ⟨tm, bx, tk⟩ := s
  obtain ⟨tm', bx', tk'⟩ := s'
  simp only at htm hb ht
  subst htm; subst hb; subst ht
  cases d with
  | none => rfl
  | some n =>
    cases e with
    | none => rfl
    | some m =>
      simp only [St.put]
      rw [upd_comm (fun h => hne n rfl (by rw [h]))]
theorem put_bx' {d : Option Nat} {s : St} {u : V} : (s.put d u).bx = s.bx := by cases d <;> rfl
theorem put_tk' {d : Option Nat} {s : St} {u : V} : (s.put d u).tk = s.tk := by cases d <;> rfl
theorem agree_b {ca cb : Cls} {bxa : List Box} {tka : List (Nat × Nat)} {d : Option Nat} (hok : ca.ok cb = true) (effa : Effect ca st bxa tka) (la : LocAgree ((resSt ca st bxa tka).put d v) st) : Agree cb ((resSt ca st bxa tka).put d v) st := by
  cases ca <;> cases cb <;> first
    | (cases hok; done)
    | trivial
    | (simp_all [Agree, resSt, put_bx', put_tk', Effect, ExtB.refl]; done)
theorem agree_a {ca cb : Cls} {bxa bxb : List Box} {tka tkb : List (Nat × Nat)} {d e : Option Nat} {u : V} (hok : ca.ok cb = true) (effa : Effect ca st bxa tka) (effb : Effect cb ((resSt ca st bxa tka).put d v) bxb tkb) (lb : LocAgree st ((resSt cb st bxb tkb).put e u)) : Agree ca st ((resSt cb st bxb tkb).put e u) := by
  cases ca <;> cases cb <;> first
    | (cases hok; done)
    | trivial
    | (simp_all [Agree, resSt, put_bx', put_tk', Effect, ExtB.refl]; done)
theorem both_bx {ca cb : Cls} {bxa bxb : List Box} {tka tkb : List (Nat × Nat)} {d e : Option Nat} {u : V} (hok : ca.ok cb = true) (effa : Effect ca st bxa tka) (effb : Effect cb ((resSt ca st bxa tka).put d v) bxb tkb) :
    (resSt ca (resSt cb st bxb tkb) bxa tka).bx = (resSt cb (resSt ca st bxa tka) bxb tkb).bx ∧ (resSt ca (resSt cb st bxb tkb) bxa tka).tk = (resSt cb (resSt ca st bxa tka) bxb tkb).tk := by
  cases ca <;> cases cb <;> first
    | (cases hok; done)
    | (simp_all [resSt, put_bx', put_tk', Effect]; done)
/-- Two neighbours change places. -/
theorem swap (hC : C.Good) (hPu : ∀ f, E.prim f = none → E.mode f = .pure → ∀ args bx tk lo tlo R, C f args bx tk lo tlo R → C f args bx tk lo tlo (fun v b t => b = bx ∧ t = tk ∧ R v b t)) {ops : Array Oper} {a b : Oper} {K : St → Prop}
    (hok : (clsOf E fn rg a).ok (clsOf E fn rg b) = true) (hap : a.apart ops b = true) (hl : LocI E fn st)
    (h : wpOne E C fn rg lo tlo ops.toList a.dst a.op a.guard st fun s => wpOne E C fn rg lo tlo ops.toList b.dst b.op b.guard s K) :
    wpOne E C fn rg lo tlo ops.toList b.dst b.op b.guard st fun s => wpOne E C fn rg lo tlo ops.toList a.dst a.op a.guard s K := by
  obtain ⟨ap1, ap2, ap3⟩ := Oper.apart_spec hap
  have hxa : clsOf E fn rg a ≠ .X := by intro e; rw [e] at hok; cases hok
  have hxb : clsOf E fn rg b ≠ .X := by intro e; rw [e] at hok; revert hok; cases clsOf E fn rg a <;> simp [Cls.ok]
  obtain ⟨va, bxa, tka, nla, effa, h, ra⟩ := one_cls hC hPu hxa h
  obtain ⟨vb, bxb, tkb, nlb, effb, h, rb⟩ := one_cls hC hPu hxb h
  have hdb := (clsOf_ok hxb).2
  have la : LocAgree ((resSt (clsOf E fn rg a) st bxa tka).put a.dst va) st := by
    intro t cs ht
    have := put_loc_back nla ht
    rw [resSt_tm] at this
    exact this
  have lb : LocAgree st ((resSt (clsOf E fn rg b) st bxb tkb).put b.dst vb) := by
    intro t cs ht
    rw [nth_put_ne, resSt_tm]
    · exact ht
    · intro n hn e
      subst e
      have h1 := hl t cs ht
      rw [hdb t hn] at h1
      cases h1
  refine rb st (fun t ht => ?_) (agree_b hok effa la) _ ?_
  · rw [nth_put_ne, resSt_tm]
    intro n hn e
    subst e
    exact ap1 t hn ht
  · refine ra _ (fun t ht => ?_) (agree_a hok effa effb lb) K ?_
    · rw [nth_put_ne, resSt_tm]
      intro n hn e
      subst e
      exact ap3 t hn ht
    · have e : (((resSt (clsOf E fn rg a) ((resSt (clsOf E fn rg b) st bxb tkb).put b.dst vb) bxa tka).put a.dst va)) = (resSt (clsOf E fn rg b) ((resSt (clsOf E fn rg a) st bxa tka).put a.dst va) bxb tkb).put b.dst vb := by
        have e1 : ∀ (c : Cls) (s : St) (dd : Option Nat) (u : V) (bx : List Box) (tk : List (Nat × Nat)), resSt c (s.put dd u) bx tk = (resSt c s bx tk).put dd u := by
          intro c s dd u bx tk; cases c <;> cases dd <;> rfl
        rw [e1, e1]
        have hb := both_bx (d := a.dst) (e := none) (u := va) hok effa effb
        exact put_put (fun n hn e => ap2 n e hn) (by simp only [resSt_tm]) hb.1 hb.2
      rw [e]
      exact h
end swap
end Go.Vi
