/- The relation of a frame: its slots, the store, and who owns which block. -/
import Derived.Test.YtngeclldoplihaaViRel
set_option linter.unusedVariables false
set_option linter.unusedSimpArgs false
namespace Go.Vi
open Go.RowKit

/-- Who owns a block. -/
inductive Ow where
  | box (r : Nat)
  | loc (t : Nat)
  | tok (id : Nat)
def Box.live : Option Box → Prop
  | some (.rows ..) => True
  | some (.map _) => True
  | _ => False
def Blk (g : G) (lam : Nat → Nat) (st : St) : Ow → Nat → Prop
  | .box r, b => Box.live st.bx[r]? ∧ g.ρ r = b
  | .loc t, b => (∃ cs, nth st.tm t = .loc cs) ∧ lam t = b
  | .tok id, b => id < st.tk.length ∧ g.τ id = some b
/-- Cells that nobody will write. -/
def Stab (O : Nat → Prop) (g : G) (lam : Nat → Nat) (st : St) (b off : Nat) : Prop :=
  ¬ O b ∧ (∀ r, ¬ Blk g lam st (.box r) b) ∧ (∀ t, ¬ Blk g lam st (.loc t) b) ∧ ∀ id es n, st.tk[id]? = some (es, n) → g.τ id = some b → off < n * es
def cellOf (w : World) (b off : Nat) : Option Value := w.cell? ⟨b, off, none⟩
/-- A value's relation in a frame. -/
abbrev FR (w : World) (O : Nat → Prop) (g : G) (lam : Nat → Nat) (st : St) (v : Value) (x : V) : Prop := VR (cellOf w) (Stab O g lam st) st.bx st.tk g v x
/-- A slot's relation. -/
def TR (w : World) (O : Nat → Prop) (g : G) (lam : Nat → Nat) (st : St) (t : Nat) (v : Value) : V → Prop
  | .loc _ => v = .pointer (some ⟨lam t, 0, none⟩)
  | .lptr u off => ∃ p, v = .pointer (some p) ∧ ∀ cs, nth st.tm u = .loc cs → p = ⟨lam u, off, none⟩
  | x => FR w O g lam st v x
def RowsAt (w : World) (O : Nat → Prop) (g : G) (lam : Nat → Nat) (st : St) (b es cap : Nat) (rs : List (List V)) : Prop :=
  ∃ cur e, w.heap[b]? = some (.cells cur e (0, 0)) ∧ cur.size = cap * es ∧ rs.length ≤ cap ∧ (∀ row ∈ rs, row.length = es ∧ ∀ v ∈ row, v.cell = true) ∧
    ∀ i j (hi : i < rs.length) (hj : j < rs[i].length), ∃ c, cur[i * es + j]? = some c ∧ FR w O g lam st c rs[i][j]
structure Sim (w : World) (O : Nat → Prop) (g : G) (lam : Nat → Nat) (tmps : Array Value) (st : St) : Prop where
  size : tmps.size = st.tm.length
  slot : ∀ t, t < st.tm.length → TR w O g lam st t (tmps.getD t undef) (nth st.tm t)
  box : ∀ r es rs, st.bx[r]? = some (.rows es rs) → RowsAt w O g lam st (g.ρ r) es (g.κ r) rs
  loc : ∀ t cs, nth st.tm t = .loc cs → RowsAt w O g lam st (lam t) cs.length 1 [cs]
  tok : ∀ id es n, st.tk[id]? = some (es, n) → ∀ b, g.τ id = some b → ∃ cur e, w.heap[b]? = some (.cells cur e (0, 0)) ∧ cur.size = g.θ id * es ∧ n ≤ g.θ id
  nomap : ∀ (r : Nat) es, st.bx[r]? ≠ some (Box.map es)
  inj : ∀ x y b, Blk g lam st x b → Blk g lam st y b → x = y
  own : ∀ x b, Blk g lam st x b → b < w.heap.size ∧ ¬ O b
  out : ∀ b, O b → b < w.heap.size

theorem nth_ge {l : List V} {t : Nat} (h : l.length ≤ t) : nth l t = .undef := by
  induction l generalizing t with
  | nil => rfl
  | cons v l ih =>
    cases t with
    | zero => simp at h
    | succ t => exact ih (by simpa using h)
theorem upd_length (l : List V) (t : Nat) (v : V) : (upd l t v).length = l.length := by
  induction l generalizing t with
  | nil => rfl
  | cons x l ih => cases t <;> simp [upd, ih]
theorem nth_upd (l : List V) (t u : Nat) (v : V) (h : t < l.length) : nth (upd l t v) u = if u = t then v else nth l u := by
  induction l generalizing t u with
  | nil => simp at h
  | cons x l ih =>
    cases t with
    | zero => cases u <;> simp [upd, nth]
    | succ t =>
      cases u with
      | zero => simp [upd, nth]
      | succ u => simp [upd, nth, ih t u (by simpa using h)]
theorem upd_ge (l : List V) (t : Nat) (v : V) (h : l.length ≤ t) : upd l t v = l := by
  induction l generalizing t with
  | nil => rfl
  | cons x l ih =>
    cases t with
    | zero => simp at h
    | succ t => simp [upd, ih t (by simpa using h)]

theorem getD_ge {a : Array Value} {t : Nat} (h : a.size ≤ t) : a.getD t undef = undef := by
  simp [Array.getD, Nat.not_lt.2 h]
theorem getD_set_ne {a : Array Value} {t d : Nat} {v : Value} (e : t ≠ d) : (a.setIfInBounds d v).getD t undef = a.getD t undef := by
  simp only [Array.getD_eq_getD_getElem?, Array.getElem?_setIfInBounds, if_neg (Ne.symm e)]
theorem getD_set_eq {a : Array Value} {d : Nat} {v : Value} (h : d < a.size) : (a.setIfInBounds d v).getD d undef = v := by
  simp [Array.getD, h]
section frame
variable {w : World} {O : Nat → Prop} {g : G} {lam : Nat → Nat} {tmps : Array Value} {st : St}
theorem TR.of_copy {t : Nat} {v : Value} {x y : V} (h : TR w O g lam st t v x) (hc : x.copy = some y) : FR w O g lam st v y := by
  cases x <;> simp [V.copy] at hc <;> subst hc <;> exact h
theorem TR.of_FR {t : Nat} {v : Value} {x : V} (h : FR w O g lam st v x) : TR w O g lam st t v x := by
  cases x <;> first | exact h | (exfalso; cases h)
/-- Constants. -/
theorem zeroCell_FR {v : Value} {x : V} (h : zeroCell v = some x) : FR w O g lam st v x := by
  unfold zeroCell at h
  split at h <;> first | (injection h with h; subst h; constructor) | cases h
theorem ev_FR {a : Act} (hs : Sim w O g lam a.tmps st) {x : Operand} {v : V} (h : ev st x = some v) : FR w O g lam st (a.eval x) v := by
  cases x with
  | tmp t =>
    simp only [ev, St.get] at h
    by_cases ht : t < st.tm.length
    · exact (hs.slot t ht).of_copy h
    · have hge : st.tm.length ≤ t := Nat.not_lt.1 ht
      rw [nth_ge hge] at h
      simp only [V.copy, Option.some.injEq] at h
      subst h
      have : a.tmps.getD t undef = undef := getD_ge (by rw [hs.size]; exact hge)
      simp only [Act.eval, this]
      exact .undef
  | const c => exact zeroCell_FR h
  | global g => cases h
  | func f =>
    simp only [ev, Option.some.injEq] at h
    subst h
    exact .func _ #[] #[] [] [] rfl rfl (fun i hi => absurd hi (by simp)) (fun i hi => absurd hi (by simp))
theorem evs_FR {a : Act} (hs : Sim w O g lam a.tmps st) : ∀ {xs : List Operand} {vs : List V}, evs st xs = some vs → xs.length = vs.length ∧ ∀ i (hi : i < vs.length), FR w O g lam st ((xs.map a.eval)[i]?.getD undef) vs[i]
  | [], vs, h => by simp only [evs, Option.some.injEq] at h; subst h; exact ⟨rfl, fun i hi => absurd hi (by simp)⟩
  | x :: xs, vs, h => by
    simp only [evs] at h
    obtain ⟨v, h1, h2⟩ := ob_eq h
    obtain ⟨us, h3, rfl⟩ := om_eq h2
    obtain ⟨hl, hh⟩ := evs_FR hs h3
    refine ⟨by simp [hl], fun i hi => ?_⟩
    cases i with
    | zero => simpa using ev_FR hs h1
    | succ i => simpa using hh i (by simpa using hi)

/-- The same store: what is stable may only have grown. -/
theorem keeps_same {lam' : Nat → Nat} {st' : St} (hb : st'.bx = st.bx) (ht : st'.tk = st.tk) (hS : ∀ b o, Stab O g lam st b o → Stab O g lam' st' b o) :
    Keeps (cellOf w) (Stab O g lam st) st.bx st.tk g (cellOf w) (Stab O g lam' st') st'.bx st'.tk g := by
  rw [hb, ht]
  exact ⟨fun b o v hs hc => ⟨hc, hS b o hs⟩, Nat.le_refl _, fun _ _ rs _ h => ⟨rs, h, rfl, rfl, rfl⟩, fun _ _ => rfl, Nat.le_refl _, fun _ es n _ h => ⟨n, h, Nat.le_refl _, fun _ => ⟨rfl, rfl⟩⟩⟩
theorem RowsAt.keeps {w' : World} {g' : G} {lam' : Nat → Nat} {st' : St} {O' : Nat → Prop} (hk : Keeps (cellOf w) (Stab O g lam st) st.bx st.tk g (cellOf w') (Stab O' g' lam' st') st'.bx st'.tk g') {b es cap : Nat} {rs : List (List V)}
    (h : RowsAt w O g lam st b es cap rs) (hb : w'.heap[b]? = w.heap[b]?) : RowsAt w' O' g' lam' st' b es cap rs := by
  obtain ⟨cur, e, h1, h2, h3, h4, h5⟩ := h
  exact ⟨cur, e, hb.trans h1, h2, h3, h4, fun i j hi hj => let ⟨c, k1, k2⟩ := h5 i j hi hj; ⟨c, k1, k2.keeps hk⟩⟩
/-- A slot that holds no place is written. -/
theorem Sim.put (hs : Sim w O g lam tmps st) (d : Nat) {v : Value} {x : V} (hx : TR w O g lam (st.put (some d) x) d v x) (hnl : ∀ cs, x ≠ .loc cs) : Sim w O g lam (tmps.setIfInBounds d v) (st.put (some d) x) := by
  by_cases hd : d < st.tm.length
  · have hbl : ∀ y b, Blk g lam (st.put (some d) x) y b → Blk g lam st y b := by
      intro y b hy
      cases y with
      | box r => exact hy
      | tok id => exact hy
      | loc t =>
        obtain ⟨⟨cs, hcs⟩, hb⟩ := hy
        simp only [St.put] at hcs
        rw [nth_upd _ _ _ _ hd] at hcs
        split at hcs
        · exact absurd hcs (hnl cs)
        · exact ⟨⟨cs, hcs⟩, hb⟩
    have hS : ∀ b o, Stab O g lam st b o → Stab O g lam (st.put (some d) x) b o := fun b o ⟨h1, h2, h3, h4⟩ => ⟨h1, fun r hr => h2 r (hbl _ _ hr), fun t ht => h3 t (hbl _ _ ht), h4⟩
    have hk : Keeps (cellOf w) (Stab O g lam st) st.bx st.tk g (cellOf w) (Stab O g lam (st.put (some d) x)) (st.put (some d) x).bx (st.put (some d) x).tk g := keeps_same rfl rfl hS
    refine ⟨by simp [St.put, upd_length, hs.size], fun t ht => ?_, fun r es rs h => (hs.box r es rs h).keeps hk rfl, fun t cs h => ?_, fun id es n h b hb => hs.tok id es n h b hb, hs.nomap, fun y z b hy hz => hs.inj y z b (hbl _ _ hy) (hbl _ _ hz), fun y b hy => hs.own y b (hbl _ _ hy), hs.out⟩
    · simp only [St.put, upd_length] at ht
      simp only [St.put]
      rw [nth_upd _ _ _ _ hd]
      by_cases e : t = d
      · subst e
        have hsz := hs.size
        rw [if_pos rfl, getD_set_eq (by omega)]
        exact hx
      · rw [if_neg e]
        have h0 := hs.slot t ht
        rw [getD_set_ne e]
        cases hn : nth st.tm t <;> simp only [hn] at h0 ⊢
        case loc cs => exact h0
        case lptr u off =>
          obtain ⟨p, hp, h0⟩ := h0
          refine ⟨p, hp, fun cs hcs => ?_⟩
          simp only at hcs
          rw [nth_upd _ _ _ _ hd] at hcs
          split at hcs
          · exact absurd hcs (hnl cs)
          · exact h0 cs hcs
        all_goals exact VR.keeps hk h0
    · have h' := h
      simp only [St.put] at h'
      rw [nth_upd _ _ _ _ hd] at h'
      split at h'
      · exact absurd h' (hnl cs)
      · exact (hs.loc t cs h').keeps hk rfl
  · have e : st.put (some d) x = st := by simp only [St.put]; rw [upd_ge _ _ _ (by omega)]
    have hsz := hs.size
    have e2 : tmps.setIfInBounds d v = tmps := by simp [Array.setIfInBounds, show ¬ d < tmps.size by omega]
    rw [e, e2]
    exact hs
end frame
end Go.Vi
