/- What a call sees of its caller's frame, and what the caller sees of the call. -/
import Derived.Test.YtngeclldoplihaaViOps6
set_option linter.unusedVariables false
set_option linter.unusedSimpArgs false
namespace Go.Vi
open Go.RowKit
def lam0 : Nat → Nat := fun _ => 0
def bare (bx : List Box) (tk : List (Nat × Nat)) : St := { tm := [], bx := bx, tk := tk }
/-- What a call must leave alone: what the caller must, and the caller's own variables. -/
def Oin (O : Nat → Prop) (lam : Nat → Nat) (tm : List V) (b : Nat) : Prop := O b ∨ ∃ t cs, nth tm t = .loc cs ∧ lam t = b
section call
variable {P : Program} {lo tlo : Nat} {w w' : World} {O : Nat → Prop} {g g' : G} {lam : Nat → Nat} {st : St} {tmps : Array Value} {bx' : List Box} {tk' : List (Nat × Nat)}
theorem blk_bare {bx : List Box} {tk : List (Nat × Nat)} {tm : List V} {x : Ow} {b : Nat} (h : Blk g lam0 (bare bx tk) x b) : Blk g lam { tm := tm, bx := bx, tk := tk } x b := by
  cases x with
  | box r => exact h
  | tok id => exact h
  | loc t => obtain ⟨⟨cs, h1⟩, _⟩ := h; cases h1
theorem stab_in {b off : Nat} (h : Stab O g lam st b off) : Stab (Oin O lam st.tm) g lam0 (bare st.bx st.tk) b off := by
  refine ⟨fun ho => ?_, fun r hr => h.2.1 r hr, fun t ht => ?_, h.2.2.2⟩
  · rcases ho with ho | ⟨t, cs, h1, h2⟩
    · exact h.1 ho
    · exact h.2.2.1 t ⟨⟨cs, h1⟩, h2⟩
  · obtain ⟨⟨cs, h1⟩, _⟩ := ht; cases h1
theorem stab_out {b off : Nat} (h : Stab (Oin O lam st.tm) g lam0 (bare st.bx st.tk) b off) : Stab O g lam st b off :=
  ⟨fun ho => h.1 (.inl ho), fun r hr => h.2.1 r hr, fun t ht => h.1 (.inr ⟨t, ht.1.choose, ht.1.choose_spec, ht.2⟩), h.2.2.2⟩
theorem FR.enter {v : Value} {x : V} (h : FR w O g lam st v x) : FR w (Oin O lam st.tm) g lam0 (bare st.bx st.tk) v x :=
  VR.keeps ⟨fun b o v hs hc => ⟨hc, stab_in hs⟩, Nat.le_refl _, fun r es rs _ h => ⟨rs, h, rfl, rfl, rfl⟩, fun _ _ => rfl, Nat.le_refl _, fun id es n _ h => ⟨n, h, Nat.le_refl _, fun _ => ⟨rfl, rfl⟩⟩⟩ h
theorem FR.leave {v : Value} {x : V} (h : FR w (Oin O lam st.tm) g lam0 (bare st.bx st.tk) v x) : FR w O g lam st v x :=
  VR.keeps ⟨fun b o v hs hc => ⟨hc, stab_out hs⟩, Nat.le_refl _, fun r es rs _ h => ⟨rs, h, rfl, rfl, rfl⟩, fun _ _ => rfl, Nat.le_refl _, fun id es n _ h => ⟨n, h, Nat.le_refl _, fun _ => ⟨rfl, rfl⟩⟩⟩ h
theorem RowsAt.enter {b es cap : Nat} {rs : List (List V)} (h : RowsAt w O g lam st b es cap rs) : RowsAt w (Oin O lam st.tm) g lam0 (bare st.bx st.tk) b es cap rs := by
  obtain ⟨cur, e, h1, h2, h3, h4, h5⟩ := h
  exact ⟨cur, e, h1, h2, h3, h4, fun i j hi hj => let ⟨c, k1, k2⟩ := h5 i j hi hj; ⟨c, k1, k2.enter⟩⟩
theorem RowsAt.leave {b es cap : Nat} {rs : List (List V)} (h : RowsAt w (Oin O lam st.tm) g lam0 (bare st.bx st.tk) b es cap rs) : RowsAt w O g lam st b es cap rs := by
  obtain ⟨cur, e, h1, h2, h3, h4, h5⟩ := h
  exact ⟨cur, e, h1, h2, h3, h4, fun i j hi hj => let ⟨c, k1, k2⟩ := h5 i j hi hj; ⟨c, k1, k2.leave⟩⟩
/-- What a call sees. -/
theorem Sim.enter (hs : Sim w O g lam tmps st) : Sim w (Oin O lam st.tm) g lam0 #[] (bare st.bx st.tk) := by
  have hb : ∀ x b, Blk g lam0 (bare st.bx st.tk) x b → Blk g lam st x b := fun x b h => blk_bare h
  refine ⟨rfl, fun t ht => (by simp [bare] at ht), fun r es rs h => (hs.box r es rs h).enter, fun t cs h => (by cases h), hs.tok, hs.nomap, fun x y b hx hy => hs.inj x y b (hb _ _ hx) (hb _ _ hy), fun x b hx => ⟨(hs.own x b (hb _ _ hx)).1, fun ho => ?_⟩, fun b ho => ?_⟩
  · rcases ho with ho | ⟨t, cs, h1, h2⟩
    · exact (hs.own x b (hb _ _ hx)).2 ho
    · have := hs.inj x (.loc t) b (hb _ _ hx) ⟨⟨cs, h1⟩, h2⟩
      subst this
      obtain ⟨⟨cs', h3⟩, _⟩ := hx
      cases h3
  · rcases ho with ho | ⟨t, cs, h1, h2⟩
    · exact hs.out b ho
    · exact (hs.own (.loc t) b ⟨⟨cs, h1⟩, h2⟩).1
/-- What the caller sees when the call is over. -/
theorem Fr.leave (hs : Sim w O g lam tmps st) (hf : Fr lo tlo w (Oin O lam st.tm) g lam0 (bare st.bx st.tk) w' g' lam0 (bare bx' tk')) : Fr lo tlo w O g lam st w' g' lam { st with bx := bx', tk := tk' } := by
  have k := hf.keep
  refine ⟨hf.os, hf.tape, hf.output, hf.size, ⟨fun b o v hS hc => ?_, k.len, k.box, k.map, k.tlen, k.tok⟩, fun b hb hl => hf.blk b hb fun x hx => hl x (blk_bare hx), fun b hb hl x hx => ?_, hf.lbox, hf.ltok⟩
  · obtain ⟨h1, h2⟩ := k.cell b o v (stab_in hS) hc
    exact ⟨h1, stab_out (st := { st with bx := bx', tk := tk' }) h2⟩
  · cases x with
    | box r => exact hf.low b hb (fun x hx => hl x (blk_bare hx)) (.box r) hx
    | tok id => exact hf.low b hb (fun x hx => hl x (blk_bare hx)) (.tok id) hx
    | loc t => exact hl (.loc t) hx
theorem Sim.leave (hs : Sim w O g lam tmps st) (hf : Fr lo tlo w (Oin O lam st.tm) g lam0 (bare st.bx st.tk) w' g' lam0 (bare bx' tk')) (hs' : Sim w' (Oin O lam st.tm) g' lam0 #[] (bare bx' tk')) : Sim w' O g' lam tmps { st with bx := bx', tk := tk' } := by
  have hk := (Fr.leave hs hf).keep
  have hbl : ∀ {y : Ow} {b : Nat}, Blk g' lam { st with bx := bx', tk := tk' } y b → Blk g' lam0 (bare bx' tk') y b ∨ ∃ t, y = .loc t ∧ Blk g lam st (.loc t) b := by
    intro y b h
    cases y with
    | box r => exact .inl h
    | tok id => exact .inl h
    | loc t => exact .inr ⟨t, rfl, h⟩
  have hloc : ∀ {t b : Nat}, Blk g lam st (.loc t) b → Oin O lam st.tm b := fun h => .inr ⟨_, h.1.choose, h.1.choose_spec, h.2⟩
  refine ⟨hs.size, fun t ht => (hs.slot t ht).keeps hk (fun _ _ => rfl) (fun u off _ cs h => ⟨⟨cs, h⟩, rfl⟩), fun r es rs h => RowsAt.leave (st := { st with bx := bx', tk := tk' }) (hs'.box r es rs h), fun t cs h => ?_, hs'.tok, hs'.nomap, fun x y b hx hy => ?_, fun x b hx => ?_, fun b ho => Nat.lt_of_lt_of_le (hs.out b ho) hf.size⟩
  · have hbb : Blk g lam st (.loc t) (lam t) := ⟨⟨cs, h⟩, rfl⟩
    refine RowsAt.keeps hk (hs.loc t cs h) (hf.blk _ (hs.own _ _ hbb).1 fun x hx => ?_)
    have := hs.inj x (.loc t) _ (blk_bare hx) hbb
    subst this
    obtain ⟨⟨cs', h3⟩, _⟩ := hx
    cases h3
  · rcases hbl hx with h1 | ⟨t, rfl, h1⟩ <;> rcases hbl hy with h2 | ⟨u, rfl, h2⟩
    · exact hs'.inj x y b h1 h2
    · exact absurd (hloc h2) (hs'.own x b h1).2
    · exact absurd (hloc h1) (hs'.own y b h2).2
    · exact hs.inj _ _ b h1 h2
  · rcases hbl hx with h1 | ⟨t, rfl, h1⟩
    · exact ⟨(hs'.own x b h1).1, fun ho => (hs'.own x b h1).2 (.inl ho)⟩
    · exact ⟨Nat.lt_of_lt_of_le (hs.own _ b h1).1 hf.size, (hs.own _ b h1).2⟩
/-- A higher floor is the stricter one. -/
theorem Fr.floor {lo2 tlo2 : Nat} {lam' : Nat → Nat} {st' : St} (h : Fr lo2 tlo2 w O g lam st w' g' lam' st') (h1 : lo ≤ lo2) (h2 : tlo ≤ tlo2) : Fr lo tlo w O g lam st w' g' lam' st' := by
  have up : ∀ x, Low lo tlo x → Low lo2 tlo2 x := by
    intro x hx
    cases x with
    | box r => simp only [Low] at hx ⊢; omega
    | tok id => simp only [Low] at hx ⊢; omega
    | loc t => exact hx
  refine ⟨h.os, h.tape, h.output, h.size, h.keep, fun b hb hl => h.blk b hb fun x hx => up x (hl x hx), fun b hb hl x hx => ?_, fun r hr => h.lbox r (by omega), fun id hid => h.ltok id (by omega)⟩
  have hlow := h.low b hb (fun x hx => up x (hl x hx)) x hx
  refine hl x ?_
  cases x with
  | loc t => exact absurd hlow (by simp [Low])
  | box r =>
    simp only [Low] at hlow
    obtain ⟨k1, k2, _⟩ := h.lbox r hlow
    obtain ⟨q1, q2⟩ := hx
    exact ⟨by rw [← k1]; exact q1, by rw [← k2]; exact q2⟩
  | tok id =>
    simp only [Low] at hlow
    obtain ⟨k1, k2, _⟩ := h.ltok id hlow
    obtain ⟨q1, q2⟩ := hx
    refine ⟨?_, by rw [← k2]; exact q2⟩
    by_cases hlt : id < st.tk.length
    · exact hlt
    · have : st.tk[id]? = none := by simp; omega
      rw [this] at k1
      simp at k1
      omega
end call
end Go.Vi
