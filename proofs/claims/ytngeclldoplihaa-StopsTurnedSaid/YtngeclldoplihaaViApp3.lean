/- Appending: a box that moves, a token that grows. -/
import Derived.Test.YtngeclldoplihaaViApp2
set_option linter.unusedVariables false
set_option linter.unusedSimpArgs false
namespace Go.Vi
open Go.RowKit
section app3
variable {P : Program} {lo tlo : Nat} {o : Oper} {a : Act} {w w' : World} {O : Nat → Prop} {g : G} {lam : Nat → Nat} {st : St} {tmps : Array Value}
/-- The world after an append: one block may differ. -/
structure Past (w w' : World) (D : Nat → Prop) : Prop where
  os : w'.os = w.os
  tape : w'.tape = w.tape
  output : w'.output = w.output
  size : w.heap.size ≤ w'.heap.size
  old : ∀ b, b < w.heap.size → ¬ D b → w'.heap[b]? = w.heap[b]?
theorem Past.same (w : World) (D : Nat → Prop) : Past w w D := ⟨rfl, rfl, rfl, Nat.le_refl _, fun _ _ _ => rfl⟩
theorem Past.grow {D : Nat → Prop} (h : Grow w w') : Past w w' D := ⟨h.os, h.tape, h.output, h.size, fun b hb _ => h.old b hb⟩
theorem Past.row {D : Nat → Prop} {B : Nat} {cs : Array Value} (h : D B) : Past w (w.setRow B cs) D :=
  ⟨rfl, rfl, rfl, by simp, fun b _ hb => setRow_other w B b cs fun e => hb (by rw [e]; exact h)⟩
/-- A box moves: its old number is dead, its new one stands. -/
def St.moveBox (st : St) (r : Nat) (bx : Box) : St := { st with bx := st.bx.set r .dead ++ [bx] }
section move
variable {r B C es es0 : Nat} {rs rs0 : List (List V)}
theorem move_some {x : Nat} {bx b : Box} (hr : r < st.bx.length) (h : (st.moveBox r bx).bx[x]? = some b) : (x < st.bx.length ∧ x ≠ r ∧ st.bx[x]? = some b) ∨ (x = r ∧ b = .dead) ∨ (x = st.bx.length ∧ b = bx) := by
  simp only [St.moveBox] at h
  by_cases hx : x < st.bx.length
  · rw [List.getElem?_append_left (by simpa using hx), List.getElem?_set] at h
    split at h
    · rename_i e
      subst e
      injection h with h
      exact .inr (.inl ⟨rfl, h.symm⟩)
    · exact .inl ⟨hx, fun e => by rename_i hne; exact hne e.symm, h⟩
  · have hlt := (List.getElem?_eq_some_iff.1 h).1
    simp at hlt
    have e : x = st.bx.length := by omega
    subst e
    rw [List.getElem?_append_right (by simp)] at h
    simp at h
    exact .inr (.inr ⟨rfl, h.symm⟩)
theorem moveG_ne {x : Nat} (hx : x < st.bx.length) : (g.addBox st.bx.length B C).ρ x = g.ρ x ∧ (g.addBox st.bx.length B C).κ x = g.κ x := by
  constructor <;> simp [G.addBox] <;> omega
theorem moveG_eq : (g.addBox st.bx.length B C).ρ st.bx.length = B ∧ (g.addBox st.bx.length B C).κ st.bx.length = C := by
  constructor <;> simp [G.addBox]
theorem move_blk (hb : st.bx[r]? = some (.rows es0 rs0)) {x : Ow} {b : Nat} (h : Blk (g.addBox st.bx.length B C) lam (st.moveBox r (.rows es rs)) x b) : (x = .box st.bx.length ∧ b = B) ∨ (Blk g lam st x b ∧ x ≠ .box r) := by
  have hr := (List.getElem?_eq_some_iff.1 hb).1
  cases x with
  | loc t => exact .inr ⟨h, by simp⟩
  | tok id => exact .inr ⟨h, by simp⟩
  | box x =>
    obtain ⟨h1, h2⟩ := h
    cases hbx : (st.moveBox r (.rows es rs)).bx[x]? with
    | none => rw [hbx] at h1; cases h1
    | some bb =>
      rw [hbx] at h1
      rcases move_some hr hbx with ⟨k1, k2, k3⟩ | ⟨k1, k2⟩ | ⟨k1, k2⟩
      · rw [(moveG_ne k1).1] at h2
        exact .inr ⟨⟨by rw [k3]; exact h1, h2⟩, by simpa using k2⟩
      · subst k2; cases h1
      · subst k1
        rw [moveG_eq.1] at h2
        exact .inl ⟨rfl, h2.symm⟩
theorem move_keeps (hs : Sim w O g lam tmps st) (hb : st.bx[r]? = some (.rows es0 rs0)) (hp : Past w w' fun b => b = g.ρ r) (hB : B = g.ρ r ∨ w.heap.size ≤ B) :
    Keeps (cellOf w) (Stab O g lam st) st.bx st.tk g (cellOf w') (Stab O (g.addBox st.bx.length B C) lam (st.moveBox r (.rows es rs))) (st.moveBox r (.rows es rs)).bx (st.moveBox r (.rows es rs)).tk (g.addBox st.bx.length B C) := by
  have hr := (List.getElem?_eq_some_iff.1 hb).1
  have hown : Blk g lam st (.box r) (g.ρ r) := ⟨by rw [hb]; trivial, rfl⟩
  refine ⟨fun b off v hS hc => ⟨?_, hS.1, fun x hx => ?_, fun t ht => hS.2.2.1 t ht, hS.2.2.2⟩, by simp [St.moveBox], fun x es' rs' hx h => ?_, fun x hx => (moveG_ne hx).1, Nat.le_refl _, fun id es' n _ h => ⟨n, h, Nat.le_refl _, fun _ => ⟨rfl, rfl⟩⟩⟩
  · have hlt := cellOf_lt hc
    rw [cellOf_block (hp.old b hlt fun e => hS.2.1 r (by rw [e]; exact hown))]
    exact hc
  · have hlt := cellOf_lt hc
    rcases move_blk hb hx with ⟨_, e⟩ | ⟨h1, _⟩
    · rcases hB with hB | hB
      · exact hS.2.1 r (by rw [e, hB]; exact hown)
      · omega
    · exact hS.2.1 x h1
  · rcases move_some hr h with ⟨k1, k2, k3⟩ | ⟨k1, k2⟩ | ⟨k1, k2⟩
    · exact ⟨rs', k3, rfl, (moveG_ne k1).1, (moveG_ne k1).2⟩
    · cases k2
    · omega
theorem Fr.move (hs : Sim w O g lam tmps st) (hlr : lo ≤ r) (hlo : lo ≤ st.bx.length) (hb : st.bx[r]? = some (.rows es0 rs0)) (hp : Past w w' fun b => b = g.ρ r) (hB : B = g.ρ r ∨ w.heap.size ≤ B) :
    Fr lo tlo w O g lam st w' (g.addBox st.bx.length B C) lam (st.moveBox r (.rows es rs)) := by
  have hown : Blk g lam st (.box r) (g.ρ r) := ⟨by rw [hb]; trivial, rfl⟩
  refine ⟨hp.os, hp.tape, hp.output, hp.size, move_keeps hs hb hp hB, fun b hlt hl => hp.old b hlt fun e => ?_, fun b hlt hl x hx => ?_, fun x hx => ⟨?_, moveG_ne (by omega)⟩, fun _ _ => ⟨rfl, rfl, rfl⟩⟩
  · have := hl (.box r) (by rw [e]; exact hown)
    simp only [Low] at this
    omega
  · rcases move_blk hb hx with ⟨_, e⟩ | ⟨h1, _⟩
    · rcases hB with hB | hB
      · have := hl (.box r) (by rw [e, hB]; exact hown)
        simp only [Low] at this
        omega
      · omega
    · exact hl x h1
  · simp only [St.moveBox]
    rw [List.getElem?_append_left (by simp; omega), List.getElem?_set, if_neg (by omega)]
theorem Sim.move (hs : Sim w O g lam tmps st) (hb : st.bx[r]? = some (.rows es0 rs0)) (hp : Past w w' fun b => b = g.ρ r) (hB : B = g.ρ r ∨ w.heap.size ≤ B) (hl : Laid w w' O g lam st B es C rs) :
    Sim w' O (g.addBox st.bx.length B C) lam tmps (st.moveBox r (.rows es rs)) := by
  have hr := (List.getElem?_eq_some_iff.1 hb).1
  have hown : Blk g lam st (.box r) (g.ρ r) := ⟨by rw [hb]; trivial, rfl⟩
  have hk := move_keeps (C := C) (es := es) (rs := rs) hs hb hp hB
  have hlt := hl.lt
  have hne : ∀ x b, Blk g lam st x b → x ≠ .box r → b ≠ g.ρ r := fun x b hx hxr e => hxr (hs.inj x (.box r) b hx (by rw [e]; exact hown))
  have hB2 : ∀ x, Blk g lam st x B → x ≠ .box r → False := by
    intro x hx hxr
    rcases hB with hB | hB
    · exact hne x B hx hxr hB
    · have := (hs.own x B hx).1; omega
  refine ⟨hs.size, fun t ht => (hs.slot t ht).keeps hk (fun _ _ => rfl) (fun u off _ cs h => ⟨⟨cs, h⟩, rfl⟩), fun x es' rs' h => ?_, fun t cs h => ?_, fun id es' n h b hbb => ?_, fun x es' h => ?_, fun x y b hx hy => ?_, fun x b hx => ?_, fun b h => Nat.lt_of_lt_of_le (hs.out b h) hp.size⟩
  · rcases move_some hr h with ⟨k1, k2, k3⟩ | ⟨k1, k2⟩ | ⟨k1, k2⟩
    · rw [(moveG_ne k1).1, (moveG_ne k1).2]
      have hbl : Blk g lam st (.box x) (g.ρ x) := ⟨by rw [k3]; trivial, rfl⟩
      exact (hs.box x es' rs' k3).keeps hk (hp.old _ (hs.own _ _ hbl).1 (hne _ _ hbl (by simpa using k2)))
    · cases k2
    · subst k1
      injection k2 with k2 k3
      subst k2
      subst k3
      rw [moveG_eq.1, moveG_eq.2]
      exact hl.rows hk
  · have hbl : Blk g lam st (.loc t) (lam t) := ⟨⟨cs, h⟩, rfl⟩
    exact (hs.loc t cs h).keeps hk (hp.old _ (hs.own _ _ hbl).1 (hne _ _ hbl (by simp)))
  · obtain ⟨cur, e, h1, h2⟩ := hs.tok id es' n h b hbb
    have hbl : Blk g lam st (.tok id) b := ⟨(List.getElem?_eq_some_iff.1 h).1, hbb⟩
    exact ⟨cur, e, (hp.old _ (hs.own _ _ hbl).1 (hne _ _ hbl (by simp))).trans h1, h2⟩
  · rcases move_some hr h with ⟨k1, k2, k3⟩ | ⟨k1, k2⟩ | ⟨k1, k2⟩
    · exact hs.nomap x es' k3
    · cases k2
    · cases k2
  · rcases move_blk hb hx with ⟨rfl, rfl⟩ | ⟨h1, h1'⟩ <;> rcases move_blk hb hy with ⟨rfl, e⟩ | ⟨h2, h2'⟩
    · rfl
    · exact absurd (hB2 y h2 h2') id
    · subst e; exact absurd (hB2 x h1 h1') id
    · exact hs.inj x y b h1 h2
  · rcases move_blk hb hx with ⟨rfl, rfl⟩ | ⟨h1, _⟩
    · refine ⟨hlt, ?_⟩
      rcases hB with hB | hB
      · rw [hB]; exact (hs.own _ _ hown).2
      · intro ho; have := hs.out _ ho; omega
    · exact ⟨Nat.lt_of_lt_of_le (hs.own x b h1).1 hp.size, (hs.own x b h1).2⟩
end move
/-- A token grows. -/
def St.setTok (st : St) (id : Nat) (q : Nat × Nat) : St := { st with tk := st.tk.set id q }
section grow
variable {id es n n' C : Nat} {ob' : Option Nat}
theorem setTok_some {x : Nat} {q p : Nat × Nat} (h : (st.setTok id q).tk[x]? = some p) : (x ≠ id ∧ st.tk[x]? = some p) ∨ (x = id ∧ p = q ∧ id < st.tk.length) := by
  simp only [St.setTok] at h
  rw [List.getElem?_set] at h
  split at h
  · rename_i e
    subst e
    split at h
    · injection h with h
      exact .inr ⟨rfl, h.symm, by assumption⟩
    · cases h
  · rename_i hne
    exact .inl ⟨fun e => hne e.symm, h⟩
theorem tokG_ne {x : Nat} (h : x ≠ id) : (g.addTok id ob' C).τ x = g.τ x ∧ (g.addTok id ob' C).θ x = g.θ x := by constructor <;> simp [G.addTok, h]
theorem tokG_eq : (g.addTok id ob' C).τ id = ob' ∧ (g.addTok id ob' C).θ id = C := by constructor <;> simp [G.addTok]
theorem setTok_blk {q : Nat × Nat} {x : Ow} {b : Nat} (h : Blk (g.addTok id ob' C) lam (st.setTok id q) x b) : (x = .tok id ∧ ob' = some b) ∨ (Blk g lam st x b ∧ x ≠ .tok id) := by
  cases x with
  | loc t => exact .inr ⟨h, by simp⟩
  | box r => exact .inr ⟨h, by simp⟩
  | tok x =>
    obtain ⟨h1, h2⟩ := h
    by_cases e : x = id
    · subst e
      rw [tokG_eq.1] at h2
      exact .inl ⟨rfl, h2⟩
    · rw [(tokG_ne e).1] at h2
      exact .inr ⟨⟨by simpa [St.setTok] using h1, h2⟩, by simpa using e⟩
/-- Where the token's block is kept, it holds what it held; else it is new. -/
structure Grew (w w' : World) (g : G) (id es n n' C : Nat) (ob' : Option Nat) : Prop where
  past : Past w w' fun b => g.τ id = some b
  head : ∀ b off v, g.τ id = some b → off < n * es → cellOf w b off = some v → cellOf w' b off = some v
  le : n ≤ n'
  blk : ∀ b, ob' = some b → g.τ id = some b ∨ w.heap.size ≤ b
  same : n' = n → C = g.θ id ∧ ob' = g.τ id
  laid : ∀ b, ob' = some b → ∃ cur e, w'.heap[b]? = some (.cells cur e (0, 0)) ∧ cur.size = C * es ∧ n' ≤ C
theorem tokGrow_keeps (hs : Sim w O g lam tmps st) (ht : st.tk[id]? = some (es, n)) (h : Grew w w' g id es n n' C ob') :
    Keeps (cellOf w) (Stab O g lam st) st.bx st.tk g (cellOf w') (Stab O (g.addTok id ob' C) lam (st.setTok id (es, n'))) (st.setTok id (es, n')).bx (st.setTok id (es, n')).tk (g.addTok id ob' C) := by
  have hid := (List.getElem?_eq_some_iff.1 ht).1
  refine ⟨fun b off v hS hc => ⟨?_, hS.1, fun r hr => ?_, fun t ht => ?_, fun x es' m h1 h2 => ?_⟩, Nat.le_refl _, fun r es' rs' _ h => ⟨rs', h, rfl, rfl, rfl⟩, fun _ _ => rfl, by simp [St.setTok], fun x es' m hx hq => ?_⟩
  · have hlt := cellOf_lt hc
    by_cases e : g.τ id = some b
    · exact h.head b off v e (hS.2.2.2 id es n ht e) hc
    · rw [cellOf_block (h.past.old b hlt e)]; exact hc
  · rcases setTok_blk hr with ⟨e, _⟩ | ⟨h1, _⟩
    · cases e
    · exact hS.2.1 r h1
  · rcases setTok_blk ht with ⟨e, _⟩ | ⟨h1, _⟩
    · cases e
    · exact hS.2.2.1 t h1
  · rcases setTok_some h1 with ⟨k1, k2⟩ | ⟨k1, k2, _⟩
    · rw [(tokG_ne k1).1] at h2
      exact hS.2.2.2 x es' m k2 h2
    · subst k1
      injection k2 with k2 k3
      subst k2
      subst k3
      rw [tokG_eq.1] at h2
      rcases h.blk b h2 with e | e
      · have := hS.2.2.2 x es' n ht e
        exact Nat.lt_of_lt_of_le this (Nat.mul_le_mul_right _ h.le)
      · have := cellOf_lt hc; omega
  · rcases setTok_some hq with ⟨k1, k2⟩ | ⟨k1, k2, _⟩
    · exact ⟨m, k2, Nat.le_refl _, fun _ => ⟨(tokG_ne k1).2, (tokG_ne k1).1⟩⟩
    · subst k1
      injection k2 with k2 k3
      subst k2
      subst k3
      refine ⟨n, ht, h.le, fun e => ?_⟩
      rw [tokG_eq.1, tokG_eq.2]
      exact h.same e
theorem Fr.tokGrow (hs : Sim w O g lam tmps st) (hlt : tlo ≤ id) (ht : st.tk[id]? = some (es, n)) (h : Grew w w' g id es n n' C ob') : Fr lo tlo w O g lam st w' (g.addTok id ob' C) lam (st.setTok id (es, n')) := by
  have hid := (List.getElem?_eq_some_iff.1 ht).1
  have hown : ∀ b, g.τ id = some b → Blk g lam st (.tok id) b := fun b e => ⟨hid, e⟩
  refine ⟨h.past.os, h.past.tape, h.past.output, h.past.size, tokGrow_keeps hs ht h, fun b hb hl => h.past.old b hb fun e => ?_, fun b hb hl x hx => ?_, fun _ _ => ⟨rfl, rfl, rfl⟩, fun x hx => ⟨?_, (tokG_ne (by omega)).1, (tokG_ne (by omega)).2⟩⟩
  · have := hl _ (hown b e)
    simp only [Low] at this
    omega
  · rcases setTok_blk hx with ⟨e, e2⟩ | ⟨h1, _⟩
    · rcases h.blk b e2 with e3 | e3
      · have := hl _ (hown b e3)
        simp only [Low] at this
        omega
      · omega
    · exact hl x h1
  · simp only [St.setTok]
    rw [List.getElem?_set, if_neg (by omega)]
theorem Sim.tokGrow (hs : Sim w O g lam tmps st) (ht : st.tk[id]? = some (es, n)) (h : Grew w w' g id es n n' C ob') : Sim w' O (g.addTok id ob' C) lam tmps (st.setTok id (es, n')) := by
  have hid := (List.getElem?_eq_some_iff.1 ht).1
  have hown : ∀ b, g.τ id = some b → Blk g lam st (.tok id) b := fun b e => ⟨hid, e⟩
  have hk := tokGrow_keeps hs ht h
  have hne : ∀ x b, Blk g lam st x b → x ≠ .tok id → g.τ id ≠ some b := fun x b hx hxr e => hxr (hs.inj x (.tok id) b hx (hown b e))
  refine ⟨hs.size, fun t ht => (hs.slot t ht).keeps hk (fun _ _ => rfl) (fun u off _ cs h => ⟨⟨cs, h⟩, rfl⟩), fun r es' rs' hb => ?_, fun t cs hl => ?_, fun x es' m hx b hb => ?_, hs.nomap, fun x y b hx hy => ?_, fun x b hx => ?_, fun b ho => Nat.lt_of_lt_of_le (hs.out b ho) h.past.size⟩
  · have hbl : Blk g lam st (.box r) (g.ρ r) := ⟨by rw [show st.bx[r]? = _ from hb]; trivial, rfl⟩
    exact (hs.box r es' rs' hb).keeps hk (h.past.old _ (hs.own _ _ hbl).1 (hne _ _ hbl (by simp)))
  · have hbl : Blk g lam st (.loc t) (lam t) := ⟨⟨cs, hl⟩, rfl⟩
    exact (hs.loc t cs hl).keeps hk (h.past.old _ (hs.own _ _ hbl).1 (hne _ _ hbl (by simp)))
  · rcases setTok_some hx with ⟨k1, k2⟩ | ⟨k1, k2, _⟩
    · rw [(tokG_ne k1).1] at hb
      rw [(tokG_ne k1).2]
      obtain ⟨cur, e, h1, h2⟩ := hs.tok x es' m k2 b hb
      have hbl : Blk g lam st (.tok x) b := ⟨(List.getElem?_eq_some_iff.1 k2).1, hb⟩
      exact ⟨cur, e, (h.past.old _ (hs.own _ _ hbl).1 (hne _ _ hbl (by simpa using k1))).trans h1, h2⟩
    · subst k1
      injection k2 with k2 k3
      subst k2
      subst k3
      rw [tokG_eq.1] at hb
      rw [tokG_eq.2]
      exact h.laid b hb
  · have hB2 : ∀ x b, Blk g lam st x b → x ≠ .tok id → ob' ≠ some b := by
      intro x b hx hxr e
      rcases h.blk b e with e3 | e3
      · exact hne x b hx hxr e3
      · have := (hs.own x b hx).1; omega
    rcases setTok_blk hx with ⟨rfl, e1⟩ | ⟨h1, h1'⟩ <;> rcases setTok_blk hy with ⟨rfl, e2⟩ | ⟨h2, h2'⟩
    · rfl
    · exact absurd e1 (hB2 y b h2 h2')
    · exact absurd e2 (hB2 x b h1 h1')
    · exact hs.inj x y b h1 h2
  · rcases setTok_blk hx with ⟨rfl, e1⟩ | ⟨h1, _⟩
    · obtain ⟨cur, e, q1, _⟩ := h.laid b e1
      refine ⟨(Array.getElem?_eq_some_iff.1 q1).1, ?_⟩
      rcases h.blk b e1 with e3 | e3
      · exact (hs.own _ _ (hown b e3)).2
      · intro ho; have := hs.out _ ho; omega
    · exact ⟨Nat.lt_of_lt_of_le (hs.own x b h1).1 h.past.size, (hs.own x b h1).2⟩
end grow
end app3
end Go.Vi
