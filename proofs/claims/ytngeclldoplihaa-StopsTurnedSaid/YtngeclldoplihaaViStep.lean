/- What an operation may do to a frame; operations that only compute. -/
import Derived.Test.YtngeclldoplihaaViSim
import Derived.Laws.Sem
import Derived.Laws.Cells
import Derived.Laws.CopyRow
import Derived.Laws.Entries
import Derived.Laws.AppendOwn
import Derived.ChangeKeysEq
set_option linter.unusedVariables false
set_option linter.unusedSimpArgs false
namespace Go.Vi
open Go.RowKit

def Low (lo tlo : Nat) : Ow → Prop
  | .box r => r < lo
  | .tok id => id < tlo
  | .loc _ => False
/-- From one state of a frame to a later one: what keeps the relations, what has not been touched. -/
structure Fr (lo tlo : Nat) (w : World) (O : Nat → Prop) (g : G) (lam : Nat → Nat) (st : St) (w' : World) (g' : G) (lam' : Nat → Nat) (st' : St) : Prop where
  os : w'.os = w.os
  tape : w'.tape = w.tape
  output : w'.output = w.output
  size : w.heap.size ≤ w'.heap.size
  keep : Keeps (cellOf w) (Stab O g lam st) st.bx st.tk g (cellOf w') (Stab O g' lam' st') st'.bx st'.tk g'
  blk : ∀ b, b < w.heap.size → (∀ x, Blk g lam st x b → Low lo tlo x) → w'.heap[b]? = w.heap[b]?
  low : ∀ b, b < w.heap.size → (∀ x, Blk g lam st x b → Low lo tlo x) → ∀ x, Blk g' lam' st' x b → Low lo tlo x
  lbox : ∀ r, r < lo → st'.bx[r]? = st.bx[r]? ∧ g'.ρ r = g.ρ r ∧ g'.κ r = g.κ r
  ltok : ∀ id, id < tlo → st'.tk[id]? = st.tk[id]? ∧ g'.τ id = g.τ id ∧ g'.θ id = g.θ id
section fr
variable {lo tlo : Nat} {w w' w'' : World} {O : Nat → Prop} {g g' g'' : G} {lam lam' lam'' : Nat → Nat} {st st' st'' : St} {tmps : Array Value}
theorem Fr.refl (lo tlo : Nat) (w : World) (O : Nat → Prop) (g : G) (lam : Nat → Nat) (st : St) : Fr lo tlo w O g lam st w g lam st :=
  ⟨rfl, rfl, rfl, Nat.le_refl _, Keeps.refl .., fun _ _ _ => rfl, fun _ _ h => h, fun _ _ => ⟨rfl, rfl, rfl⟩, fun _ _ => ⟨rfl, rfl, rfl⟩⟩
theorem Fr.trans (h : Fr lo tlo w O g lam st w' g' lam' st') (k : Fr lo tlo w' O g' lam' st' w'' g'' lam'' st'') : Fr lo tlo w O g lam st w'' g'' lam'' st'' :=
  ⟨k.os.trans h.os, k.tape.trans h.tape, k.output.trans h.output, Nat.le_trans h.size k.size, h.keep.trans k.keep,
   fun b hb hx => (k.blk b (Nat.lt_of_lt_of_le hb h.size) (h.low b hb hx)).trans (h.blk b hb hx),
   fun b hb hx => k.low b (Nat.lt_of_lt_of_le hb h.size) (h.low b hb hx),
   fun r hr => ⟨(k.lbox r hr).1.trans (h.lbox r hr).1, (k.lbox r hr).2.1.trans (h.lbox r hr).2.1, (k.lbox r hr).2.2.trans (h.lbox r hr).2.2⟩,
   fun r hr => ⟨(k.ltok r hr).1.trans (h.ltok r hr).1, (k.ltok r hr).2.1.trans (h.ltok r hr).2.1, (k.ltok r hr).2.2.trans (h.ltok r hr).2.2⟩⟩
/-- A slot that gets a value that is no place. -/
theorem blk_put {d : Option Nat} {x : V} (hnl : ∀ cs, x ≠ .loc cs) {y : Ow} {b : Nat} (hy : Blk g lam (st.put d x) y b) : Blk g lam st y b := by
  cases d with
  | none => exact hy
  | some d =>
    cases y with
    | box r => exact hy
    | tok id => exact hy
    | loc t =>
      obtain ⟨⟨cs, hcs⟩, hb⟩ := hy
      simp only [St.put] at hcs
      by_cases hd : d < st.tm.length
      · rw [nth_upd _ _ _ _ hd] at hcs
        split at hcs
        · exact absurd hcs (hnl cs)
        · exact ⟨⟨cs, hcs⟩, hb⟩
      · rw [upd_ge _ _ _ (by omega)] at hcs
        exact ⟨⟨cs, hcs⟩, hb⟩
theorem put_bx {d : Option Nat} {x : V} : (st.put d x).bx = st.bx := by cases d <;> rfl
theorem put_tk {d : Option Nat} {x : V} : (st.put d x).tk = st.tk := by cases d <;> rfl
theorem stab_put {d : Option Nat} {x : V} (hnl : ∀ cs, x ≠ .loc cs) {b o : Nat} (h : Stab O g lam st b o) : Stab O g lam (st.put d x) b o :=
  ⟨h.1, fun r hr => h.2.1 r (blk_put hnl hr), fun t ht => h.2.2.1 t (blk_put hnl ht), by rw [put_tk]; exact h.2.2.2⟩
theorem keeps_put {d : Option Nat} {x : V} (hnl : ∀ cs, x ≠ .loc cs) : Keeps (cellOf w) (Stab O g lam st) st.bx st.tk g (cellOf w) (Stab O g lam (st.put d x)) (st.put d x).bx (st.put d x).tk g :=
  keeps_same put_bx put_tk fun _ _ h => stab_put hnl h
theorem Fr.put {d : Option Nat} {x : V} (hnl : ∀ cs, x ≠ .loc cs) : Fr lo tlo w O g lam st w g lam (st.put d x) :=
  ⟨rfl, rfl, rfl, Nat.le_refl _, keeps_put hnl, fun _ _ _ => rfl, fun b hb h x hx => h x (blk_put hnl hx), fun r _ => ⟨by rw [put_bx], rfl, rfl⟩, fun r _ => ⟨by rw [put_tk], rfl, rfl⟩⟩
def putA (tmps : Array Value) (d : Option Nat) (v : Value) : Array Value :=
  match d with
  | some d => tmps.setIfInBounds d v
  | none => tmps
theorem act_put (a : Act) (d : Option Nat) (v : Value) : a.put d v = { a with tmps := putA a.tmps d v } := by cases d <;> rfl
theorem Sim.putO (hs : Sim w O g lam tmps st) (d : Option Nat) {v : Value} {x : V} (hx : ∀ u, d = some u → TR w O g lam (st.put d x) u v x) (hnl : ∀ cs, x ≠ .loc cs) : Sim w O g lam (putA tmps d v) (st.put d x) := by
  cases d with
  | none => exact hs
  | some d => exact hs.put d (hx d rfl) hnl
theorem TR.not_loc {x : V} {v : Value} (h : FR w O g lam st v x) : ∀ cs, x ≠ .loc cs := by rintro cs rfl; cases h
/-- A value that is known is put into a slot. -/
theorem Sim.putV (hs : Sim w O g lam tmps st) (d : Option Nat) {v : Value} {x : V} (h : FR w O g lam st v x) : Sim w O g lam (putA tmps d v) (st.put d x) :=
  hs.putO d (fun u e => TR.of_FR (h.keeps (keeps_put (TR.not_loc h)))) (TR.not_loc h)
end fr

/-- What is claimed of one operation. -/
def Does (P : Program) (lo tlo : Nat) (o : Oper) (a : Act) (w : World) (O : Nat → Prop) (g : G) (lam : Nat → Nat) (st : St) (v : V) (st' : St) : Prop :=
  ∃ n w' v' g' lam', (execOp a.eval o).run P w = .ok n w' ∧ (n = .value v' ∨ n = .skip ∧ v' = undef) ∧ Fr lo tlo w O g lam st w' g' lam' (st'.put o.dst v) ∧
    Sim w' O g' lam' (putA a.tmps o.dst v') (st'.put o.dst v)
section does
variable {P : Program} {lo tlo : Nat} {o : Oper} {a : Act} {w : World} {O : Nat → Prop} {g : G} {lam : Nat → Nat} {st : St}
/-- An operation that computes a value out of the slots. -/
theorem Does.value (hs : Sim w O g lam a.tmps st) {v : Value} {x : V} (hr : (execOp a.eval o).run P w = .ok (.value v) w) (h : FR w O g lam st v x) : Does P lo tlo o a w O g lam st x st :=
  ⟨_, w, v, g, lam, hr, .inl rfl, Fr.put (TR.not_loc h), hs.putV o.dst h⟩
/-- .. or a place inside a slot's own variable. -/
theorem Does.place (hs : Sim w O g lam a.tmps st) {t off : Nat} {p : Addr} (hp : ∀ cs, nth st.tm t = .loc cs → p = ⟨lam t, off, none⟩) (hr : (execOp a.eval o).run P w = .ok (.value (.pointer (some p))) w) : Does P lo tlo o a w O g lam st (.lptr t off) st := by
  refine ⟨_, w, _, g, lam, hr, .inl rfl, Fr.put (by simp), hs.putO o.dst (fun u e => ⟨p, rfl, fun cs hcs => ?_⟩) (by simp)⟩
  have hb := blk_put (g := g) (lam := lam) (d := o.dst) (x := .lptr t off) (st := st) (by simp) (y := .loc t) (b := lam t) ⟨⟨cs, hcs⟩, rfl⟩
  obtain ⟨⟨cs', h'⟩, _⟩ := hb
  exact hp cs' h'

theorem move_does (hs : Sim w O g lam a.tmps st) {x : Operand} {v : V} {st' : St} (ho : o.op = .move x ∨ o.op = .assign x) (h : opMove st x = some (v, st')) : Does P lo tlo o a w O g lam st v st' := by
  obtain ⟨u, h1, h2⟩ := om_eq h
  injection h2 with h2 h3
  subst h2
  subst h3
  refine Does.value hs ?_ (ev_FR hs h1)
  rcases ho with ho | ho <;> simp [execOp, ho]
theorem FR.bool_inv {v : Value} {b : Bool} (h : FR w O g lam st v (.bool b)) : v = .bool b := by cases h; rfl
theorem FR.int_inv {v : Value} {k : IntKind} {n : Int} (h : FR w O g lam st v (.int k n)) : v = .int k n := by cases h; rfl
theorem FR.str_inv {v : Value} {s : ByteArray} (h : FR w O g lam st v (.str s)) : v = .string s := by cases h; rfl
theorem pick_does (hs : Sim w O g lam a.tmps st) {c x y : Operand} {v : V} {st' : St} (ho : o.op = .pick c x y) (h : opPick st c x y = some (v, st')) : Does P lo tlo o a w O g lam st v st' := by
  obtain ⟨u, h1, h2⟩ := ob_eq h
  obtain ⟨r, h3, h4⟩ := om_eq h2
  injection h4 with h4 h5
  subst h4
  subst h5
  have hc := ev_FR hs h1
  cases u <;> simp [pickB] at h3
  rename_i b
  have hb := FR.bool_inv hc
  cases b
  · simp at h3
    refine Does.value hs ?_ (ev_FR hs h3)
    simp [execOp, ho, hb, asBool]
  · simp at h3
    refine Does.value hs ?_ (ev_FR hs h3)
    simp [execOp, ho, hb, asBool]
theorem un_does (hs : Sim w O g lam a.tmps st) {op : UnOp} {t : TypeId} {x : Operand} {v : V} {st' : St} (ho : o.op = .unOp op t x) (h : opUn st op x = some (v, st')) : Does P lo tlo o a w O g lam st v st' := by
  obtain ⟨u, h1, h2⟩ := ob_eq h
  obtain ⟨r, h3, h4⟩ := om_eq h2
  injection h4 with h4 h5
  subst h4
  subst h5
  have hx := ev_FR hs h1
  unfold unV at h3
  split at h3
  · injection h3 with h3; subst h3
    exact Does.value hs (by simp [execOp, ho, FR.int_inv hx, Op.unary, Op.intArith]) (.int _ _)
  · injection h3 with h3; subst h3
    exact Does.value hs (by simp [execOp, ho, FR.bool_inv hx, Op.unary]) (.bool _)
  · injection h3 with h3; subst h3
    exact Does.value hs (by simp [execOp, ho, FR.int_inv hx, Op.unary, Op.intBits]) (.int _ _)
  · cases h3
theorem conv_does (hs : Sim w O g lam a.tmps st) {s t : TypeId} {x : Operand} {v : V} {st' : St} (ho : o.op = .convert s t x) (h : opConv P st s t x = some (v, st')) : Does P lo tlo o a w O g lam st v st' := by
  obtain ⟨k0, h0, h⟩ := ob_eq h
  have hu : ∀ {t : TypeId} {k : IntKind}, intIn P t = some k → P.underlying t = some (.int k) := by
    intro t k h3
    unfold intIn at h3
    split at h3
    · rename_i k'' hk; injection h3 with h3; subst h3; exact hk
    · cases h3
  obtain ⟨u, h1, h2⟩ := ob_eq h
  cases u with
  | int k n =>
  simp only at h2
  obtain ⟨k', h3, h4⟩ := om_eq h2
  injection h4 with h4 h5
  subst h4
  subst h5
  have hx := FR.int_inv (ev_FR hs h1)
  have ht : P.underlying t = some (.int k') := hu h3
  refine Does.value hs ?_ (.int _ _)
  simp [execOp, ho, hx, convert, run_underlying (hu h0), run_underlying ht, Conv.intToInt]
  | _ => cases h2
theorem extract_does (hs : Sim w O g lam a.tmps st) {x : Operand} {i : Nat} {v : V} {st' : St} (ho : o.op = .extract x i) (h : opExtract st x i = some (v, st')) : Does P lo tlo o a w O g lam st v st' := by
  obtain ⟨u, h1, h2⟩ := ob_eq h
  cases u <;> simp at h2
  rename_i vs
  obtain ⟨r, h3, h4⟩ := om_eq h2
  injection h4 with h4 h5
  subst h4
  subst h5
  have hx := ev_FR hs h1
  cases hx' : a.eval x <;> rw [hx'] at hx <;> cases hx
  rename_i cs hsz hv
  obtain ⟨hi, rfl⟩ := List.getElem?_eq_some_iff.1 h3
  have := hv i hi
  have hci : i < cs.size := by omega
  have e : cs.getD i Go.undef = cs[i] := by simp [Array.getD, hci]
  rw [e] at this
  exact Does.value hs (by simp [execOp, ho, hx', Instr.extract, hci]) this
theorem func_does (hs : Sim w O g lam a.tmps st) {f : Fn} {xs ys : Array Operand} {v : V} {st' : St} (ho : o.op = .makeFunc f xs ys) (h : opFunc st f xs.toList ys.toList = some (v, st')) : Does P lo tlo o a w O g lam st v st' := by
  obtain ⟨us, h1, h2⟩ := ob_eq h
  obtain ⟨vs, h3, h4⟩ := om_eq h2
  injection h4 with h4 h5
  subst h4
  subst h5
  obtain ⟨l1, k1⟩ := evs_FR hs h1
  obtain ⟨l2, k2⟩ := evs_FR hs h3
  refine Does.value hs (v := .func f (xs.map a.eval) (ys.map a.eval)) (by simp [execOp, ho, Instr.makeFunc]) (.func _ _ _ _ _ (by simpa using l1) (by simpa using l2) (fun i hi => ?_) fun i hi => ?_)
  · have := k1 i hi
    simpa [Array.getD_eq_getD_getElem?] using this
  · have := k2 i hi
    simpa [Array.getD_eq_getD_getElem?] using this
theorem iface_does (hs : Sim w O g lam a.tmps st) {t : TypeId} {x : Operand} {v : V} {st' : St} (ho : o.op = .makeInterface t x) (h : opIface P st t x = some (v, st')) : Does P lo tlo o a w O g lam st v st' := by
  obtain ⟨u, h3, h4⟩ := ob_eq h
  split at h4
  · rename_i hc
    injection h4 with h4
    injection h4 with h4 h5
    subst h4
    subst h5
    have hx := ev_FR hs h3
    refine Does.value hs (v := .iface t (a.eval x)) ?_ (.iface _ _ _ hc.2 hx)
    have hc1 := hc.1
    unfold concT at hc1
    cases hd : P.underlying t with
    | none => rw [hd] at hc1; cases hc1
    | some d =>
      rw [hd] at hc1
      simp only [execOp, ho, Instr.makeInterface, Sem.run_bind, run_underlying hd, Result.andThen_ok]
      cases d <;> first | rfl | (cases hc1; done)
  · cases h4
end does
end Go.Vi
