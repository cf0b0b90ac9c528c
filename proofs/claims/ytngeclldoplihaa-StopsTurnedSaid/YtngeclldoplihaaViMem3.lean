/- Operations that make memory or write it. -/
import Derived.Test.YtngeclldoplihaaViMem2
set_option linter.unusedVariables false
set_option linter.unusedSimpArgs false
namespace Go.Vi
open Go.RowKit
section mem3
variable {P : Program} {lo tlo : Nat} {o : Oper} {a : Act} {w w' : World} {O : Nat → Prop} {g : G} {lam : Nat → Nat} {st : St}
/-- An operation after which the frame stands, and its value is known. -/
theorem Does.after {g' : G} {lam' : Nat → Nat} {st1 : St} {v' : Value} {v : V} (hr : (execOp a.eval o).run P w = .ok (.value v') w') (hf : Fr lo tlo w O g lam st w' g' lam' st1) (hs : Sim w' O g' lam' a.tmps st1) (hv : FR w' O g' lam' st1 v' v) :
    Does P lo tlo o a w O g lam st v st1 :=
  ⟨_, w', v', g', lam', hr, .inl rfl, hf.trans (Fr.put (TR.not_loc hv)), hs.putV o.dst hv⟩
theorem Does.skip {g' : G} {lam' : Nat → Nat} {st1 : St} (hr : (execOp a.eval o).run P w = .ok .skip w') (hf : Fr lo tlo w O g lam st w' g' lam' st1) (hs : Sim w' O g' lam' a.tmps st1) :
    Does P lo tlo o a w O g lam st .undef st1 :=
  ⟨_, w', undef, g', lam', hr, .inr ⟨rfl, rfl⟩, hf.trans (Fr.put (by simp)), hs.putV o.dst .undef⟩
theorem AR.laid {cells : Array Value} {cs : List V} {b : Nat} {e : TypeId} (h : AR w O g lam st cells cs) (hb : w'.heap[b]? = some (.cells cells e (0, 0))) : Laid w w' O g lam st b cs.length 1 [cs] := by
  refine ⟨cells, e, hb, by simp [h.1], by simp, by simpa using h.2.1, fun i j hi hj => ?_⟩
  have : i = 0 := by simp at hi; omega
  subst this
  simp only [List.getElem_cons_zero] at hj ⊢
  have hj' : j < cells.size := by rw [h.1]; exact hj
  refine ⟨cells[j], by simp [hj'], ?_⟩
  have := h.2.2 j hj
  have e : cells.getD j undef = cells[j] := by simp [Array.getD, hj']
  rw [e] at this
  exact this
/-- A slot that holds no place that is gone. -/
theorem Sim.clear (hs : Sim w O g lam a.tmps st) {d : Nat} (hd : st.tm.length ≤ d) : Sim w O g lam a.tmps { st with tm := st.tm.map (clearL d) } ∧ ∀ lo tlo, Fr lo tlo w O g lam st w g lam { st with tm := st.tm.map (clearL d) } := by
  have hloc : ∀ t cs, nth (st.tm.map (clearL d)) t = .loc cs ↔ nth st.tm t = .loc cs := fun t cs => by rw [nth_map, clearL_loc]
  have hblk : ∀ x b, Blk g lam { st with tm := st.tm.map (clearL d) } x b → Blk g lam st x b := by
    intro x b hx
    cases x with
    | box r => exact hx
    | tok id => exact hx
    | loc t =>
      obtain ⟨⟨cs, h1⟩, h2⟩ := hx
      exact ⟨⟨cs, (hloc t cs).1 h1⟩, h2⟩
  have hk : Keeps (cellOf w) (Stab O g lam st) st.bx st.tk g (cellOf w) (Stab O g lam { st with tm := st.tm.map (clearL d) }) st.bx st.tk g :=
    keeps_same (st' := { st with tm := st.tm.map (clearL d) }) rfl rfl fun b o h => ⟨h.1, fun r hr => h.2.1 r (hblk _ _ hr), fun t ht => h.2.2.1 t (hblk _ _ ht), h.2.2.2⟩
  refine ⟨⟨by simpa using hs.size, fun t ht => ?_, fun r es rs h => RowsAt.keeps (st' := { st with tm := st.tm.map (clearL d) }) hk (hs.box r es rs h) rfl, fun t cs h => RowsAt.keeps (st' := { st with tm := st.tm.map (clearL d) }) hk (hs.loc t cs ((hloc t cs).1 h)) rfl, hs.tok, hs.nomap, fun x y b hx hy => hs.inj x y b (hblk _ _ hx) (hblk _ _ hy), fun x b h => hs.own x b (hblk _ _ h), hs.out⟩,
    fun lo tlo => ⟨rfl, rfl, rfl, Nat.le_refl _, hk, fun _ _ _ => rfl, fun b _ h x hx => h x (hblk _ _ hx), fun _ _ => ⟨rfl, rfl, rfl⟩, fun _ _ => ⟨rfl, rfl, rfl⟩⟩⟩
  simp only at ht ⊢
  have h0 := hs.slot t (by simpa using ht)
  rw [nth_map]
  cases hn : nth st.tm t <;> rw [hn] at h0
  case loc cs => exact h0
  case lptr u off =>
    simp only [clearL]
    split
    · exact VR.junk _
    · obtain ⟨p, hp, h1⟩ := h0
      exact ⟨p, hp, fun cs hcs => h1 cs ((hloc u cs).1 hcs)⟩
  all_goals exact VR.keeps hk h0
/-- A variable is made. -/
theorem var_does (hs : Sim w O g lam a.tmps st) (hlo : lo ≤ st.bx.length) {cells : Array Value} {cs : List V} {e : TypeId} (hA : AR w O g lam st cells cs) {isLoc : Bool} {d : Nat} (hd : o.dst = some d) {v : V} {st' : St} (h : allocV st isLoc d cs = some (v, st'))
    (hr : (execOp a.eval o).run P w = .ok (.value (.pointer (some ⟨w.heap.size, 0, none⟩))) { w with heap := w.heap.push (.cells cells e (0, 0)) }) : Does P lo tlo o a w O g lam st v st' := by
  have hg := Grow.alloc w (.cells cells e (0, 0))
  have hl := hA.laid (w' := { w with heap := w.heap.push (.cells cells e (0, 0)) }) (b := w.heap.size) (e := e) (alloc_new w _)
  unfold allocV at h
  cases isLoc with
  | false =>
    simp only [Bool.false_eq_true, if_false, Option.some.injEq] at h
    injection h with h1 h2
    subst h1
    subst h2
    refine Does.after hr (Fr.addBox hlo hg (Nat.le_refl _)) (Sim.addBox hs hg (Nat.le_refl _) hl) (.ptr _ _ _ _ (by simp [St.addBox]) fun es rs hb => ?_)
    have e1 : (g.addBox st.bx.length w.heap.size 1).ρ st.bx.length = w.heap.size := by simp [G.addBox]
    rw [e1]
    simp
  | true =>
    simp only [if_true, Option.some.injEq] at h
    injection h with h1 h2
    subst h1
    subst h2
    by_cases hlt : d < st.tm.length
    · refine ⟨_, _, _, g, lamSet lam d w.heap.size, hr, .inl rfl, ?_, ?_⟩
      · rw [hd]; exact Fr.addLoc hlt hg (Nat.le_refl _)
      · rw [hd]; exact Sim.addLoc hs hlt hg (Nat.le_refl _) hl
    · have hge : st.tm.length ≤ d := by omega
      obtain ⟨k1, k2⟩ := Sim.clear (a := a) (Sim.grow hs hg) hge
      have e1 : ({ st with tm := st.tm.map (clearL d) } : St).put (some d) (.loc cs) = { st with tm := st.tm.map (clearL d) } := by
        simp only [St.put]; rw [upd_ge _ _ _ (by simpa using hge)]
      have hsz := hs.size
      refine ⟨_, _, _, g, lam, hr, .inl rfl, ?_, ?_⟩
      · rw [hd, e1]
        exact (Fr.grow hg).trans (k2 lo tlo)
      · rw [hd, e1]
        have e2 : putA a.tmps (some d) (.pointer (some ⟨w.heap.size, 0, none⟩)) = a.tmps := by simp [putA, Array.setIfInBounds, show ¬ d < a.tmps.size by omega]
        rw [e2]
        exact k1
theorem alloc_does (hs : Sim w O g lam a.tmps st) (hlo : lo ≤ st.bx.length) {isLoc : Nat → Bool} {t : TypeId} {v : V} {st' : St} (ho : o.op = .alloc t) (h : opAlloc P st isLoc o.dst t = some (v, st')) : Does P lo tlo o a w O g lam st v st' := by
  obtain ⟨zs, h1, h⟩ := ob_eq h
  obtain ⟨d, h2, h⟩ := ob_eq h
  obtain ⟨i, z, hi, hz, hzc⟩ := zeroIn_eq h1
  refine var_does (e := t) hs hlo (zero_AR hzc) h2 h ?_
  simp only [execOp, ho, Instr.alloc, Sem.run_bind, run_zero hi hz, Result.andThen_ok, newVar, newRow, run_newObj, Sem.run_pure]
theorem value_AR {x : Value} {v : V} {n : Nat} {b : Bool} {us : List V} (h : FR w O g lam st x v) (hc : cellsOf b n v = some us) : AR w O g lam st x.cells us := by
  obtain ⟨h1, h2, h3, h4⟩ := value_cells h hc
  exact ⟨by omega, h3, h4⟩
theorem box_does (hs : Sim w O g lam a.tmps st) (hlo : lo ≤ st.bx.length) {isLoc : Nat → Bool} {t : TypeId} {x : Operand} {v : V} {st' : St} (ho : o.op = .box t x) (h : opBox P st isLoc o.dst t x = some (v, st')) : Does P lo tlo o a w O g lam st v st' := by
  obtain ⟨n, h1, h⟩ := ob_eq h
  obtain ⟨b, h2, h⟩ := ob_eq h
  obtain ⟨u, h3, h⟩ := ob_eq h
  obtain ⟨cs, h4, h⟩ := ob_eq h
  obtain ⟨d, h5, h⟩ := ob_eq h
  refine var_does (e := t) hs hlo (value_AR (ev_FR hs h3) h4) h5 h ?_
  simp only [execOp, ho, Instr.box, newVar, newRow, Sem.run_bind, run_newObj, Result.andThen_ok, Sem.run_pure]
end mem3
end Go.Vi
