/- A list that is written out; every operation. -/
import Derived.Test.YtngeclldoplihaaViOps5
set_option linter.unusedVariables false
set_option linter.unusedSimpArgs false
namespace Go.Vi
open Go.RowKit
section ops6
variable {P : Program} {lo tlo : Nat} {o : Oper} {a : Act} {w w' : World} {O : Nat → Prop} {g : G} {lam : Nat → Nat} {st : St}
theorem flat_get (z : List V) : ∀ (n i : Nat), (List.replicate n z).flatten[i]? = if i < n * z.length then z[i % z.length]? else none
  | 0, i => by simp
  | n + 1, i => by
    rw [List.replicate_succ, List.flatten_cons]
    by_cases h : i < z.length
    · rw [List.getElem?_append_left h, if_pos (by rw [Nat.add_mul]; omega), Nat.mod_eq_of_lt h]
    · rw [List.getElem?_append_right (by omega), flat_get z n (i - z.length), Nat.add_mul, ← Nat.mod_eq_sub_mod (by omega)]
      by_cases h2 : i - z.length < n * z.length
      · rw [if_pos h2, if_pos (by omega)]
      · rw [if_neg h2, if_neg (by omega)]
theorem flat_length (z : List V) (n : Nat) : (List.replicate n z).flatten.length = n * z.length := by
  induction n with
  | zero => simp
  | succ n ih => rw [List.replicate_succ, List.flatten_cons, List.length_append, ih, Nat.add_mul]; omega
theorem zeros_AR {z : Array Value} {zs : List V} (h : AR w O g lam st z zs) (n : Nat) (h0 : 0 < zs.length) : AR w O g lam st ((Array.range (n * zs.length)).map (z[· % z.size]!)) (List.replicate n zs).flatten := by
  refine ⟨by simp [flat_length], fun v hv => ?_, fun i hi => ?_⟩
  · obtain ⟨l, hl, hvl⟩ := List.mem_flatten.1 hv
    rw [List.eq_of_mem_replicate hl] at hvl
    exact h.2.1 v hvl
  · have hi2 : i < n * zs.length := by rw [flat_length] at hi; exact hi
    have hm : i % zs.length < zs.length := Nat.mod_lt _ h0
    have e1 := flat_get zs n i
    rw [if_pos hi2, List.getElem?_eq_getElem hi, List.getElem?_eq_getElem hm] at e1
    injection e1 with e1
    rw [e1]
    have := h.2.2 (i % zs.length) hm
    have hz : z.size = zs.length := h.1
    have e2 : ((Array.range (n * zs.length)).map (z[· % z.size]!)).getD i undef = z.getD (i % zs.length) undef := by
      have : i % z.size < z.size := by rw [hz]; exact hm
      simp [Array.getD, hi2, hz, hm, getElem!_pos]
    rw [e2]
    exact this
theorem splitRows_length (es : Nat) : ∀ (n : Nat) (cs : List V), (splitRows es n cs).length = n
  | 0, cs => rfl
  | n + 1, cs => by simp [splitRows, splitRows_length es n]
theorem splitRows_get (es : Nat) : ∀ (n : Nat) (cs : List V) (i : Nat), i < n → (splitRows es n cs)[i]? = some ((cs.drop (i * es)).take es)
  | 0, cs, i, h => by omega
  | n + 1, cs, 0, h => by simp [splitRows]
  | n + 1, cs, i + 1, h => by
    simp only [splitRows, List.getElem?_cons_succ]
    rw [splitRows_get es n _ i (by omega), List.drop_drop]
    congr 3
    rw [Nat.add_mul]; omega
theorem split_laid {cells : Array Value} {cs : List V} {n es b : Nat} {e : TypeId} (h : AR w O g lam st cells cs) (hl : cs.length = n * es) (hb : w'.heap[b]? = some (.cells cells e (0, 0))) : Laid w w' O g lam st b es n (splitRows es n cs) := by
  have hget : ∀ i (hi : i < (splitRows es n cs).length), (splitRows es n cs)[i] = (cs.drop (i * es)).take es := by
    intro i hi
    have := splitRows_get es n cs i (by rw [splitRows_length] at hi; exact hi)
    rw [List.getElem?_eq_getElem hi] at this
    injection this
  have hfit : ∀ i, i < n → i * es + es ≤ cs.length := by
    intro i hi
    have : (i + 1) * es ≤ n * es := Nat.mul_le_mul_right _ hi
    rw [Nat.add_mul] at this
    omega
  refine ⟨cells, e, hb, by rw [h.1, hl], Nat.le_of_eq (splitRows_length ..), fun row hr => ?_, fun i j hi hj => ?_⟩
  · obtain ⟨i, hi, rfl⟩ := List.getElem_of_mem hr
    rw [hget i hi]
    have := hfit i (by rw [splitRows_length] at hi; exact hi)
    exact ⟨by simp; omega, fun v hv => h.2.1 v (List.mem_of_mem_drop (List.mem_of_mem_take hv))⟩
  · have hi2 : i < n := by rw [splitRows_length] at hi; exact hi
    have := hfit i hi2
    have hj2 : j < es := by
      have e1 := hget i hi
      have : j < ((cs.drop (i * es)).take es).length := by rw [← e1]; exact hj
      simp at this
      omega
    have hk : i * es + j < cs.length := by omega
    have hk2 : i * es + j < cells.size := by rw [h.1]; exact hk
    refine ⟨cells[i * es + j], by simp [hk2], ?_⟩
    have e2 : (splitRows es n cs)[i][j] = cs[i * es + j] := by
      have e3 : (splitRows es n cs)[i][j]? = ((cs.drop (i * es)).take es)[j]? := by rw [hget i hi]
      rw [List.getElem?_eq_getElem hj, List.getElem?_take, if_pos hj2, List.getElem?_drop, List.getElem?_eq_getElem hk] at e3
      injection e3
    rw [e2]
    have := h.2.2 _ hk
    have e4 : cells.getD (i * es + j) undef = cells[i * es + j] := by simp [Array.getD, hk2]
    rw [e4] at this
    exact this
theorem fresh_stab {tmps : Array Value} (hs : Sim w O g lam tmps st) {B k : Nat} (hB : w.heap.size ≤ B) : Stab O g lam st B k :=
  ⟨fun h => absurd (hs.out B h) (by omega), fun r h => absurd (hs.own _ B h).1 (by omega), fun t h => absurd (hs.own _ B h).1 (by omega), fun id es n h1 h2 => absurd (hs.own (.tok id) B ⟨(List.getElem?_eq_some_iff.1 h1).1, h2⟩).1 (by omega)⟩
theorem lit_does (hs : Sim w O g lam a.tmps st) (hlo : lo ≤ st.bx.length) {asBox : Bool} {t : TypeId} {n : Nat} {parts : Array (Nat × Operand)} {v : V} {st' : St} (ho : o.op = .buildSlice t n parts) (h : opLit P st asBox t n parts.toList = some (v, st')) : Does P lo tlo o a w O g lam st v st' := by
  obtain ⟨e, h1, h⟩ := ob_eq h
  obtain ⟨es, h2, h⟩ := ob_eq h
  obtain ⟨ag, h3, h⟩ := ob_eq h
  obtain ⟨zs, h4, h⟩ := ob_eq h
  obtain ⟨ps, h5, h⟩ := ob_eq h
  split at h
  · rename_i hc
    obtain ⟨c1, c2, c3, c4⟩ := hc
    obtain ⟨cs, h6, h7⟩ := ob_eq h
    clear h
    obtain ⟨i, z, hi, hz, hzc⟩ := zeroIn_eq h4
    have hzA : AR w O g lam st z.cells zs := zero_AR hzc
    have hu := elemIn_eq h1
    have hA0 := zeros_AR hzA n (by omega)
    obtain ⟨cells, k1, k2, k3⟩ := fill_ok hs (place' := fun i => some (i * es, es)) (fun i off m b h => by injection h with h; injection h with e1 e2; injection e2 with e2 e3; rw [e1, e2]) h5 h6 hA0
    rw [flat_length, c4] at k3
    have hsmall : ¬ (n * es > 2 ^ 24) := by
      have : n * es ≤ 4096 * 4096 := Nat.mul_le_mul c1 c3
      omega
    have hrun : (execOp a.eval o).run P w = .ok (.value (.slice (some ⟨w.heap.size, 0, none⟩) n n)) { w with heap := w.heap.push (.cells cells e (0, 0)) } := by
      have e1 : (parts.map fun (i, x) => (i, a.eval x)).toList = parts.toList.map fun (i, x) => (i, a.eval x) := by simp
      by_cases hn0 : n * es = 0
      · have hn : n = 0 := by rcases Nat.mul_eq_zero.1 hn0 with h | h; exact h; omega
        subst hn
        have e2 : (Array.range (0 * es)).map ((#[] : Array Value)[· % (#[] : Array Value).size]!) = (Array.range (0 * zs.length)).map (z.cells[· % z.cells.size]!) := by simp
        simp only [execOp, ho, Instr.buildSlice, Sem.run_bind, run_underlying hu, Result.andThen_ok, run_size h2, if_neg hsmall, if_pos hn0, Sem.run_pure, e1, e2, k1, newRow, run_newObj]
      · have e2 : (Array.range (n * es)).map (z.cells[· % z.cells.size]!) = (Array.range (n * zs.length)).map (z.cells[· % z.cells.size]!) := by rw [c4]
        simp only [execOp, ho, Instr.buildSlice, Sem.run_bind, run_underlying hu, Result.andThen_ok, run_size h2, if_neg hsmall, if_neg hn0, run_zero hi hz, Sem.run_pure, e1, e2, k1, newRow, run_newObj]
    have hg := Grow.alloc w (.cells cells e (0, 0))
    have hL := split_laid (n := n) (es := es) (w' := { w with heap := w.heap.push (.cells cells e (0, 0)) }) (b := w.heap.size) (e := e) k2 k3 (alloc_new w _)
    split at h7
    · injection h7 with h7
      injection h7 with q1 q2
      subst q1
      subst q2
      refine Does.after hrun (Fr.addBox hlo hg (Nat.le_refl _)) (Sim.addBox hs hg (Nat.le_refl _) hL) ?_
      refine .ref _ _ _ _ n (by simp [St.addBox]) (Nat.le_refl _) fun es' rs hbx => ?_
      have hbx' : (st.addBox (.rows es (splitRows es n cs))).bx[st.bx.length]? = some (.rows es' rs) := hbx
      rw [addBox_new] at hbx'
      injection hbx' with hbx'
      injection hbx' with j1 j2
      subst j1
      subst j2
      exact ⟨by rw [splitRows_length]; omega, by simp [G.addBox], fun _ => by simp [G.addBox]⟩
    · split at h7
      · rename_i hpure
        injection h7 with h7
        injection h7 with q1 q2
        subst q1
        subst q2
        refine Does.after hrun (Fr.grow hg) (Sim.grow hs hg) ?_
        have hRA := hL.rows (grow_keeps (O := O) (g := g) (lam := lam) (st := st) hg)
        have := sl_of_rows (k := .full) hRA hpure (fun k _ => fresh_stab hs (Nat.le_refl _)) (by simp only [SKR]; rw [splitRows_length])
        rw [splitRows_length] at this
        exact this
      · cases h7
  · cases h
/-- Every operation that the machine knows. -/
theorem opV_does {E : Env} {fn : FuncId} {rg : Nat} (hs : Sim w O g lam a.tmps st) (hlo : lo ≤ st.bx.length) (htlo : tlo ≤ st.tk.length) {v : V} {st' : St} (h : opV E fn rg lo tlo st o.dst o.op = some (v, st')) : Does E.P lo tlo o a w O g lam st v st' := by
  generalize ho : o.op = op at h
  unfold opV at h
  split at h
  · exact move_does hs (.inl ho) h
  · exact move_does hs (.inr ho) h
  · exact pick_does hs ho h
  · exact alloc_does hs hlo ho h
  · exact box_does hs hlo ho h
  · exact load_does hs ho h
  · exact store_does hs ho h
  · exact nil_does hs ho h
  · exact bin_does hs (fun as bs hb p q hp hq => agg_bin hb hp hq) ho h
  · exact un_does hs ho h
  · exact conv_does hs ho h
  · exact build_does hs ho h
  · exact lit_does hs hlo ho h
  · exact func_does hs ho h
  · exact iface_does hs ho h
  · exact extract_does hs ho h
  · exact fieldAddr_does hs ho h
  · exact field_does hs ho h
  · exact indexAddr_does hs ho h
  · exact index_does hs ho h
  · exact slice_does hs ho h
  · exact len_does hs ho h
  · exact max_does hs ho h
  · exact min_does hs ho h
  · exact append_does hs hlo htlo ho h
  · cases h
end ops6
end Go.Vi
