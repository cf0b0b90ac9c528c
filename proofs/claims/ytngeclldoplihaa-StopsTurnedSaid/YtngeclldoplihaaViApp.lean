/- Appending: what is read, what the model answers. -/
import Derived.Test.YtngeclldoplihaaViMem4
import Derived.Laws.OwnMore
set_option linter.unusedVariables false
set_option linter.unusedSimpArgs false
namespace Go.Vi
open Go.RowKit
section app
variable {P : Program} {lo tlo : Nat} {o : Oper} {a : Act} {w w' : World} {O : Nat → Prop} {g : G} {lam : Nat → Nat} {st : St} {tmps : Array Value}
theorem rowT_eq {e : TypeId} {q : Nat × Nat} (h : rowT P e = some q) : ∃ i z, P.info? e = some i ∧ i.zero = some z ∧ z.cells.size = q.1 ∧ i.size = q.1 ∧ i.bytes = q.2 ∧ 0 < q.1 ∧ 0 < q.2 := by
  unfold rowT at h
  cases hi : P.info? e with
  | none => rw [hi] at h; cases h
  | some i =>
    rw [hi] at h
    simp only [Option.bind_some] at h
    cases hz : i.zero with
    | none => rw [hz] at h; cases h
    | some z =>
      rw [hz] at h
      simp only [Option.bind_some] at h
      split at h
      · rename_i hc
        injection h with h
        subst h
        exact ⟨i, z, rfl, hz, hc.1, rfl, rfl, hc.2.1, hc.2.2⟩
      · cases h
/-- The cells of a slice that is read as rows. -/
def RowsOf (w : World) (O : Nat → Prop) (g : G) (lam : Nat → Nat) (st : St) (ao : Option Addr) (es : Nat) (rows : List (List V)) : Prop :=
  (0 < rows.length → ∃ b off, ao = some ⟨b, off, none⟩ ∧ ∀ i j (hi : i < rows.length) (hj : j < rows[i].length), ∃ v, cellOf w b (off + (i * es + j)) = some v ∧ FR w O g lam st v rows[i][j]) ∧
  ∀ row ∈ rows, row.length = es ∧ ∀ v ∈ row, v.cell = true
theorem rows_src (hs : Sim w O g lam tmps st) {x : Value} {u : V} {rows : List (List V)} {es : Nat} (hx : FR w O g lam st x u) (hr : rowsOf st u = some rows) (he : ∀ row ∈ rows, row.length = es) :
    ∃ ao cap, x = .slice ao rows.length cap ∧ RowsOf w O g lam st ao es rows := by
  cases u with
  | nils =>
    simp only [rowsOf, Option.some.injEq] at hr
    subst hr
    exact ⟨none, 0, nils_inv hx, fun h => absurd h (by simp), fun r h => absurd h (by simp)⟩
  | sl k es' rows' =>
    simp only [rowsOf, Option.some.injEq] at hr
    subst hr
    obtain ⟨ao, len, cap, cf, rfl, hl, hcap, hrow, hp, ha, hv, hk⟩ := sl_inv hx
    subst hl
    refine ⟨ao, cap, rfl, fun h0 => ?_, fun row hrw => ⟨he row hrw, fun v hvv => pureCell_cell ?_⟩⟩
    · obtain ⟨b, off, rfl, q⟩ := ha h0
      have hes : es' = es := (hrow _ (List.getElem_mem h0)).symm.trans (he _ (List.getElem_mem h0))
      subst hes
      refine ⟨b, off, rfl, fun i j hi hj => ⟨cf i j, (q i j hi ?_).1, hv i j hi hj⟩⟩
      have := he _ (List.getElem_mem hi)
      omega
    · have h1 := List.all_eq_true.1 hp row hrw
      exact List.all_eq_true.1 h1 v hvv
  | ref r off len =>
    simp only [rowsOf] at hr
    obtain ⟨rs, h1, hr⟩ := ob_eq hr
    split at hr
    · rename_i hle
      injection hr with hr
      subst hr
      obtain ⟨ao, cap, rfl, hlt, hcap, ha⟩ := ref_inv hx
      obtain ⟨es', hb⟩ : ∃ es', st.bx[r]? = some (.rows es' rs) := by
        unfold rowsIn at h1
        split at h1
        · rename_i es' rs' e; injection h1 with h1; subst h1; exact ⟨es', e⟩
        · cases h1
      obtain ⟨q1, q2, q3⟩ := ha es' rs hb
      obtain ⟨cur, e, k1, k2, k3, k4, k5⟩ := hs.box r es' rs hb
      have hlen : ((rs.drop off).take len).length = len := by simp; omega
      refine ⟨ao, cap, by rw [hlen], fun h0 => ?_, fun row hrw => ⟨he row hrw, (k4 row (List.mem_of_mem_drop (List.mem_of_mem_take hrw))).2⟩⟩
      rw [hlen] at h0
      have hget : ∀ i (hi : i < ((rs.drop off).take len).length), ((rs.drop off).take len)[i] = rs[off + i]'(by rw [hlen] at hi; omega) := fun i hi => by simp
      have hes : es' = es := by
        have i0 : 0 < ((rs.drop off).take len).length := by omega
        have a1 := he _ (List.getElem_mem i0)
        have a2 := (k4 _ (List.mem_of_mem_drop (List.mem_of_mem_take (List.getElem_mem i0)))).1
        omega
      subst hes
      refine ⟨g.ρ r, off * es', q3 (by omega), fun i j hi hj => ?_⟩
      have hi2 : off + i < rs.length := by rw [hlen] at hi; omega
      have hj2 : j < rs[off + i].length := by rw [← hget i hi]; exact hj
      obtain ⟨c, c1, c2⟩ := k5 (off + i) j hi2 hj2
      refine ⟨c, ?_, ?_⟩
      · unfold cellOf
        rw [cell_block k1, ← c1]
        congr 1
        rw [Nat.add_mul]
        omega
      · have e2 : ((rs.drop off).take len)[i][j] = rs[off + i][j] := by simp
        rw [e2]
        exact c2
    · cases hr
  | _ => cases hr
/-- The values of rows that are read. -/
def readRows (w : World) (b off n : Nat) : List Value := List.ofFn (n := n) fun k => (cellOf w b (off + k)).getD undef
theorem rows_index {rows : List (List V)} {es k : Nat} (hrow : ∀ row ∈ rows, row.length = es) (hk : k < rows.length * es) : ∃ (i : Nat) (j : Nat) (hi : i < rows.length) (hj : j < rows[i].length), k = i * es + j := by
  have h0 : 0 < es := by
    rcases Nat.eq_zero_or_pos es with h | h
    · subst h; simp at hk
    · exact h
  have hi : k / es < rows.length := (Nat.div_lt_iff_lt_mul h0).2 hk
  refine ⟨k / es, k % es, hi, ?_, ?_⟩
  · rw [hrow _ (List.getElem_mem hi)]; exact Nat.mod_lt _ h0
  · have := Nat.div_add_mod k es
    rw [Nat.mul_comm] at this
    exact this.symm
theorem RowsOf.read {es : Nat} {rows : List (List V)} {b off : Nat} (h : RowsOf w O g lam st (some ⟨b, off, none⟩) es rows) :
    (∀ k, k < rows.length * es → ∃ v, cellOf w b (off + k) = some v ∧ v.oneCell' = true) ∧ (readRows w b off (rows.length * es)).length = rows.length * es ∧
    (∀ j u, (readRows w b off (rows.length * es))[j]? = some u → w.cell? ((⟨b, off, none⟩ : Addr).add j) = some u) ∧ (∀ u ∈ readRows w b off (rows.length * es), u.oneCell' = true) ∧
    ∀ i j (hi : i < rows.length) (hj : j < rows[i].length), ∃ c, (readRows w b off (rows.length * es))[i * es + j]? = some c ∧ FR w O g lam st c rows[i][j] := by
  obtain ⟨h1, h2⟩ := h
  have hall : ∀ i j (hi : i < rows.length) (hj : j < rows[i].length), ∃ v, cellOf w b (off + (i * es + j)) = some v ∧ FR w O g lam st v rows[i][j] := by
    intro i j hi hj
    obtain ⟨b', off', e, q⟩ := h1 (by omega)
    injection e with e
    injection e with e1 e2
    subst e1
    subst e2
    exact q i j hi hj
  have hcell : ∀ k, k < rows.length * es → ∃ v, cellOf w b (off + k) = some v ∧ v.oneCell' = true := by
    intro k hk
    obtain ⟨i, j, hi, hj, rfl⟩ := rows_index (fun r hr => (h2 r hr).1) hk
    obtain ⟨v, q1, q2⟩ := hall i j hi hj
    exact ⟨v, q1, (cell_one q2 ((h2 _ (List.getElem_mem hi)).2 _ (List.getElem_mem hj))).1⟩
  have hlen : (readRows w b off (rows.length * es)).length = rows.length * es := by simp [readRows]
  have hget : ∀ k, k < rows.length * es → (readRows w b off (rows.length * es))[k]? = some ((cellOf w b (off + k)).getD undef) := by
    intro k hk
    rw [List.getElem?_eq_getElem (by omega)]
    simp [readRows]
  refine ⟨hcell, hlen, fun j u hu => ?_, fun u hu => ?_, fun i j hi hj => ?_⟩
  · have hj : j < rows.length * es := by have := (List.getElem?_eq_some_iff.1 hu).1; omega
    rw [hget j hj] at hu
    obtain ⟨v, q1, _⟩ := hcell j hj
    rw [q1] at hu
    injection hu with hu
    subst hu
    rw [addr_add rfl]
    exact q1
  · obtain ⟨k, hk, rfl⟩ := List.getElem_of_mem hu
    have hk' : k < rows.length * es := by omega
    have := hget k hk'
    rw [List.getElem?_eq_getElem hk] at this
    injection this with this
    rw [this]
    obtain ⟨v, q1, q2⟩ := hcell k hk'
    rw [q1]
    exact q2
  · have hij : i * es + j < rows.length * es := by
      have h3 := (h2 _ (List.getElem_mem hi)).1
      have : (i + 1) * es ≤ rows.length * es := Nat.mul_le_mul_right _ hi
      rw [Nat.add_mul] at this
      omega
    obtain ⟨v, q1, q2⟩ := hall i j hi hj
    exact ⟨v, by rw [hget _ hij, q1]; rfl, q2⟩
/-- The model's answer where nothing is appended. -/
theorem run_append_zero {t ty e : TypeId} {i : TypeInfo} (ht : P.underlying t = some (.slice e)) (hi : P.info? e = some i) {base xa : Option Addr} {n cap c : Nat} (hn : n ≤ cap) :
    (Builtin.append_ #[t, t] ty #[.slice base n cap, .slice xa 0 c]).run P w = .ok (.slice base n cap) w := by
  cases base <;> cases xa <;> simp [Builtin.append_, run_underlying ht, sizeOf, typeInfo, hi, Builtin.lenOf, Builtin.firstCells, hn, storeCells, loadCells, loadCellsFrom]
end app
end Go.Vi
