/- Appending: the model's three answers; a box and a token that move. -/
import Derived.Test.YtngeclldoplihaaViApp
set_option linter.unusedVariables false
set_option linter.unusedSimpArgs false
namespace Go.Vi
open Go.RowKit
section app2
variable {P : Program} {lo tlo : Nat} {o : Oper} {a : Act} {w w' : World} {O : Nat → Prop} {g : G} {lam : Nat → Nat} {st : St} {tmps : Array Value}
theorem Grow.drew (w : World) (o : Obj) : Grow w (w.drew.alloc o) :=
  ⟨rfl, rfl, rfl, by show w.heap.size ≤ (w.heap.push o).size; simp, fun b hb => heap_alloc_old w.drew o b hb⟩
theorem drew_new (w : World) (o : Obj) : (w.drew.alloc o).heap[w.heap.size]? = some o := heap_alloc_new w.drew o
/-- The model's answer where there is room. -/
theorem run_append_in {t ty e e' : TypeId} {i : TypeInfo} (ht : P.underlying t = some (.slice e)) (hi : P.info? e = some i) {B n cap xb xo m c : Nat} {cur : Array Value} (hg : w.heap[B]? = some (.cells cur e' (0, 0))) {nv : List Value}
    (hl : nv.length = m * i.size) (hnews : ∀ j u, nv[j]? = some u → w.cell? ((⟨xb, xo, none⟩ : Addr).add j) = some u) (h1 : ∀ u ∈ nv, u.oneCell' = true) (hroom : n + m ≤ cap) (hfit : n * i.size + nv.length ≤ cur.size) :
    (Builtin.append_ #[t, t] ty #[.slice (some ⟨B, 0, none⟩) n cap, .slice (some ⟨xb, xo, none⟩) m c]).run P w = .ok (.slice (some ⟨B, 0, none⟩) (n + m) cap) (w.setRow B (wrote cur (n * i.size) nv)) := by
  have hf := run_firstCells_some (P := P) w i.size m ⟨xb, xo, none⟩ m c nv hl hnews
  have hst := run_storeCells_at (P := P) B (n * i.size) e' nv 0 cur w hg (by simpa using hfit) h1
  simp only [Nat.add_zero] at hst
  have hadd : (⟨B, 0, none⟩ : Addr).add (n * i.size) = ⟨B, n * i.size, none⟩ := by rw [addr_add rfl]; simp
  simp [Builtin.append_, run_underlying ht, sizeOf, typeInfo, hi, Builtin.lenOf, hroom, hf, hadd, hst, wrote]
theorem laid_app {b es C : Nat} {rows news : List (List V)} {ov nv zs : List Value} {e : TypeId} (hb : w'.heap[b]? = some (.cells (ov ++ nv ++ zs).toArray e (0, 0)))
    (ho : ov.length = rows.length * es) (hn : nv.length = news.length * es) (hz : zs.length = (C - (rows.length + news.length)) * es) (hC : rows.length + news.length ≤ C)
    (hr : ∀ row ∈ rows ++ news, row.length = es ∧ ∀ v ∈ row, v.cell = true)
    (h1 : ∀ i j (hi : i < rows.length) (hj : j < rows[i].length), ∃ c, ov[i * es + j]? = some c ∧ FR w O g lam st c rows[i][j])
    (h2 : ∀ i j (hi : i < news.length) (hj : j < news[i].length), ∃ c, nv[i * es + j]? = some c ∧ FR w O g lam st c news[i][j]) : Laid w w' O g lam st b es C (rows ++ news) := by
  refine ⟨_, e, hb, ?_, by simpa using hC, hr, fun i j hi hj => ?_⟩
  · simp only [List.size_toArray, List.length_append, ho, hn, hz, ← Nat.add_mul]
    congr 1
    omega
  · rw [List.getElem?_toArray]
    by_cases hlt : i < rows.length
    · have e1 : (rows ++ news)[i] = rows[i] := List.getElem_append_left hlt
      have hj1 : j < rows[i].length := by rw [← e1]; exact hj
      have hes := (hr rows[i] (List.mem_append_left _ (List.getElem_mem hlt))).1
      have hij : i * es + j < ov.length := by
        have : (i + 1) * es ≤ rows.length * es := Nat.mul_le_mul_right _ hlt
        rw [Nat.add_mul] at this
        omega
      simp only [e1]
      rw [List.append_assoc, List.getElem?_append_left hij]
      exact h1 i j hlt hj1
    · have hlt2 : i - rows.length < news.length := by simp at hi; omega
      have e1 : (rows ++ news)[i] = news[i - rows.length] := List.getElem_append_right (by omega)
      have hj1 : j < news[i - rows.length].length := by rw [← e1]; exact hj
      have hes := (hr news[i - rows.length] (List.mem_append_right _ (List.getElem_mem hlt2))).1
      have hij : (i - rows.length) * es + j < nv.length := by
        have : (i - rows.length + 1) * es ≤ news.length * es := Nat.mul_le_mul_right _ hlt2
        rw [Nat.add_mul] at this
        omega
      have hsub : i * es + j = rows.length * es + ((i - rows.length) * es + j) := by
        have : i * es = rows.length * es + (i - rows.length) * es := by rw [← Nat.add_mul]; congr 1; omega
        omega
      simp only [e1]
      rw [List.append_assoc, hsub, ← ho, List.getElem?_append_right (by omega), show ov.length + ((i - rows.length) * es + j) - ov.length = (i - rows.length) * es + j by omega, List.getElem?_append_left hij]
      exact h2 _ j hlt2 hj1
/-- The model's answer where there is no room. -/
theorem run_append_new {t ty e : TypeId} {q : Nat × Nat} (ht : P.underlying t = some (.slice e)) (hq : rowT P e = some q) {ao xa : Option Addr} {cap c : Nat} {rows news : List (List V)}
    (h1 : RowsOf w O g lam st ao q.1 rows) (h2 : RowsOf w O g lam st xa q.1 news) (hnone : ao = none → cap = 0) (hcap : rows.length ≤ cap) (hm : cap < rows.length + news.length) (hb : (rows.length + news.length) * q.2 ≤ appLim) :
    ∃ C cells, (Builtin.append_ #[t, t] ty #[.slice ao rows.length cap, .slice xa news.length c]).run P w = .ok (.slice (some ⟨w.heap.size, 0, none⟩) (rows.length + news.length) C) (w.drew.alloc (.cells cells e (0, 0))) ∧
      rows.length + news.length ≤ C ∧ Laid w (w.drew.alloc (.cells cells e (0, 0))) O g lam st w.heap.size q.1 C (rows ++ news) := by
  obtain ⟨i, z, hi, hz, hzs, hsz, hby, hs0, hb0⟩ := rowT_eq hq
  have hle : (rows.length + news.length) * 1 ≤ (rows.length + news.length) * q.2 := Nat.mul_le_mul_left _ hb0
  simp only [appLim] at hb
  have h63 : ((rows.length + news.length : Nat) : Int) ≤ 9223372036854775807 := by omega
  have hm0 : 0 < news.length := by omega
  obtain ⟨xb, xo, rfl, _⟩ := h2.1 hm0
  obtain ⟨n1, n2, n3, n4, n5⟩ := h2.read
  have hall : ∀ row ∈ rows ++ news, row.length = q.1 ∧ ∀ v ∈ row, v.cell = true := fun row hr => by
    rcases List.mem_append.1 hr with h | h
    · exact h1.2 row h
    · exact h2.2 row h
  have hzl : ∀ n, (Builtin.zeroCells z.cells n).toList.length = n * q.1 := fun n => by rw [Array.length_toList, size_zeroCells, hzs]
  by_cases h0 : ao = none ∨ rows.length = 0 ∧ cap = 0 ∧ ao = none
  · have hao : ao = none := by rcases h0 with h | h; exact h; exact h.2.2
    have hc0 := hnone hao
    subst hao
    subst hc0
    have hr0 : rows = [] := List.eq_nil_of_length_eq_zero (by omega)
    subst hr0
    have hr := run_append_nil (P := P) w t ty e i z ht hi hz ⟨xb, xo, none⟩ news.length c (readRows w xb xo (news.length * q.1)) (by rw [n2, hsz]) n3 hm0 (by simpa using h63) (by rw [hby]; simp at hb; omega)
    have ec : (readRows w xb xo (news.length * q.1)).toArray ++ Builtin.zeroCells z.cells (grownCap w news.length 0 e - news.length) = ([] ++ readRows w xb xo (news.length * q.1) ++ (Builtin.zeroCells z.cells (grownCap w news.length 0 e - news.length)).toList).toArray := by
      simp
    rw [ec] at hr
    refine ⟨grownCap w news.length 0 e, _, by simpa using hr, by simpa using grownCap_ge w news.length 0 e, ?_⟩
    exact laid_app (rows := []) (ov := []) (zs := (Builtin.zeroCells z.cells (grownCap w news.length 0 e - news.length)).toList) (drew_new w _) (by simp) n2 (by rw [hzl]; simp) (by simpa using grownCap_ge w news.length 0 e) hall (fun i j hi => absurd hi (by simp)) n5
  · obtain ⟨bb, rfl⟩ : ∃ bb, ao = some bb := by
      cases ao with
      | none => exact absurd (.inl rfl) h0
      | some bb => exact ⟨bb, rfl⟩
    have hfin : ∀ (ov : List Value), ov.length = rows.length * q.1 → (∀ j v, ov[j]? = some v → w.cell? (bb.add j) = some v) → (∀ i j (hi : i < rows.length) (hj : j < rows[i].length), ∃ c, ov[i * q.1 + j]? = some c ∧ FR w O g lam st c rows[i][j]) →
        ∃ C cells, (Builtin.append_ #[t, t] ty #[.slice (some bb) rows.length cap, .slice (some ⟨xb, xo, none⟩) news.length c]).run P w = .ok (.slice (some ⟨w.heap.size, 0, none⟩) (rows.length + news.length) C) (w.drew.alloc (.cells cells e (0, 0))) ∧
          rows.length + news.length ≤ C ∧ Laid w (w.drew.alloc (.cells cells e (0, 0))) O g lam st w.heap.size q.1 C (rows ++ news) := by
      intro ov o1 o2 o3
      have hr := run_append_grow (P := P) w t ty e i z ht hi hz bb rows.length cap ov (by rw [o1, hsz]) o2 ⟨xb, xo, none⟩ news.length c (readRows w xb xo (news.length * q.1)) (by rw [n2, hsz]) n3 hm h63 (by rw [hby]; exact growslice_fits hm hb)
      have ec : ov.toArray ++ (readRows w xb xo (news.length * q.1)).toArray ++ Builtin.zeroCells z.cells (grownCap w (rows.length + news.length) cap e - (rows.length + news.length)) = (ov ++ readRows w xb xo (news.length * q.1) ++ (Builtin.zeroCells z.cells (grownCap w (rows.length + news.length) cap e - (rows.length + news.length))).toList).toArray := by
        simp
      rw [ec] at hr
      exact ⟨_, _, hr, grownCap_ge .., laid_app (drew_new w _) o1 n2 (by rw [hzl]) (grownCap_ge ..) hall o3 n5⟩
    rcases Nat.eq_zero_or_pos rows.length with hr0 | hr0
    · have hr0 : rows = [] := List.eq_nil_of_length_eq_zero hr0
      subst hr0
      exact hfin [] (by simp) (fun j v h => absurd h (by simp)) (fun i j hi => absurd hi (by simp))
    · obtain ⟨rb, ro, e1, _⟩ := h1.1 hr0
      injection e1 with e1
      subst e1
      obtain ⟨m1, m2, m3, m4, m5⟩ := h1.read
      exact hfin _ m2 m3 m5
end app2
end Go.Vi
