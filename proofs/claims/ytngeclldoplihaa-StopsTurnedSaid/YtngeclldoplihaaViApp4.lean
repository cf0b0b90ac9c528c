/- Appending, whole. -/
import Derived.Test.YtngeclldoplihaaViApp3
set_option linter.unusedVariables false
set_option linter.unusedSimpArgs false
namespace Go.Vi
open Go.RowKit
section app4
variable {P : Program} {lo tlo : Nat} {o : Oper} {a : Act} {w w' : World} {O : Nat → Prop} {g : G} {lam : Nat → Nat} {st : St} {tmps : Array Value}
theorem tok_stab (hs : Sim w O g lam tmps st) {id es n B : Nat} (ht : st.tk[id]? = some (es, n)) (hτ : g.τ id = some B) {k : Nat} (hk : k < n * es) : Stab O g lam st B k := by
  have hown : Blk g lam st (.tok id) B := ⟨(List.getElem?_eq_some_iff.1 ht).1, hτ⟩
  refine ⟨(hs.own _ _ hown).2, fun r hr => ?_, fun t hr => ?_, fun x es' n' h1 h2 => ?_⟩
  · have := hs.inj _ _ _ hr hown; cases this
  · have := hs.inj _ _ _ hr hown; cases this
  · have hx : Blk g lam st (.tok x) B := ⟨(List.getElem?_eq_some_iff.1 h1).1, h2⟩
    have := hs.inj _ _ _ hx hown
    injection this with this
    subst this
    rw [ht] at h1
    injection h1 with h1
    injection h1 with e1 e2
    subst e1
    subst e2
    exact hk
/-- A slice into a block whose cells will stay. -/
theorem sl_of_rows {B es C : Nat} {rs : List (List V)} {k : SK} (h : RowsAt w O g lam st B es C rs) (hp : pureRows rs = true) (hst : ∀ k, k < rs.length * es → Stab O g lam st B k) (hk : SKR st.tk g (some ⟨B, 0, none⟩) rs.length C es rs k) :
    FR w O g lam st (.slice (some ⟨B, 0, none⟩) rs.length C) (.sl k es rs) := by
  obtain ⟨cur, e, h1, h2, h3, h4, h5⟩ := h
  refine .sl k _ _ C es rs (fun i j => cur.getD (i * es + j) undef) rfl h3 (fun row hr => (h4 row hr).1) hp (fun h0 => ⟨B, 0, rfl, fun i j hi hj => ⟨?_, hst _ ?_⟩⟩) (fun i j hi hj => ?_) hk
  · have hrl := (h4 _ (List.getElem_mem hi)).1
    obtain ⟨c, q1, q2⟩ := h5 i j hi (by omega)
    unfold cellOf
    rw [cell_block h1, Nat.zero_add, q1]
    simp [Array.getD_eq_getD_getElem?, q1]
  · have : (i + 1) * es ≤ rs.length * es := Nat.mul_le_mul_right _ hi
    rw [Nat.add_mul] at this
    omega
  · obtain ⟨c, q1, q2⟩ := h5 i j hi hj
    have e : cur.getD (i * es + j) undef = c := by simp [Array.getD_eq_getD_getElem?, q1]
    rw [e]
    exact q2
theorem sl_rekind {x : Value} {k k' : SK} {es : Nat} {rows : List (List V)} (h : FR w O g lam st x (.sl k es rows)) (hk : ∀ ao len cap, x = .slice ao len cap → SKR st.tk g ao len cap es rows k') : FR w O g lam st x (.sl k' es rows) := by
  obtain ⟨ao, len, cap, cf, rfl, hl, hcap, hrow, hp, ha, hv, hkk⟩ := sl_inv h
  exact .sl k' ao len cap es rows cf hl hcap hrow hp ha hv (hk _ _ _ rfl)
theorem nils_full {es : Nat} : FR w O g lam st (.slice none 0 0) (.sl .full es []) :=
  .sl .full none 0 0 es [] (fun _ _ => undef) rfl (Nat.le_refl _) (fun row h => absurd h (by simp)) rfl (fun h => absurd h (by simp)) (fun i j hi => absurd hi (by simp)) rfl
/-- The rows of a slice whose size is known. -/
theorem sl_rows {x : Value} {k : SK} {es : Nat} {rows : List (List V)} (hs : Sim w O g lam tmps st) (h : FR w O g lam st x (.sl k es rows)) : ∃ ao cap, x = .slice ao rows.length cap ∧ RowsOf w O g lam st ao es rows ∧ pureRows rows = true ∧ rows.length ≤ cap ∧ SKR st.tk g ao rows.length cap es rows k := by
  obtain ⟨ao, len, cap, cf, rfl, hl, hcap, hrow, hp, ha, hv, hkk⟩ := sl_inv h
  subst hl
  obtain ⟨ao', cap', e, hR⟩ := rows_src (u := .sl k es rows) hs h rfl hrow
  injection e with e1 e2 e3
  subst e1
  exact ⟨ao, cap, rfl, hR, hp, hcap, hkk⟩
theorem pureRows_append {a b : List (List V)} (ha : pureRows a = true) (hb : pureRows b = true) : pureRows (a ++ b) = true := by
  simp only [pureRows, List.all_append, Bool.and_eq_true] at ha hb ⊢
  exact ⟨ha, hb⟩
theorem rows_join {b es C : Nat} {rows : List (List V)} {cur : Array Value} {e : TypeId} {nv : List Value} {news : List (List V)} (hg : w.heap[b]? = some (.cells cur e (0, 0))) (hsz : cur.size = C * es) (hn : nv.length = news.length * es) (hC : rows.length + news.length ≤ C)
    (hr : ∀ row ∈ rows ++ news, row.length = es ∧ ∀ v ∈ row, v.cell = true)
    (h1 : ∀ i j (hi : i < rows.length) (hj : j < rows[i].length), ∃ c, cur[i * es + j]? = some c ∧ FR w O g lam st c rows[i][j])
    (h2 : ∀ i j (hi : i < news.length) (hj : j < news[i].length), ∃ c, nv[i * es + j]? = some c ∧ FR w O g lam st c news[i][j]) :
    Laid w (w.setRow b (wrote cur (rows.length * es) nv)) O g lam st b es C (rows ++ news) := by
  have hfit : rows.length * es + nv.length ≤ cur.size := by rw [hn, hsz, ← Nat.add_mul]; exact Nat.mul_le_mul_right _ hC
  refine ⟨_, e, setRow_heap w _ cur _ e _ hg, by rw [wrote_size hfit, hsz], by simpa using hC, hr, fun i j hi hj => ?_⟩
  rw [wrote_get hfit]
  by_cases hlt : i < rows.length
  · have e1 : (rows ++ news)[i] = rows[i] := List.getElem_append_left hlt
    have hj1 : j < rows[i].length := by rw [← e1]; exact hj
    have hes := (hr rows[i] (List.mem_append_left _ (List.getElem_mem hlt))).1
    have : (i + 1) * es ≤ rows.length * es := Nat.mul_le_mul_right _ hlt
    rw [Nat.add_mul] at this
    simp only [e1]
    rw [if_neg (by omega)]
    exact h1 i j hlt hj1
  · have hlt2 : i - rows.length < news.length := by simp at hi; omega
    have e1 : (rows ++ news)[i] = news[i - rows.length] := List.getElem_append_right (by omega)
    have hj1 : j < news[i - rows.length].length := by rw [← e1]; exact hj
    have hes := (hr news[i - rows.length] (List.mem_append_right _ (List.getElem_mem hlt2))).1
    have hij : (i - rows.length) * es + j < nv.length := by
      have : (i - rows.length + 1) * es ≤ news.length * es := Nat.mul_le_mul_right _ hlt2
      rw [Nat.add_mul] at this
      omega
    have hsub : i * es + j = rows.length * es + ((i - rows.length) * es + j) := by
      have : i * es = rows.length * es + (i - rows.length) * es := by rw [← Nat.add_mul]; congr 1; omega
      omega
    simp only [e1]
    rw [if_pos (by omega), hsub, show rows.length * es + ((i - rows.length) * es + j) - rows.length * es = (i - rows.length) * es + j by omega]
    exact h2 _ j hlt2 hj1
/-- A slice that is full, or none: what is appended makes a new one. -/
theorem new_does (hs : Sim w O g lam a.tmps st) (hlo : lo ≤ st.bx.length) (htlo : tlo ≤ st.tk.length) {asRef : Bool} {t e : TypeId} {q : Nat × Nat} (ht : P.underlying t = some (.slice e)) (hq : rowT P e = some q) {s x : Value} {rows news : List (List V)} {v : V} {st' : St}
    (hfull : FR w O g lam st s (.sl .full q.1 rows)) {xa : Option Addr} {c : Nat} (hx : x = .slice xa news.length c) (hn : RowsOf w O g lam st xa q.1 news) (hb : (rows.length + news.length) * q.2 ≤ appLim) (h : newRows st q.1 asRef rows news = some (v, st'))
    (hr : ∀ r w', (Builtin.append_ #[t, t] o.type #[s, x]).run P w = .ok r w' → (execOp a.eval o).run P w = .ok (.value r) w') : Does P lo tlo o a w O g lam st v st' := by
  obtain ⟨i, z, hi, hz, hzs, hsz, hby, hs0, hb0⟩ := rowT_eq hq
  obtain ⟨ao, cap, rfl, hR, hp, hcap, hkk⟩ := sl_rows hs hfull
  have hcl : cap = rows.length := hkk
  subst hcl
  subst hx
  have hnone : ao = none → rows.length = 0 := by
    intro e
    rcases Nat.eq_zero_or_pos rows.length with h0 | h0
    · exact h0
    · obtain ⟨b, off, e2, _⟩ := hR.1 h0
      rw [e] at e2; cases e2
  unfold newRows at h
  cases asRef with
  | false =>
    simp only [Bool.false_eq_true, if_false] at h
    split at h
    · rename_i hpn
      injection h with h
      injection h with h1 h2
      subst h1
      subst h2
      rcases Nat.eq_zero_or_pos news.length with hm | hm
      · have hn0 : news = [] := List.eq_nil_of_length_eq_zero hm
        subst hn0
        have hrun := run_append_zero (P := P) (w := w) (ty := o.type) ht hi (base := ao) (xa := xa) (c := c) (Nat.le_refl rows.length)
        have hg : Grow w w := ⟨rfl, rfl, rfl, Nat.le_refl _, fun _ _ => rfl⟩
        have hb' : ∀ b, (none : Option Nat) = some b → w.heap.size ≤ b := fun b e => by cases e
        simp only [List.append_nil]
        refine Does.after (hr _ _ hrun) (Fr.addTok (ob' := none) (c := rows.length) (es := q.1) (n := rows.length) htlo hg hb') (Sim.addTok hs hg hb' (fun b e => by cases e)) ?_
        refine sl_rekind (hfull.keeps (tok_keeps hg hb')) fun ao' len' cap' e => ?_
        injection e with e1 e2 e3
        subst e1
        subst e2
        subst e3
        refine ⟨by simp [St.addTok], fun e' n' hq' => ?_⟩
        have hq2 : (st.addTok (q.1, rows.length)).tk[st.tk.length]? = some (e', n') := hq'
        rw [addTok_new] at hq2
        injection hq2 with hq2
        injection hq2 with k1 k2
        subst k1
        subst k2
        refine ⟨Nat.le_refl _, rfl, fun _ => ⟨?_, fun _ => rfl, fun b e => ?_⟩⟩
        · simp [G.addTok]
        · simp [G.addTok] at e
      · obtain ⟨C, cells, hrun, hC, hL⟩ := run_append_new (w := w) (ty := o.type) (cap := rows.length) (c := c) ht hq hR hn hnone (Nat.le_refl _) (by omega) hb
        have hg := Grow.drew w (.cells cells e (0, 0))
        have hb' : ∀ b, some w.heap.size = some b → w.heap.size ≤ b := fun b e => by injection e with e; omega
        have hS := Sim.addTok (ob' := some w.heap.size) (c := C) (es := q.1) (n := (rows ++ news).length) hs hg hb' (fun b e => by
          injection e with e
          subst e
          obtain ⟨cur, e', k1, k2, k3, _⟩ := hL
          exact ⟨cur, e', k1, k2, k3⟩)
        refine Does.after (hr _ _ hrun) (Fr.addTok htlo hg hb') hS ?_
        have hRA := hL.rows (tok_keeps (O := O) (g := g) (lam := lam) (st := st) (c := C) (es := q.1) (n := (rows ++ news).length) hg hb')
        have := sl_of_rows (k := .tok st.tk.length) hRA (pureRows_append hp hpn) (fun k hk => tok_stab hS addTok_new (by simp [G.addTok]) hk) ?_
        · have e2 : (rows ++ news).length = rows.length + news.length := List.length_append
          rw [← e2]; exact this
        · refine ⟨by simp [St.addTok], fun e' n' hq' => ?_⟩
          rw [addTok_new] at hq'
          injection hq' with hq'
          injection hq' with k1 k2
          subst k1
          subst k2
          refine ⟨Nat.le_refl _, rfl, fun _ => ⟨?_, fun e => ?_, fun b e => ?_⟩⟩
          · simp [G.addTok]
          · simp [G.addTok] at e
          · simp [G.addTok] at e; rw [e]
    · cases h
  | true =>
    simp only [if_true] at h
    split at h
    · cases h
    · rename_i hm0
      injection h with h
      injection h with h1 h2
      subst h1
      subst h2
      obtain ⟨C, cells, hrun, hC, hL⟩ := run_append_new (w := w) (ty := o.type) (cap := rows.length) (c := c) ht hq hR hn hnone (Nat.le_refl _) (by omega) hb
      have hg := Grow.drew w (.cells cells e (0, 0))
      refine Does.after (hr _ _ hrun) (Fr.addBox hlo hg (Nat.le_refl _)) (Sim.addBox hs hg (Nat.le_refl _) hL) ?_
      rw [List.length_append]
      refine .ref _ _ _ _ C (by simp [St.addBox]) hC fun es rs hbx => ?_
      have hbx' : (st.addBox (.rows q.1 (rows ++ news))).bx[st.bx.length]? = some (.rows es rs) := hbx
      rw [addBox_new] at hbx'
      injection hbx' with hbx'
      injection hbx' with k1 k2
      subst k1
      subst k2
      refine ⟨by simp, by simp [G.addBox], fun _ => by simp [G.addBox]⟩
end app4
end Go.Vi
