/- Appending to a token's slice and to a box. -/
import Derived.Test.YtngeclldoplihaaViApp4
set_option linter.unusedVariables false
set_option linter.unusedSimpArgs false
namespace Go.Vi
open Go.RowKit
section app5
variable {P : Program} {lo tlo : Nat} {o : Oper} {a : Act} {w w' : World} {O : Nat → Prop} {g : G} {lam : Nat → Nat} {st : St} {tmps : Array Value}
theorem tok_does (hs : Sim w O g lam a.tmps st) {t e : TypeId} {q : Nat × Nat} (ht : P.underlying t = some (.slice e)) (hq : rowT P e = some q) {s x : Value} {rows news : List (List V)} {id : Nat}
    (htok : FR w O g lam st s (.sl (.tok id) q.1 rows)) (hid : st.tk[id]? = some (q.1, rows.length)) (htl : tlo ≤ id) (hpn : pureRows news = true) {xa : Option Addr} {c : Nat} (hx : x = .slice xa news.length c) (hn : RowsOf w O g lam st xa q.1 news) (hb : (rows.length + news.length) * q.2 ≤ appLim)
    (hr : ∀ r w', (Builtin.append_ #[t, t] o.type #[s, x]).run P w = .ok r w' → (execOp a.eval o).run P w = .ok (.value r) w') :
    Does P lo tlo o a w O g lam st (.sl (.tok id) q.1 (rows ++ news)) (st.setTok id (q.1, (rows ++ news).length)) := by
  obtain ⟨i, z, hi, hz, hzs, hsz, hby, hs0, hb0⟩ := rowT_eq hq
  obtain ⟨ao, cap, rfl, hR, hp, hcap, hkk⟩ := sl_rows hs htok
  obtain ⟨hlt, hkk⟩ := hkk
  obtain ⟨_, _, hkk⟩ := hkk _ _ hid
  obtain ⟨hth, htn, hts⟩ := hkk rfl
  subst hx
  have hlen : (rows ++ news).length = rows.length + news.length := List.length_append
  have hall : ∀ row ∈ rows ++ news, row.length = q.1 ∧ ∀ v ∈ row, v.cell = true := fun row hr => by
    rcases List.mem_append.1 hr with h | h
    · exact hR.2 row h
    · exact hn.2 row h
  rcases Nat.eq_zero_or_pos news.length with hm | hm
  · have hn0 : news = [] := List.eq_nil_of_length_eq_zero hm
    subst hn0
    have hrun := run_append_zero (P := P) (w := w) (ty := o.type) ht hi (base := ao) (xa := xa) (c := c) hcap
    have hG : Grew w w g id q.1 rows.length (rows ++ []).length (g.θ id) (g.τ id) :=
      ⟨Past.same w _, fun _ _ _ _ _ h => h, by simp, fun b h => .inl h, fun _ => ⟨rfl, rfl⟩, fun b h => by
        obtain ⟨cur, e', k1, k2, k3⟩ := hs.tok id _ _ hid b h
        exact ⟨cur, e', k1, k2, by simpa using k3⟩⟩
    refine Does.after (hr _ _ hrun) (Fr.tokGrow hs htl hid hG) (Sim.tokGrow hs hid hG) ?_
    simp only [List.append_nil]
    exact htok.keeps (by simpa using tokGrow_keeps hs hid hG)
  · have hfin : ∀ {B C : Nat} {w' : World}, Grew w w' g id q.1 rows.length (rows ++ news).length C (some B) → Laid w w' O g lam st B q.1 C (rows ++ news) →
        (Builtin.append_ #[t, t] o.type #[.slice ao rows.length cap, .slice xa news.length c]).run P w = .ok (.slice (some ⟨B, 0, none⟩) (rows.length + news.length) C) w' → Does P lo tlo o a w O g lam st (.sl (.tok id) q.1 (rows ++ news)) (st.setTok id (q.1, (rows ++ news).length)) := by
      intro B C w' hG hL hrun
      have hS := Sim.tokGrow hs hid hG
      have hget : (st.setTok id (q.1, (rows ++ news).length)).tk[id]? = some (q.1, (rows ++ news).length) := by simp [St.setTok, hlt]
      refine Does.after (hr _ _ hrun) (Fr.tokGrow hs htl hid hG) hS ?_
      have hRA := hL.rows (tokGrow_keeps hs hid hG)
      have := sl_of_rows (k := .tok id) hRA (pureRows_append hp hpn) (fun k hk => tok_stab hS hget tokG_eq.1 hk) ?_
      · rw [← hlen]; exact this
      · refine ⟨by simp [St.setTok, hlt], fun e' n' hq' => ?_⟩
        rw [hget] at hq'
        injection hq' with hq'
        injection hq' with k1 k2
        subst k1
        subst k2
        refine ⟨Nat.le_refl _, rfl, fun _ => ⟨tokG_eq.2.symm, fun e => ?_, fun b e => ?_⟩⟩
        · rw [tokG_eq.1] at e; cases e
        · rw [tokG_eq.1] at e; injection e with e; rw [e]
    by_cases hroom : rows.length + news.length ≤ cap
    · cases hτ : g.τ id with
      | none => have := htn hτ; omega
      | some B =>
        have hao := hts B hτ
        subst hao
        obtain ⟨xb, xo, rfl, _⟩ := hn.1 hm
        obtain ⟨n1, n2, n3, n4, n5⟩ := hn.read
        obtain ⟨m1, m2, m3, m4, m5⟩ := hR.read
        obtain ⟨cur, e', k1, k2, k3⟩ := hs.tok id _ _ hid B hτ
        have hfit : rows.length * q.1 + (readRows w xb xo (news.length * q.1)).length ≤ cur.size := by
          rw [n2, k2, ← Nat.add_mul]; exact Nat.mul_le_mul_right _ (by omega)
        have hrun := run_append_in (P := P) (ty := o.type) (c := c) ht hi k1 (by rw [n2, hsz]) n3 n4 hroom (by rw [hsz]; exact hfit)
        rw [hsz] at hrun
        have hcur : ∀ i j (hi : i < rows.length) (hj : j < rows[i].length), ∃ c, cur[i * q.1 + j]? = some c ∧ FR w O g lam st c rows[i][j] := by
          intro i j hi hj
          obtain ⟨b, off, e1, q1⟩ := hR.1 (by omega)
          injection e1 with e1
          injection e1 with e1 e2
          subst e1
          subst e2
          obtain ⟨v, q2, q3⟩ := q1 i j hi hj
          refine ⟨v, ?_, q3⟩
          unfold cellOf at q2
          rw [cell_block k1, Nat.zero_add] at q2
          exact q2
        have hL := rows_join (C := g.θ id) k1 k2 n2 (by omega) hall hcur n5
        refine hfin (C := cap) ⟨Past.row hτ, fun b off v e1 e2 e3 => ?_, by omega, fun b e => by injection e with e; subst e; exact .inl hτ, fun e => by omega, fun b e => ?_⟩ (by rw [hth]; exact hL) hrun
        · rw [hτ] at e1
          injection e1 with e1
          subst e1
          unfold cellOf at e3 ⊢
          rw [cell_block k1] at e3
          rw [cell_block (setRow_heap w _ cur _ e' _ k1), wrote_get hfit, if_neg (by omega)]
          exact e3
        · injection e with e
          subst e
          exact ⟨_, e', setRow_heap w _ cur _ e' _ k1, by rw [wrote_size hfit, k2, hth], by omega⟩
    · have hnone : ao = none → cap = 0 := by
        intro e
        subst e
        cases hτ : g.τ id with
        | some B => have := hts B hτ; cases this
        | none =>
          have h1 := htn hτ
          rcases Nat.eq_zero_or_pos rows.length with h0 | h0
          · omega
          · obtain ⟨b, off, e2, _⟩ := hR.1 h0
            cases e2
      obtain ⟨C, cells, hrun, hC, hL⟩ := run_append_new (w := w) (ty := o.type) (cap := cap) (c := c) ht hq hR hn hnone hcap (by omega) hb
      · have hg := Grow.drew w (.cells cells e (0, 0))
        refine hfin ⟨Past.grow hg, fun b off v _ _ h => hg.cell h, by omega, fun b e => by injection e with e; subst e; exact .inr (Nat.le_refl _), fun e => by omega, fun b e => ?_⟩ hL hrun
        injection e with e
        subst e
        obtain ⟨cur, e', k1, k2, k3, _⟩ := hL
        exact ⟨cur, e', k1, k2, k3⟩
theorem ref_does (hs : Sim w O g lam a.tmps st) (hlo : lo ≤ st.bx.length) {t e : TypeId} {q : Nat × Nat} (ht : P.underlying t = some (.slice e)) (hq : rowT P e = some q) {s x : Value} {rows news : List (List V)} {r : Nat}
    (href : FR w O g lam st s (.ref r 0 rows.length)) (hbx : st.bx[r]? = some (.rows q.1 rows)) (hlr : lo ≤ r) {xa : Option Addr} {c : Nat} (hx : x = .slice xa news.length c) (hn : RowsOf w O g lam st xa q.1 news) (hb : (rows.length + news.length) * q.2 ≤ appLim)
    (hr : ∀ r w', (Builtin.append_ #[t, t] o.type #[s, x]).run P w = .ok r w' → (execOp a.eval o).run P w = .ok (.value r) w') :
    Does P lo tlo o a w O g lam st (.ref st.bx.length 0 (rows ++ news).length) (st.moveBox r (.rows q.1 (rows ++ news))) := by
  obtain ⟨i, z, hi, hz, hzs, hsz, hby, hs0, hb0⟩ := rowT_eq hq
  have hrl := (List.getElem?_eq_some_iff.1 hbx).1
  have hrow : ∀ row ∈ rows, row.length = q.1 := fun row h => ((hs.box r _ _ hbx).choose_spec.choose_spec.2.2.2.1 row h).1
  obtain ⟨ao, cap, hsv, hR⟩ := rows_src hs href (by simp [rowsOf, ob, rowsIn, hbx]) hrow
  obtain ⟨ao', cap', hsv', _, hcap, ha⟩ := ref_inv href
  rw [hsv] at hsv'
  injection hsv' with e1 e2 e3
  subst e1
  subst e3
  obtain ⟨_, hκ, hadr⟩ := ha _ _ hbx
  rw [Nat.zero_add] at hκ
  subst hsv
  subst hx
  have hlen : (rows ++ news).length = rows.length + news.length := List.length_append
  have hall : ∀ row ∈ rows ++ news, row.length = q.1 ∧ ∀ v ∈ row, v.cell = true := fun row hr => by
    rcases List.mem_append.1 hr with h | h
    · exact hR.2 row h
    · exact hn.2 row h
  obtain ⟨cur, e', k1, k2, k3, k4, k5⟩ := hs.box r _ _ hbx
  have hfin : ∀ {B C : Nat} {w' : World} {ad : Option Addr}, (Past w w' fun b => b = g.ρ r) → (B = g.ρ r ∨ w.heap.size ≤ B) → Laid w w' O g lam st B q.1 C (rows ++ news) → rows.length + news.length ≤ C → (0 < C → ad = some ⟨B, 0, none⟩) →
      (Builtin.append_ #[t, t] o.type #[.slice ao rows.length cap, .slice xa news.length c]).run P w = .ok (.slice ad (rows.length + news.length) C) w' → Does P lo tlo o a w O g lam st (.ref st.bx.length 0 (rows ++ news).length) (st.moveBox r (.rows q.1 (rows ++ news))) := by
    intro B C w' ad hp hB hL hC had hrun
    refine Does.after (hr _ _ hrun) (Fr.move hs hlr hlo hbx hp hB) (Sim.move hs hbx hp hB hL) ?_
    rw [hlen]
    refine .ref _ _ _ _ C (by simp [St.moveBox]) hC fun es rs hbx2 => ?_
    rcases move_some hrl hbx2 with ⟨j1, j2, j3⟩ | ⟨j1, j2⟩ | ⟨j1, j2⟩
    · omega
    · cases j2
    · injection j2 with j2 j3
      subst j2
      subst j3
      refine ⟨by simp, by simp [G.addBox], fun h0 => ?_⟩
      rw [had h0]
      simp [G.addBox]
  rcases Nat.eq_zero_or_pos news.length with hm | hm
  · have hn0 : news = [] := List.eq_nil_of_length_eq_zero hm
    subst hn0
    have hrun := run_append_zero (P := P) (w := w) (ty := o.type) ht hi (base := ao) (xa := xa) (c := c) hcap
    refine hfin (B := g.ρ r) (C := cap) (Past.same w _) (.inl rfl) ?_ hcap (fun h0 => by rw [hadr h0]; simp) hrun
    simp only [List.append_nil]
    rw [hκ]
    exact ⟨cur, e', k1, k2, k3, k4, k5⟩
  · by_cases hroom : rows.length + news.length ≤ cap
    · have hao := hadr (by omega)
      rw [Nat.zero_mul] at hao
      subst hao
      obtain ⟨xb, xo, rfl, _⟩ := hn.1 hm
      obtain ⟨n1, n2, n3, n4, n5⟩ := hn.read
      have hfit : rows.length * q.1 + (readRows w xb xo (news.length * q.1)).length ≤ cur.size := by
        rw [n2, k2, ← Nat.add_mul]; exact Nat.mul_le_mul_right _ (by omega)
      have hrun := run_append_in (P := P) (ty := o.type) (c := c) ht hi k1 (by rw [n2, hsz]) n3 n4 hroom (by rw [hsz]; exact hfit)
      rw [hsz] at hrun
      exact hfin (B := g.ρ r) (C := cap) (Past.row rfl) (.inl rfl) (by rw [hκ]; exact rows_join (C := g.κ r) k1 k2 n2 (by omega) hall k5 n5) hroom (fun _ => rfl) hrun
    · have hnone : ao = none → cap = 0 := by
        intro e
        rcases Nat.eq_zero_or_pos cap with h0 | h0
        · exact h0
        · have := hadr h0
          rw [e] at this
          cases this
      obtain ⟨C, cells, hrun, hC, hL⟩ := run_append_new (w := w) (ty := o.type) (cap := cap) (c := c) ht hq hR hn hnone hcap (by omega) hb
      exact hfin (Past.grow (Grow.drew w _)) (.inr (Nat.le_refl _)) hL hC (fun _ => rfl) hrun
theorem appendV_does (hs : Sim w O g lam a.tmps st) (hlo : lo ≤ st.bx.length) (htlo : tlo ≤ st.tk.length) {asRef : Bool} {t e : TypeId} {q : Nat × Nat} (ht : P.underlying t = some (.slice e)) (h2 : rowT P e = some q) {s : V} {so xo : Operand} {news olds : List (List V)}
    (hsv : FR w O g lam st (a.eval so) s) (h5 : rowsOf st s = some olds) {xa : Option Addr} {c : Nat} (hx : a.eval xo = .slice xa news.length c) (hn : RowsOf w O g lam st xa q.1 news) (hc3 : (olds.length + news.length) * q.2 ≤ appLim) {v : V} {st' : St} (hA : appendV st lo tlo q.1 asRef s news = some (v, st'))
    (hr : ∀ r w', (Builtin.append_ #[t, t] o.type #[a.eval so, a.eval xo]).run P w = .ok r w' → (execOp a.eval o).run P w = .ok (.value r) w') : Does P lo tlo o a w O g lam st v st' := by
  cases s with
  | nils =>
    simp only [appendV] at hA
    simp only [rowsOf, Option.some.injEq] at h5
    subst h5
    rw [nils_inv hsv] at hr
    exact new_does hs hlo htlo ht h2 nils_full hx hn hc3 hA hr
  | sl k es' rows =>
    simp only [rowsOf, Option.some.injEq] at h5
    subst h5
    cases k with
    | frozen => cases hA
    | full =>
      simp only [appendV] at hA
      split at hA
      · rename_i hes
        subst hes
        exact new_does hs hlo htlo ht h2 hsv hx hn hc3 hA hr
      · cases hA
    | tok id =>
      simp only [appendV] at hA
      obtain ⟨p, h6, hB⟩ := ob_eq hA
      clear hA
      split at hB
      · rename_i hcc
        injection hB with hB
        injection hB with h7 h8
        subst h7
        subst h8
        obtain ⟨d1, d2, d3, d4, d5⟩ := hcc
        subst d2
        obtain ⟨p1, p2⟩ := p
        simp only at d3 d4
        subst d3
        subst d4
        exact tok_does hs ht h2 hsv h6 d1 d5 hx hn hc3 hr
      · cases hB
  | ref r off len =>
    simp only [appendV] at hA
    obtain ⟨p, h6, hB⟩ := ob_eq hA
    clear hA
    split at hB
    · rename_i hcc
      obtain ⟨_, d1, d2, d3, d4⟩ := hcc
      injection hB with hB
      injection hB with h7 h8
      subst h7
      subst h8
      have hbx := boxIn_eq h6
      obtain ⟨p1, p2⟩ := p
      simp only at d2 d4 hbx
      subst d2
      subst d3
      subst d4
      have ho : olds = p2 := by
        simp [rowsOf, ob, rowsIn, hbx] at h5
        exact h5.symm
      subst ho
      exact ref_does hs hlo ht h2 hsv hbx d1 hx hn hc3 hr
    · cases hB
  | _ => cases hA
theorem append_does (hs : Sim w O g lam a.tmps st) (hlo : lo ≤ st.bx.length) (htlo : tlo ≤ st.tk.length) {asRef : Bool} {ts : Array TypeId} {xs : Array Operand} {v : V} {st' : St} (ho : o.op = .call { callee := .builtin .append, args := xs, argTypes := ts })
    (h : opAppend P st lo tlo asRef ts.toList xs.toList = some (v, st')) : Does P lo tlo o a w O g lam st v st' := by
  obtain ⟨ts⟩ := ts
  obtain ⟨xs⟩ := xs
  unfold opAppend at h
  split at h
  · rename_i t t2 hts
    simp only at hts
    subst hts
    obtain ⟨e, h1, h⟩ := ob_eq h
    obtain ⟨q, h2, h⟩ := ob_eq h
    obtain ⟨vs, h3, h⟩ := ob_eq h
    match vs, h3, h with
    | [s, x], h3, h =>
      simp only at h
      obtain ⟨news, h4, h⟩ := ob_eq h
      obtain ⟨olds, h5, h⟩ := ob_eq h
      split at h
      · rename_i hc
        have hA := h
        obtain ⟨rfl, hc2, hc3⟩ := hc
        obtain ⟨l1, hh⟩ := evs_FR hs h3
        obtain ⟨so, xo, rfl⟩ : ∃ so xo, xs = [so, xo] := by
          match xs, l1 with
          | [so, xo], _ => exact ⟨so, xo, rfl⟩
        have hsv := hh 0 (by simp)
        have hxv := hh 1 (by simp)
        simp only [List.map_cons, List.map_nil, List.getElem?_cons_zero, List.getElem?_cons_succ, Option.getD_some, List.getElem_cons_zero, List.getElem_cons_succ] at hsv hxv
        have ht := elemIn_eq h1
        have hnrow : ∀ row ∈ news, row.length = q.1 := fun row hr => by
          have := List.all_eq_true.1 hc2 row hr
          simpa using this
        obtain ⟨xa, c, hx, hn⟩ := rows_src hs hxv h4 hnrow
        have hr : ∀ r w', (Builtin.append_ #[t2, t2] o.type #[a.eval so, a.eval xo]).run P w = .ok r w' → (execOp a.eval o).run P w = .ok (.value r) w' := by
          intro r w' hrun
          simp [execOp, ho, resolve, invoke, builtin, hrun]
        exact appendV_does hs hlo htlo ht h2 hsv h5 hx hn hc3 hA hr
      · cases h
  · cases h
end app5
end Go.Vi
