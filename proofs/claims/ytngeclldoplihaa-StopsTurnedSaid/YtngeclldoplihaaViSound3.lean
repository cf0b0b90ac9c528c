/- A function's end: its results, what is handed back as a plain value. -/
import Derived.Test.YtngeclldoplihaaViSound2
set_option linter.unusedVariables false
set_option linter.unusedSimpArgs false
namespace Go.Vi
open Go.RowKit
section fin
variable {P : Program} {E : Env} {lo tlo : Nat} {a : Act} {w w' : World} {O : Nat → Prop} {g g' : G} {lam lam' : Nat → Nat} {st st' : St} {tmps : Array Value} {bx : List Box} {tk : List (Nat × Nat)}
/-- The frame is left: its own variables are nobody's. -/
theorem drop_blk {x : Ow} {b : Nat} (h : Blk g lam0 (bare st.bx st.tk) x b) : Blk g lam st x b := by
  cases x with
  | box r => exact h
  | tok id => exact h
  | loc t => obtain ⟨⟨cs, h1⟩, _⟩ := h; cases h1
theorem drop_keeps : Keeps (cellOf w) (Stab O g lam st) st.bx st.tk g (cellOf w) (Stab O g lam0 (bare st.bx st.tk)) st.bx st.tk g :=
  ⟨fun b o v hs hc => ⟨hc, hs.1, fun r hr => hs.2.1 r hr, fun t ht => hs.2.2.1 t (drop_blk ht), hs.2.2.2⟩, Nat.le_refl _, fun r es rs _ h => ⟨rs, h, rfl, rfl, rfl⟩, fun _ _ => rfl, Nat.le_refl _, fun id es n _ h => ⟨n, h, Nat.le_refl _, fun _ => ⟨rfl, rfl⟩⟩⟩
theorem Fr.drop : Fr lo tlo w O g lam st w g lam0 (bare st.bx st.tk) :=
  ⟨rfl, rfl, rfl, Nat.le_refl _, drop_keeps, fun _ _ _ => rfl, fun b _ hl x hx => hl x (drop_blk hx), fun _ _ => ⟨rfl, rfl, rfl⟩, fun _ _ => ⟨rfl, rfl, rfl⟩⟩
theorem Sim.drop (hs : Sim w O g lam tmps st) : Sim w O g lam0 #[] (bare st.bx st.tk) :=
  ⟨rfl, fun t ht => (by simp [bare] at ht), fun r es rs h => RowsAt.keeps (st' := bare st.bx st.tk) drop_keeps (hs.box r es rs h) rfl, fun t cs h => (by cases h), hs.tok, hs.nomap, fun x y b hx hy => hs.inj x y b (drop_blk hx) (drop_blk hy), fun x b hx => hs.own x b (drop_blk hx), hs.out⟩
/-- All that is old is low. -/
theorem all_low {x : Ow} {b : Nat} (h : Blk g lam0 (bare bx tk) x b) : Low bx.length tk.length x := by
  cases x with
  | box r =>
    obtain ⟨h1, _⟩ := h
    by_cases hr : r < bx.length
    · exact hr
    · have : (bare bx tk).bx[r]? = none := by simp [bare]; omega
      rw [this] at h1
      cases h1
  | tok id => exact h.1
  | loc t => obtain ⟨⟨cs, h1⟩, _⟩ := h; cases h1
theorem Fr.pure (h : Fr bx.length tk.length w O g lam0 (bare bx tk) w' g' lam' st') : Grow w w' :=
  ⟨h.os, h.tape, h.output, h.size, fun b hb => h.blk b hb fun x hx => all_low hx⟩
theorem pure_stab (h : Fr bx.length tk.length w O g lam0 (bare bx tk) w' g' lam' st') {b off : Nat} (hs : Stab O g' lam' st' b off) : Stab O g lam0 (bare bx tk) b off := by
  refine ⟨hs.1, fun r hr => hs.2.1 r ?_, fun t ht => (by obtain ⟨⟨cs, h1⟩, _⟩ := ht; cases h1), fun id es n h1 h2 => ?_⟩
  · have hlow := all_low hr
    simp only [Low] at hlow
    obtain ⟨k1, k2, _⟩ := h.lbox r hlow
    exact ⟨by rw [k1]; exact hr.1, by rw [k2]; exact hr.2⟩
  · have hlt : id < tk.length := (List.getElem?_eq_some_iff.1 h1).1
    obtain ⟨k1, k2, _⟩ := h.ltok id hlt
    exact hs.2.2.2 id es n (by rw [k1]; exact h1) (by rw [k2]; exact h2)
theorem frozen_rows (hs : Sim w' O g' lam' tmps st') (h : Fr bx.length tk.length w O g lam0 (bare bx tk) w' g' lam' st') {r es off len : Nat} {rs : List (List V)} (hb : st'.bx[r]? = some (.rows es rs)) (hlt : ¬ r < bx.length) {v : Value} (hv : FR w' O g' lam' st' v (.ref r off len))
    (hp : pureRows ((rs.drop off).take len) = true) : FR w' O g lam0 (bare bx tk) v (.sl .frozen es ((rs.drop off).take len)) := by
  obtain ⟨ao, cap, rfl, _, hcap, ha⟩ := ref_inv hv
  obtain ⟨q1, q2, q3⟩ := ha es rs hb
  obtain ⟨cur, e, k1, k2, k3, k4, k5⟩ := hs.box r es rs hb
  have hlen : ((rs.drop off).take len).length = len := by simp; omega
  have hget : ∀ i (hi : i < ((rs.drop off).take len).length), ((rs.drop off).take len)[i] = rs[off + i]'(by rw [hlen] at hi; omega) := fun i hi => by simp
  have hown : Blk g' lam' st' (.box r) (g'.ρ r) := ⟨by rw [hb]; trivial, rfl⟩
  have hst : ∀ k, Stab O g lam0 (bare bx tk) (g'.ρ r) k := by
    intro k
    refine ⟨(hs.own _ _ hown).2, fun r' hr' => ?_, fun t ht => (by obtain ⟨⟨cs, h1⟩, _⟩ := ht; cases h1), fun id es n h1 h2 => ?_⟩
    · have hlow := all_low hr'
      simp only [Low] at hlow
      obtain ⟨j1, j2, _⟩ := h.lbox r' hlow
      have hx : Blk g' lam' st' (.box r') (g'.ρ r) := ⟨by rw [j1]; exact hr'.1, by rw [j2]; exact hr'.2⟩
      have := hs.inj _ _ _ hx hown
      injection this with this
      omega
    · have hid : id < tk.length := (List.getElem?_eq_some_iff.1 h1).1
      obtain ⟨j1, j2, _⟩ := h.ltok id hid
      have hx : Blk g' lam' st' (.tok id) (g'.ρ r) := ⟨(List.getElem?_eq_some_iff.1 (by rw [j1]; exact h1)).1, by rw [j2]; exact h2⟩
      have := hs.inj _ _ _ hx hown
      cases this
  refine .sl .frozen ao len cap es _ (fun i j => cur.getD ((off + i) * es + j) undef) hlen hcap (fun row hr => (k4 row (List.mem_of_mem_drop (List.mem_of_mem_take hr))).1) hp (fun h0 => ⟨_, _, q3 (by omega), fun i j hi hj => ⟨?_, hst _⟩⟩) (fun i j hi hj => ?_) trivial
  · have hi2 : off + i < rs.length := by omega
    have hrl := (k4 _ (List.getElem_mem hi2)).1
    obtain ⟨c, c1, c2⟩ := k5 (off + i) j hi2 (by omega)
    unfold cellOf
    rw [cell_block k1]
    have e1 : off * es + (i * es + j) = (off + i) * es + j := by rw [Nat.add_mul]; omega
    rw [e1, c1]
    simp [Array.getD_eq_getD_getElem?, c1]
  · have hi2 : off + i < rs.length := by rw [hlen] at hi; omega
    have hj2 : j < rs[off + i].length := by rw [← hget i hi]; exact hj
    obtain ⟨c, c1, c2⟩ := k5 (off + i) j hi2 hj2
    have e1 : cur.getD ((off + i) * es + j) undef = c := by simp [Array.getD_eq_getD_getElem?, c1]
    have e2 : ((rs.drop off).take len)[i][j] = rs[off + i][j] := by simp
    have hpc : rs[off + i][j].pureCell = true := by
      have h1 := List.all_eq_true.1 hp _ (List.getElem_mem hi)
      have h2 := List.all_eq_true.1 h1 _ (List.getElem_mem hj)
      rw [e2] at h2
      exact h2
    rw [e1, e2]
    exact VR.plain c2 hpc fun b o v q1 q2 => ⟨q2, pure_stab h q1⟩
theorem freeze_cell (hs : Sim w' O g' lam' tmps st') (h : Fr bx.length tk.length w O g lam0 (bare bx tk) w' g' lam' st') {v : Value} {x u : V} (hv : FR w' O g' lam' st' v x) (hf : freezeCell st' bx.length tk.length x = some u) : FR w' O g lam0 (bare bx tk) v u := by
  have hplain : ∀ {v : Value} {x : V}, FR w' O g' lam' st' v x → x.pureCell = true → FR w' O g lam0 (bare bx tk) v x := fun hv hx => VR.plain hv hx fun b o v q1 q2 => ⟨q2, pure_stab h q1⟩
  unfold freezeCell at hf
  split at hf
  · rename_i r off len
    split at hf
    · rename_i hr
      injection hf with hf
      subst hf
      obtain ⟨ao, cap, rfl, _, hcap, ha⟩ := ref_inv hv
      obtain ⟨k1, k2, k3⟩ := h.lbox r hr
      refine .ref ao r off len cap hr hcap fun es rs hb => ?_
      rw [← k2, ← k3]
      exact ha es rs (by rw [k1]; exact hb)
    · rename_i hr
      obtain ⟨p, h1, hf⟩ := ob_eq hf
      split at hf
      · rename_i hc
        injection hf with hf
        subst hf
        exact frozen_rows hs h (boxIn_eq h1) hr hv hc.2
      · cases hf
  · rename_i id es rows
    obtain ⟨ao, len, cap, cf, rfl, hl, hcap, hrow, hp, ha, hvv, hk⟩ := sl_inv hv
    have hcell : ∀ i j (hi : i < rows.length) (hj : j < rows[i].length), rows[i][j].pureCell = true := by
      intro i j hi hj
      have h1 := List.all_eq_true.1 hp rows[i] (List.getElem_mem hi)
      exact List.all_eq_true.1 h1 _ (List.getElem_mem hj)
    have hbuild : ∀ k, SKR tk g ao len cap es rows k → FR w' O g lam0 (bare bx tk) (.slice ao len cap) (.sl k es rows) := fun k hk =>
      .sl k ao len cap es rows cf hl hcap hrow hp (fun h0 => let ⟨b, o, e, hh⟩ := ha h0; ⟨b, o, e, fun i j hi hj => ⟨(hh i j hi hj).1, pure_stab h (hh i j hi hj).2⟩⟩) (fun i j hi hj => hplain (hvv i j hi hj) (hcell i j hi hj)) hk
    split at hf
    · rename_i hid
      injection hf with hf
      subst hf
      obtain ⟨k1, k2, k3⟩ := h.ltok id hid
      refine hbuild _ ⟨hid, fun e n hq => ?_⟩
      have := hk.2 e n (by rw [k1]; exact hq)
      rw [← k2, ← k3]
      exact this
    · injection hf with hf
      subst hf
      exact hbuild _ trivial
  · rename_i r i off
    split at hf
    · rename_i hr
      injection hf with hf
      subst hf
      obtain ⟨k1, k2, k3⟩ := h.lbox r hr
      cases hv with
      | ptr x _ _ _ hlt ha =>
        refine .ptr x r i off hr fun es rs hb => ?_
        rw [← k2]
        exact ha es rs (by rw [k1]; exact hb)
    · cases hf
  · rename_i r
    split at hf
    · rename_i hr
      injection hf with hf
      subst hf
      obtain ⟨k1, k2, k3⟩ := h.lbox r hr
      cases hv with
      | map _ hlt => rw [k2]; exact .map r hr
    · cases hf
  · rename_i t y
    split at hf
    · rename_i hp
      injection hf with hf
      subst hf
      cases hv with
      | iface _ v' _ hx hvv => exact .iface t v' y hx (hplain hvv hp)
    · cases hf
  · split at hf
    · rename_i hp
      injection hf with hf
      subst hf
      exact hplain hv hp
    · cases hf
theorem freezeCell_cell {x u : V} (h : freezeCell st lo tlo x = some u) : u.cell = true := by
  unfold freezeCell at h
  split at h
  · split at h
    · injection h with h; subst h; rfl
    · obtain ⟨p, _, h⟩ := ob_eq h
      split at h
      · injection h with h; subst h; rfl
      · cases h
  · split at h <;> (injection h with h; subst h; rfl)
  · split at h
    · injection h with h; subst h; rfl
    · cases h
  · split at h
    · injection h with h; subst h; rfl
    · cases h
  · split at h
    · injection h with h; subst h; rfl
    · cases h
  · split at h
    · rename_i hp; injection h with h; subst h; exact pureCell_cell hp
    · cases h
theorem freezeCells_eq : ∀ {xs us : List V}, freezeCells st lo tlo xs = some us → xs.length = us.length ∧ ∀ i (h1 : i < xs.length) (h2 : i < us.length), freezeCell st lo tlo xs[i] = some us[i]
  | [], us, h => by simp only [freezeCells, Option.some.injEq] at h; subst h; exact ⟨rfl, fun i h1 => absurd h1 (by simp)⟩
  | x :: xs, us, h => by
    simp only [freezeCells] at h
    obtain ⟨u, h1, h⟩ := ob_eq h
    obtain ⟨us', h2, rfl⟩ := om_eq h
    obtain ⟨k1, k2⟩ := freezeCells_eq h2
    refine ⟨by simp [k1], fun i i1 i2 => ?_⟩
    cases i with
    | zero => exact h1
    | succ i => exact k2 i (by simpa using i1) (by simpa using i2)
theorem freeze_value (hs : Sim w' O g' lam' tmps st') (h : Fr bx.length tk.length w O g lam0 (bare bx tk) w' g' lam' st') {v : Value} {x u : V} (hv : FR w' O g' lam' st' v x) (hf : freezeV st' bx.length tk.length x = some u) : FR w' O g lam0 (bare bx tk) v u := by
  unfold freezeV at hf
  split at hf
  · obtain ⟨us, h1, rfl⟩ := om_eq hf
    obtain ⟨k1, k2⟩ := freezeCells_eq h1
    cases hv with
    | agg cs _ hsz hcell hvv =>
      refine .agg cs us (by omega) (fun y hy => ?_) fun i hi => freeze_cell hs h (hvv i (by omega)) (k2 i (by omega) hi)
      obtain ⟨i, hi, rfl⟩ := List.getElem_of_mem hy
      exact freezeCell_cell (k2 i (by omega) hi)
  · exact freeze_cell hs h hv hf
theorem freezeVs_eq : ∀ {xs us : List V}, freezeVs st lo tlo xs = some us → xs.length = us.length ∧ ∀ i (h1 : i < xs.length) (h2 : i < us.length), freezeV st lo tlo xs[i] = some us[i]
  | [], us, h => by simp only [freezeVs, Option.some.injEq] at h; subst h; exact ⟨rfl, fun i h1 => absurd h1 (by simp)⟩
  | x :: xs, us, h => by
    simp only [freezeVs] at h
    obtain ⟨u, h1, h⟩ := ob_eq h
    obtain ⟨us', h2, rfl⟩ := om_eq h
    obtain ⟨k1, k2⟩ := freezeVs_eq h2
    refine ⟨by simp [k1], fun i i1 i2 => ?_⟩
    cases i with
    | zero => exact h1
    | succ i => exact k2 i (by simpa using i1) (by simpa using i2)
end fin
end Go.Vi
