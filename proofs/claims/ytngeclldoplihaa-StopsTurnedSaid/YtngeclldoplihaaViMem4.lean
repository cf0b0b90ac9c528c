/- A store into a box or into a slot's own variable. -/
import Derived.Test.YtngeclldoplihaaViMem3
set_option linter.unusedVariables false
set_option linter.unusedSimpArgs false
namespace Go.Vi
open Go.RowKit
section mem4
variable {P : Program} {lo tlo : Nat} {o : Oper} {a : Act} {w w' : World} {O : Nat → Prop} {g : G} {lam : Nat → Nat} {st : St} {tmps : Array Value}
/-- A row's cells after a write. -/
def wrote (cur : Array Value) (k : Nat) (vs : List Value) : Array Value := (cur.toList.take k ++ vs ++ cur.toList.drop (k + vs.length)).toArray
theorem wrote_size {cur : Array Value} {k : Nat} {vs : List Value} (h : k + vs.length ≤ cur.size) : (wrote cur k vs).size = cur.size := by
  simp [wrote]; omega
theorem wrote_get {cur : Array Value} {k : Nat} {vs : List Value} (h : k + vs.length ≤ cur.size) (i : Nat) : (wrote cur k vs)[i]? = if k ≤ i ∧ i < k + vs.length then vs[i - k]? else cur[i]? := by
  unfold wrote
  rw [List.getElem?_toArray]
  by_cases h1 : i < k
  · rw [if_neg (by omega), List.append_assoc, List.getElem?_append_left (by simp; omega), List.getElem?_take, if_pos h1]
    simp
  · by_cases h2 : i < k + vs.length
    · rw [if_pos (by omega), List.getElem?_append_left (by simp; omega), List.getElem?_append_right (by simp; omega)]
      congr 1
      simp; omega
    · rw [if_neg (by omega), List.getElem?_append_right (by simp; omega), List.getElem?_drop]
      simp only [List.length_append, List.length_take, Array.length_toList]
      rw [show k + vs.length + (i - (min k cur.size + vs.length)) = i by omega]
      simp
/-- A block is written that is somebody's own, and holds no token. -/
structure Wrote (w w' : World) (O : Nat → Prop) (g : G) (lam : Nat → Nat) (st st' : St) (x : Ow) (B : Nat) : Prop where
  own : Blk g lam st x B
  os : w'.os = w.os
  tape : w'.tape = w.tape
  output : w'.output = w.output
  size : w'.heap.size = w.heap.size
  old : ∀ b, b ≠ B → w'.heap[b]? = w.heap[b]?
  tk : st'.tk = st.tk
  len : st'.bx.length = st.bx.length
  blk : ∀ y b, Blk g lam st' y b → Blk g lam st y b
  ntok : ∀ id, x ≠ .tok id
  box : ∀ r es rs', st'.bx[r]? = some (.rows es rs') → ∃ rs, st.bx[r]? = some (.rows es rs) ∧ rs'.length = rs.length ∧ (x ≠ .box r → rs' = rs)
theorem Wrote.keeps {st' : St} {x : Ow} {B : Nat} (h : Wrote w w' O g lam st st' x B) : Keeps (cellOf w) (Stab O g lam st) st.bx st.tk g (cellOf w') (Stab O g lam st') st'.bx st'.tk g := by
  have hS : ∀ b off, Stab O g lam st b off → Stab O g lam st' b off := fun b off hs => ⟨hs.1, fun r hr => hs.2.1 r (h.blk _ _ hr), fun t ht => hs.2.2.1 t (h.blk _ _ ht), by rw [h.tk]; exact hs.2.2.2⟩
  refine ⟨fun b off v hs hc => ⟨?_, hS b off hs⟩, Nat.le_of_eq h.len.symm, fun r es rs' hr hb => ?_, fun _ _ => rfl, by rw [h.tk]; exact Nat.le_refl _, fun id es n _ ht => ⟨n, by rw [← h.tk]; exact ht, Nat.le_refl _, fun _ => ⟨rfl, rfl⟩⟩⟩
  · have hne : b ≠ B := by
      rintro rfl
      have ho := h.own
      cases x with
      | box r => exact hs.2.1 r ho
      | loc t => exact hs.2.2.1 t ho
      | tok id => exact h.ntok id rfl
    rw [cellOf_block (h.old b hne)]
    exact hc
  · obtain ⟨rs, h1, h2, _⟩ := h.box r es rs' hb
    exact ⟨rs, h1, h2, rfl, rfl⟩
theorem Wrote.fr {st' : St} {x : Ow} {B : Nat} (h : Wrote w w' O g lam st st' x B) (hx : ¬ Low lo tlo x) (hlow : ∀ r, r < lo → st'.bx[r]? = st.bx[r]?) : Fr lo tlo w O g lam st w' g lam st' :=
  ⟨h.os, h.tape, h.output, Nat.le_of_eq h.size.symm, h.keeps, fun b _ hl => h.old b (by rintro rfl; exact hx (hl x h.own)), fun b _ hl y hy => hl y (h.blk y b hy), fun r hr => ⟨hlow r hr, rfl, rfl⟩, fun id _ => ⟨by rw [h.tk], rfl, rfl⟩⟩
/-- A box's row is written. -/
theorem box_store (hs : Sim w O g lam tmps st) {r i off es : Nat} {rs : List (List V)} {row us : List V} {vs : List Value} (hb : st.bx[r]? = some (.rows es rs)) (hrow : rs[i]? = some row) (hle : off + us.length ≤ row.length)
    (hl : vs.length = us.length) (hv : ∀ j (h1 : j < vs.length) (h2 : j < us.length), FR w O g lam st vs[j] us[j]) (hu : ∀ u ∈ us, u.cell = true) :
    ∃ cur e, w.heap[g.ρ r]? = some (.cells cur e (0, 0)) ∧ i * es + off + vs.length ≤ cur.size ∧
      Wrote w (w.setRow (g.ρ r) (wrote cur (i * es + off) vs)) O g lam st { st with bx := st.bx.set r (.rows es (rs.set i (setAt row off us))) } (.box r) (g.ρ r) ∧
      Sim (w.setRow (g.ρ r) (wrote cur (i * es + off) vs)) O g lam tmps { st with bx := st.bx.set r (.rows es (rs.set i (setAt row off us))) } := by
  have hr : r < st.bx.length := (List.getElem?_eq_some_iff.1 hb).1
  obtain ⟨hi, hrow'⟩ := List.getElem?_eq_some_iff.1 hrow
  obtain ⟨cur, e, h1, h2, h3, h4, h5⟩ := hs.box r es rs hb
  have hrl := (h4 row (by rw [← hrow']; exact List.getElem_mem _)).1
  have hfit : i * es + off + vs.length ≤ cur.size := by
    have : (i + 1) * es ≤ g.κ r * es := Nat.mul_le_mul_right _ (by omega)
    rw [Nat.add_mul] at this
    omega
  have hown : Blk g lam st (.box r) (g.ρ r) := ⟨by rw [hb]; trivial, rfl⟩
  have hblk : ∀ y b, Blk g lam { st with bx := st.bx.set r (.rows es (rs.set i (setAt row off us))) } y b → Blk g lam st y b := by
    intro y b hy
    cases y with
    | loc t => exact hy
    | tok id => exact hy
    | box r' =>
      obtain ⟨k1, k2⟩ := hy
      refine ⟨?_, k2⟩
      simp only [List.getElem?_set] at k1
      split at k1
      · rename_i e'; subst e'; rw [hb]; trivial
      · exact k1
  have hW : Wrote w (w.setRow (g.ρ r) (wrote cur (i * es + off) vs)) O g lam st { st with bx := st.bx.set r (.rows es (rs.set i (setAt row off us))) } (.box r) (g.ρ r) := by
    refine ⟨hown, rfl, rfl, rfl, setRow_size .., fun b hb => setRow_other w _ _ _ hb, rfl, by simp, hblk, by simp, fun r' es' rs' h => ?_⟩
    simp only [List.getElem?_set] at h
    split at h
    · rename_i e'
      subst e'
      injection h with h
      injection h with q1 q2
      subst q1
      subst q2
      exact ⟨rs, hb, by simp, fun hne => absurd rfl hne⟩
    · exact ⟨rs', h, rfl, fun _ => rfl⟩
  have hk := hW.keeps
  refine ⟨cur, e, h1, hfit, hW, ⟨hs.size, fun t ht => (hs.slot t ht).keeps hk (fun _ _ => rfl) (fun u off _ cs h => ⟨⟨cs, h⟩, rfl⟩), fun r' es' rs' h => ?_, fun t cs h => ?_, fun id es' n h b hbb => ?_, fun r' es' h => ?_, fun x y b hx hy => hs.inj x y b (hblk _ _ hx) (hblk _ _ hy), fun x b hx => ?_, fun b h => by rw [setRow_size]; exact hs.out b h⟩⟩
  · simp only [List.getElem?_set] at h
    split at h
    · rename_i e'
      subst e'
      injection h with h
      injection h with q1 q2
      subst q1
      subst q2
      refine ⟨wrote cur (i * es + off) vs, e, setRow_heap w _ cur _ e _ h1, by rw [wrote_size hfit, h2], by simpa using h3, fun q hq => ?_, fun i' j hi' hj => ?_⟩
      · rcases List.mem_or_eq_of_mem_set hq with hq | rfl
        · exact h4 q hq
        · refine ⟨by rw [setAt_length hle, hrl], fun v hv => ?_⟩
          obtain ⟨j, hj, rfl⟩ := List.getElem_of_mem hv
          rcases setAt_get hle hj (by rw [setAt_length hle] at hj; exact hj) with ⟨hjj, _, e'⟩ | ⟨_, e'⟩
          · rw [e']; exact hu _ (List.getElem_mem _)
          · rw [e']; exact (h4 row (by rw [← hrow']; exact List.getElem_mem _)).2 _ (List.getElem_mem _)
      · rw [wrote_get hfit]
        have hi'' : i' < rs.length := by simpa using hi'
        by_cases hii : i' = i
        · subst hii
          have erow : (rs.set i' (setAt row off us))[i'] = setAt row off us := by simp
          have hj1 : j < (setAt row off us).length := by rw [← erow]; exact hj
          have hj2 : j < row.length := by rw [setAt_length hle] at hj1; exact hj1
          simp only [erow]
          rcases setAt_get hle hj1 hj2 with ⟨hjj, hge, e'⟩ | ⟨hno, e'⟩
          · rw [if_pos (by omega), e']
            have hq : i' * es + j - (i' * es + off) = j - off := by omega
            have hjv : j - off < vs.length := by omega
            rw [hq]
            exact ⟨vs[j - off], by simp [hjv], (hv _ hjv hjj).keeps hk⟩
          · rw [if_neg (by omega), e']
            have := h5 i' j hi'' (by rw [hrow']; exact hj2)
            obtain ⟨c, q1, q2⟩ := this
            refine ⟨c, q1, ?_⟩
            have e2 : rs[i'][j]'(by rw [hrow']; exact hj2) = row[j] := by simp [hrow']
            rw [e2] at q2
            exact q2.keeps hk
        · have erow : (rs.set i (setAt row off us))[i'] = rs[i'] := by rw [List.getElem_set_ne]; exact Ne.symm hii
          have hj1 : j < rs[i'].length := by rw [← erow]; exact hj
          have hrl' := (h4 rs[i'] (List.getElem_mem _)).1
          simp only [erow]
          have hout : ¬ (i * es + off ≤ i' * es + j ∧ i' * es + j < i * es + off + vs.length) := by
            rcases Nat.lt_or_gt_of_ne hii with hlt | hgt
            · have : (i' + 1) * es ≤ i * es := Nat.mul_le_mul_right _ hlt
              rw [Nat.add_mul] at this
              omega
            · have : (i + 1) * es ≤ i' * es := Nat.mul_le_mul_right _ hgt
              rw [Nat.add_mul] at this
              omega
          rw [if_neg hout]
          obtain ⟨c, q1, q2⟩ := h5 i' j hi'' hj1
          exact ⟨c, q1, q2.keeps hk⟩
    · rename_i hne
      refine (hs.box r' es' rs' h).keeps hk (hW.old _ fun e' => ?_)
      have := hs.inj (.box r') (.box r) (g.ρ r) ⟨by rw [h]; trivial, e'⟩ hown
      injection this with this
      exact hne this.symm
  · refine (hs.loc t cs h).keeps hk (hW.old _ fun e' => ?_)
    have := hs.inj (.loc t) (.box r) (g.ρ r) ⟨⟨cs, h⟩, e'⟩ hown
    cases this
  · obtain ⟨cur', e', q1, q2⟩ := hs.tok id es' n h b hbb
    refine ⟨cur', e', (hW.old _ fun e'' => ?_).trans q1, q2⟩
    have := hs.inj (.tok id) (.box r) (g.ρ r) ⟨(List.getElem?_eq_some_iff.1 h).1, by rw [hbb, e'']⟩ hown
    cases this
  · simp only [List.getElem?_set] at h
    split at h
    · cases h
    · exact hs.nomap r' es' h
  · rw [setRow_size]; exact hs.own x b (hblk _ _ hx)
/-- A slot's own variable is written. -/
theorem loc_store (hs : Sim w O g lam tmps st) {t off : Nat} {cs us : List V} {vs : List Value} (hc : nth st.tm t = .loc cs) (hle : off + us.length ≤ cs.length)
    (hl : vs.length = us.length) (hv : ∀ j (h1 : j < vs.length) (h2 : j < us.length), FR w O g lam st vs[j] us[j]) (hu : ∀ u ∈ us, u.cell = true) :
    ∃ cur e, w.heap[lam t]? = some (.cells cur e (0, 0)) ∧ off + vs.length ≤ cur.size ∧
      Wrote w (w.setRow (lam t) (wrote cur off vs)) O g lam st { st with tm := upd st.tm t (.loc (setAt cs off us)) } (.loc t) (lam t) ∧
      Sim (w.setRow (lam t) (wrote cur off vs)) O g lam tmps { st with tm := upd st.tm t (.loc (setAt cs off us)) } := by
  have ht : t < st.tm.length := by
    by_cases h : t < st.tm.length
    · exact h
    · rw [nth_ge (by omega)] at hc; cases hc
  obtain ⟨cur, e, h1, h2, h3, h4, h5⟩ := hs.loc t cs hc
  have hcl := (h4 cs (by simp)).1
  have hfit : off + vs.length ≤ cur.size := by rw [h2]; omega
  have hown : Blk g lam st (.loc t) (lam t) := ⟨⟨cs, hc⟩, rfl⟩
  have hblk : ∀ y b, Blk g lam { st with tm := upd st.tm t (.loc (setAt cs off us)) } y b → Blk g lam st y b := by
    intro y b hy
    cases y with
    | box r => exact hy
    | tok id => exact hy
    | loc u =>
      obtain ⟨⟨cs', k1⟩, k2⟩ := hy
      simp only at k1
      rw [nth_upd _ _ _ _ ht] at k1
      split at k1
      · rename_i e'; subst e'; exact ⟨⟨cs, hc⟩, k2⟩
      · exact ⟨⟨cs', k1⟩, k2⟩
  have hW : Wrote w (w.setRow (lam t) (wrote cur off vs)) O g lam st { st with tm := upd st.tm t (.loc (setAt cs off us)) } (.loc t) (lam t) :=
    ⟨hown, rfl, rfl, rfl, setRow_size .., fun b hb => setRow_other w _ _ _ hb, rfl, rfl, hblk, by simp, fun r es rs h => ⟨rs, h, rfl, fun _ => rfl⟩⟩
  have hk := hW.keeps
  refine ⟨cur, e, h1, hfit, hW, ⟨by simp [upd_length, hs.size], fun u hu' => ?_, fun r es rs h => ?_, fun u cs' h => ?_, fun id es n h b hbb => ?_, hs.nomap, fun x y b hx hy => hs.inj x y b (hblk _ _ hx) (hblk _ _ hy), fun x b hx => ?_, fun b h => by rw [setRow_size]; exact hs.out b h⟩⟩
  · have hu2 : u < st.tm.length := by simpa [upd_length] using hu'
    simp only
    rw [nth_upd _ _ _ _ ht]
    have h0 := hs.slot u hu2
    by_cases e' : u = t
    · subst e'
      rw [if_pos rfl]
      rw [hc] at h0
      exact h0
    · rw [if_neg e']
      refine h0.keeps hk (fun _ _ => rfl) fun x off' _ cs' h => ?_
      simp only at h
      rw [nth_upd _ _ _ _ ht] at h
      split at h
      · rename_i e2; subst e2; exact ⟨⟨cs, hc⟩, rfl⟩
      · exact ⟨⟨cs', h⟩, rfl⟩
  · refine (hs.box r es rs h).keeps hk (hW.old _ fun e' => ?_)
    have := hs.inj (.box r) (.loc t) (lam t) ⟨by rw [show st.bx[r]? = _ from h]; trivial, e'⟩ hown
    cases this
  · simp only at h
    rw [nth_upd _ _ _ _ ht] at h
    split at h
    · rename_i e'
      subst e'
      injection h with h
      subst h
      refine ⟨wrote cur off vs, e, setRow_heap w _ cur _ e _ h1, by rw [wrote_size hfit, h2, setAt_length hle], by simp, ?_, fun i j hi hj => ?_⟩
      · intro q hq
        have : q = setAt cs off us := by simpa using hq
        subst this
        refine ⟨rfl, fun v hv' => ?_⟩
        obtain ⟨j, hj, rfl⟩ := List.getElem_of_mem hv'
        rcases setAt_get hle hj (by rw [setAt_length hle] at hj; exact hj) with ⟨hjj, _, e'⟩ | ⟨_, e'⟩
        · rw [e']; exact hu _ (List.getElem_mem _)
        · rw [e']; exact (h4 cs (by simp)).2 _ (List.getElem_mem _)
      · have hi0 : i = 0 := by simp at hi; omega
        subst hi0
        simp only [List.getElem_cons_zero] at hj ⊢
        have hj2 : j < cs.length := by rw [setAt_length hle] at hj; exact hj
        rw [wrote_get hfit]
        rcases setAt_get hle hj hj2 with ⟨hjj, hge, e'⟩ | ⟨hno, e'⟩
        · rw [if_pos (by omega), e']
          have hq : 0 * (setAt cs off us).length + j - off = j - off := by omega
          have hjv : j - off < vs.length := by omega
          rw [hq]
          exact ⟨vs[j - off], by simp [hjv], (hv _ hjv hjj).keeps hk⟩
        · rw [if_neg (by omega), e']
          obtain ⟨c, q1, q2⟩ := h5 0 j (by simp) (by simpa using hj2)
          simp only [Nat.zero_mul, Nat.zero_add, List.getElem_cons_zero] at q1 q2 ⊢
          exact ⟨c, q1, q2.keeps hk⟩
    · rename_i hne
      refine (hs.loc u cs' h).keeps hk (hW.old _ fun e' => ?_)
      have := hs.inj (.loc u) (.loc t) (lam t) ⟨⟨cs', h⟩, e'⟩ hown
      injection this with this
      exact hne this
  · obtain ⟨cur', e', q1, q2⟩ := hs.tok id es n h b hbb
    refine ⟨cur', e', (hW.old _ fun e'' => ?_).trans q1, q2⟩
    have := hs.inj (.tok id) (.loc t) (lam t) ⟨(List.getElem?_eq_some_iff.1 h).1, by rw [hbb, e'']⟩ hown
    cases this
  · rw [setRow_size]; exact hs.own x b (hblk _ _ hx)
theorem run_storeVar {t : TypeId} {n : Nat} {b off : Nat} {cur : Array Value} {e : TypeId} {v : Value} (hsz : szOf P t = some n) (hn : v.cells.size = n) (hb : w.heap[b]? = some (.cells cur e (0, 0))) (hfit : off + v.cells.toList.length ≤ cur.size) (h1 : ∀ x ∈ v.cells.toList, x.oneCell' = true) :
    (storeVar t ⟨b, off, none⟩ v).run P w = .ok () (w.setRow b (wrote cur off v.cells.toList)) := by
  have := run_storeCells_at (P := P) b off e v.cells.toList 0 cur w hb (by simpa using hfit) h1
  simp only [Nat.add_zero] at this
  simp [storeVar, run_size hsz, hn, this, wrote]
theorem store_does (hs : Sim w O g lam a.tmps st) {t : TypeId} {x y : Operand} {v : V} {st' : St} (ho : o.op = .store t x y) (h : opStore P st lo t x y = some (v, st')) : Does P lo tlo o a w O g lam st v st' := by
  obtain ⟨n, h1, h⟩ := ob_eq h
  obtain ⟨b, h2, h⟩ := ob_eq h
  obtain ⟨ad, h3, h⟩ := ob_eq h
  obtain ⟨u, h4, h⟩ := ob_eq h
  obtain ⟨us, h5, h⟩ := ob_eq h
  obtain ⟨s, h6, h⟩ := om_eq h
  injection h with h7 h8
  subst h7
  subst h8
  obtain ⟨p, hp, hpl⟩ := adr_place hs h3
  have hy := ev_FR hs h4
  obtain ⟨c1, c2, c3, c4⟩ := value_cells hy h5
  have hvl : (a.eval y).cells.toList.length = us.length := by simp; omega
  have hvv : ∀ j (q1 : j < (a.eval y).cells.toList.length) (q2 : j < us.length), FR w O g lam st (a.eval y).cells.toList[j] us[j] := by
    intro j q1 q2
    have := c4 j q2
    have hj : j < (a.eval y).cells.size := by simpa using q1
    have e : (a.eval y).cells.getD j undef = (a.eval y).cells.toList[j] := by simp [Array.getD, hj]
    rw [e] at this
    exact this
  have hone : ∀ x ∈ (a.eval y).cells.toList, x.oneCell' = true := by
    intro q hq
    obtain ⟨j, hj, rfl⟩ := List.getElem_of_mem hq
    have hj2 : j < us.length := by omega
    exact (cell_one (hvv j hj hj2) (c3 _ (List.getElem_mem _))).1
  have hex : ∀ w', (storeVar t p (a.eval y)).run P w = .ok () w' → (execOp a.eval o).run P w = .ok .skip w' := by
    intro w' hw
    simp [execOp, ho, Instr.storeAt, hp, Instr.sureAddr, hw]
  cases hpl with
  | box x r i off hx =>
    simp only [storeAt] at h6
    obtain ⟨q, k1, h6⟩ := ob_eq h6
    obtain ⟨row, k2, h6⟩ := ob_eq h6
    split at h6
    · rename_i hc
      injection h6 with h6
      subst h6
      have hb := boxIn_eq k1
      obtain ⟨cur, e, r1, r2, r3, r4⟩ := box_store hs hb k2 hc.2 hvl hvv c3
      have hpa : p = ⟨g.ρ r, i * q.1 + off, none⟩ := by
        cases hx with
        | ptr _ _ _ _ _ ha => exact ha _ _ hb
      subst hpa
      refine Does.skip (hex _ (run_storeVar h1 c2 r1 r2 hone)) (r3.fr (by simp only [Low]; omega) fun r' hr' => ?_) r4
      simp only [List.getElem?_set]
      rw [if_neg (by omega)]
    · cases h6
  | imm b' o' cs hx => cases h6
  | loc t' off =>
    simp only [storeAt] at h6
    obtain ⟨cs, k1, h6⟩ := ob_eq h6
    split at h6
    · rename_i hc
      injection h6 with h6
      subst h6
      have hcs : nth st.tm t' = .loc cs := by
        simp only [St.get] at k1
        unfold locCells at k1
        split at k1
        · rename_i cs' e'; injection k1 with k1; subst k1; exact e'
        · cases k1
      obtain ⟨cur, e, r1, r2, r3, r4⟩ := loc_store hs hcs hc hvl hvv c3
      exact Does.skip (hex _ (run_storeVar h1 c2 r1 r2 hone)) (r3.fr (by simp [Low]) fun r' hr' => rfl) r4
    · cases h6
  | gone x u off hno =>
    simp only [storeAt] at h6
    obtain ⟨cs, k1, h6⟩ := ob_eq h6
    simp only [St.get] at k1
    unfold locCells at k1
    split at k1
    · rename_i cs' e'; exact absurd e' (hno cs')
    · cases k1
end mem4
end Go.Vi
