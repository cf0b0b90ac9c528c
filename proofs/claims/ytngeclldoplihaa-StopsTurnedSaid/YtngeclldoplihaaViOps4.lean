/- What is built: a struct, the cells of a list. -/
import Derived.Test.YtngeclldoplihaaViOps3
set_option linter.unusedVariables false
set_option linter.unusedSimpArgs false
namespace Go.Vi
open Go.RowKit
section ops4
variable {P : Program} {lo tlo : Nat} {o : Oper} {a : Act} {w : World} {O : Nat → Prop} {g : G} {lam : Nat → Nat} {st : St}
/-- A fold that writes a run of cells. -/
theorem fold_size (off : Nat) : ∀ (l : List Value) (k : Nat) (cs : Array Value), ((l.zipIdx k).foldl (fun (cs : Array Value) (x : Value × Nat) => cs.setIfInBounds (off + x.2) x.1) cs).size = cs.size
  | [], k, cs => rfl
  | v :: l, k, cs => by
    rw [List.zipIdx_cons, List.foldl_cons, fold_size off l (k + 1)]
    simp
theorem fold_get (off : Nat) : ∀ (l : List Value) (k : Nat) (cs : Array Value) (i : Nat), off + k + l.length ≤ cs.size →
    ((l.zipIdx k).foldl (fun (cs : Array Value) (x : Value × Nat) => cs.setIfInBounds (off + x.2) x.1) cs).getD i undef = if off + k ≤ i ∧ i < off + k + l.length then l.getD (i - (off + k)) undef else cs.getD i undef
  | [], k, cs, i, _ => by simp; omega
  | v :: l, k, cs, i, h => by
    simp only [List.length_cons] at h
    rw [List.zipIdx_cons, List.foldl_cons, fold_get off l (k + 1) _ i (by simp; omega)]
    by_cases h1 : off + (k + 1) ≤ i ∧ i < off + (k + 1) + l.length
    · rw [if_pos h1, if_pos (by simp only [List.length_cons]; omega)]
      have : i - (off + k) = (i - (off + (k + 1))) + 1 := by omega
      rw [this, List.getD_cons_succ]
    · rw [if_neg h1]
      by_cases h2 : i = off + k
      · subst h2
        rw [if_pos (by simp only [List.length_cons]; omega), getD_set_eq (by omega)]
        simp
      · rw [if_neg (by simp only [List.length_cons]; omega), getD_set_ne h2]
theorem setAt_length {cs us : List V} {off : Nat} (h : off + us.length ≤ cs.length) : (setAt cs off us).length = cs.length := by
  simp [setAt]; omega
theorem setAt_get? {cs us : List V} {off : Nat} (h : off + us.length ≤ cs.length) (i : Nat) : (setAt cs off us)[i]? = if off ≤ i ∧ i < off + us.length then us[i - off]? else cs[i]? := by
  unfold setAt
  by_cases h1 : i < off
  · rw [if_neg (by omega), List.append_assoc, List.getElem?_append_left (by simp; omega), List.getElem?_take, if_pos h1]
  · by_cases h2 : i < off + us.length
    · rw [if_pos (by omega), List.getElem?_append_left (by simp; omega), List.getElem?_append_right (by simp; omega)]
      congr 1
      simp; omega
    · rw [if_neg (by omega), List.getElem?_append_right (by simp; omega), List.getElem?_drop]
      congr 1
      simp; omega
theorem setAt_get {cs us : List V} {off i : Nat} (h : off + us.length ≤ cs.length) (hi : i < (setAt cs off us).length) (hj : i < cs.length) :
    (∃ h2 : i - off < us.length, off ≤ i ∧ (setAt cs off us)[i] = us[i - off]) ∨ (¬ (off ≤ i ∧ i < off + us.length) ∧ (setAt cs off us)[i] = cs[i]) := by
  have h0 := setAt_get? h i
  rw [List.getElem?_eq_getElem hi] at h0
  by_cases h1 : off ≤ i ∧ i < off + us.length
  · left
    have h2 : i - off < us.length := by omega
    rw [if_pos h1, List.getElem?_eq_getElem h2] at h0
    exact ⟨h2, h1.1, by injection h0⟩
  · right
    rw [if_neg h1, List.getElem?_eq_getElem hj] at h0
    exact ⟨h1, by injection h0⟩
theorem cell_one {x : Value} {v : V} (h : FR w O g lam st x v) (hc : v.cell = true) : x.oneCell' = true ∧ x.cells = #[x] := by
  cases h <;> first | exact ⟨rfl, rfl⟩ | cases hc
/-- A value's cells. -/
theorem value_cells {x : Value} {v : V} {n : Nat} {b : Bool} {us : List V} (h : FR w O g lam st x v) (hc : cellsOf b n v = some us) :
    us.length = n ∧ x.cells.size = n ∧ (∀ u ∈ us, u.cell = true) ∧ ∀ i (hi : i < us.length), FR w O g lam st (x.cells.getD i undef) us[i] := by
  unfold cellsOf at hc
  split at hc
  · split at hc
    · rename_i hl
      injection hc with hc
      subst hc
      cases h with
      | agg cs _ hsz hcell hv => exact ⟨hl, by simp only [Value.cells]; omega, hcell, fun i hi => hv i hi⟩
    · cases hc
  · split at hc
    · rename_i hl
      simp only [Bool.and_eq_true, decide_eq_true_eq] at hl
      injection hc with hc
      subst hc
      have e := (cell_one h hl.2).2
      refine ⟨by simp [hl.1], by rw [e]; simp [hl.1], by simpa using hl.2, fun i hi => ?_⟩
      have : i = 0 := by simp at hi; omega
      subst this
      rw [e]
      exact h
    · cases hc
  · cases hc
/-- Cells that stand to one another. -/
def AR (w : World) (O : Nat → Prop) (g : G) (lam : Nat → Nat) (st : St) (cs : Array Value) (vs : List V) : Prop :=
  cs.size = vs.length ∧ (∀ v ∈ vs, v.cell = true) ∧ ∀ i (hi : i < vs.length), FR w O g lam st (cs.getD i undef) vs[i]
theorem AR.fr {cs : Array Value} {vs : List V} (h : AR w O g lam st cs vs) : FR w O g lam st (.agg cs) (.agg vs) := .agg _ _ h.1 h.2.1 h.2.2
theorem zeroCells_eq : ∀ {l : List Value} {zs : List V}, zeroCells l = some zs → l.length = zs.length ∧ ∀ i (h1 : i < l.length) (h2 : i < zs.length), zeroCell l[i] = some zs[i]
  | [], zs, h => by simp only [zeroCells, Option.some.injEq] at h; subst h; exact ⟨rfl, fun i h1 => absurd h1 (by simp)⟩
  | v :: l, zs, h => by
    simp only [zeroCells] at h
    cases h1 : zeroCell v with
    | none => rw [h1] at h; cases h
    | some x =>
      rw [h1] at h
      cases h2 : zeroCells l with
      | none => rw [h2] at h; cases h
      | some xs =>
        rw [h2] at h
        simp only [Option.bind_some, Option.map_some, Option.some.injEq] at h
        subst h
        obtain ⟨k1, k2⟩ := zeroCells_eq h2
        refine ⟨by simp [k1], fun i i1 i2 => ?_⟩
        cases i with
        | zero => exact h1
        | succ i => exact k2 i (by simpa using i1) (by simpa using i2)
theorem zeroCell_cell {v : Value} {x : V} (h : zeroCell v = some x) : x.cell = true := by
  unfold zeroCell at h
  split at h <;> first | (injection h with h; subst h; rfl) | cases h
theorem zero_AR {z : Array Value} {zs : List V} (h : zeroCells z.toList = some zs) : AR w O g lam st z zs := by
  obtain ⟨h1, h2⟩ := zeroCells_eq h
  simp only [Array.length_toList] at h1
  refine ⟨h1, fun v hv => ?_, fun i hi => ?_⟩
  · obtain ⟨i, hi, rfl⟩ := List.getElem_of_mem hv
    exact zeroCell_cell (h2 i (by simp; omega) hi)
  · have := h2 i (by simp; omega) hi
    have hi' : i < z.size := by omega
    have e : z.getD i undef = z[i] := by simp [Array.getD, hi']
    rw [e]
    exact zeroCell_FR (by simpa using this)
theorem zeroIn_eq {t : TypeId} {zs : List V} (h : zeroIn P t = some zs) : ∃ i z, P.info? t = some i ∧ i.zero = some z ∧ zeroCells z.cells.toList = some zs := by
  unfold zeroIn at h
  cases hi : P.info? t with
  | none => rw [hi] at h; cases h
  | some i =>
    rw [hi] at h
    simp only [Option.bind_some] at h
    cases hz : i.zero with
    | none => rw [hz] at h; cases h
    | some z => rw [hz] at h; exact ⟨i, z, rfl, hz, h⟩
theorem run_zero {t : TypeId} {i : TypeInfo} {z : Value} (h : P.info? t = some i) (hz : i.zero = some z) (w : World) : (zeroValue t).run P w = .ok z w := by
  simp [zeroValue, run_typeInfo w h, hz]
/-- The parts are filled in. -/
theorem fill_ok (hs : Sim w O g lam a.tmps st) {place : Nat → Option (Nat × Nat × Bool)} {place' : Nat → Option (Nat × Nat)} (hp : ∀ i off n b, place i = some (off, n, b) → place' i = some (off, n)) :
    ∀ {parts : List (Nat × Operand)} {ps : List (Nat × V)} {cs : Array Value} {vs us : List V}, evParts st parts = some ps → fillV place vs ps = some us → AR w O g lam st cs vs →
      ∃ cs', Instr.fill place' cs (parts.map fun (i, x) => (i, a.eval x)) = some cs' ∧ AR w O g lam st cs' us ∧ us.length = vs.length
  | [], ps, cs, vs, us, h1, h2, h3 => by
    simp only [evParts, Option.some.injEq] at h1
    subst h1
    simp only [fillV, Option.some.injEq] at h2
    subst h2
    exact ⟨cs, rfl, h3, rfl⟩
  | (i, x) :: parts, ps, cs, vs, us, h1, h2, h3 => by
    simp only [evParts] at h1
    obtain ⟨v, e1, h1⟩ := ob_eq h1
    obtain ⟨ps', e2, rfl⟩ := om_eq h1
    simp only [fillV] at h2
    split at h2
    · cases h2
    · rename_i off n b hpl
      split at h2
      · rename_i qs hq
        split at h2
        · rename_i hle
          obtain ⟨q1, q2, q3, q4⟩ := value_cells (ev_FR hs e1) hq
          have q5 : off + qs.length ≤ vs.length := by omega
          have hsz : cs.size = vs.length := h3.1
          have hA : AR w O g lam st ((a.eval x).cells.zipIdx.foldl (fun (cs : Array Value) (x : Value × Nat) => cs.setIfInBounds (off + x.2) x.1) cs) (setAt vs off qs) := by
            have hfold : (a.eval x).cells.zipIdx.foldl (fun (cs : Array Value) (x : Value × Nat) => cs.setIfInBounds (off + x.2) x.1) cs = ((a.eval x).cells.toList.zipIdx 0).foldl (fun (cs : Array Value) (x : Value × Nat) => cs.setIfInBounds (off + x.2) x.1) cs := by
              rw [← Array.foldl_toList]
              simp
            rw [hfold]
            refine ⟨by rw [fold_size, setAt_length q5, hsz], fun u hu => ?_, fun j hj => ?_⟩
            · obtain ⟨j, hj, rfl⟩ := List.getElem_of_mem hu
              rcases setAt_get q5 hj (by rw [setAt_length q5] at hj; exact hj) with ⟨hjj, _, e⟩ | ⟨_, e⟩
              · rw [e]; exact q3 _ (List.getElem_mem _)
              · rw [e]; exact h3.2.1 _ (List.getElem_mem _)
            · rw [fold_get off _ 0 cs j (by simp; omega)]
              have hlen : (a.eval x).cells.toList.length = n := by simpa using q2
              rcases setAt_get q5 hj (by rw [setAt_length q5] at hj; exact hj) with ⟨hjj, hge, e⟩ | ⟨hno, e⟩
              · rw [e, if_pos (by omega)]
                have := q4 (j - off) hjj
                rw [Array.getD_eq_getD_getElem?] at this
                simpa [List.getD_eq_getElem?_getD] using this
              · rw [e, if_neg (by omega)]
                exact h3.2.2 j _
          obtain ⟨cs', k1, k2, k3⟩ := fill_ok hs hp e2 h2 hA
          refine ⟨cs', ?_, k2, by rw [k3, setAt_length q5]⟩
          simp only [List.map_cons, Instr.fill, hp i off n b hpl]
          have hc : ¬ ((decide ((a.eval x).cells.size ≠ n) || decide (off + (a.eval x).cells.size > cs.size)) = true) := by simp; omega
          rw [if_neg hc]
          exact k1
        · cases h2
      · cases h2
theorem run_mapM_pure {α β : Type} {f : α → Sem β} {h : α → β} : ∀ (l : List α), (∀ x, x ∈ l → ∀ w, (f x).run P w = .ok (h x) w) → ∀ w, (l.mapM f).run P w = .ok (l.map h) w
  | [], _, w => rfl
  | x :: l, hl, w => by
    have ih := run_mapM_pure l (fun y hy => hl y (List.mem_cons_of_mem x hy)) w
    simp only [List.mapM_cons, Sem.run_bind, hl x List.mem_cons_self, Result.andThen_ok, ih, Sem.run_pure, List.map_cons]
theorem build_does (hs : Sim w O g lam a.tmps st) {t : TypeId} {parts : Array (Nat × Operand)} {v : V} {st' : St} (ho : o.op = .build t parts) (h : opBuild P st t parts.toList = some (v, st')) : Does P lo tlo o a w O g lam st v st' := by
  obtain ⟨z, h1, h⟩ := ob_eq h
  obtain ⟨ps, h2, h⟩ := ob_eq h
  split at h
  · rename_i hb
    obtain ⟨cs, h3, h⟩ := om_eq h
    injection h with h4 h5
    subst h4
    subst h5
    obtain ⟨i, zv, hi, hz, hzc⟩ := zeroIn_eq h1
    unfold buildT at hb
    split at hb
    · rename_i fs hu
      have hfs : ∀ f ∈ fs.toList, ∀ w, ((do pure (f.offset, ← sizeOf f.type)) : Sem (Nat × Nat)).run P w = .ok (f.offset, (szOf P f.type).getD 0) w := by
        intro f hf w
        have := Array.all_eq_true_iff_forall_mem.1 hb f (by simpa using hf)
        obtain ⟨n, hn⟩ := Option.isSome_iff_exists.1 this
        simp [run_size hn, hn]
      have hmap : ∀ w, (fs.mapM fun f => (do pure (f.offset, ← sizeOf f.type) : Sem (Nat × Nat))).run P w = .ok (fs.toList.map fun f => (f.offset, (szOf P f.type).getD 0)).toArray w := by
        intro w
        have := run_mapM_pure (P := P) _ hfs w
        rw [Array.mapM_eq_mapM_toList]
        simp only [Sem.run_map, this]
        rfl
      have hpl : ∀ f off n b, fieldSz P t f = some (off, n, b) → (fs.toList.map fun f => (f.offset, (szOf P f.type).getD 0)).toArray[f]? = some (off, n) := by
        intro f off n b hf
        obtain ⟨fs', x, k1, k2, k3, k4, k5⟩ := fieldSz_eq hf
        rw [hu] at k1
        injection k1 with k1
        injection k1 with k1
        subst k1
        have : fs.toList[f]? = some x := by simpa using k2
        simp only at k3 k4
        simp [this, k3, k4]
      obtain ⟨cs', k1, k2, _⟩ := fill_ok hs hpl h2 h3 (zero_AR hzc)
      refine Does.value hs (v := .agg cs') ?_ k2.fr
      have e : (parts.map fun (i, x) => (i, a.eval x)).toList = parts.toList.map fun (i, x) => (i, a.eval x) := by simp
      simp only [execOp, ho, Instr.build, Sem.run_bind, run_zero hi hz, Result.andThen_ok, run_underlying hu, hmap, e, k1, Sem.run_pure]
    · cases hb
  · obtain ⟨q, h3, h⟩ := ob_eq h
    obtain ⟨m, h4, h⟩ := ob_eq h
    obtain ⟨ag, h5, h⟩ := ob_eq h
    obtain ⟨cs, h6, h⟩ := om_eq h
    injection h with h7 h8
    subst h7
    subst h8
    obtain ⟨i, zv, hi, hz, hzc⟩ := zeroIn_eq h1
    have hu := arrIn_eq h3
    obtain ⟨cs', k1, k2, _⟩ := fill_ok hs (place' := fun i => some (i * m, m)) (fun i off n b h => by injection h with h; injection h with e1 e2; injection e2 with e2 e3; rw [e1, e2]) h2 h6 (zero_AR hzc)
    refine Does.value hs (v := .agg cs') ?_ k2.fr
    have e : (parts.map fun (i, x) => (i, a.eval x)).toList = parts.toList.map fun (i, x) => (i, a.eval x) := by simp
    simp only [execOp, ho, Instr.build, Sem.run_bind, run_zero hi hz, Result.andThen_ok, run_underlying hu, run_size h4, e, k1, Sem.run_pure]
end ops4
end Go.Vi
