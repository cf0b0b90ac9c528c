/- Operations that read memory, or compare, or count. -/
import Derived.Test.YtngeclldoplihaaViStep
set_option linter.unusedVariables false
set_option linter.unusedSimpArgs false
namespace Go.Vi
open Go.RowKit
section reads
variable {P : Program} {lo tlo : Nat} {o : Oper} {a : Act} {w : World} {O : Nat → Prop} {g : G} {lam : Nat → Nat} {st : St}
theorem cell_block {b k : Nat} {cur : Array Value} {e : TypeId} {fr : Nat × Nat} (h : w.heap[b]? = some (.cells cur e fr)) : w.cell? ⟨b, k, none⟩ = cur[k]? := by
  simp [World.cell?, h]
theorem pureCell_cell {v : V} (h : v.pureCell = true) : v.cell = true := by
  cases v <;> simp_all [V.pureCell, V.cell]
/-- A place that an operand names. -/
inductive Place (w : World) (O : Nat → Prop) (g : G) (lam : Nat → Nat) (st : St) : Addr → Ad → Prop where
  | box (x : Addr) (r i off : Nat) (h : FR w O g lam st (.pointer (some x)) (.ptr r i off)) : Place w O g lam st x (.box r i off)
  | imm (b o : Nat) (cs : List V) (h : FR w O g lam st (.pointer (some ⟨b, o, none⟩)) (.iptr cs)) : Place w O g lam st ⟨b, o, none⟩ (.imm cs)
  | loc (t off : Nat) : Place w O g lam st ⟨lam t, off, none⟩ (.loc t off)
  | gone (x : Addr) (t off : Nat) (h : ∀ cs, nth st.tm t ≠ .loc cs) : Place w O g lam st x (.loc t off)
theorem ptr_inv {v : Value} {r i off : Nat} (h : FR w O g lam st v (.ptr r i off)) : ∃ x, v = .pointer (some x) := by cases h; exact ⟨_, rfl⟩
theorem iptr_inv {v : Value} {cs : List V} (h : FR w O g lam st v (.iptr cs)) : ∃ b o, v = .pointer (some ⟨b, o, none⟩) := by cases h; exact ⟨_, _, rfl⟩
theorem adrV_place (hs : Sim w O g lam a.tmps st) {t : Nat} {ad : Ad} (h : adrV t (nth st.tm t) = some ad) : ∃ x, a.tmps.getD t undef = .pointer (some x) ∧ Place w O g lam st x ad := by
  by_cases ht : t < st.tm.length
  · have h0 := hs.slot t ht
    cases hn : nth st.tm t <;> rw [hn] at h h0 <;> simp only [adrV] at h <;> try (cases h; done)
    · injection h with h; subst h
      obtain ⟨x, hx⟩ := ptr_inv (show FR w O g lam st _ _ from h0)
      refine ⟨x, hx, .box _ _ _ _ ?_⟩
      rw [← hx]; exact h0
    · injection h with h; subst h
      obtain ⟨b, o, hx⟩ := iptr_inv (show FR w O g lam st _ _ from h0)
      refine ⟨_, hx, .imm _ _ _ ?_⟩
      rw [← hx]; exact h0
    · injection h with h; subst h
      exact ⟨_, h0, .loc _ _⟩
    · rename_i u off
      injection h with h; subst h
      obtain ⟨p, hp, h0⟩ := h0
      by_cases hl : ∃ cs, nth st.tm u = .loc cs
      · obtain ⟨cs, hcs⟩ := hl
        rw [h0 cs hcs] at hp
        exact ⟨_, hp, .loc _ _⟩
      · exact ⟨p, hp, .gone _ _ _ fun cs hcs => hl ⟨cs, hcs⟩⟩
  · rw [nth_ge (Nat.not_lt.1 ht)] at h
    cases h
theorem adr_place (hs : Sim w O g lam a.tmps st) {x : Operand} {ad : Ad} (h : adr st x = some ad) : ∃ p, a.eval x = .pointer (some p) ∧ Place w O g lam st p ad := by
  cases x <;> simp only [adr] at h <;> try (cases h; done)
  exact adrV_place hs h
theorem cut_eq {cs vs : List V} {off n : Nat} (h : cut cs off n = some vs) : off + n ≤ cs.length ∧ vs.length = n ∧ ∀ j (hj : j < vs.length) (hk : off + j < cs.length), vs[j] = cs[off + j] := by
  unfold cut at h
  split at h
  · rename_i hle
    injection h with h
    subst h
    refine ⟨hle, by simp; omega, fun j hj hk => by simp⟩
  · cases h
/-- The cells that a place holds. -/
theorem place_cells (hs : Sim w O g lam a.tmps st) {p : Addr} {ad : Ad} {n : Nat} {cs : List V} (hp : Place w O g lam st p ad) (hc : cellsAt st ad n = some cs) (hn : 0 < n) :
    p.spot = none ∧ cs.length = n ∧ (∀ v ∈ cs, v.cell = true) ∧ ∀ j (hj : j < cs.length), ∃ c, w.cell? ⟨p.block, p.off + j, none⟩ = some c ∧ FR w O g lam st c cs[j] := by
  cases hp with
  | box x r i off h =>
    simp only [cellsAt, rowAt] at hc
    obtain ⟨row, h1, h2⟩ := ob_eq hc
    obtain ⟨rs, h3, h4⟩ := ob_eq h1
    obtain ⟨es, hb⟩ : ∃ es, st.bx[r]? = some (.rows es rs) := by
      cases hbx : st.bx[r]? with
      | none => rw [hbx] at h3; cases h3
      | some bb => rw [hbx] at h3; cases bb <;> simp only [rowsIn] at h3 <;> first | (injection h3 with h3; subst h3; exact ⟨_, rfl⟩) | cases h3
    obtain ⟨hi, rfl⟩ := List.getElem?_eq_some_iff.1 h4
    obtain ⟨k1, k2, k3⟩ := cut_eq h2
    obtain ⟨cur, e, q1, q2, q3, q4, q5⟩ := hs.box r es rs hb
    have hx : p = ⟨g.ρ r, i * es + off, none⟩ := by cases h; rename_i hr ha; exact ha es rs hb
    subst hx
    have hlen := (q4 _ (List.getElem_mem hi)).1
    refine ⟨rfl, k2, fun v hv => ?_, fun j hj => ?_⟩
    · obtain ⟨j, hj, rfl⟩ := List.getElem_of_mem hv
      rw [k3 j hj (by omega)]
      exact (q4 _ (List.getElem_mem hi)).2 _ (List.getElem_mem _)
    · obtain ⟨c, z1, z2⟩ := q5 i (off + j) hi (by omega)
      refine ⟨c, ?_, ?_⟩
      · rw [cell_block q1, ← z1, ← Nat.add_assoc]
      · rw [k3 j hj (by omega)]; exact z2
  | imm b off cs0 h =>
    simp only [cellsAt] at hc
    obtain ⟨k1, k2, k3⟩ := cut_eq hc
    cases h with
    | iptr _ _ _ cf hpu hcc hvv =>
      refine ⟨rfl, k2, fun v hv => ?_, fun j hj => ?_⟩
      · obtain ⟨j, hj, rfl⟩ := List.getElem_of_mem hv
        rw [k3 j hj (by omega)]
        exact pureCell_cell (List.all_eq_true.1 hpu _ (List.getElem_mem _))
      · have hjk : 0 + j < cs0.length := by omega
        refine ⟨cf (0 + j), ?_, ?_⟩
        · have := (hcc (0 + j) hjk).1
          simp only [Nat.zero_add] at this ⊢
          exact this
        · rw [k3 j hj hjk]; exact hvv _ hjk
  | loc t off =>
    simp only [cellsAt, St.get] at hc
    obtain ⟨cs0, h1, h2⟩ := ob_eq hc
    have hl : nth st.tm t = .loc cs0 := by
      cases hn : nth st.tm t <;> rw [hn] at h1 <;> simp only [locCells] at h1 <;> first | (injection h1 with h1; subst h1; rfl) | cases h1
    obtain ⟨k1, k2, k3⟩ := cut_eq h2
    obtain ⟨cur, e, q1, q2, q3, q4, q5⟩ := hs.loc t cs0 hl
    refine ⟨rfl, k2, fun v hv => ?_, fun j hj => ?_⟩
    · obtain ⟨j, hj, rfl⟩ := List.getElem_of_mem hv
      rw [k3 j hj (by omega)]
      exact (q4 cs0 (by simp)).2 _ (List.getElem_mem _)
    · obtain ⟨c, z1, z2⟩ := q5 0 (off + j) (by simp) (by simpa using (by omega : off + j < cs0.length))
      refine ⟨c, ?_, ?_⟩
      · rw [cell_block q1, ← z1]; simp
      · rw [k3 j hj (by omega)]; simpa using z2
  | gone x t off h =>
    simp only [cellsAt, St.get] at hc
    obtain ⟨cs0, h1, h2⟩ := ob_eq hc
    exfalso
    cases hn : nth st.tm t <;> rw [hn] at h1 <;> simp only [locCells] at h1 <;> first | exact h _ hn | cases h1
theorem gone_cells {u off n : Nat} {cs : List V} (h : ∀ cs, nth st.tm u ≠ .loc cs) (hc : cellsAt st (.loc u off) n = some cs) : False := by
  simp only [cellsAt, St.get] at hc
  obtain ⟨cs0, h1, h2⟩ := ob_eq hc
  cases hn : nth st.tm u <;> rw [hn] at h1 <;> simp only [locCells] at h1 <;> first | exact h _ hn | cases h1
theorem szOf_eq {t : TypeId} {n : Nat} (h : szOf P t = some n) : ∃ i, P.info? t = some i ∧ i.size = n ∧ P.cellsOf t = n := by
  unfold szOf at h
  cases hi : P.info? t with
  | none => rw [hi] at h; cases h
  | some i => rw [hi] at h; simp at h; exact ⟨i, rfl, h, by simp [Program.cellsOf, hi, h]⟩
theorem run_size {t : TypeId} {n : Nat} (h : szOf P t = some n) (w : World) : (sizeOf t).run P w = .ok n w := by
  obtain ⟨i, h1, h2, h3⟩ := szOf_eq h
  simp [sizeOf, typeInfo, h1, h2]
theorem run_agg {t : TypeId} {b : Bool} (h : aggT P t = some b) (w : World) : (isAgg t).run P w = .ok b w := by
  unfold aggT at h
  cases hu : P.underlying t with
  | none => rw [hu] at h; cases h
  | some d =>
    rw [hu] at h
    injection h with h
    simp only [isAgg, Sem.run_bind, run_underlying hu, Result.andThen_ok]
    subst h
    cases d <;> rfl
theorem addr_add {p : Addr} {j : Nat} (h : p.spot = none) : p.add j = ⟨p.block, p.off + j, none⟩ := by
  cases p
  cases h
  unfold Addr.add
  split
  · rename_i h; subst h; rfl
  · rfl
/-- A variable is loaded. -/
theorem run_var {t : TypeId} {n : Nat} {b : Bool} {p : Addr} {cs : List V} {v : V} (hsz : szOf P t = some n) (hag : aggT P t = some b) (hsp : p.spot = none) (hl : cs.length = n) (hce : ∀ v ∈ cs, v.cell = true)
    (hc : ∀ j (hj : j < cs.length), ∃ c, w.cell? ⟨p.block, p.off + j, none⟩ = some c ∧ FR w O g lam st c cs[j]) (hm : mkV b cs = some v) :
    ∃ u, (loadVar t p).run P w = .ok u w ∧ FR w O g lam st u v := by
  let f : Nat → Value := fun j => (w.cell? ⟨p.block, p.off + j, none⟩).getD undef
  have hf : ∀ j (hj : j < cs.length), w.cell? ⟨p.block, p.off + j, none⟩ = some (f j) ∧ FR w O g lam st (f j) cs[j] := by
    intro j hj
    obtain ⟨c, h1, h2⟩ := hc j hj
    have : f j = c := by simp [f, h1]
    rw [this]
    exact ⟨h1, h2⟩
  cases b with
  | true =>
    simp only [mkV, Option.some.injEq] at hm
    subst hm
    refine ⟨.agg (Array.ofFn (n := n) fun i => f i), ?_, .agg _ _ (by simp [hl]) hce fun i hi => ?_⟩
    · have hr := run_loadCells (P := P) (w := w) p n f (fun j hj => by rw [addr_add hsp]; exact (hf j (by omega)).1)
      simp only [loadVar, Sem.run_bind, run_agg hag, Result.andThen_ok, if_true, run_size hsz, hr]
      simp only [Sem.run_pure, Result.ok.injEq, Value.agg.injEq, and_true]
      apply Array.ext
      · simp
      · intro i h1 h2; simp
    · have : (Array.ofFn (n := n) fun i => f i).getD i Go.undef = f i := by
        simp [Array.getD, show i < n by omega]
      rw [this]
      exact (hf i hi).2
  | false =>
    have hx : cs = [v] := by
      match cs, hm with
      | [x], hm => simp only [mkV, Option.some.injEq] at hm; rw [hm]
    subst hx
    obtain ⟨h1, h2⟩ := hf 0 Nat.zero_lt_one
    refine ⟨f 0, ?_, h2⟩
    have e : (⟨p.block, p.off + 0, none⟩ : Addr) = p := by cases p; cases hsp; rfl
    rw [e] at h1
    simp [loadVar, run_agg hag, h1]
theorem load_does (hs : Sim w O g lam a.tmps st) {t : TypeId} {x : Operand} {v : V} {st' : St} (ho : o.op = .load t x) (h : opLoad P st t x = some (v, st')) : Does P lo tlo o a w O g lam st v st' := by
  obtain ⟨n, h1, h⟩ := ob_eq h
  obtain ⟨b, h2, h⟩ := ob_eq h
  obtain ⟨ad, h3, h⟩ := ob_eq h
  obtain ⟨cs, h4, h⟩ := ob_eq h
  obtain ⟨r, h5, h⟩ := om_eq h
  injection h with h6 h7
  subst h6
  subst h7
  obtain ⟨p, hp, hpl⟩ := adr_place hs h3
  · by_cases hn : 0 < n
    · obtain ⟨hsp, hl, hce, hc⟩ := place_cells hs hpl h4 hn
      obtain ⟨u, hr, hu⟩ := run_var h1 h2 hsp hl hce hc h5
      exact Does.value hs (by simp [execOp, ho, hp, Instr.loadAt, Instr.sureAddr, hr]) hu
    · have hn0 : n = 0 := by omega
      subst hn0
      have hcs : cs = [] := by
        have : cs.length = 0 := by
          cases ad <;> simp only [cellsAt] at h4
          · obtain ⟨_, _, q⟩ := ob_eq h4; exact (cut_eq q).2.1
          · exact (cut_eq h4).2.1
          · obtain ⟨_, _, q⟩ := ob_eq h4; exact (cut_eq q).2.1
        exact List.eq_nil_of_length_eq_zero this
      subst hcs
      cases b with
      | false => simp [mkV] at h5
      | true =>
        simp only [mkV, Option.some.injEq] at h5
        subst h5
        refine Does.value hs (v := .agg #[]) ?_ (.agg _ _ rfl (by simp) (fun i hi => absurd hi (by simp)))
        simp [execOp, ho, hp, Instr.loadAt, Instr.sureAddr, loadVar, run_agg h2, run_size h1, loadCells, loadCellsFrom]
theorem nil_does (hs : Sim w O g lam a.tmps st) {x : Operand} {v : V} {st' : St} (ho : o.op = .nilCheck x) (h : opNil st x = some (v, st')) : Does P lo tlo o a w O g lam st v st' := by
  cases x <;> simp only [opNil] at h <;> try (cases h; done)
  rename_i t
  obtain ⟨u, h1, h2⟩ := om_eq h
  injection h2 with h3 h4
  subst h3
  subst h4
  simp only [St.get] at h1
  by_cases ht : t < st.tm.length
  · have h0 := hs.slot t ht
    cases hn : nth st.tm t <;> rw [hn] at h1 h0 <;> simp only [nilV] at h1 <;> try (cases h1; done)
    · injection h1 with h1; subst h1
      obtain ⟨p, hp⟩ := ptr_inv (show FR w O g lam st _ _ from h0)
      refine Does.value hs (v := .pointer (some p)) (by simp [execOp, ho, Act.eval, hp]) ?_
      rw [← hp]; exact h0
    · injection h1 with h1; subst h1
      obtain ⟨b, off, hp⟩ := iptr_inv (show FR w O g lam st _ _ from h0)
      refine Does.value hs (v := .pointer (some ⟨b, off, none⟩)) (by simp [execOp, ho, Act.eval, hp]) ?_
      rw [← hp]; exact h0
    · injection h1 with h1; subst h1
      have hp : a.tmps.getD t undef = .pointer (some ⟨lam t, 0, none⟩) := h0
      exact Does.place hs (fun _ _ => rfl) (by simp [execOp, ho, Act.eval, hp])
    · rename_i u off
      injection h1 with h1; subst h1
      obtain ⟨p, hp, h0⟩ := h0
      exact Does.place hs h0 (by simp [execOp, ho, Act.eval, hp])
    · rename_i fn fs cs
      cases fn <;> simp only at h1 <;> try (cases h1; done)
      injection h1 with h1; subst h1
      have h0' : FR w O g lam st (a.tmps.getD t undef) (.func (.func _) fs cs) := h0
      cases hv : a.tmps.getD t undef <;> rw [hv] at h0' <;> try (cases h0'; done)
      refine Does.value hs (v := a.tmps.getD t undef) ?_ h0
      cases h0'
      simp [execOp, ho, Act.eval, hv]
  · rw [nth_ge (Nat.not_lt.1 ht)] at h1
    cases h1
end reads
end Go.Vi
