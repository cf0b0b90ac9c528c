/- Places inside places, cuts, lengths, comparisons. -/
import Derived.Test.YtngeclldoplihaaViReads
set_option linter.unusedVariables false
set_option linter.unusedSimpArgs false
namespace Go.Vi
open Go.RowKit
section reads2
variable {P : Program} {lo tlo : Nat} {o : Oper} {a : Act} {w : World} {O : Nat → Prop} {g : G} {lam : Nat → Nat} {st : St}
theorem fieldIn_eq {s : TypeId} {f : Nat} {q : Nat × TypeId} (h : fieldIn P s f = some q) : ∃ fs x, P.underlying s = some (.struct fs) ∧ fs[f]? = some x ∧ x.offset = q.1 ∧ x.type = q.2 := by
  unfold fieldIn at h
  split at h
  · rename_i fs hu
    cases hx : fs[f]? with
    | none => rw [hx] at h; cases h
    | some x => rw [hx] at h; simp at h; subst h; exact ⟨fs, x, hu, hx, rfl, rfl⟩
  · cases h
theorem fieldSz_eq {s : TypeId} {f : Nat} {p : Nat × Nat × Bool} (h : fieldSz P s f = some p) : ∃ fs x, P.underlying s = some (.struct fs) ∧ fs[f]? = some x ∧ x.offset = p.1 ∧ szOf P x.type = some p.2.1 ∧ aggT P x.type = some p.2.2 := by
  unfold fieldSz at h
  cases h1 : fieldIn P s f with
  | none => rw [h1] at h; cases h
  | some q =>
    rw [h1] at h
    obtain ⟨fs, x, k1, k2, k3, k4⟩ := fieldIn_eq h1
    simp only [Option.bind_some] at h
    cases h2 : szOf P q.2 with
    | none => rw [h2] at h; cases h
    | some n =>
      rw [h2] at h
      simp only [Option.bind_some] at h
      cases h3 : aggT P q.2 with
      | none => rw [h3] at h; cases h
      | some b =>
        rw [h3] at h
        simp only [Option.map_some, Option.some.injEq] at h
        subst h
        exact ⟨fs, x, k1, k2, k3, by rw [k4]; exact h2, by rw [k4]; exact h3⟩
theorem Place.shift {p : Addr} {ad : Ad} (h : Place w O g lam st p ad) (n : Nat) (hn : ∀ cs, ad = .imm cs → n ≤ cs.length) : Place w O g lam st (p.add n) (ad.add n) := by
  cases h with
  | box x r i off h =>
    refine .box _ _ _ _ ?_
    cases h with
    | ptr _ _ _ _ hr ha =>
      refine .ptr _ _ _ _ hr fun es rs hb => ?_
      rw [ha es rs hb, addr_add rfl, Nat.add_assoc]
  | imm b off cs h =>
    rw [addr_add rfl]
    refine .imm _ _ _ ?_
    cases h with
    | iptr _ _ _ cf hp hc hv =>
      refine .iptr _ _ _ (fun j => cf (n + j)) ?_ (fun j hj => ?_) (fun j hj => ?_)
      · simp only [List.all_eq_true] at hp ⊢
        exact fun x hx => hp x (List.mem_of_mem_drop hx)
      · simp only [List.length_drop] at hj
        have := hc (n + j) (by omega)
        rw [← Nat.add_assoc] at this
        exact this
      · simp only [List.length_drop] at hj
        rw [List.getElem_drop]
        exact hv (n + j) (by omega)
  | loc t off => rw [addr_add rfl]; exact .loc _ _
  | gone x t off h => exact .gone _ _ _ h
/-- The value of a place. -/
theorem Does.ofPlace (hs : Sim w O g lam a.tmps st) {p : Addr} {ad : Ad} (h : Place w O g lam st p ad) (hr : (execOp a.eval o).run P w = .ok (.value (.pointer (some p))) w) : Does P lo tlo o a w O g lam st ad.val st := by
  cases h with
  | box x r i off h => exact Does.value hs hr h
  | imm b off cs h => exact Does.value hs hr h
  | loc t off => exact Does.place hs (fun _ _ => rfl) hr
  | gone x t off h => exact Does.place hs (fun cs hcs => absurd hcs (h cs)) hr
theorem Ad.add_imm_big {ad : Ad} {n : Nat} (hn : ∀ cs, ad = .imm cs → n ≤ cs.length) : True := trivial
theorem fieldAddr_does (hs : Sim w O g lam a.tmps st) {s : TypeId} {x : Operand} {f : Nat} {v : V} {st' : St} (ho : o.op = .fieldAddr s x f) (h : opFieldAddr P st s x f = some (v, st')) : Does P lo tlo o a w O g lam st v st' := by
  obtain ⟨ad, h1, h⟩ := ob_eq h
  obtain ⟨p, h2, h⟩ := ob_eq h
  split at h
  · cases h
  · rename_i hn
    injection h with h
    injection h with h3 h4
    subst h3
    subst h4
    obtain ⟨fs, fx, k1, k2, k3, k4, k5⟩ := fieldSz_eq h2
    obtain ⟨q, hq, hpl⟩ := adr_place hs h1
    have hrun : (execOp a.eval o).run P w = .ok (.value (.pointer (some (q.add p.1)))) w := by
      simp only [execOp, ho, hq, Instr.fieldAt, Sem.run_bind, run_underlying k1, Result.andThen_ok, Instr.sureAddr, Sem.run_pure]
      simp [k2, fieldPlace, run_size k4, hn, k3, Instr.sureAddr]
    by_cases hc : ∀ cs, ad = .imm cs → p.1 ≤ cs.length
    · exact Does.ofPlace hs (hpl.shift p.1 hc) hrun
    · -- a place behind the end: no cells are told of it
      have : ∃ cs, ad = .imm cs ∧ cs.length < p.1 := by
        apply Classical.byContradiction
        intro hno
        exact hc fun cs e => Nat.not_lt.1 fun hl => hno ⟨cs, e, hl⟩
      obtain ⟨cs, rfl, hl⟩ := this
      have e : (Ad.imm cs).add p.1 = .imm [] := by simp [Ad.add, List.drop_eq_nil_of_le (Nat.le_of_lt hl)]
      rw [e]
      obtain ⟨b, off, hqe⟩ : ∃ b off, q = ⟨b, off, none⟩ := by cases hpl; exact ⟨_, _, rfl⟩
      refine Does.value hs hrun ?_
      rw [hqe, addr_add rfl]
      exact .iptr _ _ [] (fun _ => undef) rfl (fun j hj => absurd hj (by simp)) (fun j hj => absurd hj (by simp))
theorem asNat_eq {x : V} {n : Nat} (h : asNat x = some n) : ∃ k i, x = .int k i ∧ 0 ≤ i ∧ i.toNat = n := by
  unfold asNat at h
  split at h
  · rename_i k i
    split at h
    · rename_i hi; injection h with h; exact ⟨k, i, rfl, hi, h⟩
    · cases h
  · cases h
theorem boxIn_eq {b : Option Box} {p : Nat × List (List V)} (h : boxIn b = some p) : b = some (.rows p.1 p.2) := by
  unfold boxIn at h
  split at h
  · injection h with h; subst h; rfl
  · cases h
theorem elemIn_eq {t e : TypeId} (h : elemIn P t = some e) : P.underlying t = some (.slice e) := by
  unfold elemIn at h
  split at h
  · injection h with h; subst h; assumption
  · cases h
theorem arrIn_eq {t : TypeId} {q : Nat × TypeId} (h : arrIn P t = some q) : P.underlying t = some (.array q.1 q.2) := by
  unfold arrIn at h
  split at h
  · injection h with h; subst h; assumption
  · cases h
theorem sl_inv {v : Value} {k : SK} {es : Nat} {rows : List (List V)} (h : FR w O g lam st v (.sl k es rows)) :
    ∃ (a : Option Addr) (len cap : Nat) (cf : Nat → Nat → Value), v = .slice a len cap ∧ rows.length = len ∧ len ≤ cap ∧ (∀ row ∈ rows, row.length = es) ∧ pureRows rows = true ∧
      (0 < len → ∃ b o, a = some ⟨b, o, none⟩ ∧ ∀ i j, i < len → j < es → cellOf w b (o + (i * es + j)) = some (cf i j) ∧ Stab O g lam st b (o + (i * es + j))) ∧
      (∀ i j (hi : i < rows.length) (hj : j < rows[i].length), FR w O g lam st (cf i j) rows[i][j]) ∧ SKR st.tk g a len cap es rows k := by
  cases h with
  | sl _ a len cap _ _ cf hl hcap hrow hp ha hv hk => exact ⟨a, len, cap, cf, rfl, hl, hcap, hrow, hp, ha, hv, hk⟩
theorem ref_inv {v : Value} {r off len : Nat} (h : FR w O g lam st v (.ref r off len)) : ∃ (a : Option Addr) (cap : Nat), v = .slice a len cap ∧ r < st.bx.length ∧ len ≤ cap ∧
    ∀ es rs, st.bx[r]? = some (.rows es rs) → off + len ≤ rs.length ∧ off + cap = g.κ r ∧ (0 < cap → a = some ⟨g.ρ r, off * es, none⟩) := by
  cases h with
  | ref a _ _ _ cap hr hcap ha => exact ⟨a, cap, rfl, hr, hcap, ha⟩
theorem indexAddr_does (hs : Sim w O g lam a.tmps st) {t : TypeId} {x i : Operand} {v : V} {st' : St} (ho : o.op = .indexAddr t x i) (h : opIndexAddr P st t x i = some (v, st')) : Does P lo tlo o a w O g lam st v st' := by
  obtain ⟨iv, h1, h⟩ := ob_eq h
  obtain ⟨j, h2, h⟩ := ob_eq h
  obtain ⟨k, z, rfl, hz, rfl⟩ := asNat_eq h2
  have hi := FR.int_inv (ev_FR hs h1)
  cases he : elemIn P t with
  | some e =>
    rw [he] at h
    simp only at h
    have hu := elemIn_eq he
    obtain ⟨n, h3, h⟩ := ob_eq h
    obtain ⟨u, h4, h⟩ := ob_eq h
    have hx := ev_FR hs h4
    cases u <;> simp only [elemAddr] at h <;> try (cases h; done)
    · rename_i sk es rows
      obtain ⟨row, h5, h⟩ := ob_eq h
      split at h
      · rename_i hc
        injection h with h
        injection h with h6 h7
        subst h6
        subst h7
        obtain ⟨hj, rfl⟩ := List.getElem?_eq_some_iff.1 h5
        obtain ⟨ao, len, cap, cf, hxv, hl, hcap, hrow, hp, ha, hv, hk⟩ := sl_inv hx
        obtain ⟨b, off, rfl, hh⟩ := ha (by omega)
        have hlt : z < (len : Int) := by omega
        refine Does.value hs (v := .pointer (some ((⟨b, off, none⟩ : Addr).add (z.toNat * n)))) ?_ ?_
        · simp [execOp, ho, hi, hxv, Instr.indexAt, asIntOf, run_underlying hu, hz, hlt, run_size h3]
        · rw [addr_add rfl]
          have hrl := hrow _ (List.getElem_mem hj)
          refine .iptr _ _ _ (fun q => cf z.toNat q) ?_ (fun q hq => ?_) (fun q hq => hv _ _ hj hq)
          · exact List.all_eq_true.1 hp _ (List.getElem_mem hj)
          · have := hh z.toNat q (by omega) (by omega)
            rw [← hc.1, Nat.add_assoc]
            exact this
      · cases h
    · rename_i r off len
      obtain ⟨p, h5, h⟩ := ob_eq h
      split at h
      · rename_i hc
        injection h with h
        injection h with h6 h7
        subst h6
        subst h7
        have hb := boxIn_eq h5
        obtain ⟨ao, cap, hxv, hr, hcap, ha⟩ := ref_inv hx
        obtain ⟨q1, q2, q3⟩ := ha _ _ hb
        have hao := q3 (by omega)
        subst hao
        have hlt : z < (len : Int) := by omega
        refine Does.value hs (v := .pointer (some ((⟨g.ρ r, off * p.1, none⟩ : Addr).add (z.toNat * n)))) ?_ ?_
        · simp [execOp, ho, hi, hxv, Instr.indexAt, asIntOf, run_underlying hu, hz, hlt, run_size h3]
        · rw [addr_add rfl]
          refine .ptr _ _ _ _ hr fun es rs hb' => ?_
          rw [hb] at hb'
          injection hb' with hb'
          injection hb' with e1 e2
          subst e1
          rw [← hc.2.1, Nat.add_mul]
          rfl
      · cases h
  | none =>
    rw [he] at h
    simp only at h
    obtain ⟨q, h3, h⟩ := ob_eq h
    obtain ⟨m, h4, h⟩ := ob_eq h
    obtain ⟨ad, h5, h⟩ := ob_eq h
    split at h
    · rename_i hc
      injection h with h
      injection h with h6 h7
      subst h6
      subst h7
      have hu := arrIn_eq h3
      obtain ⟨p, hp, hpl⟩ := adr_place hs h5
      have hlt : z < (q.1 : Int) := by omega
      have hrun : (execOp a.eval o).run P w = .ok (.value (.pointer (some (p.add (z.toNat * m))))) w := by
        simp [execOp, ho, hi, hp, Instr.indexAt, asIntOf, run_underlying hu, Instr.sureAddr, hz, hlt, run_size h4]
      by_cases hcc : ∀ cs, ad = .imm cs → z.toNat * m ≤ cs.length
      · exact Does.ofPlace hs (hpl.shift _ hcc) hrun
      · have : ∃ cs, ad = .imm cs ∧ cs.length < z.toNat * m := by
          apply Classical.byContradiction
          intro hno
          exact hcc fun cs e => Nat.not_lt.1 fun hl => hno ⟨cs, e, hl⟩
        obtain ⟨cs, rfl, hl⟩ := this
        have e : (Ad.imm cs).add (z.toNat * m) = .imm [] := by simp [Ad.add, List.drop_eq_nil_of_le (Nat.le_of_lt hl)]
        rw [e]
        obtain ⟨b, off, hqe⟩ : ∃ b off, p = ⟨b, off, none⟩ := by cases hpl; exact ⟨_, _, rfl⟩
        refine Does.value hs hrun ?_
        rw [hqe, addr_add rfl]
        exact .iptr _ _ [] (fun _ => undef) rfl (fun j hj => absurd hj (by simp)) (fun j hj => absurd hj (by simp))
    · cases h
/-- A part of a struct's or an array's value. -/
theorem run_part {t : TypeId} {n off : Nat} {b : Bool} {cs : Array Value} {vs us : List V} {v : V} (hsz : szOf P t = some n) (hag : aggT P t = some b) (h : FR w O g lam st (.agg cs) (.agg vs)) (hc : cut vs off n = some us) (hm : mkV b us = some v) :
    ∃ u, (part t cs off).run P w = .ok u w ∧ FR w O g lam st u v := by
  obtain ⟨k1, k2, k3⟩ := cut_eq hc
  cases h with
  | agg _ _ hsize hcell hv =>
    cases b with
    | true =>
      simp only [mkV, Option.some.injEq] at hm
      subst hm
      refine ⟨.agg (cs.extract off (off + n)), by simp [part, run_agg hag, run_size hsz], .agg _ _ (by simp; omega) (fun x hx => ?_) fun i hi => ?_⟩
      · obtain ⟨j, hj, rfl⟩ := List.getElem_of_mem hx
        rw [k3 j hj (by omega)]
        exact hcell _ (List.getElem_mem _)
      · have e : (cs.extract off (off + n)).getD i Go.undef = cs.getD (off + i) Go.undef := by
          simp only [Array.getD_eq_getD_getElem?, Array.getElem?_extract]
          rw [if_pos (by omega)]
        rw [e, k3 i hi (by omega)]
        exact hv _ (by omega)
    | false =>
      have hx : us = [v] := by
        match us, hm with
        | [x], hm => simp only [mkV, Option.some.injEq] at hm; rw [hm]
      subst hx
      have h1 : off < cs.size := by simp at k2; omega
      have h2 := hv off (by simp at k2; omega)
      refine ⟨cs[off], by simp [part, run_agg hag, h1], ?_⟩
      have e : cs.getD off Go.undef = cs[off] := by simp [Array.getD, h1]
      rw [e] at h2
      have e2 := k3 0 (by simp) (by simp at k2; omega)
      simp only [List.getElem_cons_zero, Nat.add_zero] at e2
      rw [e2]
      exact h2
theorem agg_inv {v : Value} {vs : List V} (h : FR w O g lam st v (.agg vs)) : ∃ cs, v = .agg cs := by cases h; exact ⟨_, rfl⟩
theorem field_does (hs : Sim w O g lam a.tmps st) {s : TypeId} {x : Operand} {f : Nat} {v : V} {st' : St} (ho : o.op = .field s x f) (h : opField P st s x f = some (v, st')) : Does P lo tlo o a w O g lam st v st' := by
  obtain ⟨u, h1, h⟩ := ob_eq h
  cases u <;> simp only at h <;> try (cases h; done)
  rename_i vs
  obtain ⟨p, h2, h⟩ := ob_eq h
  obtain ⟨us, h3, h⟩ := ob_eq h
  obtain ⟨r, h4, h⟩ := om_eq h
  injection h with h5 h6
  subst h5
  subst h6
  obtain ⟨fs, fx, k1, k2, k3, k4, k5⟩ := fieldSz_eq h2
  have hx := ev_FR hs h1
  obtain ⟨cs, hcs⟩ := agg_inv hx
  rw [hcs] at hx
  obtain ⟨u, hr, hu⟩ := run_part k4 k5 hx h3 h4
  refine Does.value hs ?_ hu
  simp [execOp, ho, hcs, Instr.field, run_underlying k1, k2, asAgg, k3, hr]
theorem byteAt_eq {s : ByteArray} {j : Nat} {v : V} (h : byteAt s j = some v) : ∃ hj : j < s.size, v = .int .u8 s[j].toNat := by
  unfold byteAt at h
  split at h
  · rename_i hj; injection h with h; exact ⟨hj, h.symm⟩
  · cases h
theorem index_does (hs : Sim w O g lam a.tmps st) {t : TypeId} {x i : Operand} {v : V} {st' : St} (ho : o.op = .index t x i) (h : opIndex P st t x i = some (v, st')) : Does P lo tlo o a w O g lam st v st' := by
  obtain ⟨iv, h1, h⟩ := ob_eq h
  obtain ⟨j, h2, h⟩ := ob_eq h
  obtain ⟨k, z, rfl, hz, rfl⟩ := asNat_eq h2
  have hi := FR.int_inv (ev_FR hs h1)
  obtain ⟨u, h3, h⟩ := ob_eq h
  have hx := ev_FR hs h3
  cases u <;> simp only at h <;> try (cases h; done)
  · rename_i s
    split at h
    · rename_i hstr
      have hty : P.underlying t = some .string := by
        unfold lenT at hstr
        split at hstr <;> first | assumption | (simp at hstr; done)
      obtain ⟨r, h4, h⟩ := om_eq h
      injection h with h5 h6
      subst h5
      subst h6
      obtain ⟨hj, rfl⟩ := byteAt_eq h4
      refine Does.value hs (v := .int .u8 s[z.toNat].toNat) ?_ (.int _ _)
      have : s[z.toNat]? = some s[z.toNat] := getElem?_pos s z.toNat hj
      simp [execOp, ho, hi, FR.str_inv hx, Instr.index, asIntOf, run_underlying hty, hz, this]
    · cases h
  · rename_i vs
    obtain ⟨q, h4, h⟩ := ob_eq h
    obtain ⟨m, h5, h⟩ := ob_eq h
    obtain ⟨b, h6, h⟩ := ob_eq h
    split at h
    · rename_i hlt
      obtain ⟨us, h7, h⟩ := ob_eq h
      obtain ⟨r, h8, h⟩ := om_eq h
      injection h with h9 h10
      subst h9
      subst h10
      obtain ⟨cs, hcs⟩ := agg_inv hx
      rw [hcs] at hx
      obtain ⟨u, hr, hu⟩ := run_part h5 h6 hx h7 h8
      refine Does.value hs ?_ hu
      have hz2 : z < (q.1 : Int) := by omega
      simp [execOp, ho, hi, hcs, Instr.index, asIntOf, run_underlying (arrIn_eq h4), hz, hz2, run_size h5, hr]
    · cases h
end reads2
end Go.Vi
