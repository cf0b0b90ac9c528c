/- Lengths, cuts, the greatest and the least, comparisons and arithmetic. -/
import Derived.Test.YtngeclldoplihaaViReads2
set_option linter.unusedVariables false
set_option linter.unusedSimpArgs false
namespace Go.Vi
open Go.RowKit
section ops3
variable {P : Program} {lo tlo : Nat} {o : Oper} {a : Act} {w : World} {O : Nat → Prop} {g : G} {lam : Nat → Nat} {st : St}
theorem lenT_str {t : TypeId} (h : lenT P t = 1) : P.underlying t = some .string := by
  unfold lenT at h
  split at h <;> first | assumption | (simp at h; done)
theorem lenT_sl {t : TypeId} (h : lenT P t = 2) : ∃ e, P.underlying t = some (.slice e) := by
  unfold lenT at h
  split at h <;> first | exact ⟨_, by assumption⟩ | (simp at h; done)
theorem nils_inv {v : Value} (h : FR w O g lam st v .nils) : v = .slice none 0 0 := by cases h; rfl
/-- A length that is counted. -/
theorem run_len {ty t : TypeId} {u : V} {v : Value} {n : Nat} (hk : lenT P t = lenK u) (hx : FR w O g lam st v u) (hn : lenV u = some n) :
    (Builtin.len_ #[t] ty #[v]).run P w = .ok (.int .i64 n) w := by
  cases u <;> simp only [lenV] at hn <;> try (cases hn; done)
  · injection hn with hn; subst hn
    simp [Builtin.len_, run_underlying (lenT_str hk), FR.str_inv hx, goInt]
  · injection hn with hn; subst hn
    obtain ⟨e, he⟩ := lenT_sl hk
    simp [Builtin.len_, run_underlying he, nils_inv hx, goInt]
  · injection hn with hn; subst hn
    obtain ⟨e, he⟩ := lenT_sl hk
    obtain ⟨ao, len, cap, cf, hxv, hl, hcap, hrow, hp, ha, hv, hkk⟩ := sl_inv hx
    simp [Builtin.len_, run_underlying he, hxv, goInt, hl]
  · injection hn with hn; subst hn
    obtain ⟨e, he⟩ := lenT_sl hk
    obtain ⟨ao, cap, hxv, hr, hcap, ha⟩ := ref_inv hx
    simp [Builtin.len_, run_underlying he, hxv, goInt]
theorem len_does (hs : Sim w O g lam a.tmps st) {ts : Array TypeId} {xs : Array Operand} {v : V} {st' : St} (ho : o.op = .call { callee := .builtin .len, args := xs, argTypes := ts }) (h : opLen P st ts.toList xs.toList = some (v, st')) : Does P lo tlo o a w O g lam st v st' := by
  obtain ⟨ts⟩ := ts
  obtain ⟨xs⟩ := xs
  simp only [opLen] at h
  match ts, h with
  | [t], h =>
    simp only at h
    obtain ⟨vs, h1, h⟩ := ob_eq h
    match vs, h1, h with
    | [u], h1, h =>
      simp only at h
      split at h
      · rename_i hk
        obtain ⟨n, h2, h⟩ := om_eq h
        injection h with h3 h4
        subst h3
        subst h4
        obtain ⟨l1, hh⟩ := evs_FR hs h1
        obtain ⟨x, rfl⟩ : ∃ x, xs = [x] := by
          match xs, l1 with
          | [x], _ => exact ⟨x, rfl⟩
        have hx := hh 0 (by simp)
        simp only [List.map_cons, List.map_nil, List.getElem?_cons_zero, Option.getD_some, List.getElem_cons_zero] at hx
        refine Does.value hs (v := .int .i64 n) ?_ (.int _ _)
        have := run_len (P := P) (ty := o.type) hk hx h2
        simp [execOp, ho, resolve, invoke, builtin, this]
      · cases h
theorem maxV_run {vs : List V} {v : V} (h : maxV vs = some v) : ∃ ns : List Int, ∃ k, vs = ns.map (.int k) ∧ (∃ m, v = .int k m ∧ (Builtin.max_ #[] 0 (ns.map (Value.int k)).toArray).run P w = .ok (.int k m) w) := by
  unfold maxV at h
  split at h
  · injection h with h; subst h
    rename_i k x
    exact ⟨[x], k, rfl, x, rfl, by simp [Builtin.max_]⟩
  · split at h
    · rename_i k x k' y e
      injection h with h; subst h; subst e
      exact ⟨[x, y], k, rfl, _, rfl, by simp [Builtin.max_, Builtin.max2]⟩
    · cases h
  · split at h
    · rename_i k x k' y k'' z e
      obtain ⟨e1, e2⟩ := e
      injection h with h; subst h; subst e1; subst e2
      exact ⟨[x, y, z], k, rfl, _, rfl, by simp [Builtin.max_, Builtin.max2]⟩
    · cases h
  · cases h
theorem minV_run {vs : List V} {v : V} (h : minV vs = some v) : ∃ ns : List Int, ∃ k, vs = ns.map (.int k) ∧ (∃ m, v = .int k m ∧ (Builtin.min_ #[] 0 (ns.map (Value.int k)).toArray).run P w = .ok (.int k m) w) := by
  unfold minV at h
  split at h
  · injection h with h; subst h
    rename_i k x
    exact ⟨[x], k, rfl, x, rfl, by simp [Builtin.min_]⟩
  · split at h
    · rename_i k x k' y e
      injection h with h; subst h; subst e
      exact ⟨[x, y], k, rfl, _, rfl, by simp [Builtin.min_, Builtin.min2]⟩
    · cases h
  · split at h
    · rename_i k x k' y k'' z e
      obtain ⟨e1, e2⟩ := e
      injection h with h; subst h; subst e1; subst e2
      exact ⟨[x, y, z], k, rfl, _, rfl, by simp [Builtin.min_, Builtin.min2]⟩
    · cases h
  · cases h
theorem evs_ints (hs : Sim w O g lam a.tmps st) {xs : List Operand} {k : IntKind} {ns : List Int} (h : evs st xs = some (ns.map (.int k))) : xs.map a.eval = ns.map (Value.int k) := by
  obtain ⟨hl, hh⟩ := evs_FR hs h
  apply List.ext_getElem
  · simpa using hl
  · intro i h1 h2
    simp only [List.length_map] at h2
    have := hh i (by simpa using h2)
    simp only [List.getElem_map] at this ⊢
    have h3 : i < xs.length := by simpa using h1
    rw [List.getElem?_map, List.getElem?_eq_getElem h3] at this
    exact FR.int_inv this
theorem max_does (hs : Sim w O g lam a.tmps st) {ts : Array TypeId} {xs : Array Operand} {v : V} {st' : St} (ho : o.op = .call { callee := .builtin .max, args := xs, argTypes := ts }) (h : opMax st xs.toList = some (v, st')) : Does P lo tlo o a w O g lam st v st' := by
  obtain ⟨vs, h1, h⟩ := ob_eq h
  obtain ⟨u, h2, h⟩ := om_eq h
  injection h with h3 h4
  subst h3
  subst h4
  obtain ⟨ns, k, rfl, m, rfl, hr⟩ := maxV_run (P := P) (w := w) h2
  have hx := evs_ints hs h1
  refine Does.value hs (v := .int k m) ?_ (.int _ _)
  have e : xs.map a.eval = (ns.map (Value.int k)).toArray := by rw [← hx]; obtain ⟨xs⟩ := xs; simp
  simp only [Builtin.max_] at hr
  simp only [execOp, ho, resolve, invoke, builtin, Sem.run_bind, Sem.run_pure, Result.andThen_ok, e, Builtin.max_, hr]
theorem min_does (hs : Sim w O g lam a.tmps st) {ts : Array TypeId} {xs : Array Operand} {v : V} {st' : St} (ho : o.op = .call { callee := .builtin .min, args := xs, argTypes := ts }) (h : opMin st xs.toList = some (v, st')) : Does P lo tlo o a w O g lam st v st' := by
  obtain ⟨vs, h1, h⟩ := ob_eq h
  obtain ⟨u, h2, h⟩ := om_eq h
  injection h with h3 h4
  subst h3
  subst h4
  obtain ⟨ns, k, rfl, m, rfl, hr⟩ := minV_run (P := P) (w := w) h2
  have hx := evs_ints hs h1
  refine Does.value hs (v := .int k m) ?_ (.int _ _)
  have e : xs.map a.eval = (ns.map (Value.int k)).toArray := by rw [← hx]; obtain ⟨xs⟩ := xs; simp
  simp only [Builtin.min_] at hr
  simp only [execOp, ho, resolve, invoke, builtin, Sem.run_bind, Sem.run_pure, Result.andThen_ok, e, Builtin.min_, hr]

/-- A bound of a cut. -/
theorem bound_run (hs : Sim w O g lam a.tmps st) {d n : Nat} {x : Option Operand} (h : bound st d x = some n) : (x = none ∧ n = d) ∨ ∃ y k i, x = some y ∧ a.eval y = .int k i ∧ 0 ≤ i ∧ i.toNat = n := by
  cases x with
  | none => simp only [bound, Option.some.injEq] at h; exact .inl ⟨rfl, h.symm⟩
  | some y =>
    simp only [bound] at h
    obtain ⟨u, h1, h2⟩ := ob_eq h
    obtain ⟨k, i, rfl, hi, hn⟩ := asNat_eq h2
    exact .inr ⟨y, k, i, rfl, FR.int_inv (ev_FR hs h1), hi, hn⟩
theorem run_bounds (hs : Sim w O g lam a.tmps st) {isS : Bool} {len cap l h : Nat} {lo' hi' : Option Operand} (h1 : bound st 0 lo' = some l) (h2 : bound st len hi' = some h) (hlh : l ≤ h) (hhl : h ≤ cap) (hlc : len ≤ cap) :
    (Instr.sliceBounds isS len cap (lo'.map a.eval) (hi'.map a.eval) none).run P w = .ok (l, h, cap) w := by
  have e1 : ∀ (k : IntKind) (i : Int) (y : Nat) (code : BoundsCode), 0 ≤ i → i.toNat ≤ y → (Instr.sliceBound (.int k i) y code).run P w = .ok i.toNat w := by
    intro k i y code h0 hy
    have : i ≤ (y : Int) := by omega
    simp [Instr.sliceBound, asIntOf, h0, this]
  unfold Instr.sliceBounds
  rcases bound_run hs h1 with ⟨rfl, rfl⟩ | ⟨y, k, i, rfl, hy, h0, rfl⟩ <;> rcases bound_run hs h2 with ⟨rfl, rfl⟩ | ⟨y', k', i', rfl, hy', h0', rfl⟩
  · simp
  · simp [hy', e1 k' i' cap _ h0' hhl]
  · simp [hy, e1 k i _ _ h0 hlh]
  · simp [hy, hy', e1 k' i' cap _ h0' hhl, e1 k i _ _ h0 hlh]
theorem elemSz_sl {t e : TypeId} {n : Nat} (hu : P.underlying t = some (.slice e)) (h : elemSz P t = some n) : szOf P e = some n := by
  have hl : lenT P t = 2 := by simp [lenT, hu]
  have he : elemIn P t = some e := by simp [elemIn, hu]
  simpa [elemSz, hl, he] using h
theorem slice_does (hs : Sim w O g lam a.tmps st) {t : TypeId} {x : Operand} {l h : Option Operand} {v : V} {st' : St} (ho : o.op = .slice t x l h none) (hh : opSlice P st t x l h = some (v, st')) : Does P lo tlo o a w O g lam st v st' := by
  obtain ⟨e, h1, hh⟩ := ob_eq hh
  obtain ⟨u, h2, hh⟩ := ob_eq hh
  obtain ⟨n, h3, hh⟩ := ob_eq hh
  obtain ⟨x1, h4, hh⟩ := ob_eq hh
  obtain ⟨x2, h5, hh⟩ := ob_eq hh
  split at hh
  · rename_i hk
    obtain ⟨r, h6, hh⟩ := om_eq hh
    injection hh with h7 h8
    subst h7
    subst h8
    have hx := ev_FR hs h2
    cases u with
    | str s =>
      simp only [sliceV] at h6
      simp only [lenV, Option.some.injEq] at h3
      subst h3
      split at h6
      · rename_i hc
        injection h6 with h6
        subst h6
        have hu := lenT_str hk
        refine Does.value hs (v := .string (s.extract x1 x2)) ?_ (.str _)
        have := run_bounds (P := P) hs (isS := false) h4 h5 hc.1 hc.2 (Nat.le_refl _)
        simp [execOp, ho, FR.str_inv hx, Instr.sliceAt, Instr.slice, run_underlying hu, this]
      · cases h6
    | nils =>
      simp only [sliceV] at h6
      simp only [lenV, Option.some.injEq] at h3
      subst h3
      split at h6
      · rename_i hc
        injection h6 with h6
        subst h6
        obtain ⟨rfl, rfl⟩ := hc
        obtain ⟨ee, hu⟩ := lenT_sl hk
        refine Does.value hs (v := .slice none 0 0) ?_ .nils
        have := run_bounds (P := P) hs (isS := true) h4 h5 (Nat.le_refl _) (Nat.le_refl _) (Nat.le_refl _)
        simp [execOp, ho, nils_inv hx, Instr.sliceAt, Instr.slice, run_underlying hu, this, run_size (elemSz_sl hu h1)]
      · cases h6
    | sl sk es rows =>
      simp only [sliceV] at h6
      simp only [lenV, Option.some.injEq] at h3
      subst h3
      split at h6
      · rename_i hc
        obtain ⟨rfl, hc1, hc2⟩ := hc
        injection h6 with h6
        subst h6
        obtain ⟨ee, hu⟩ := lenT_sl hk
        obtain ⟨ao, len, cap, cf, hxv, hl, hcap, hrow, hp, ha, hv, hkk⟩ := sl_inv hx
        subst hl
        have hb := run_bounds (P := P) hs (isS := true) h4 h5 hc1 (Nat.le_trans hc2 hcap) hcap
        refine Does.value hs (v := .slice (if cap = x1 then ao else ao.map (·.add (x1 * es))) (x2 - x1) (cap - x1)) ?_ ?_
        · simp [execOp, ho, hxv, Instr.sliceAt, Instr.slice, run_underlying hu, hb, run_size (elemSz_sl hu h1)]
        · refine .sl _ _ _ _ es _ (fun i j => cf (x1 + i) j) (by simp; omega) (by omega) (fun row hr => hrow row (List.mem_of_mem_take (List.mem_of_mem_drop hr))) ?_ (fun h0 => ?_) (fun i j hi hj => ?_) ?_
          · simp only [pureRows, List.all_eq_true] at hp ⊢
            exact fun row hr => hp row (List.mem_of_mem_take (List.mem_of_mem_drop hr))
          · obtain ⟨b, off, rfl, q⟩ := ha (by omega)
            rw [if_neg (by omega)]
            refine ⟨b, off + x1 * es, by rw [Option.map_some, addr_add rfl], fun i j hi hj => ?_⟩
            have := q (x1 + i) j (by omega) hj
            have e : off + x1 * es + (i * es + j) = off + ((x1 + i) * es + j) := by rw [Nat.add_mul]; omega
            rw [e]
            exact this
          · simp only [List.length_drop, List.length_take] at hi
            have h1 : x1 + i < rows.length := by omega
            have e : ((rows.take x2).drop x1)[i] = rows[x1 + i] := by simp
            have hj' : j < rows[x1 + i].length := by rw [← e]; exact hj
            have := hv (x1 + i) j h1 hj'
            simp only [e]
            exact this
          · cases sk with
            | frozen => cases h.isNone <;> trivial
            | tok id => cases h.isNone <;> trivial
            | full =>
              cases hno : h with
              | some y => trivial
              | none =>
                subst hno
                simp only [bound, Option.some.injEq] at h5
                subst h5
                have : cap = rows.length := hkk
                simp only [Option.isNone_none, cutSk, SKR]
                omega
      · cases h6
    | ref r off len =>
      simp only [sliceV] at h6
      simp only [lenV, Option.some.injEq] at h3
      subst h3
      obtain ⟨p, h7, h6⟩ := ob_eq h6
      split at h6
      · rename_i hc
        obtain ⟨hc0, hc1, hc2⟩ := hc
        injection h6 with h6
        subst h6
        obtain ⟨ee, hu⟩ := lenT_sl hk
        obtain ⟨ao, cap, hxv, hr, hcap, ha⟩ := ref_inv hx
        have hb := run_bounds (P := P) hs (isS := true) h4 h5 hc1 (Nat.le_trans hc2 hcap) hcap
        refine Does.value hs (v := .slice (if cap = x1 then ao else ao.map (·.add (x1 * e))) (x2 - x1) (cap - x1)) ?_ ?_
        · simp [execOp, ho, hxv, Instr.sliceAt, Instr.slice, run_underlying hu, hb, run_size (elemSz_sl hu h1)]
        · refine .ref _ _ _ _ _ hr (by omega) fun es rs hbx => ?_
          have hbx0 := boxIn_eq h7
          have he : es = e := by
            rw [hbx0] at hbx
            injection hbx with hbx
            injection hbx with e1 e2
            omega
          subst he
          obtain ⟨q1, q2, q3⟩ := ha es rs hbx
          refine ⟨by omega, by omega, fun h0 => ?_⟩
          rw [if_neg (by omega), q3 (by omega), Option.map_some, addr_add rfl, Nat.add_mul]
      · cases h6
    | _ => cases h6
  · cases hh
theorem equal_eq {t : TypeId} {x y : Value} : Op.equal t x y = Op.equalIn (9999 + 1) t x y := rfl
theorem eqKind_val {u v : V} {x y : Value} {t : TypeId} {b : Bool} (hu : FR w O g lam st x u) (hv : FR w O g lam st y v) (hk : kindOf P t = eqKind u v) (h : eqCell u v = some b) :
    (Op.equal t x y).run P w = .ok b w ∧ (∀ xo yo, (eqGuard .eql t xo yo x y).run P w = .ok () w) ∧ (∀ xo yo, (eqGuard .neq t xo yo x y).run P w = .ok () w) ∧
    (∀ k n, x ≠ .int k n) ∧ (∀ s, x ≠ .string s) ∧ (∀ (k : FloatKind) n, x ≠ .float k n) ∧ (∀ (k : FloatKind) n m, x ≠ .complex k n m) := by
  have kt : ∀ {d : TypeDesc}, P.underlying t = some d → (underlying t).run P w = .ok d w := fun h => run_underlying h w
  rw [equal_eq]
  unfold kindOf at hk
  unfold Op.equalIn
  cases u <;> cases v <;> simp only [eqKind] at hk <;> simp only [eqCell] at h <;> (try (cases h; done)) <;> (split at hk <;> try (simp at hk; done)) <;>
    (rename_i hty; cases hu; cases hv; injection h with h; subst h; simp [kt hty, eqGuard, eqB])
/-- The value of a number, a bool, a text. -/
def scal : V → Value
  | .bool b => .bool b
  | .int k n => .int k n
  | .str s => .string s
  | _ => undef
def isScal : V → Bool
  | .bool _ | .int .. | .str _ => true
  | _ => false
theorem scal_FR {r : V} (h : isScal r = true) : FR w O g lam st (scal r) r := by
  cases r <;> first | (cases h; done) | constructor
theorem binV_run {op : BinOp} {t : TypeId} {k k' : IntKind} {n m : Int} {r : V} (h : binV op (.int k n) (.int k' m) = some r) :
    (binOp op t (.int k n) (.int k' m)).run P w = .ok (scal r) w ∧ isScal r = true := by
  by_cases hsl : op = .shl
  · subst hsl
    simp only [binV, binShift] at h
    split at h
    · cases h
    · rename_i hm
      injection h with h; subst h
      exact ⟨by simp [binOp, Op.shift, hm, scal], rfl⟩
  by_cases hsr : op = .shr
  · subst hsr
    simp only [binV, binShift] at h
    split at h
    · cases h
    · rename_i hm
      injection h with h; subst h
      exact ⟨by simp [binOp, Op.shift, hm, scal], rfl⟩
  have h' : (if k = k' then binInt op k n m else none) = some r := by
    cases op <;> first | exact absurd rfl hsl | exact absurd rfl hsr | exact h
  clear h
  split at h'
  · rename_i ek
    subst ek
    unfold binInt at h'
    cases op <;> simp only at h' <;> (try (cases h'; done)) <;> (try (split at h' <;> try (cases h'; done))) <;> (injection h' with h'; subst h') <;>
      first
        | (refine ⟨?_, rfl⟩; simp [binOp, Op.intArith, scal]; done)
        | (refine ⟨?_, rfl⟩; simp [binOp, Op.intBits, scal]; done)
        | (refine ⟨?_, rfl⟩; simp [binOp, Op.intCmp, eqI, ltI, leI, bne, scal]; done)
        | (rename_i hm; refine ⟨?_, rfl⟩; simp [binOp, Op.intDiv, hm, scal]; done)
  · cases h'
theorem binStr_run {op : BinOp} {t : TypeId} {s s' : ByteArray} {r : V} (h : binStr op s s' = some r) :
    (binOp op t (.string s) (.string s')).run P w = .ok (scal r) w ∧ isScal r = true := by
  unfold binStr at h
  cases op <;> simp only at h <;> (try (cases h; done)) <;> (try (split at h <;> try (cases h; done))) <;> (injection h with h; subst h) <;>
    first
      | (refine ⟨?_, rfl⟩; simp [binOp, Op.stringOp, eqS, scal]; done)
      | (rename_i hm; refine ⟨?_, rfl⟩
         have : ¬ (((s.size + s'.size : Nat) : Int) > IntKind.i64.max) := by have : IntKind.i64.max = 9223372036854775807 := by decide
                                                                             omega
         simp only [binOp, Op.stringOp, if_neg this, scal, Sem.run_pure])
theorem guard_int {op : BinOp} {t : TypeId} {xo yo : Operand} {k k' : IntKind} {n m : Int} : (eqGuard op t xo yo (.int k n) (.int k' m)).run P w = .ok () w := by
  unfold eqGuard
  cases op <;> simp
theorem guard_str {op : BinOp} {t : TypeId} {xo yo : Operand} {s s' : ByteArray} : (eqGuard op t xo yo (.string s) (.string s')).run P w = .ok () w := by
  unfold eqGuard
  cases op <;> simp
theorem bin_does (hs : Sim w O g lam a.tmps st) {op : BinOp} {t t' : TypeId} {x y : Operand} {v : V} {st' : St}
    (hagg : ∀ as bs, binAny P op t (.agg as) (.agg bs) = some v → ∀ p q, FR w O g lam st p (.agg as) → FR w O g lam st q (.agg bs) → ∃ b, v = .bool b ∧ (eqGuard op t x y p q).run P w = .ok () w ∧ (binOp op t p q).run P w = .ok (.bool b) w)
    (ho : o.op = .binOp op t x y t') (h : opBin P st op t x y = some (v, st')) : Does P lo tlo o a w O g lam st v st' := by
  obtain ⟨p, h1, h6⟩ := ob_eq h
  obtain ⟨q, h2, h7⟩ := ob_eq h6
  obtain ⟨r, h3, h8⟩ := om_eq h7
  injection h8 with h4 h5
  subst h4
  subst h5
  clear h h6 h7
  have hx := ev_FR hs h1
  have hy := ev_FR hs h2
  have hgood : ∀ {u : Value}, (eqGuard op t x y (a.eval x) (a.eval y)).run P w = .ok () w → (binOp op t (a.eval x) (a.eval y)).run P w = .ok u w → (execOp a.eval o).run P w = .ok (.value u) w := by
    intro u hg hu
    simp only [execOp, ho, Sem.run_bind, hg, Result.andThen_ok, hu, Sem.run_pure]
  unfold binAny at h3
  split at h3
  · rename_i as bs
    obtain ⟨b, rfl, hg, hr⟩ := hagg as bs (by unfold binAny; exact h3) _ _ hx hy
    exact Does.value hs (hgood hg hr) (.bool _)
  · rename_i k n k' m
    obtain ⟨hu, hr⟩ := binV_run (P := P) (w := w) (t := t) h3
    refine Does.value hs (v := scal r) (hgood ?_ ?_) (scal_FR hr)
    · rw [FR.int_inv hx, FR.int_inv hy]; exact guard_int
    · rw [FR.int_inv hx, FR.int_inv hy]; exact hu
  · rename_i s s'
    obtain ⟨hu, hr⟩ := binStr_run (P := P) (w := w) (t := t) h3
    refine Does.value hs (v := scal r) (hgood ?_ ?_) (scal_FR hr)
    · rw [FR.str_inv hx, FR.str_inv hy]; exact guard_str
    · rw [FR.str_inv hx, FR.str_inv hy]; exact hu
  · split at h3
    · rename_i hk
      unfold binEq at h3
      split at h3
      · obtain ⟨b, h4, rfl⟩ := om_eq h3
        obtain ⟨k1, k2, k3, k4, k5, k6, k7⟩ := eqKind_val hx hy hk h4
        refine Does.value hs (v := .bool b) (hgood (k2 _ _) ?_) (.bool _)
        cases hxx : a.eval x <;> cases hyy : a.eval y <;> rw [hxx] at k1 k4 k5 k6 k7 <;> rw [hyy] at k1 <;> first | (exfalso; exact k4 _ _ rfl) | (exfalso; exact k5 _ rfl) | (exfalso; exact k6 _ _ rfl) | (exfalso; exact k7 _ _ _ rfl) | simp [binOp, k1]
      · obtain ⟨b, h4, rfl⟩ := om_eq h3
        obtain ⟨k1, k2, k3, k4, k5, k6, k7⟩ := eqKind_val hx hy hk h4
        refine Does.value hs (v := .bool (!b)) (hgood (k3 _ _) ?_) (.bool _)
        cases hxx : a.eval x <;> cases hyy : a.eval y <;> rw [hxx] at k1 k4 k5 k6 k7 <;> rw [hyy] at k1 <;> first | (exfalso; exact k4 _ _ rfl) | (exfalso; exact k5 _ rfl) | (exfalso; exact k6 _ _ rfl) | (exfalso; exact k7 _ _ _ rfl) | simp [binOp, k1]
      · cases h3
    · cases h3
end ops3
end Go.Vi
