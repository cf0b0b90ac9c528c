/- Structs that are compared; a list that is written out. -/
import Derived.Test.YtngeclldoplihaaViApp5
import Derived.Laws.StructEq
set_option linter.unusedVariables false
set_option linter.unusedSimpArgs false
namespace Go.Vi
open Go.RowKit
section ops5
variable {P : Program} {lo tlo : Nat} {o : Oper} {a : Act} {w w' : World} {O : Nat → Prop} {g : G} {lam : Nat → Nat} {st : St}
theorem eqCells_split : ∀ (n : Nat) {as bs : List V} {b : Bool}, eqCells as bs = some b → n ≤ as.length → ∃ b1 b2, eqCells (as.take n) (bs.take n) = some b1 ∧ eqCells (as.drop n) (bs.drop n) = some b2 ∧ b = (b1 && b2)
  | 0, as, bs, b, h, _ => ⟨true, b, by simp [eqCells], by simpa using h, by simp⟩
  | n + 1, [], bs, b, h, hn => by simp at hn
  | n + 1, x :: as, [], b, h, hn => by simp [eqCells] at h
  | n + 1, x :: as, y :: bs, b, h, hn => by
    simp only [eqCells] at h
    obtain ⟨c, h1, h⟩ := ob_eq h
    obtain ⟨d, h2, h⟩ := om_eq h
    obtain ⟨b1, b2, k1, k2, k3⟩ := eqCells_split n h2 (by simpa using hn)
    refine ⟨c && b1, b2, by simp [eqCells, h1, k1, ob, om], by simpa using k2, by rw [← h, k3, Bool.and_assoc]⟩
theorem eqCells_length : ∀ {as bs : List V} {b : Bool}, eqCells as bs = some b → as.length = bs.length
  | [], [], _, _ => rfl
  | [], _ :: _, _, h => by simp [eqCells] at h
  | _ :: _, [], _, h => by simp [eqCells] at h
  | x :: as, y :: bs, b, h => by
    simp only [eqCells] at h
    obtain ⟨c, h1, h⟩ := ob_eq h
    obtain ⟨d, h2, h⟩ := om_eq h
    simp [eqCells_length h2]
theorem szOf_agg {t : TypeId} {fs : Array Field} (h : P.underlying t = some (.struct fs)) : aggT P t = some true := by simp [aggT, h]
/-- The cells of a type, as a value. -/
theorem plain_part {d : Nat} {t : TypeId} {ks : List Nat} (h : plainK P d t = some ks) : (aggT P t = some true) ∨ (aggT P t = some false ∧ ks.length = 1) := by
  cases d with
  | zero => cases h
  | succ d =>
    simp only [plainK] at h
    split at h
    · rename_i hu; injection h with h; subst h; exact .inr ⟨by simp [aggT, hu], rfl⟩
    · rename_i hu; injection h with h; subst h; exact .inr ⟨by simp [aggT, hu], rfl⟩
    · rename_i hu; injection h with h; subst h; exact .inr ⟨by simp [aggT, hu], rfl⟩
    · rename_i fs hu; exact .inl (szOf_agg hu)
    · cases h
theorem cut_some {cs : List V} {off n : Nat} (h : off + n ≤ cs.length) : cut cs off n = some ((cs.drop off).take n) := by simp [cut, h]
theorem mkV_some {b : Bool} {us : List V} (h : b = true ∨ us.length = 1) : ∃ v, mkV b us = some v ∧ ((b = true ∧ v = .agg us) ∨ (b = false ∧ us = [v])) := by
  cases b with
  | true => exact ⟨_, rfl, .inl ⟨rfl, rfl⟩⟩
  | false =>
    rcases h with h | h
    · cases h
    · match us, h with
      | [v], _ => exact ⟨v, rfl, .inr ⟨rfl, rfl⟩⟩
/-- What is said of a type's values that are compared. -/
def EqOk (P : Program) (w : World) (O : Nat → Prop) (g : G) (lam : Nat → Nat) (st : St) (d k : Nat) : Prop :=
  ∀ (t : TypeId) (ks : List Nat) (x y : Value) (u v : V) (us vs : List V) (b : Bool) (ag : Bool), plainK P d t = some ks → aggT P t = some ag → FR w O g lam st x u → FR w O g lam st y v → mkV ag us = some u → mkV ag vs = some v → us.map kindC = ks → vs.map kindC = ks → eqCells us vs = some b → (Op.equalIn (d + k) t x y).run P w = .ok b w
/-- The fields of a struct, one by one. -/
theorem eqFields_ok {d k : Nat} {xs ys : Array Value} {as bs : List V} (hx : FR w O g lam st (.agg xs) (.agg as)) (hy : FR w O g lam st (.agg ys) (.agg bs)) (hl : as.length = bs.length) (ih : EqOk P w O g lam st d k) :
    ∀ (fs : List Field) (off : Nat) (ks : List Nat) (b : Bool), tileF (fun u => (plainK P d u).bind fun ks => if szOf P u = some ks.length then some ks else none) off fs = some ks → (as.drop off).map kindC = ks → (bs.drop off).map kindC = ks → off ≤ as.length → eqCells (as.drop off) (bs.drop off) = some b → (Op.eqFields (d + k) xs ys fs).run P w = .ok b w
  | [], off, ks, b, h, hm1, hm2, ho, he => by
    simp only [tileF, Option.some.injEq] at h
    subst h
    have e1 : as.drop off = [] := by simpa using hm1
    have e2 : bs.drop off = [] := by simpa using hm2
    rw [e1, e2] at he
    simp only [eqCells, Option.some.injEq] at he
    subst he
    rfl
  | f :: fs, off, ks, b, h, hm1, hm2, ho, he => by
    simp only [tileF] at h
    split at h
    · rename_i hc
      obtain ⟨ks1, h1, h2⟩ := Option.bind_eq_some_iff.1 h
      obtain ⟨ks2, h5, rfl⟩ := Option.map_eq_some_iff.1 h2
      obtain ⟨ks', h3, h4⟩ := Option.bind_eq_some_iff.1 h1
      split at h4
      · rename_i hsz
        injection h4 with h4
        subst h4
        have hle : off + ks'.length ≤ as.length := by
          have := congrArg List.length hm1
          simp at this
          omega
        obtain ⟨b1, b2, k1, k2, rfl⟩ := eqCells_split ks'.length he (by simp; omega)
        obtain ⟨ag, hag, hag2⟩ : ∃ ag, aggT P f.type = some ag ∧ (ag = true ∨ ks'.length = 1) := by
          rcases plain_part h3 with h | ⟨h, h'⟩
          · exact ⟨true, h, .inl rfl⟩
          · exact ⟨false, h, .inr h'⟩
        have l1 : ((as.drop off).take ks'.length).length = ks'.length := by simp; omega
        have l2 : ((bs.drop off).take ks'.length).length = ks'.length := by simp; omega
        have m1 : ((as.drop off).take ks'.length).map kindC = ks' := by rw [List.map_take, hm1]; simp
        have m2 : ((bs.drop off).take ks'.length).map kindC = ks' := by rw [List.map_take, hm2]; simp
        have d1 : (as.drop (off + ks'.length)).map kindC = ks2 := by rw [← List.drop_drop, List.map_drop, hm1]; simp
        have d2 : (bs.drop (off + ks'.length)).map kindC = ks2 := by rw [← List.drop_drop, List.map_drop, hm2]; simp
        obtain ⟨u, hu, _⟩ := mkV_some (us := (as.drop off).take ks'.length) (b := ag) (by rw [l1]; exact hag2)
        obtain ⟨v, hv, _⟩ := mkV_some (us := (bs.drop off).take ks'.length) (b := ag) (by rw [l2]; exact hag2)
        obtain ⟨p, p1, p2⟩ := run_part hsz hag hx (cut_some hle) hu
        obtain ⟨q, q1, q2⟩ := run_part hsz hag hy (cut_some (by omega)) hv
        have hrun := ih f.type ks' p q u v _ _ b1 ag h3 hag p2 q2 hu hv m1 m2 k1
        have hrest := eqFields_ok hx hy hl ih fs (off + ks'.length) ks2 b2 h5 d1 d2 hle (by rw [← List.drop_drop, ← List.drop_drop]; exact k2)
        simp only [Op.eqFields, if_pos hc.1, hc.2, Sem.run_bind, p1, q1, Result.andThen_ok, hrun]
        cases b1
        · simp
        · simpa using hrest
      · cases h4
    · cases h
theorem one_cell {us vs : List V} {u v : V} {b : Bool} {n : Nat} (h1 : mkV false us = some u) (h2 : mkV false vs = some v) (k1 : us.map kindC = [n]) (k2 : vs.map kindC = [n]) (h3 : eqCells us vs = some b) : kindC u = n ∧ kindC v = n ∧ eqCell u v = some b := by
  match us, h1 with
  | [u'], h1 =>
    match vs, h2 with
    | [v'], h2 =>
      simp only [mkV, Option.some.injEq] at h1 h2
      subst h1
      subst h2
      refine ⟨by simpa using k1, by simpa using k2, ?_⟩
      simp only [eqCells] at h3
      obtain ⟨c, q1, q2⟩ := ob_eq h3
      simp [om] at q2
      rw [q1, q2]
theorem plain_eq (k : Nat) : ∀ (d : Nat), EqOk P w O g lam st d k
  | 0, t, ks, x, y, u, v, us, vs, b, ag, h, _, _, _, _, _, _, _, _ => by cases h
  | d + 1, t, ks, x, y, u, v, us, vs, b, ag, h, hag, hx, hy, hu, hv, hk1, hk2, he => by
    have hdk : d + 1 + k = (d + k) + 1 := by omega
    rw [hdk]
    simp only [plainK] at h
    split at h
    · rename_i hty
      have : ag = false := by simp [aggT, hty] at hag; exact hag
      subst this
      injection h with h
      subst h
      obtain ⟨q1, q2, e⟩ := one_cell hu hv hk1 hk2 he
      cases u <;> simp only [kindC] at q1 <;> (try (cases q1; done))
      cases v <;> simp only [kindC] at q2 <;> (try (cases q2; done))
      simp only [eqCell, Option.some.injEq] at e
      subst e
      rw [FR.bool_inv hx, FR.bool_inv hy, run_equalIn_bool w _ _ _ _ hty]
      rfl
    · rename_i hty
      have : ag = false := by simp [aggT, hty] at hag; exact hag
      subst this
      injection h with h
      subst h
      obtain ⟨q1, q2, e⟩ := one_cell hu hv hk1 hk2 he
      cases u <;> simp only [kindC] at q1 <;> (try (cases q1; done))
      cases v <;> simp only [kindC] at q2 <;> (try (cases q2; done))
      simp only [eqCell] at e
      split at e
      · rename_i hkk
        subst hkk
        injection e with e
        subst e
        rw [FR.int_inv hx, FR.int_inv hy, run_equalIn_int w _ _ _ _ _ _ hty]
        rfl
      · cases e
    · rename_i hty
      have : ag = false := by simp [aggT, hty] at hag; exact hag
      subst this
      injection h with h
      subst h
      obtain ⟨q1, q2, e⟩ := one_cell hu hv hk1 hk2 he
      cases u <;> simp only [kindC] at q1 <;> (try (cases q1; done))
      cases v <;> simp only [kindC] at q2 <;> (try (cases q2; done))
      simp only [eqCell, Option.some.injEq] at e
      subst e
      rw [FR.str_inv hx, FR.str_inv hy, run_equalIn_string w _ _ _ _ hty]
      rfl
    · rename_i fs hty
      have : ag = true := by simp [aggT, hty] at hag; exact hag
      subst this
      simp only [mkV, Option.some.injEq] at hu hv
      subst hu
      subst hv
      split at h
      · cases h
      · rename_i hst
        obtain ⟨xs, rfl⟩ := agg_inv hx
        obtain ⟨ys, rfl⟩ := agg_inv hy
        have hfo : P.fieldsOf t = fs := by simp [Program.fieldsOf, hty]
        rw [run_equalIn_agg w (d + k) t xs ys (by rw [hfo]; exact hty) (by simpa using hst), hfo]
        exact eqFields_ok hx hy (eqCells_length he) (plain_eq k d) fs.toList 0 ks b h (by simpa using hk1) (by simpa using hk2) (Nat.zero_le _) (by simpa using he)
    · cases h
theorem agg_bin {op : BinOp} {t : TypeId} {x y : Operand} {as bs : List V} {v : V} {p q : Value} (h : binAny P op t (.agg as) (.agg bs) = some v) (hp : FR w O g lam st p (.agg as)) (hq : FR w O g lam st q (.agg bs)) :
    ∃ b, v = .bool b ∧ (eqGuard op t x y p q).run P w = .ok () w ∧ (binOp op t p q).run P w = .ok (.bool b) w := by
  simp only [binAny] at h
  split at h
  · rename_i hc
    obtain ⟨hc, hm⟩ := hc
    unfold aggEq at hc
    split at hc
    · cases hc
    · rename_i hgd
      obtain ⟨ag, h1, h2⟩ := Option.bind_eq_some_iff.1 hc
      split at h2
      · rename_i hag
        subst hag
        obtain ⟨xs, rfl⟩ := agg_inv hp
        obtain ⟨ys, rfl⟩ := agg_inv hq
        have hG := run_eqGuard_agg (P := P) w op t x y xs ys (by simpa using hgd)
        have hE : ∀ b, eqCells as bs = some b → (Op.equalIn 10000 t (.agg xs) (.agg ys)).run P w = .ok b w := fun b hb => plain_eq (P := P) (w := w) (O := O) (g := g) (lam := lam) (st := st) 9980 20 t _ _ _ _ _ as bs b true h2 h1 hp hq rfl rfl rfl hm.symm hb
        unfold binAgg at h
        split at h
        · obtain ⟨b, h3, rfl⟩ := om_eq h
          exact ⟨b, rfl, hG, by rw [run_eql_struct, hE b h3]; rfl⟩
        · obtain ⟨b, h3, rfl⟩ := om_eq h
          exact ⟨!b, rfl, hG, by rw [run_neq_struct, hE b h3]; rfl⟩
        · cases h
      · cases h2
  · cases h
end ops5
end Go.Vi
