/- slices.Sort and slices.Compact at []int, on a box: out of the kit's own contracts. -/
import Derived.Test.YtngeclldoplihaaViPrim
import Derived.Shelf.Sort.Plain
import Derived.Shelf.Slices.In.SortNone
import Derived.Shelf.Slices.CompactI
set_option linter.unusedVariables false
set_option linter.unusedSimpArgs false
namespace Go.Vi
open Go.RowKit Go.Shelf Go.Sort Go.Proofs
/-- Rows of one whole number each. -/
def intRows : List (List V) → Option (List Int)
  | [] => some []
  | [.int .i64 z] :: rs => om (intRows rs) (z :: ·)
  | _ => none
def rowsInt (zs : List Int) : List (List V) := zs.map fun z => [.int .i64 z]
theorem intRows_eq : ∀ {rs : List (List V)} {zs : List Int}, intRows rs = some zs → rs = rowsInt zs
  | [], zs, h => by simp only [intRows, Option.some.injEq] at h; subst h; rfl
  | r :: rs, zs, h => by
    unfold intRows at h
    split at h
    · rename_i e; cases e
    · rename_i z rs' e
      injection e with e1 e2
      subst e1
      subst e2
      obtain ⟨ys, h1, rfl⟩ := om_eq h
      rw [intRows_eq h1]
      rfl
    · cases h
theorem intRows_rows : ∀ (zs : List Int), intRows (rowsInt zs) = some zs
  | [] => rfl
  | z :: zs => by simp only [rowsInt, List.map_cons, intRows]; rw [show intRows (zs.map fun z => [V.int .i64 z]) = some zs from intRows_rows zs]; rfl
def insI (x : Int) : List Int → List Int
  | [] => [x]
  | y :: l => if x ≤ y then x :: y :: l else y :: insI x l
def isort : List Int → List Int
  | [] => []
  | x :: l => insI x (isort l)
theorem insI_perm (x : Int) : ∀ (l : List Int), (insI x l).Perm (x :: l)
  | [] => List.Perm.refl _
  | y :: l => by
    unfold insI
    split
    · exact List.Perm.refl _
    · exact ((insI_perm x l).cons y).trans (List.Perm.swap x y l)
theorem isort_perm : ∀ (l : List Int), (isort l).Perm l
  | [] => List.Perm.refl _
  | x :: l => (insI_perm x _).trans ((isort_perm l).cons x)
theorem insI_sorted (x : Int) : ∀ {l : List Int}, l.Pairwise (· ≤ ·) → (insI x l).Pairwise (· ≤ ·)
  | [], _ => List.pairwise_singleton ..
  | y :: l, h => by
    unfold insI
    have h1 := List.pairwise_cons.1 h
    split
    · rename_i hxy
      refine List.pairwise_cons.2 ⟨fun z hz => ?_, h⟩
      rcases List.mem_cons.1 hz with rfl | hz
      · exact hxy
      · exact Int.le_trans hxy (h1.1 z hz)
    · rename_i hxy
      refine List.pairwise_cons.2 ⟨fun z hz => ?_, insI_sorted x h1.2⟩
      rcases List.mem_cons.1 ((insI_perm x l).mem_iff.1 hz) with rfl | hz
      · omega
      · exact h1.1 z hz
theorem isort_sorted : ∀ (l : List Int), (isort l).Pairwise (· ≤ ·)
  | [] => List.Pairwise.nil
  | x :: l => insI_sorted x (isort_sorted l)
theorem isort_eq (l : List Int) : l.mergeSort (fun x y => decide (x ≤ y)) = isort l := by
  refine List.Perm.eq_of_pairwise (le := (· ≤ ·)) (fun a b _ _ h1 h2 => Int.le_antisymm h1 h2) ?_ (isort_sorted l) ((List.mergeSort_perm l _).trans (isort_perm l).symm)
  have := List.pairwise_mergeSort (le := fun x y : Int => decide (x ≤ y)) (fun a b c h1 h2 => by simp at *; omega) (fun a b => by simp; omega) l
  exact this.imp (by intro a b h; simpa using h)
/-- What is kept of a row of which equal neighbours go. -/
def compA (p : Option Int) : List Int → List Int
  | [] => []
  | x :: l => if p = some x then compA p l else x :: compA (some x) l
theorem compact_eq (zs : List Int) : Lib.compact zs = compA none zs := by
  have key : ∀ (l : List Int) (k : Nat) (p : Option Int), l = zs.drop k → (p = none ↔ k = 0) → (∀ x, p = some x → zs.toArray[k - 1]! = x) →
      ((List.range' k l.length).filter (Lib.keeps zs.toArray)).map (zs.toArray[·]!) = compA p l := by
    intro l
    induction l with
    | nil => intro k p _ _ _; rfl
    | cons x l ih =>
      intro k p hl hp hq
      have hx : zs[k]? = some x := by
        have : (zs.drop k)[0]? = some x := by rw [← hl]; rfl
        simpa using this
      have hl' : l = zs.drop (k + 1) := by
        have : (zs.drop k).drop 1 = l := by rw [← hl]; rfl
        rw [← this, List.drop_drop]
      have hxa : zs.toArray[k]! = x := by
        have hlt := (List.getElem?_eq_some_iff.1 hx).1
        have e := (List.getElem?_eq_some_iff.1 hx).2
        simp [getElem!_pos, hlt, e]
      simp only [List.length_cons, List.range'_succ, List.filter_cons, compA]
      by_cases hk : Lib.keeps zs.toArray k = true
      · have hne : p ≠ some x := by
          rintro rfl
          have h1 := hq x rfl
          have h2 : k ≠ 0 := fun e => by have := hp.2 e; cases this
          simp [Lib.keeps, hxa, h1, h2] at hk
        rw [if_pos hk, if_neg hne, List.map_cons, hxa, ih (k + 1) (some x) hl' (by simp) (by rintro y ⟨⟩; simpa using hxa)]
      · have h0 : k ≠ 0 := by rintro rfl; simp [Lib.keeps] at hk
        have he : p = some x := by
          cases p with
          | none => exact absurd (hp.1 rfl) h0
          | some y =>
            have h1 := hq y rfl
            simp [Lib.keeps, hxa, h0] at hk
            rw [← h1]
            simp [hk]
        subst he
        rw [if_neg hk, if_pos rfl, ih (k + 1) (some x) hl' (by simp) (by rintro y ⟨⟩; simpa using hxa)]
  have := key zs 0 none rfl (by simp) (by simp)
  rw [← this]
  simp only [Lib.compact, Lib.compactUpTo, List.range_eq_range']
theorem compA_length (l : List Int) : ∀ p, (compA p l).length ≤ l.length := by
  induction l with
  | nil => intro p; exact Nat.le_refl _
  | cons x l ih =>
    intro p
    unfold compA
    split
    · exact Nat.le_succ_of_le (ih p)
    · simp [ih]
def sortP : PX := fun args bx tk lo tlo =>
  match args with
  | [.nils] => some (.tuple [], bx, tk)
  | [.ref r 0 n] => ob (boxIn bx[r]?) fun p => ob (intRows p.2) fun zs => if lo ≤ r ∧ p.1 = 1 ∧ n = zs.length ∧ n < 4611686018427387904 then some (.tuple [], bx.set r (.rows 1 (rowsInt (isort zs))), tk) else none
  | _ => none
def compactP : PX := fun args bx tk lo tlo =>
  match args with
  | [.nils] => some (.nils, bx, tk)
  | [.ref r 0 n] => ob (boxIn bx[r]?) fun p => ob (intRows p.2) fun zs => if lo ≤ r ∧ p.1 = 1 ∧ n = zs.length ∧ n < 4611686018427387904 then some (.ref r 0 (compA none zs).length, bx.set r (.rows 1 (rowsInt (compA none zs ++ List.replicate (n - (compA none zs).length) 0))), tk) else none
  | _ => none
section ok
variable {P : Program} {ρ : Ren} {lo tlo : Nat} {w w' : World} {O : Nat → Prop} {g : G} {bx : List Box} {tk : List (Nat × Nat)}
theorem set_same {r : Nat} {b : Box} (h : bx[r]? = some b) : bx.set r b = bx := by
  obtain ⟨hr, e⟩ := List.getElem?_eq_some_iff.1 h
  subst e
  exact List.set_getElem_self hr
theorem one_arg {vs : Array Value} (h : vs.size = 1) : vs = #[vs.getD 0 undef] := by
  obtain ⟨l⟩ := vs
  match l, h with
  | [v], _ => rfl
/-- A box of whole numbers, as the kit's contracts speak of it. -/
theorem box_holds (hs : Sim w O g lam0 #[] (bare bx tk)) {r : Nat} {zs : List Int} (hb : bx[r]? = some (.rows 1 (rowsInt zs))) :
    ∃ cur e, w.heap[g.ρ r]? = some (.cells cur e (0, 0)) ∧ cur.size = g.κ r ∧ zs.length ≤ g.κ r ∧ Holds (Value.int .i64) w (g.ρ r) 0 zs.toArray := by
  obtain ⟨cur, e, h1, h2, h3, h4, h5⟩ := hs.box r 1 (rowsInt zs) hb
  refine ⟨cur, e, h1, by simpa using h2, by simpa [rowsInt] using h3, fun j hj => ?_⟩
  have hj' : j < zs.length := by simpa using hj
  have hj2 : j < (rowsInt zs).length := by simpa [rowsInt] using hj'
  have e2 : (rowsInt zs)[j] = [V.int .i64 zs[j]] := by simp [rowsInt]
  obtain ⟨c, q1, q2⟩ := h5 j 0 hj2 (by rw [e2]; simp)
  have e3 : (rowsInt zs)[j][0]'(by rw [e2]; simp) = V.int .i64 zs[j] := by simp [e2]
  rw [e3] at q2
  have q3 := FR.int_inv q2
  subst q3
  refine ⟨?_, by simp [World.frozen?, h1]⟩
  simp only [World.cell?, h1, Nat.zero_add]
  simp at q1
  simp [q1, hj']
/-- The row has been put. -/
theorem row_put (hs : Sim w O g lam0 #[] (bare bx tk)) (hlo : lo ≤ bx.length) {r : Nat} (hlr : lo ≤ r) {zs ys : List Int} (hb : bx[r]? = some (.rows 1 (rowsInt zs))) (hl : ys.length = zs.length) (n : Nat) (os : Array Obj) (hw : w' = grow (putRow (Value.int .i64) (Sort.ahead w n) (g.ρ r) 0 ys.toArray) os) :
    Fr lo tlo w O g lam0 (bare bx tk) w' g lam0 (bare (bx.set r (.rows 1 (rowsInt ys))) tk) ∧ Sim w' O g lam0 #[] (bare (bx.set r (.rows 1 (rowsInt ys))) tk) := by
  obtain ⟨cur, e, h1, h2, h3, h4⟩ := box_holds hs hb
  have hr : r < bx.length := (List.getElem?_eq_some_iff.1 hb).1
  have hh : (putRow (Value.int .i64) (Sort.ahead w n) (g.ρ r) 0 ys.toArray).heap[g.ρ r]? = some (.cells (putCells (Value.int .i64) 0 ys.toArray cur) e (0, 0)) := by
    simp only [putRow, mapBlock, Sort.ahead, Array.getElem?_modify, h1]
    simp [onCells]
  obtain ⟨hW, hS⟩ := box_rows (w' := putRow (Value.int .i64) (Sort.ahead w n) (g.ρ r) 0 ys.toArray) (rs' := rowsInt ys) hs hb (by simp [rowsInt, hl]) rfl rfl rfl (by simp [putRow, mapBlock, Sort.ahead]) (fun b hne => by simp only [putRow, mapBlock, Sort.ahead]; rw [Array.getElem?_modify, if_neg (Ne.symm hne)]) hh (by simp [putCells, h2])
    (fun row hrow => by obtain ⟨z, _, rfl⟩ := List.mem_map.1 hrow; simp [V.cell]) (fun i j hi hj => by
      have hi' : i < ys.length := by simpa [rowsInt] using hi
      have e2 : (rowsInt ys)[i] = [V.int .i64 ys[i]] := by simp [rowsInt]
      have hj0 : j = 0 := by rw [e2] at hj; simpa using hj
      subst hj0
      refine ⟨.int .i64 ys[i], ?_, ?_⟩
      · have hic : i < cur.size := by omega
        simp [putCells, hic, hi']
      · have e3 : (rowsInt ys)[i][0]'(by rw [e2]; simp) = V.int .i64 ys[i] := by simp [e2]
        rw [e3]
        exact .int _ _)
  have hg : Grow (putRow (Value.int .i64) (Sort.ahead w n) (g.ρ r) 0 ys.toArray) w' := by
    subst hw
    refine ⟨rfl, rfl, rfl, by simp [grow], fun b hb => ?_⟩
    simp only [grow]
    rw [Array.getElem?_append_left hb]
  refine ⟨(hW.fr (lo := lo) (tlo := tlo) (by simp only [Low]; omega) (fun r' hr' => ?_)).trans (Fr.grow hg), Sim.grow hS hg⟩
  show (bx.set r _)[r']? = bx[r']?
  rw [List.getElem?_set_ne (by omega)]
theorem calls_arg {f : FuncId} {vs : Array Value} {v : Value} (hl : vs.size = 1) (hv : vs.getD 0 undef = v) {Q : Ending → World → Prop} (h : Calls P f #[v] w Q) : Calls P f vs w Q := by
  rw [one_arg hl, hv]; exact h
theorem sort_ok (Ly : Lays.n189 P ρ) : PXOk P (ρ.f 189) sortP := by
  refine ⟨⟨_, Ly.f189, rfl, rfl⟩, ?_⟩
  intro args bx tk lo tlo v b t hp w O g vs hs hlo htlo hl hv
  unfold sortP at hp
  split at hp
  · injection hp with hp; injection hp with e1 e2; injection e2 with e2 e3; subst e1; subst e2; subst e3
    have h0 := nils_inv (hv 0 (by simp))
    refine calls_arg hl h0 (Calls.mono (Any.slices_Sort_int_none Ly none 0 w) ?_)
    rintro e w' ⟨rfl, rfl⟩
    exact ⟨_, .tuple [], bx, tk, g, rfl, ⟨rfl, rfl, rfl⟩, Fr.refl .., hs, .tuple _ _ rfl fun i hi => absurd hi (by simp)⟩
  · rename_i r n
    obtain ⟨p, h1, hp⟩ := ob_eq hp
    obtain ⟨zs, h2, hp⟩ := ob_eq hp
    split at hp
    · rename_i hc
      obtain ⟨c1, c2, c3, c4⟩ := hc
      injection hp with hp; injection hp with e1 e2; injection e2 with e2 e3; subst e1; subst e2; subst e3
      have hb := boxIn_eq h1
      obtain ⟨p1, p2⟩ := p
      simp only at c2 hb h2
      subst c2
      rw [intRows_eq h2] at hb
      obtain ⟨ao, cap, h3, h4, h5, h6⟩ := ref_inv (hv 0 (by simp))
      obtain ⟨q1, q2, q3⟩ := h6 1 _ hb
      by_cases hn : n = 0
      · subst hn
        have hz : zs = [] := List.eq_nil_of_length_eq_zero c3.symm
        subst hz
        refine calls_arg hl h3 (Calls.mono (Any.slices_Sort_int_none Ly ao cap w) ?_)
        rintro e w' ⟨rfl, rfl⟩
        have eb : bx.set r (.rows 1 (rowsInt (isort []))) = bx := set_same hb
        rw [eb]
        exact ⟨_, .tuple [], bx, tk, g, rfl, ⟨rfl, rfl, rfl⟩, Fr.refl .., hs, .tuple _ _ rfl fun i hi => absurd hi (by simp)⟩
      · have ha := q3 (by omega)
        simp only [Nat.zero_mul] at ha
        obtain ⟨cur, e, k1, k2, k3, k4⟩ := box_holds hs hb
        have hblk : g.ρ r < w.heap.size := (Array.getElem?_eq_some_iff.1 k1).1
        rw [ha] at h3
        subst c3
        refine calls_arg hl h3 (Calls.mono (Any.slices_Sort_int Ly (g.ρ r) 0 cap zs w k4 hblk c4) ?_)
        rintro e w' ⟨rfl, m, os, hw⟩
        rw [isort_eq] at hw
        obtain ⟨f1, f2⟩ := row_put (tlo := tlo) hs hlo c1 hb ((isort_perm zs).length_eq) m os hw
        exact ⟨_, .tuple [], _, tk, g, rfl, ⟨rfl, rfl, rfl⟩, f1, f2, .tuple _ _ rfl fun i hi => absurd hi (by simp)⟩
    · cases hp
  · cases hp
theorem compact_ok (Ly : Lays2.n20 P ρ) : PXOk P (ρ.f 20) compactP := by
  refine ⟨⟨_, Ly.f20, rfl, rfl⟩, ?_⟩
  intro args bx tk lo tlo v b t hp w O g vs hs hlo htlo hl hv
  unfold compactP at hp
  split at hp
  · injection hp with hp; injection hp with e1 e2; injection e2 with e2 e3; subst e1; subst e2; subst e3
    have h0 := nils_inv (hv 0 (by simp))
    refine calls_arg hl h0 (Calls.mono (Any.slices_Compact_int_empty Ly none 0 w) ?_)
    rintro e w' ⟨rfl, rfl⟩
    exact ⟨_, .nils, bx, tk, g, rfl, ⟨rfl, rfl, rfl⟩, Fr.refl .., hs, .nils⟩
  · rename_i r n
    obtain ⟨p, h1, hp⟩ := ob_eq hp
    obtain ⟨zs, h2, hp⟩ := ob_eq hp
    split at hp
    · rename_i hc
      obtain ⟨c1, c2, c3, c4⟩ := hc
      injection hp with hp; injection hp with e1 e2; injection e2 with e2 e3; subst e1; subst e2; subst e3
      have hb := boxIn_eq h1
      obtain ⟨p1, p2⟩ := p
      simp only at c2 hb h2
      subst c2
      rw [intRows_eq h2] at hb
      have hv0 := hv 0 (by simp)
      obtain ⟨ao, cap, h3, h4, h5, h6⟩ := ref_inv hv0
      obtain ⟨q1, q2, q3⟩ := h6 1 _ hb
      by_cases hn : n = 0
      · subst hn
        have hz : zs = [] := List.eq_nil_of_length_eq_zero c3.symm
        subst hz
        refine calls_arg hl h3 (Calls.mono (Any.slices_Compact_int_empty Ly ao cap w) ?_)
        rintro e w' ⟨rfl, rfl⟩
        have eb : bx.set r (.rows 1 (rowsInt (compA none [] ++ List.replicate (0 - (compA none []).length) 0))) = bx := set_same hb
        rw [eb]
        rw [h3] at hv0
        exact ⟨_, .ref r 0 0, bx, tk, g, rfl, ⟨rfl, rfl, rfl⟩, Fr.refl .., hs, hv0⟩
      · have ha := q3 (by omega)
        simp only [Nat.zero_mul] at ha
        obtain ⟨cur, e, k1, k2, k3, k4⟩ := box_holds hs hb
        rw [ha] at h3
        subst c3
        have hcl := compA_length zs none
        refine calls_arg hl h3 (Calls.mono (Any.slices_Compact_int Ly (g.ρ r) 0 cap zs w k4 (by omega) (by omega)) ?_)
        rintro e w' ⟨rfl, m, hw⟩
        rw [compact_eq] at hw
        obtain ⟨f1, f2⟩ := row_put (tlo := tlo) (ys := compA none zs ++ List.replicate (zs.length - (compA none zs).length) 0) (w' := w') hs hlo c1 hb (by simp; omega) m #[] (by rw [grow_empty]; exact hw)
        refine ⟨_, .ref r 0 (compA none zs).length, _, tk, g, rfl, ⟨rfl, rfl, rfl⟩, f1, f2, ?_⟩
        rw [compact_eq]
        refine .ref _ r 0 _ cap (by simpa [bare] using h4) (by omega) fun es rs hbx => ?_
        simp only [bare] at hbx
        rw [List.getElem?_set_self (by exact h4)] at hbx
        injection hbx with hbx
        injection hbx with j1 j2
        subst j1
        subst j2
        refine ⟨by simp [rowsInt], by omega, fun _ => by simp⟩
    · cases hp
  · cases hp
end ok
end Go.Vi
