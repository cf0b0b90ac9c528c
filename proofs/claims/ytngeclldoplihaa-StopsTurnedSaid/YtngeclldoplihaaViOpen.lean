/- What comes in: a law's arguments, as plain values of the abstract machine; and how a law's row is closed. -/
import Derived.Test.YtngeclldoplihaaViDraw
import Derived.WalkKit
import Derived.ProofKit
import Derived.OpenShut
import Derived.ShutString
import Derived.ChangeOld
import Derived.Below
import Derived.Carry
import Derived.SizedLaws
set_option linter.unusedVariables false
set_option linter.unusedSimpArgs false
namespace Go.Vi
open Go.RowKit Go.ChangeShapes Go.WideShapes Go.ChangeAt
/-- Where the fields of a struct end, if they tile it. -/
def tilesTo (P : Program) : Nat → List Field → Option Nat
  | off, [] => some off
  | off, f :: l => if Nat.beq f.offset off then tilesTo P (off + P.cellsOf f.type) l else none
/-- A type of plain data. -/
def plainT (P : Program) : Nat → TypeId → Bool
  | 0, _ => false
  | d + 1, t =>
    match P.underlying t with
    | some .bool => true
    | some (.int _) => true
    | some .string => true
    | some (.slice e) => Nat.blt 0 (P.cellsOf e) && plainT P d e
    | some (.struct fs) => (match tilesTo P 0 fs.toList with | some n => Nat.beq n (P.cellsOf t) | none => false) && fs.toList.all fun f => plainT P d f.type
    | _ => false
/-- Cells that a type's value may hold. -/
def Fit (P : Program) : Nat → TypeId → List V → Prop
  | 0, _, _ => False
  | d + 1, t, xs =>
    match P.underlying t with
    | some .bool => ∃ b, xs = [.bool b]
    | some (.int k) => ∃ n, xs = [.int k n] ∧ (Lit.int k n).wf = true
    | some .string => ∃ s, xs = [.str s] ∧ s.size ≤ maxLen
    | some (.slice e) => ∃ rows, xs = [.sl .frozen (P.cellsOf e) rows] ∧ rows.length ≤ maxLen ∧ ∀ row ∈ rows, Fit P d e row
    | some (.struct fs) => xs.length = P.cellsOf t ∧ ∀ f ∈ fs.toList, Fit P d f.type ((xs.drop f.offset).take (P.cellsOf f.type))
    | _ => False
/-- .. and a value. -/
def FitV (P : Program) (d : Nat) (t : TypeId) (x : V) : Prop :=
  match P.underlying t with
  | some (.struct _) => ∃ xs, x = .agg xs ∧ Fit P d t xs
  | _ => Fit P d t [x]
section op
variable {H : Type} {enc : TypeId × Value → H} {P : Program} {w : World} {spare : Nat → Bool} {S : Nat → Nat → Prop} {g : G}
theorem exists_list {α : Type} {p : Nat → α → Prop} : ∀ (n : Nat), (∀ i, i < n → ∃ a, p i a) → ∃ l : List α, l.length = n ∧ ∀ i (hi : i < l.length), p i l[i]
  | 0, _ => ⟨[], rfl, fun i hi => absurd hi (by simp)⟩
  | n + 1, h => by
    obtain ⟨l, h1, h2⟩ := exists_list n fun i hi => h i (by omega)
    obtain ⟨a, ha⟩ := h n (by omega)
    refine ⟨l ++ [a], by simp [h1], fun i hi => ?_⟩
    by_cases hlt : i < l.length
    · rw [List.getElem_append_left hlt]; exact h2 i hlt
    · have : i = n := by simp at hi; omega
      subst this
      rw [List.getElem_append_right (by omega)]
      simpa [h1] using ha
/-- What is known of cells that have been opened. -/
def Opened (w : World) (S : Nat → Nat → Prop) (g : G) (cs : List Value) (xs : List V) : Prop :=
  xs.length = cs.length ∧ (∀ i (hi : i < xs.length), VR (cellOf w) S [] [] g (cs.getD i Go.undef) xs[i]) ∧ xs.all V.pureCell = true
theorem opened_one {v : Value} {x : V} (h : VR (cellOf w) S [] [] g v x) (hp : x.pureCell = true) : Opened w S g [v] [x] :=
  ⟨rfl, fun i hi => by
    have : i = 0 := by simp at hi; omega
    subst this
    exact h, by simp [hp]⟩
theorem open_fields {d n : Nat} (hopen : ∀ t cs y, plainT P d t = true → DataW.trod enc P w 0 spare true n t cs = some y → ∃ xs : List V, Opened w S g cs xs ∧ Fit P d t xs) {cs : List Value} : ∀ (l : List Field) (off e : Nat), tilesTo P off l = some e → e ≤ cs.length → (∀ f ∈ l, plainT P d f.type = true) →
    (∀ f ∈ l, ∃ y, DataW.trod enc P w 0 spare true n f.type ((cs.drop f.offset).take (P.cellsOf f.type)) = some y) →
    ∃ xs : List V, off + xs.length = e ∧ (∀ i (hi : i < xs.length), VR (cellOf w) S [] [] g (cs.getD (off + i) Go.undef) xs[i]) ∧ xs.all V.pureCell = true ∧ ∀ f ∈ l, off ≤ f.offset ∧ Fit P d f.type ((xs.drop (f.offset - off)).take (P.cellsOf f.type))
  | [], off, e, ht, he, _, _ => by
    simp only [tilesTo, Option.some.injEq] at ht
    exact ⟨[], by simpa using ht, fun i hi => absurd hi (by simp), rfl, fun f hf => by cases hf⟩
  | f :: l, off, e, ht, he, hp, hd => by
    unfold tilesTo at ht
    split at ht
    · rename_i ho
      have ho : f.offset = off := Nat.eq_of_beq_eq_true ho
      obtain ⟨ys, h1, h2, h3, h4⟩ := open_fields hopen l _ e ht he (fun x hx => hp x (List.mem_cons_of_mem _ hx)) (fun x hx => hd x (List.mem_cons_of_mem _ hx))
      obtain ⟨y, hy⟩ := hd f List.mem_cons_self
      obtain ⟨xs, ⟨k1, k2, k3⟩, k4⟩ := hopen _ _ _ (hp f List.mem_cons_self) hy
      have hl : xs.length = P.cellsOf f.type := by
        rw [k1]
        simp
        omega
      refine ⟨xs ++ ys, by simp; omega, fun i hi => ?_, by rw [List.all_append, k3, h3]; rfl, fun x hx => ?_⟩
      · by_cases hlt : i < xs.length
        · rw [List.getElem_append_left hlt]
          have := k2 i hlt
          have e1 : ((cs.drop f.offset).take (P.cellsOf f.type)).getD i Go.undef = cs.getD (off + i) Go.undef := by
            simp only [List.getD_eq_getElem?_getD, List.getElem?_take, List.getElem?_drop]
            rw [if_pos (by omega), ho]
          rw [e1] at this
          exact this
        · rw [List.getElem_append_right (by omega)]
          have := h2 (i - xs.length) (by simp at hi; omega)
          have e1 : off + P.cellsOf f.type + (i - xs.length) = off + i := by omega
          rw [e1] at this
          exact this
      · rcases List.mem_cons.1 hx with rfl | hx
        · refine ⟨by omega, ?_⟩
          rw [show x.offset - off = 0 by omega, List.drop_zero, List.take_append_of_le_length (by omega), ← hl, List.take_length]
          exact k4
        · obtain ⟨q1, q2⟩ := h4 x hx
          refine ⟨by omega, ?_⟩
          have e1 : (xs ++ ys).drop (x.offset - off) = ys.drop (x.offset - (off + P.cellsOf f.type)) := by
            rw [List.drop_append, List.drop_of_length_le (by omega), List.nil_append]
            congr 1
            omega
          rw [e1]
          exact q2
    · cases ht
theorem open_cells (hS : ∀ b o, S b o) : ∀ (d fuel : Nat) (t : TypeId) (cs : List Value) (y : DataW H × List MemPlace), plainT P d t = true → DataW.trod enc P w 0 spare true fuel t cs = some y → ∃ xs : List V, Opened w S g cs xs ∧ Fit P d t xs
  | 0, _, _, _, _, hp, _ => by cases hp
  | d + 1, fuel, t, cs, y, hp, h => by
    unfold plainT at hp
    split at hp
    · rename_i hu
      obtain ⟨b, rfl, _⟩ := DataW.trod_bool hu h
      exact ⟨[.bool b], opened_one (.bool b) rfl, by simp only [Fit, hu]; exact ⟨b, rfl⟩⟩
    · rename_i k hu
      obtain ⟨n, rfl, _, hw⟩ := DataW.trod_int hu h
      exact ⟨[.int k n], opened_one (.int k n) rfl, by simp only [Fit, hu]; exact ⟨n, rfl, hw⟩⟩
    · rename_i hu
      obtain ⟨s, rfl, _, hs⟩ := DataW.trod_string hu h
      exact ⟨[.str s], opened_one (.str s) rfl, by simp only [Fit, hu]; exact ⟨s, rfl, hs⟩⟩
    · rename_i e hu
      simp only [Bool.and_eq_true] at hp
      obtain ⟨hes, hpe⟩ := hp
      have hes : 0 < P.cellsOf e := by simpa [Nat.blt_eq] using hes
      simp only [Fit, hu]
      rcases DataW.trod_slice hu h with ⟨rfl, _⟩ | ⟨a, len, cap, elems, rest, n, hfu, rfl, _, hb, hlc, hcm, hlen, hel, hrest⟩
      · refine ⟨[.sl .frozen (P.cellsOf e) []], opened_one (.sl .frozen none 0 0 _ [] (fun _ _ => Go.undef) rfl (Nat.le_refl _) (by simp) rfl (fun h => absurd h (by omega)) (fun i j hi => absurd hi (by simp)) trivial) rfl, [], rfl, Nat.zero_le _, fun row hr => by cases hr⟩
      · have hrows : ∀ i, i < len → ∃ row, ∃ csi, w.cells? 0 (a.add (i * P.cellsOf e)) (P.cellsOf e) = some csi ∧ Opened w S g csi row ∧ Fit P d e row := by
          intro i hi
          have h1 := hel i hi
          have hel2 : elems[i]? = some (elems[i]'(by omega)) := List.getElem?_eq_getElem _
          rw [hel2, Option.bind_eq_some_iff] at h1
          obtain ⟨csi, h2, h3⟩ := h1
          obtain ⟨xs, h4, h5⟩ := open_cells hS d n e csi _ hpe h3
          exact ⟨xs, csi, h2, h4, h5⟩
        obtain ⟨rows, hl, hall⟩ := exists_list len hrows
        have hspot : 0 < len → a = ⟨a.block, a.off, none⟩ := by
          intro h0
          obtain ⟨csi, h2, _⟩ := hall 0 (by omega)
          have h3 := (World.cells?_some h2).2.2 0 hes
          have h4 := (World.cells?_some h2).2.1
          simp only [Nat.zero_mul, Addr.add, if_true] at h3
          have h5 : csi[0]? = some (csi[0]'(by omega)) := List.getElem?_eq_getElem _
          rw [h5] at h3
          unfold World.cell? at h3
          obtain ⟨bl, of, sp⟩ := a
          cases sp with
          | none => rfl
          | some s => split at h3 <;> simp at h3
        have hadd : ∀ i j, i < len → ((a.add (i * P.cellsOf e)).add j) = ⟨a.block, a.off + (i * P.cellsOf e + j), none⟩ := by
          intro i j hi
          have := hspot (by omega)
          rw [this]
          unfold Addr.add
          by_cases h1 : i * P.cellsOf e = 0
          · by_cases h2 : j = 0
            · simp [h1, h2]
            · simp [h1, h2]
          · by_cases h2 : j = 0
            · simp [h1, h2]
            · simp [h1, h2, Nat.add_assoc]
        have hrl : ∀ i (hi : i < rows.length), rows[i].length = P.cellsOf e := by
          intro i hi
          obtain ⟨csi, h2, h3, _⟩ := hall i hi
          rw [h3.1]
          exact (World.cells?_some h2).2.1
        refine ⟨[.sl .frozen (P.cellsOf e) rows], opened_one (.sl .frozen _ len cap _ rows (fun i j => (cellOf w a.block (a.off + (i * P.cellsOf e + j))).getD Go.undef) hl hlc (fun row hr => ?_) ?_ (fun h0 => ⟨a.block, a.off, by rw [← hspot h0], fun i j hi hj => ⟨?_, hS _ _⟩⟩) (fun i j hi hj => ?_) trivial) ?_, rows, rfl, by omega, fun row hr => ?_⟩
        · obtain ⟨i, hi, rfl⟩ := List.getElem_of_mem hr
          exact hrl i hi
        · refine List.all_eq_true.2 fun row hr => ?_
          obtain ⟨i, hi, rfl⟩ := List.getElem_of_mem hr
          obtain ⟨csi, h2, h3, _⟩ := hall i hi
          exact h3.2.2
        · obtain ⟨csi, h2, h3, _⟩ := hall i (by omega)
          have h4 := (World.cells?_some h2).2.2 j hj
          have h5 := (World.cells?_some h2).2.1
          rw [hadd i j hi] at h4
          have h6 : csi[j]? = some (csi[j]'(by omega)) := List.getElem?_eq_getElem _
          rw [h6] at h4
          simp only [cellOf, h4, Option.getD_some]
        · obtain ⟨csi, h2, h3, _⟩ := hall i hi
          have hj' : j < P.cellsOf e := by rw [← hrl i hi]; exact hj
          have h4 := (World.cells?_some h2).2.2 j hj'
          rw [hadd i j (by omega)] at h4
          have h5 := h3.2.1 j hj
          rw [List.getD_eq_getElem?_getD, ← h4] at h5
          exact h5
        · rfl
        · obtain ⟨i, hi, rfl⟩ := List.getElem_of_mem hr
          obtain ⟨csi, _, _, h4⟩ := hall i hi
          exact h4
    · rename_i fs hu
      simp only [Bool.and_eq_true] at hp
      obtain ⟨h1, h2⟩ := hp
      split at h1
      · rename_i n htl
        have hn : n = P.cellsOf t := Nat.eq_of_beq_eq_true h1
        obtain ⟨ys, m, _, _, k1, k2, k3⟩ := DataW.trod_struct hu h
        simp only [Fit, hu]
        obtain ⟨xs, q1, q2, q3, q4⟩ := open_fields (cs := cs) (n := m) (fun t cs y a b => open_cells hS d m t cs y a b) fs.toList 0 n htl (by omega) (fun f hf => List.all_eq_true.1 h2 f hf) (fun f hf => by
          obtain ⟨i, hi, rfl⟩ := List.getElem_of_mem hf
          have hi' : i < fs.size := by simpa using hi
          have e1 : fs[i]? = some fs.toList[i] := by simp [hi']
          have := k3 i _ e1
          rw [this]
          exact ⟨_, List.getElem?_eq_getElem (by omega)⟩)
        refine ⟨xs, ⟨by omega, fun i hi => ?_, q3⟩, by omega, fun f hf => ?_⟩
        · have := q2 i hi
          rwa [Nat.zero_add] at this
        · have := (q4 f hf).2
          rwa [Nat.sub_zero] at this
      · cases h1
    · cases hp
theorem open_arg (hS : ∀ b o, S b o) {d : Nat} {r : Reach} {b0 : Nat} {t : TypeId} {v : Value} {y : DataW H} {ps : List MemPlace} (hp : plainT P d t = true) (hval : Value.okWide P w r b0 t v) (h : DataW.Trod enc P w 0 spare true t v y ps) :
    ∃ x, VR (cellOf w) S [] [] g v x ∧ FitV P d t x := by
  obtain ⟨fuel, h⟩ := h
  have one : ∀ u : Value, u.cells.toList = [u] → v = u → P.underlying t ≠ none → (∀ fs, P.underlying t ≠ some (.struct fs)) → ∃ x, VR (cellOf w) S [] [] g v x ∧ FitV P d t x := by
    rintro u hu rfl _ hns
    rw [hu] at h
    obtain ⟨xs, ⟨k1, k2, _⟩, k4⟩ := open_cells (g := g) hS d fuel t _ _ hp h
    match xs, k1 with
    | [x], _ =>
      refine ⟨x, k2 0 (by simp), ?_⟩
      unfold FitV
      split
      · rename_i fs hfs; exact absurd hfs (hns fs)
      · exact k4
  cases d with
  | zero => cases hp
  | succ d =>
    have hp' := hp
    unfold plainT at hp'
    split at hp'
    · rename_i hu
      obtain ⟨b, rfl⟩ := okWide_bool hu hval
      exact one _ rfl rfl (by rw [hu]; simp) (by rw [hu]; simp)
    · rename_i k hu
      obtain ⟨b, rfl⟩ := okWide_int hu hval
      exact one _ rfl rfl (by rw [hu]; simp) (by rw [hu]; simp)
    · rename_i hu
      obtain ⟨b, rfl⟩ := okWide_string hu hval
      exact one _ rfl rfl (by rw [hu]; simp) (by rw [hu]; simp)
    · rename_i e hu
      obtain ⟨a, l, c, rfl⟩ := okWide_slice hu hval
      exact one _ rfl rfl (by rw [hu]; simp) (by rw [hu]; simp)
    · rename_i fs hu
      obtain ⟨cs, rfl, hsz⟩ := okWide_struct hu hval
      have h' : DataW.trod enc P w 0 spare true fuel t cs.toList = some (y, ps) := h
      obtain ⟨xs, ⟨k1, k2, k3⟩, k4⟩ := open_cells (g := g) hS (d + 1) fuel t _ _ hp h'
      refine ⟨.agg xs, .agg _ _ (by simpa using k1.symm) (fun x hx => pureCell_cell (List.all_eq_true.1 k3 x hx)) (fun i hi => ?_), ?_⟩
      · have := k2 i hi
        rw [List.getD_eq_getElem?_getD] at this
        simpa [Array.getD_eq_getD_getElem?] using this
      · unfold FitV
        simp only [hu]
        exact ⟨xs, rfl, k4⟩
    · cases hp'
end op
section row
variable {E : Env} {w : World}
def g0 : G := ⟨fun _ => 0, fun _ => 0, fun _ => none, fun _ => 0⟩
def O0 : Nat → Prop := fun _ => False
theorem none_blk {x : Ow} {b : Nat} (h : Blk g0 lam0 (bare [] []) x b) : False := by
  cases x with
  | box r => obtain ⟨h1, _⟩ := h; simp [bare, Box.live] at h1
  | loc t => obtain ⟨⟨cs, h1⟩, _⟩ := h; cases h1
  | tok id => obtain ⟨h1, _⟩ := h; simp [bare] at h1
theorem stab0 (b o : Nat) : Stab O0 g0 lam0 (bare [] []) b o := ⟨fun h => h, fun r h => none_blk h, fun t h => none_blk h, fun id es n h _ => by simp [bare] at h⟩
theorem sim0 : Sim w O0 g0 lam0 #[] (bare [] []) :=
  ⟨rfl, fun t ht => by simp [bare] at ht, fun r es rs h => by simp [bare] at h, fun t cs h => (by cases h), fun id es n h => by simp [bare] at h, fun r es h => by simp [bare] at h, fun x y b hx _ => (none_blk hx).elim, fun x b hx => (none_blk hx).elim, fun b h => h.elim⟩
/-- A call that the machine says is true, from the model's side. -/
theorem law_calls (hE : E.Good) (hm : E.P.follows .mixedOrders = true) (hP : PrimOk E) {f : FuncId} {vs : Array Value} {xs : List V} (hl : vs.size = xs.length) (hv : ∀ i (hi : i < xs.length), VR (cellOf w) (Stab O0 g0 lam0 (bare [] [])) [] [] g0 (vs.getD i Go.undef) xs[i])
    (h : callsV E f xs [] [] 0 0 fun v _ _ => v = .bool true) : Calls E.P f vs w fun e w' => e = .returned (.bool true) ∧ Below w.heap.size w w' := by
  obtain ⟨_, h2⟩ := callsV_ok hE (draw_ok hm) hP f xs [] [] 0 0 _ h
  refine Calls.mono (h2 w O0 g0 vs sim0 (Nat.le_refl _) (Nat.le_refl _) hl hv) ?_
  rintro e w' ⟨v, x, bx, tk, g', rfl, rfl, hF, hS, hV⟩
  refine ⟨by rw [FR.bool_inv hV], hF.os, hF.tape, hF.output, hF.size, fun k hk => hF.blk k hk fun x hx => (none_blk hx).elim⟩
end row
end Go.Vi
