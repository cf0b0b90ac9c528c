/- Lists as the machine's values: what comes in, what is handed back; rules for walking over them. -/
import Derived.Test.YtngeclldoplihaaViDet
import Derived.Attr
set_option linter.unusedVariables false
set_option linter.unusedSimpArgs false
namespace Go.Vi
/-- int's wrap. -/
abbrev W (n : Int) : Int := IntKind.i64.wrap n
theorem wrap_eq (n : Int) : W n = (n + 9223372036854775808) % 18446744073709551616 - 9223372036854775808 := by
  simp [W, IntKind.wrap, IntKind.signed, IntKind.bits, Int.bmod]
  omega
theorem wrap_id {n : Int} (h1 : -9223372036854775808 ≤ n) (h2 : n ≤ 9223372036854775807) : W n = n := by
  rw [wrap_eq]; omega
theorem wrap_succ {i n : Nat} (h : i < n) (hn : n ≤ 9223372036854775807) : IntKind.i64.wrap ((i : Int) + 1) = ((i + 1 : Nat) : Int) := by
  have := wrap_id (n := (i : Int) + 1) (by omega) (by omega)
  simp only [W] at this
  rw [this]; simp
theorem lt_cast {i n : Nat} (h : i < n) : ltI (i : Int) (n : Int) = true := by simp [ltI, h]
theorem lt_self {n : Nat} : ltI (n : Int) (n : Int) = false := by simp [ltI]
/-- A list that is read. -/
structure IsL {α : Type} (enc : α → List V) (es : Nat) (v : V) (l : List α) : Prop where
  len : l.length ≤ 9223372036854775807
  form : (v = .nils ∧ l = []) ∨ ∃ k, v = .sl k es (l.map enc)
/-- A list that a function has made by appending to none. -/
def mkL (es : Nat) : List (List V) → V
  | [] => .nils
  | r :: rs => .sl .frozen es (r :: rs)
section isl
variable {α : Type} {enc : α → List V} {es : Nat} {v : V} {l : List α} {st : St}
theorem IsL.nil : IsL enc es .nils [] := ⟨Nat.zero_le _, .inl ⟨rfl, rfl⟩⟩
theorem IsL.sl {k : SK} {l : List α} (h : l.length ≤ 9223372036854775807) : IsL enc es (.sl k es (l.map enc)) l := ⟨h, .inr ⟨k, rfl⟩⟩
theorem IsL.made {l : List α} (h : l.length ≤ 9223372036854775807) : IsL enc es (mkL es (l.map enc)) l := by
  cases l with
  | nil => exact .nil
  | cons a l => exact ⟨h, .inr ⟨.frozen, rfl⟩⟩
theorem IsL.copy (h : IsL enc es v l) : v.copy = some v := by
  rcases h.form with ⟨rfl, _⟩ | ⟨k, rfl⟩ <;> rfl
theorem IsL.lenV (h : IsL enc es v l) : lenV v = some l.length := by
  rcases h.form with ⟨rfl, rfl⟩ | ⟨k, rfl⟩
  · rfl
  · simp [Vi.lenV]
theorem IsL.lenK (h : IsL enc es v l) : lenK v = 2 := by
  rcases h.form with ⟨rfl, _⟩ | ⟨k, rfl⟩ <;> rfl
theorem IsL.rows (h : IsL enc es v l) (st : St) : rowsOf st v = some (l.map enc) := by
  rcases h.form with ⟨rfl, rfl⟩ | ⟨k, rfl⟩ <;> rfl
theorem IsL.elem (h : IsL enc es v l) (h0 : 0 < es) {i : Nat} (hi : i < l.length) (st : St) : elemAddr st es i v = some (.iptr (enc (l[i]'hi)), st) := by
  rcases h.form with ⟨rfl, rfl⟩ | ⟨k, rfl⟩
  · simp at hi
  · simp [elemAddr, hi, ob_some, h0]
theorem IsL.lk (h : IsL enc es v l) {L : Nat → Bool} {d : Option Nat} {p : Prop} : locK L d v p = p := by
  rcases h.form with ⟨rfl, _⟩ | ⟨k, rfl⟩ <;> rfl
theorem IsL.cells (h : IsL enc es v l) : cellsOf false 1 v = some [v] := by
  rcases h.form with ⟨rfl, _⟩ | ⟨k, rfl⟩ <;> rfl
theorem IsL.clear (h : IsL enc es v l) {d : Nat} : clearL d v = v := by
  rcases h.form with ⟨rfl, _⟩ | ⟨k, rfl⟩ <;> rfl
end isl
section mk
variable {es : Nat} {rs : List (List V)} {st : St}
theorem mk_copy : (mkL es rs).copy = some (mkL es rs) := by cases rs <;> rfl
theorem mk_lenV : lenV (mkL es rs) = some rs.length := by cases rs <;> rfl
theorem mk_lenK : lenK (mkL es rs) = 2 := by cases rs <;> rfl
theorem mk_rows : rowsOf st (mkL es rs) = some rs := by cases rs <;> rfl
theorem mk_lk {L : Nat → Bool} {d : Option Nat} {p : Prop} : locK L d (mkL es rs) p = p := by cases rs <;> rfl
theorem mk_cells : cellsOf false 1 (mkL es rs) = some [mkL es rs] := by cases rs <;> rfl
theorem mk_clear {d : Nat} : clearL d (mkL es rs) = mkL es rs := by cases rs <;> rfl
theorem mk_fz {lo tlo : Nat} : freezeV st lo tlo (mkL es rs) = some (mkL es rs) := by cases rs <;> rfl
theorem mk_fzc {lo tlo : Nat} : freezeCell st lo tlo (mkL es rs) = some (mkL es rs) := by cases rs <;> rfl
theorem mk_pure : V.pureCell (mkL es rs) = true := by cases rs <;> rfl
end mk
/-- The store while a list is made by appending to none: a token, from the first element on. -/
def tkAt (tk : List (Nat × Nat)) (es : Nat) : Nat → List (Nat × Nat)
  | 0 => tk
  | n + 1 => tk ++ [(es, n + 1)]
def accV (tk : List (Nat × Nat)) (es : Nat) : List (List V) → V
  | [] => .nils
  | r :: rs => .sl (.tok tk.length) es (r :: rs)
section acc
variable {tk : List (Nat × Nat)} {es : Nat} {rs : List (List V)} {tm : List V} {bx : List Box}
theorem acc_nil : accV tk es [] = .nils := rfl
theorem acc_copy : (accV tk es rs).copy = some (accV tk es rs) := by cases rs <;> rfl
theorem acc_lk {L : Nat → Bool} {d : Option Nat} {p : Prop} : locK L d (accV tk es rs) p = p := by cases rs <;> rfl
theorem acc_clear {d : Nat} : clearL d (accV tk es rs) = accV tk es rs := by cases rs <;> rfl
theorem acc_rows {st : St} : rowsOf st (accV tk es rs) = some rs := by cases rs <;> rfl
theorem acc_app {lo tlo : Nat} {r : List V} (hp : r.all V.pureCell = true) (ht : tlo ≤ tk.length) :
    appendV ⟨tm, bx, tkAt tk es rs.length⟩ lo tlo es false (accV tk es rs) [r] = some (accV tk es (rs ++ [r]), ⟨tm, bx, tkAt tk es (rs.length + 1)⟩) := by
  have hp' : pureRows [r] = true := by simp [pureRows, List.all_eq_true.1 hp]; exact fun x hx => List.all_eq_true.1 hp x hx
  cases rs with
  | nil => simp [accV, appendV, newRows, hp', tkAt]
  | cons a rs =>
    simp only [accV, tkAt, List.length_cons, appendV]
    simp [ob_some, hp', ht, tkAt, accV]
theorem acc_fz {lo tlo : Nat} {st : St} (ht : tlo ≤ tk.length) : freezeV st lo tlo (accV tk es rs) = some (mkL es rs) := by
  cases rs with
  | nil => rfl
  | cons a rs => simp [accV, mkL, freezeV, freezeCell, Nat.not_lt.2 ht]
end acc
/-- The same, from a list that is empty and not nil. -/
def accE (tk : List (Nat × Nat)) (es : Nat) : List (List V) → V
  | [] => .sl .full es []
  | r :: rs => .sl (.tok tk.length) es (r :: rs)
def mkE (es : Nat) : List (List V) → V
  | [] => .sl .full es []
  | r :: rs => .sl .frozen es (r :: rs)
section acce
variable {tk : List (Nat × Nat)} {es : Nat} {rs : List (List V)} {tm : List V} {bx : List Box}
theorem acce_copy : (accE tk es rs).copy = some (accE tk es rs) := by cases rs <;> rfl
theorem acce_lk {L : Nat → Bool} {d : Option Nat} {p : Prop} : locK L d (accE tk es rs) p = p := by cases rs <;> rfl
theorem acce_clear {d : Nat} : clearL d (accE tk es rs) = accE tk es rs := by cases rs <;> rfl
theorem acce_rows {st : St} : rowsOf st (accE tk es rs) = some rs := by cases rs <;> rfl
theorem acce_lenV : lenV (accE tk es rs) = some rs.length := by cases rs <;> rfl
theorem acce_lenK : lenK (accE tk es rs) = 2 := by cases rs <;> rfl
theorem acce_isL {α : Type} {enc : α → List V} {l : List α} (h : l.length ≤ 9223372036854775807) : IsL enc es (accE tk es (l.map enc)) l := by
  cases l with
  | nil => exact IsL.sl (k := .full) (l := []) h
  | cons a l => exact ⟨h, .inr ⟨.tok tk.length, rfl⟩⟩
theorem acce_app {lo tlo : Nat} {r : List V} (hp : r.all V.pureCell = true) (ht : tlo ≤ tk.length) :
    appendV ⟨tm, bx, tkAt tk es rs.length⟩ lo tlo es false (accE tk es rs) [r] = some (accE tk es (rs ++ [r]), ⟨tm, bx, tkAt tk es (rs.length + 1)⟩) := by
  have hp' : pureRows [r] = true := by simp [pureRows, List.all_eq_true.1 hp]; exact fun x hx => List.all_eq_true.1 hp x hx
  cases rs with
  | nil => simp [accE, appendV, newRows, hp', tkAt]
  | cons a rs =>
    simp only [accE, tkAt, List.length_cons, appendV]
    simp [ob_some, hp', ht, tkAt, accE]
theorem acce_fz {lo tlo : Nat} {st : St} (ht : tlo ≤ tk.length) : freezeV st lo tlo (accE tk es rs) = some (mkE es rs) := by
  cases rs with
  | nil => rfl
  | cons a rs => simp [accE, mkE, freezeV, freezeCell, Nat.not_lt.2 ht]
end acce
theorem pure_map {α : Type} {enc : α → List V} (h : ∀ a, (enc a).all V.pureCell = true) (l : List α) : pureRows (l.map enc) = true := by
  simp only [pureRows, List.all_map]
  exact List.all_eq_true.2 fun a _ => h a
theorem all_len {α : Type} {enc : α → List V} {n : Nat} (h : ∀ a, (enc a).length = n) (l : List α) : ((l.map enc).all fun row => decide (row.length = n)) = true := by
  simp only [List.all_map]
  exact List.all_eq_true.2 fun a _ => by simp [h a]
attribute [go_sem] acce_copy acce_clear acce_rows acce_lenV acce_lenK
attribute [go_sem ↓] acce_lk
attribute [go_sem] mk_lk acc_lk acce_lk mk_copy mk_lenV mk_lenK mk_rows mk_cells mk_clear mk_fz mk_fzc acc_copy acc_clear acc_rows
attribute [go_sem ↓] mk_lk acc_lk
end Go.Vi
