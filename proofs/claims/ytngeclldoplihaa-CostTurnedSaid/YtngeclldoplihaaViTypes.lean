/- Go structs of this seat as structures: printed by a program (vitypes.py) of this work. -/
import Derived.Test.YtngeclldoplihaaViSet
import Derived.Test.YtngeclldoplihaaViList
import Derived.Test.YtngeclldoplihaaViOpen
set_option maxRecDepth 100000
set_option linter.unusedVariables false
set_option linter.unusedSimpArgs false
namespace Go.Vi
open Go.Proofs
theorem cs3 : Try.prog.cellsOf 3 = 1 := by kernel_rfl
theorem cs26 : Try.prog.cellsOf 26 = 5 := by kernel_rfl
theorem cs4 : Try.prog.cellsOf 4 = 1 := by kernel_rfl
/-- hoistway/car.Car -/
structure Car where
  Floor : Int
  Dir : Int
  Door : Int
  Held : Int
  Moved : Bool
def Car.cells (x : Car) : List V := [.int .i64 x.Floor, .int .i64 x.Dir, .int .i64 x.Door, .int .i64 x.Held, .bool x.Moved]
theorem Car.cells_eq (x : Car) : x.cells = [.int .i64 x.Floor, .int .i64 x.Dir, .int .i64 x.Door, .int .i64 x.Held, .bool x.Moved] := rfl
theorem Car.eta (x : Car) : Car.mk x.Floor x.Dir x.Door x.Held x.Moved = x := rfl
def Car.ok (x : Car) : Prop := (Lit.int .i64 x.Floor).wf = true ∧ (Lit.int .i64 x.Dir).wf = true ∧ (Lit.int .i64 x.Door).wf = true ∧ (Lit.int .i64 x.Held).wf = true
theorem Car.pure (x : Car) : x.cells.all V.pureCell = true := rfl
theorem Car.len (x : Car) : x.cells.length = 5 := rfl
theorem Car.fit {d : Nat} {xs : List V} (h : Fit Try.prog (d + 2) 26 xs) : ∃ x : Car, xs = x.cells ∧ x.ok := by
  simp only [Fit, Try.underlying26, cs26] at h
  obtain ⟨hl, hf⟩ := h
  match xs, hl with
  | [a0, a1, a2, a3, a4], _ =>
    simp only [List.forall_mem_cons, cs3, cs4] at hf
    simp [-Bool.exists_bool, Fit, Try.underlying3, Try.underlying4] at hf
    obtain ⟨⟨na0, rfl, wa0⟩, ⟨na1, rfl, wa1⟩, ⟨na2, rfl, wa2⟩, ⟨na3, rfl, wa3⟩, ⟨na4, rfl⟩⟩ := hf
    exact ⟨⟨na0, na1, na2, na3, na4⟩, rfl, wa0, wa1, wa2, wa3⟩
theorem Car.fitV {d : Nat} {v : V} (h : FitV Try.prog (d + 2) 26 v) : ∃ x : Car, v = .agg x.cells ∧ x.ok := by
  simp only [FitV, Try.underlying26] at h
  obtain ⟨xs, rfl, h⟩ := h
  obtain ⟨x, rfl, hx⟩ := Car.fit h
  exact ⟨x, rfl, hx⟩
theorem Car.fitL49 {d : Nat} {v : V} (h : FitV Try.prog (d + 3) 49 v) : ∃ l : List Car, v = .sl .frozen 5 (l.map Car.cells) ∧ l.length ≤ maxLen ∧ ∀ x ∈ l, x.ok := by
  simp only [FitV, Fit, Try.underlying49, cs26] at h
  obtain ⟨rows, h1, h2, h3⟩ := h
  injection h1 with h1
  subst h1
  have key : ∀ (rows : List (List V)), (∀ row ∈ rows, Fit Try.prog (d + 2) 26 row) → ∃ l : List Car, rows = l.map Car.cells ∧ ∀ x ∈ l, x.ok := by
    intro rows
    induction rows with
    | nil => intro _; exact ⟨[], rfl, fun x hx => by cases hx⟩
    | cons r rs ih =>
      intro h
      obtain ⟨x, rfl, hx⟩ := Car.fit (h r List.mem_cons_self)
      obtain ⟨l, rfl, hl⟩ := ih fun q hq => h q (List.mem_cons_of_mem _ hq)
      exact ⟨x :: l, rfl, fun y hy => by rcases List.mem_cons.1 hy with rfl | hy; exact hx; exact hl y hy⟩
  obtain ⟨l, rfl, hl⟩ := key rows h3
  exact ⟨l, rfl, by simpa using h2, hl⟩
theorem cs37 : Try.prog.cellsOf 37 = 5 := by kernel_rfl
/-- hoistway/hoistwayref16.Car -/
structure RCar where
  Floor : Int
  Dir : Int
  Door : Int
  Held : Int
  Moved : Bool
def RCar.cells (x : RCar) : List V := [.int .i64 x.Floor, .int .i64 x.Dir, .int .i64 x.Door, .int .i64 x.Held, .bool x.Moved]
theorem RCar.cells_eq (x : RCar) : x.cells = [.int .i64 x.Floor, .int .i64 x.Dir, .int .i64 x.Door, .int .i64 x.Held, .bool x.Moved] := rfl
theorem RCar.eta (x : RCar) : RCar.mk x.Floor x.Dir x.Door x.Held x.Moved = x := rfl
def RCar.ok (x : RCar) : Prop := (Lit.int .i64 x.Floor).wf = true ∧ (Lit.int .i64 x.Dir).wf = true ∧ (Lit.int .i64 x.Door).wf = true ∧ (Lit.int .i64 x.Held).wf = true
theorem RCar.pure (x : RCar) : x.cells.all V.pureCell = true := rfl
theorem RCar.len (x : RCar) : x.cells.length = 5 := rfl
theorem RCar.fit {d : Nat} {xs : List V} (h : Fit Try.prog (d + 2) 37 xs) : ∃ x : RCar, xs = x.cells ∧ x.ok := by
  simp only [Fit, Try.underlying37, cs37] at h
  obtain ⟨hl, hf⟩ := h
  match xs, hl with
  | [a0, a1, a2, a3, a4], _ =>
    simp only [List.forall_mem_cons, cs3, cs4] at hf
    simp [-Bool.exists_bool, Fit, Try.underlying3, Try.underlying4] at hf
    obtain ⟨⟨na0, rfl, wa0⟩, ⟨na1, rfl, wa1⟩, ⟨na2, rfl, wa2⟩, ⟨na3, rfl, wa3⟩, ⟨na4, rfl⟩⟩ := hf
    exact ⟨⟨na0, na1, na2, na3, na4⟩, rfl, wa0, wa1, wa2, wa3⟩
theorem RCar.fitV {d : Nat} {v : V} (h : FitV Try.prog (d + 2) 37 v) : ∃ x : RCar, v = .agg x.cells ∧ x.ok := by
  simp only [FitV, Try.underlying37] at h
  obtain ⟨xs, rfl, h⟩ := h
  obtain ⟨x, rfl, hx⟩ := RCar.fit h
  exact ⟨x, rfl, hx⟩
theorem RCar.fitL52 {d : Nat} {v : V} (h : FitV Try.prog (d + 3) 52 v) : ∃ l : List RCar, v = .sl .frozen 5 (l.map RCar.cells) ∧ l.length ≤ maxLen ∧ ∀ x ∈ l, x.ok := by
  simp only [FitV, Fit, Try.underlying52, cs37] at h
  obtain ⟨rows, h1, h2, h3⟩ := h
  injection h1 with h1
  subst h1
  have key : ∀ (rows : List (List V)), (∀ row ∈ rows, Fit Try.prog (d + 2) 37 row) → ∃ l : List RCar, rows = l.map RCar.cells ∧ ∀ x ∈ l, x.ok := by
    intro rows
    induction rows with
    | nil => intro _; exact ⟨[], rfl, fun x hx => by cases hx⟩
    | cons r rs ih =>
      intro h
      obtain ⟨x, rfl, hx⟩ := RCar.fit (h r List.mem_cons_self)
      obtain ⟨l, rfl, hl⟩ := ih fun q hq => h q (List.mem_cons_of_mem _ hq)
      exact ⟨x :: l, rfl, fun y hy => by rcases List.mem_cons.1 hy with rfl | hy; exact hx; exact hl y hy⟩
  obtain ⟨l, rfl, hl⟩ := key rows h3
  exact ⟨l, rfl, by simpa using h2, hl⟩
theorem cs30 : Try.prog.cellsOf 30 = 8 := by kernel_rfl
/-- hoistway/api.Call -/
structure Call where
  Id : Int
  Kind : Int
  From : Int
  To : Int
  Car : Int
  State : Int
  Owner : Int
  Born : Int
def Call.cells (x : Call) : List V := [.int .i64 x.Id, .int .i64 x.Kind, .int .i64 x.From, .int .i64 x.To, .int .i64 x.Car, .int .i64 x.State, .int .i64 x.Owner, .int .i64 x.Born]
theorem Call.cells_eq (x : Call) : x.cells = [.int .i64 x.Id, .int .i64 x.Kind, .int .i64 x.From, .int .i64 x.To, .int .i64 x.Car, .int .i64 x.State, .int .i64 x.Owner, .int .i64 x.Born] := rfl
theorem Call.eta (x : Call) : Call.mk x.Id x.Kind x.From x.To x.Car x.State x.Owner x.Born = x := rfl
def Call.ok (x : Call) : Prop := (Lit.int .i64 x.Id).wf = true ∧ (Lit.int .i64 x.Kind).wf = true ∧ (Lit.int .i64 x.From).wf = true ∧ (Lit.int .i64 x.To).wf = true ∧ (Lit.int .i64 x.Car).wf = true ∧ (Lit.int .i64 x.State).wf = true ∧ (Lit.int .i64 x.Owner).wf = true ∧ (Lit.int .i64 x.Born).wf = true
theorem Call.pure (x : Call) : x.cells.all V.pureCell = true := rfl
theorem Call.len (x : Call) : x.cells.length = 8 := rfl
theorem Call.fit {d : Nat} {xs : List V} (h : Fit Try.prog (d + 2) 30 xs) : ∃ x : Call, xs = x.cells ∧ x.ok := by
  simp only [Fit, Try.underlying30, cs30] at h
  obtain ⟨hl, hf⟩ := h
  match xs, hl with
  | [a0, a1, a2, a3, a4, a5, a6, a7], _ =>
    simp only [List.forall_mem_cons, cs3] at hf
    simp [-Bool.exists_bool, Fit, Try.underlying3] at hf
    obtain ⟨⟨na0, rfl, wa0⟩, ⟨na1, rfl, wa1⟩, ⟨na2, rfl, wa2⟩, ⟨na3, rfl, wa3⟩, ⟨na4, rfl, wa4⟩, ⟨na5, rfl, wa5⟩, ⟨na6, rfl, wa6⟩, ⟨na7, rfl, wa7⟩⟩ := hf
    exact ⟨⟨na0, na1, na2, na3, na4, na5, na6, na7⟩, rfl, wa0, wa1, wa2, wa3, wa4, wa5, wa6, wa7⟩
theorem Call.fitV {d : Nat} {v : V} (h : FitV Try.prog (d + 2) 30 v) : ∃ x : Call, v = .agg x.cells ∧ x.ok := by
  simp only [FitV, Try.underlying30] at h
  obtain ⟨xs, rfl, h⟩ := h
  obtain ⟨x, rfl, hx⟩ := Call.fit h
  exact ⟨x, rfl, hx⟩
theorem Call.fitL28 {d : Nat} {v : V} (h : FitV Try.prog (d + 3) 28 v) : ∃ l : List Call, v = .sl .frozen 8 (l.map Call.cells) ∧ l.length ≤ maxLen ∧ ∀ x ∈ l, x.ok := by
  simp only [FitV, Fit, Try.underlying28, cs30] at h
  obtain ⟨rows, h1, h2, h3⟩ := h
  injection h1 with h1
  subst h1
  have key : ∀ (rows : List (List V)), (∀ row ∈ rows, Fit Try.prog (d + 2) 30 row) → ∃ l : List Call, rows = l.map Call.cells ∧ ∀ x ∈ l, x.ok := by
    intro rows
    induction rows with
    | nil => intro _; exact ⟨[], rfl, fun x hx => by cases hx⟩
    | cons r rs ih =>
      intro h
      obtain ⟨x, rfl, hx⟩ := Call.fit (h r List.mem_cons_self)
      obtain ⟨l, rfl, hl⟩ := ih fun q hq => h q (List.mem_cons_of_mem _ hq)
      exact ⟨x :: l, rfl, fun y hy => by rcases List.mem_cons.1 hy with rfl | hy; exact hx; exact hl y hy⟩
  obtain ⟨l, rfl, hl⟩ := key rows h3
  exact ⟨l, rfl, by simpa using h2, hl⟩
theorem cs24 : Try.prog.cellsOf 24 = 18 := by kernel_rfl
theorem cs22 : Try.prog.cellsOf 22 = 1 := by kernel_rfl
/-- hoistway/api.Config -/
structure Config where
  Floors : Int
  Cars : Int
  Seats : Int
  Calls : Int
  Lines : Int
  Keys : Int
  Window : Int
  Burst : Int
  Rate : Int
  Idle : Int
  In : Int
  Out : Int
  Feed : Int
  Retries : Int
  Life : Int
  Door : Int
  Holds : Int
  Secret : Int
def Config.cells (x : Config) : List V := [.int .i64 x.Floors, .int .i64 x.Cars, .int .i64 x.Seats, .int .i64 x.Calls, .int .i64 x.Lines, .int .i64 x.Keys, .int .i64 x.Window, .int .i64 x.Burst, .int .i64 x.Rate, .int .i64 x.Idle, .int .i64 x.In, .int .i64 x.Out, .int .i64 x.Feed, .int .i64 x.Retries, .int .i64 x.Life, .int .i64 x.Door, .int .i64 x.Holds, .int .u32 x.Secret]
theorem Config.cells_eq (x : Config) : x.cells = [.int .i64 x.Floors, .int .i64 x.Cars, .int .i64 x.Seats, .int .i64 x.Calls, .int .i64 x.Lines, .int .i64 x.Keys, .int .i64 x.Window, .int .i64 x.Burst, .int .i64 x.Rate, .int .i64 x.Idle, .int .i64 x.In, .int .i64 x.Out, .int .i64 x.Feed, .int .i64 x.Retries, .int .i64 x.Life, .int .i64 x.Door, .int .i64 x.Holds, .int .u32 x.Secret] := rfl
theorem Config.eta (x : Config) : Config.mk x.Floors x.Cars x.Seats x.Calls x.Lines x.Keys x.Window x.Burst x.Rate x.Idle x.In x.Out x.Feed x.Retries x.Life x.Door x.Holds x.Secret = x := rfl
def Config.ok (x : Config) : Prop := (Lit.int .i64 x.Floors).wf = true ∧ (Lit.int .i64 x.Cars).wf = true ∧ (Lit.int .i64 x.Seats).wf = true ∧ (Lit.int .i64 x.Calls).wf = true ∧ (Lit.int .i64 x.Lines).wf = true ∧ (Lit.int .i64 x.Keys).wf = true ∧ (Lit.int .i64 x.Window).wf = true ∧ (Lit.int .i64 x.Burst).wf = true ∧ (Lit.int .i64 x.Rate).wf = true ∧ (Lit.int .i64 x.Idle).wf = true ∧ (Lit.int .i64 x.In).wf = true ∧ (Lit.int .i64 x.Out).wf = true ∧ (Lit.int .i64 x.Feed).wf = true ∧ (Lit.int .i64 x.Retries).wf = true ∧ (Lit.int .i64 x.Life).wf = true ∧ (Lit.int .i64 x.Door).wf = true ∧ (Lit.int .i64 x.Holds).wf = true ∧ (Lit.int .u32 x.Secret).wf = true
theorem Config.pure (x : Config) : x.cells.all V.pureCell = true := rfl
theorem Config.len (x : Config) : x.cells.length = 18 := rfl
theorem Config.fit {d : Nat} {xs : List V} (h : Fit Try.prog (d + 2) 24 xs) : ∃ x : Config, xs = x.cells ∧ x.ok := by
  simp only [Fit, Try.underlying24, cs24] at h
  obtain ⟨hl, hf⟩ := h
  match xs, hl with
  | [a0, a1, a2, a3, a4, a5, a6, a7, a8, a9, a10, a11, a12, a13, a14, a15, a16, a17], _ =>
    simp only [List.forall_mem_cons, cs3, cs22] at hf
    simp [-Bool.exists_bool, Fit, Try.underlying3, Try.underlying22] at hf
    obtain ⟨⟨na0, rfl, wa0⟩, ⟨na1, rfl, wa1⟩, ⟨na2, rfl, wa2⟩, ⟨na3, rfl, wa3⟩, ⟨na4, rfl, wa4⟩, ⟨na5, rfl, wa5⟩, ⟨na6, rfl, wa6⟩, ⟨na7, rfl, wa7⟩, ⟨na8, rfl, wa8⟩, ⟨na9, rfl, wa9⟩, ⟨na10, rfl, wa10⟩, ⟨na11, rfl, wa11⟩, ⟨na12, rfl, wa12⟩, ⟨na13, rfl, wa13⟩, ⟨na14, rfl, wa14⟩, ⟨na15, rfl, wa15⟩, ⟨na16, rfl, wa16⟩, ⟨na17, rfl, wa17⟩⟩ := hf
    exact ⟨⟨na0, na1, na2, na3, na4, na5, na6, na7, na8, na9, na10, na11, na12, na13, na14, na15, na16, na17⟩, rfl, wa0, wa1, wa2, wa3, wa4, wa5, wa6, wa7, wa8, wa9, wa10, wa11, wa12, wa13, wa14, wa15, wa16, wa17⟩
theorem Config.fitV {d : Nat} {v : V} (h : FitV Try.prog (d + 2) 24 v) : ∃ x : Config, v = .agg x.cells ∧ x.ok := by
  simp only [FitV, Try.underlying24] at h
  obtain ⟨xs, rfl, h⟩ := h
  obtain ⟨x, rfl, hx⟩ := Config.fit h
  exact ⟨x, rfl, hx⟩
theorem fit3 {d : Nat} {v : V} (h : FitV Try.prog (d + 1) 3 v) : ∃ n, v = .int .i64 n ∧ (Lit.int .i64 n).wf = true := by
  simp only [FitV, Fit, Try.underlying3] at h
  obtain ⟨n, h1, h2⟩ := h
  injection h1 with h1
  exact ⟨n, h1, h2⟩
theorem fit4 {d : Nat} {v : V} (h : FitV Try.prog (d + 1) 4 v) : ∃ b, v = .bool b := by
  simp only [FitV, Fit, Try.underlying4] at h
  obtain ⟨n, h1⟩ := h
  injection h1 with h1
  exact ⟨n, h1⟩
theorem fitL27 {d : Nat} {v : V} (h : FitV Try.prog (d + 2) 27 v) : ∃ l : List Int, v = .sl .frozen 1 (l.map (fun n : Int => [V.int .i64 n])) ∧ l.length ≤ maxLen ∧ ∀ x ∈ l, (Lit.int .i64 x).wf = true := by
  simp only [FitV, Fit, Try.underlying27, Try.underlying3, cs3] at h
  obtain ⟨rows, h1, h2, h3⟩ := h
  injection h1 with h1
  subst h1
  have key : ∀ (rows : List (List V)), (∀ row ∈ rows, ∃ x : Int, row = (fun n : Int => [V.int .i64 n]) x ∧ (Lit.int .i64 x).wf = true) → ∃ l : List Int, rows = l.map (fun n : Int => [V.int .i64 n]) ∧ ∀ x ∈ l, (Lit.int .i64 x).wf = true := by
    intro rows
    induction rows with
    | nil => intro _; exact ⟨[], rfl, fun x hx => by cases hx⟩
    | cons r rs ih =>
      intro h
      obtain ⟨x, rfl, hx⟩ := h r List.mem_cons_self
      obtain ⟨l, rfl, hl⟩ := ih fun q hq => h q (List.mem_cons_of_mem _ hq)
      exact ⟨x :: l, rfl, fun y hy => by rcases List.mem_cons.1 hy with rfl | hy; exact hx; exact hl y hy⟩
  obtain ⟨l, rfl, hl⟩ := key rows (fun row hr => by have := h3 row hr; simpa [-Bool.exists_bool] using this)
  exact ⟨l, rfl, by simpa using h2, hl⟩
theorem fitL50 {d : Nat} {v : V} (h : FitV Try.prog (d + 2) 50 v) : ∃ l : List Bool, v = .sl .frozen 1 (l.map (fun b : Bool => [V.bool b])) ∧ l.length ≤ maxLen ∧ ∀ x ∈ l, True := by
  simp only [FitV, Fit, Try.underlying50, Try.underlying4, cs4] at h
  obtain ⟨rows, h1, h2, h3⟩ := h
  injection h1 with h1
  subst h1
  have key : ∀ (rows : List (List V)), (∀ row ∈ rows, ∃ x : Bool, row = (fun b : Bool => [V.bool b]) x ∧ True) → ∃ l : List Bool, rows = l.map (fun b : Bool => [V.bool b]) ∧ ∀ x ∈ l, True := by
    intro rows
    induction rows with
    | nil => intro _; exact ⟨[], rfl, fun x hx => by cases hx⟩
    | cons r rs ih =>
      intro h
      obtain ⟨x, rfl, hx⟩ := h r List.mem_cons_self
      obtain ⟨l, rfl, hl⟩ := ih fun q hq => h q (List.mem_cons_of_mem _ hq)
      exact ⟨x :: l, rfl, fun y hy => by rcases List.mem_cons.1 hy with rfl | hy; exact hx; exact hl y hy⟩
  obtain ⟨l, rfl, hl⟩ := key rows (fun row hr => by have := h3 row hr; simpa [-Bool.exists_bool] using this)
  exact ⟨l, rfl, by simpa using h2, hl⟩
attribute [go_sem] Car.eta RCar.eta Call.eta Config.eta
end Go.Vi
