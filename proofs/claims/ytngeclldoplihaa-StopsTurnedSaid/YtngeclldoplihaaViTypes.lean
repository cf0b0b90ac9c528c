/- Go structs of this seat as structures: printed by a program (vitypes.py) of this work. -/
import Derived.Test.YtngeclldoplihaaViSet
import Derived.Test.YtngeclldoplihaaViList
import Derived.Test.YtngeclldoplihaaViOpen
set_option maxRecDepth 100000
set_option linter.unusedVariables false
set_option linter.unusedSimpArgs false
namespace Go.Vi
open Go.Proofs
theorem cs3 : Try.prog.cellsOf 3 = 1 := by kernel_rfl
theorem cs26 : Try.prog.cellsOf 26 = 5 := by kernel_rfl
theorem cs4 : Try.prog.cellsOf 4 = 1 := by kernel_rfl
/-- hoistway/car.Car -/
structure Car where
  Floor : Int
  Dir : Int
  Door : Int
  Held : Int
  Moved : Bool
def Car.cells (x : Car) : List V := [.int .i64 x.Floor, .int .i64 x.Dir, .int .i64 x.Door, .int .i64 x.Held, .bool x.Moved]
theorem Car.cells_eq (x : Car) : x.cells = [.int .i64 x.Floor, .int .i64 x.Dir, .int .i64 x.Door, .int .i64 x.Held, .bool x.Moved] := rfl
theorem Car.eta (x : Car) : Car.mk x.Floor x.Dir x.Door x.Held x.Moved = x := rfl
def Car.ok (x : Car) : Prop := (Lit.int .i64 x.Floor).wf = true ∧ (Lit.int .i64 x.Dir).wf = true ∧ (Lit.int .i64 x.Door).wf = true ∧ (Lit.int .i64 x.Held).wf = true
theorem Car.pure (x : Car) : x.cells.all V.pureCell = true := rfl
theorem Car.len (x : Car) : x.cells.length = 5 := rfl
theorem Car.dcut_0 (x : Car) : cut (x.cells.drop 0) 0 1 = some [.int .i64 x.Floor] := rfl
theorem Car.cut_0 (x : Car) : cut x.cells 0 1 = some [.int .i64 x.Floor] := rfl
theorem Car.set_0 (x : Car) (v : Int) : setAt x.cells 0 [.int .i64 v] = ({ x with Floor := v } : Car).cells := rfl
theorem Car.dcut_1 (x : Car) : cut (x.cells.drop 1) 0 1 = some [.int .i64 x.Dir] := rfl
theorem Car.cut_1 (x : Car) : cut x.cells 1 1 = some [.int .i64 x.Dir] := rfl
theorem Car.set_1 (x : Car) (v : Int) : setAt x.cells 1 [.int .i64 v] = ({ x with Dir := v } : Car).cells := rfl
theorem Car.dcut_2 (x : Car) : cut (x.cells.drop 2) 0 1 = some [.int .i64 x.Door] := rfl
theorem Car.cut_2 (x : Car) : cut x.cells 2 1 = some [.int .i64 x.Door] := rfl
theorem Car.set_2 (x : Car) (v : Int) : setAt x.cells 2 [.int .i64 v] = ({ x with Door := v } : Car).cells := rfl
theorem Car.dcut_3 (x : Car) : cut (x.cells.drop 3) 0 1 = some [.int .i64 x.Held] := rfl
theorem Car.cut_3 (x : Car) : cut x.cells 3 1 = some [.int .i64 x.Held] := rfl
theorem Car.set_3 (x : Car) (v : Int) : setAt x.cells 3 [.int .i64 v] = ({ x with Held := v } : Car).cells := rfl
theorem Car.dcut_4 (x : Car) : cut (x.cells.drop 4) 0 1 = some [.bool x.Moved] := rfl
theorem Car.cut_4 (x : Car) : cut x.cells 4 1 = some [.bool x.Moved] := rfl
theorem Car.set_4 (x : Car) (v : Bool) : setAt x.cells 4 [.bool v] = ({ x with Moved := v } : Car).cells := rfl
theorem Car.cut_all (x : Car) : cut x.cells 0 5 = some x.cells := rfl
theorem Car.set_all (x y : Car) : setAt x.cells 0 y.cells = y.cells := rfl
theorem Car.take_all (x : Car) : x.cells.take 5 = x.cells := rfl
theorem Car.drop_all (x : Car) : x.cells.drop 5 = [] := rfl
theorem Car.fit {d : Nat} {xs : List V} (h : Fit Try.prog (d + 2) 26 xs) : ∃ x : Car, xs = x.cells ∧ x.ok := by
  simp only [Fit, Try.underlying26, cs26] at h
  obtain ⟨hl, hf⟩ := h
  match xs, hl with
  | [a0, a1, a2, a3, a4], _ =>
    simp only [List.forall_mem_cons, cs3, cs4] at hf
    simp [-Bool.exists_bool, Fit, Try.underlying3, Try.underlying4] at hf
    obtain ⟨⟨na0, rfl, wa0⟩, ⟨na1, rfl, wa1⟩, ⟨na2, rfl, wa2⟩, ⟨na3, rfl, wa3⟩, ⟨na4, rfl⟩⟩ := hf
    exact ⟨⟨na0, na1, na2, na3, na4⟩, rfl, wa0, wa1, wa2, wa3⟩
theorem Car.fitV {d : Nat} {v : V} (h : FitV Try.prog (d + 2) 26 v) : ∃ x : Car, v = .agg x.cells ∧ x.ok := by
  simp only [FitV, Try.underlying26] at h
  obtain ⟨xs, rfl, h⟩ := h
  obtain ⟨x, rfl, hx⟩ := Car.fit h
  exact ⟨x, rfl, hx⟩
theorem Car.fitL49 {d : Nat} {v : V} (h : FitV Try.prog (d + 3) 49 v) : ∃ l : List Car, v = .sl .frozen 5 (l.map Car.cells) ∧ l.length ≤ maxLen ∧ ∀ x ∈ l, x.ok := by
  simp only [FitV, Fit, Try.underlying49, cs26] at h
  obtain ⟨rows, h1, h2, h3⟩ := h
  injection h1 with h1
  subst h1
  have key : ∀ (rows : List (List V)), (∀ row ∈ rows, Fit Try.prog (d + 2) 26 row) → ∃ l : List Car, rows = l.map Car.cells ∧ ∀ x ∈ l, x.ok := by
    intro rows
    induction rows with
    | nil => intro _; exact ⟨[], rfl, fun x hx => by cases hx⟩
    | cons r rs ih =>
      intro h
      obtain ⟨x, rfl, hx⟩ := Car.fit (h r List.mem_cons_self)
      obtain ⟨l, rfl, hl⟩ := ih fun q hq => h q (List.mem_cons_of_mem _ hq)
      exact ⟨x :: l, rfl, fun y hy => by rcases List.mem_cons.1 hy with rfl | hy; exact hx; exact hl y hy⟩
  obtain ⟨l, rfl, hl⟩ := key rows h3
  exact ⟨l, rfl, by simpa using h2, hl⟩
theorem cs37 : Try.prog.cellsOf 37 = 5 := by kernel_rfl
/-- hoistway/hoistwayref16.Car -/
structure RCar where
  Floor : Int
  Dir : Int
  Door : Int
  Held : Int
  Moved : Bool
def RCar.cells (x : RCar) : List V := [.int .i64 x.Floor, .int .i64 x.Dir, .int .i64 x.Door, .int .i64 x.Held, .bool x.Moved]
theorem RCar.cells_eq (x : RCar) : x.cells = [.int .i64 x.Floor, .int .i64 x.Dir, .int .i64 x.Door, .int .i64 x.Held, .bool x.Moved] := rfl
theorem RCar.eta (x : RCar) : RCar.mk x.Floor x.Dir x.Door x.Held x.Moved = x := rfl
def RCar.ok (x : RCar) : Prop := (Lit.int .i64 x.Floor).wf = true ∧ (Lit.int .i64 x.Dir).wf = true ∧ (Lit.int .i64 x.Door).wf = true ∧ (Lit.int .i64 x.Held).wf = true
theorem RCar.pure (x : RCar) : x.cells.all V.pureCell = true := rfl
theorem RCar.len (x : RCar) : x.cells.length = 5 := rfl
theorem RCar.dcut_0 (x : RCar) : cut (x.cells.drop 0) 0 1 = some [.int .i64 x.Floor] := rfl
theorem RCar.cut_0 (x : RCar) : cut x.cells 0 1 = some [.int .i64 x.Floor] := rfl
theorem RCar.set_0 (x : RCar) (v : Int) : setAt x.cells 0 [.int .i64 v] = ({ x with Floor := v } : RCar).cells := rfl
theorem RCar.dcut_1 (x : RCar) : cut (x.cells.drop 1) 0 1 = some [.int .i64 x.Dir] := rfl
theorem RCar.cut_1 (x : RCar) : cut x.cells 1 1 = some [.int .i64 x.Dir] := rfl
theorem RCar.set_1 (x : RCar) (v : Int) : setAt x.cells 1 [.int .i64 v] = ({ x with Dir := v } : RCar).cells := rfl
theorem RCar.dcut_2 (x : RCar) : cut (x.cells.drop 2) 0 1 = some [.int .i64 x.Door] := rfl
theorem RCar.cut_2 (x : RCar) : cut x.cells 2 1 = some [.int .i64 x.Door] := rfl
theorem RCar.set_2 (x : RCar) (v : Int) : setAt x.cells 2 [.int .i64 v] = ({ x with Door := v } : RCar).cells := rfl
theorem RCar.dcut_3 (x : RCar) : cut (x.cells.drop 3) 0 1 = some [.int .i64 x.Held] := rfl
theorem RCar.cut_3 (x : RCar) : cut x.cells 3 1 = some [.int .i64 x.Held] := rfl
theorem RCar.set_3 (x : RCar) (v : Int) : setAt x.cells 3 [.int .i64 v] = ({ x with Held := v } : RCar).cells := rfl
theorem RCar.dcut_4 (x : RCar) : cut (x.cells.drop 4) 0 1 = some [.bool x.Moved] := rfl
theorem RCar.cut_4 (x : RCar) : cut x.cells 4 1 = some [.bool x.Moved] := rfl
theorem RCar.set_4 (x : RCar) (v : Bool) : setAt x.cells 4 [.bool v] = ({ x with Moved := v } : RCar).cells := rfl
theorem RCar.cut_all (x : RCar) : cut x.cells 0 5 = some x.cells := rfl
theorem RCar.set_all (x y : RCar) : setAt x.cells 0 y.cells = y.cells := rfl
theorem RCar.take_all (x : RCar) : x.cells.take 5 = x.cells := rfl
theorem RCar.drop_all (x : RCar) : x.cells.drop 5 = [] := rfl
theorem RCar.fit {d : Nat} {xs : List V} (h : Fit Try.prog (d + 2) 37 xs) : ∃ x : RCar, xs = x.cells ∧ x.ok := by
  simp only [Fit, Try.underlying37, cs37] at h
  obtain ⟨hl, hf⟩ := h
  match xs, hl with
  | [a0, a1, a2, a3, a4], _ =>
    simp only [List.forall_mem_cons, cs3, cs4] at hf
    simp [-Bool.exists_bool, Fit, Try.underlying3, Try.underlying4] at hf
    obtain ⟨⟨na0, rfl, wa0⟩, ⟨na1, rfl, wa1⟩, ⟨na2, rfl, wa2⟩, ⟨na3, rfl, wa3⟩, ⟨na4, rfl⟩⟩ := hf
    exact ⟨⟨na0, na1, na2, na3, na4⟩, rfl, wa0, wa1, wa2, wa3⟩
theorem RCar.fitV {d : Nat} {v : V} (h : FitV Try.prog (d + 2) 37 v) : ∃ x : RCar, v = .agg x.cells ∧ x.ok := by
  simp only [FitV, Try.underlying37] at h
  obtain ⟨xs, rfl, h⟩ := h
  obtain ⟨x, rfl, hx⟩ := RCar.fit h
  exact ⟨x, rfl, hx⟩
theorem RCar.fitL52 {d : Nat} {v : V} (h : FitV Try.prog (d + 3) 52 v) : ∃ l : List RCar, v = .sl .frozen 5 (l.map RCar.cells) ∧ l.length ≤ maxLen ∧ ∀ x ∈ l, x.ok := by
  simp only [FitV, Fit, Try.underlying52, cs37] at h
  obtain ⟨rows, h1, h2, h3⟩ := h
  injection h1 with h1
  subst h1
  have key : ∀ (rows : List (List V)), (∀ row ∈ rows, Fit Try.prog (d + 2) 37 row) → ∃ l : List RCar, rows = l.map RCar.cells ∧ ∀ x ∈ l, x.ok := by
    intro rows
    induction rows with
    | nil => intro _; exact ⟨[], rfl, fun x hx => by cases hx⟩
    | cons r rs ih =>
      intro h
      obtain ⟨x, rfl, hx⟩ := RCar.fit (h r List.mem_cons_self)
      obtain ⟨l, rfl, hl⟩ := ih fun q hq => h q (List.mem_cons_of_mem _ hq)
      exact ⟨x :: l, rfl, fun y hy => by rcases List.mem_cons.1 hy with rfl | hy; exact hx; exact hl y hy⟩
  obtain ⟨l, rfl, hl⟩ := key rows h3
  exact ⟨l, rfl, by simpa using h2, hl⟩
theorem cs30 : Try.prog.cellsOf 30 = 8 := by kernel_rfl
/-- hoistway/api.Call -/
structure Call where
  Id : Int
  Kind : Int
  From : Int
  To : Int
  Car : Int
  State : Int
  Owner : Int
  Born : Int
def Call.cells (x : Call) : List V := [.int .i64 x.Id, .int .i64 x.Kind, .int .i64 x.From, .int .i64 x.To, .int .i64 x.Car, .int .i64 x.State, .int .i64 x.Owner, .int .i64 x.Born]
theorem Call.cells_eq (x : Call) : x.cells = [.int .i64 x.Id, .int .i64 x.Kind, .int .i64 x.From, .int .i64 x.To, .int .i64 x.Car, .int .i64 x.State, .int .i64 x.Owner, .int .i64 x.Born] := rfl
theorem Call.eta (x : Call) : Call.mk x.Id x.Kind x.From x.To x.Car x.State x.Owner x.Born = x := rfl
def Call.ok (x : Call) : Prop := (Lit.int .i64 x.Id).wf = true ∧ (Lit.int .i64 x.Kind).wf = true ∧ (Lit.int .i64 x.From).wf = true ∧ (Lit.int .i64 x.To).wf = true ∧ (Lit.int .i64 x.Car).wf = true ∧ (Lit.int .i64 x.State).wf = true ∧ (Lit.int .i64 x.Owner).wf = true ∧ (Lit.int .i64 x.Born).wf = true
theorem Call.pure (x : Call) : x.cells.all V.pureCell = true := rfl
theorem Call.len (x : Call) : x.cells.length = 8 := rfl
theorem Call.dcut_0 (x : Call) : cut (x.cells.drop 0) 0 1 = some [.int .i64 x.Id] := rfl
theorem Call.cut_0 (x : Call) : cut x.cells 0 1 = some [.int .i64 x.Id] := rfl
theorem Call.set_0 (x : Call) (v : Int) : setAt x.cells 0 [.int .i64 v] = ({ x with Id := v } : Call).cells := rfl
theorem Call.dcut_1 (x : Call) : cut (x.cells.drop 1) 0 1 = some [.int .i64 x.Kind] := rfl
theorem Call.cut_1 (x : Call) : cut x.cells 1 1 = some [.int .i64 x.Kind] := rfl
theorem Call.set_1 (x : Call) (v : Int) : setAt x.cells 1 [.int .i64 v] = ({ x with Kind := v } : Call).cells := rfl
theorem Call.dcut_2 (x : Call) : cut (x.cells.drop 2) 0 1 = some [.int .i64 x.From] := rfl
theorem Call.cut_2 (x : Call) : cut x.cells 2 1 = some [.int .i64 x.From] := rfl
theorem Call.set_2 (x : Call) (v : Int) : setAt x.cells 2 [.int .i64 v] = ({ x with From := v } : Call).cells := rfl
theorem Call.dcut_3 (x : Call) : cut (x.cells.drop 3) 0 1 = some [.int .i64 x.To] := rfl
theorem Call.cut_3 (x : Call) : cut x.cells 3 1 = some [.int .i64 x.To] := rfl
theorem Call.set_3 (x : Call) (v : Int) : setAt x.cells 3 [.int .i64 v] = ({ x with To := v } : Call).cells := rfl
theorem Call.dcut_4 (x : Call) : cut (x.cells.drop 4) 0 1 = some [.int .i64 x.Car] := rfl
theorem Call.cut_4 (x : Call) : cut x.cells 4 1 = some [.int .i64 x.Car] := rfl
theorem Call.set_4 (x : Call) (v : Int) : setAt x.cells 4 [.int .i64 v] = ({ x with Car := v } : Call).cells := rfl
theorem Call.dcut_5 (x : Call) : cut (x.cells.drop 5) 0 1 = some [.int .i64 x.State] := rfl
theorem Call.cut_5 (x : Call) : cut x.cells 5 1 = some [.int .i64 x.State] := rfl
theorem Call.set_5 (x : Call) (v : Int) : setAt x.cells 5 [.int .i64 v] = ({ x with State := v } : Call).cells := rfl
theorem Call.dcut_6 (x : Call) : cut (x.cells.drop 6) 0 1 = some [.int .i64 x.Owner] := rfl
theorem Call.cut_6 (x : Call) : cut x.cells 6 1 = some [.int .i64 x.Owner] := rfl
theorem Call.set_6 (x : Call) (v : Int) : setAt x.cells 6 [.int .i64 v] = ({ x with Owner := v } : Call).cells := rfl
theorem Call.dcut_7 (x : Call) : cut (x.cells.drop 7) 0 1 = some [.int .i64 x.Born] := rfl
theorem Call.cut_7 (x : Call) : cut x.cells 7 1 = some [.int .i64 x.Born] := rfl
theorem Call.set_7 (x : Call) (v : Int) : setAt x.cells 7 [.int .i64 v] = ({ x with Born := v } : Call).cells := rfl
theorem Call.cut_all (x : Call) : cut x.cells 0 8 = some x.cells := rfl
theorem Call.set_all (x y : Call) : setAt x.cells 0 y.cells = y.cells := rfl
theorem Call.take_all (x : Call) : x.cells.take 8 = x.cells := rfl
theorem Call.drop_all (x : Call) : x.cells.drop 8 = [] := rfl
theorem Call.fit {d : Nat} {xs : List V} (h : Fit Try.prog (d + 2) 30 xs) : ∃ x : Call, xs = x.cells ∧ x.ok := by
  simp only [Fit, Try.underlying30, cs30] at h
  obtain ⟨hl, hf⟩ := h
  match xs, hl with
  | [a0, a1, a2, a3, a4, a5, a6, a7], _ =>
    simp only [List.forall_mem_cons, cs3] at hf
    simp [-Bool.exists_bool, Fit, Try.underlying3] at hf
    obtain ⟨⟨na0, rfl, wa0⟩, ⟨na1, rfl, wa1⟩, ⟨na2, rfl, wa2⟩, ⟨na3, rfl, wa3⟩, ⟨na4, rfl, wa4⟩, ⟨na5, rfl, wa5⟩, ⟨na6, rfl, wa6⟩, ⟨na7, rfl, wa7⟩⟩ := hf
    exact ⟨⟨na0, na1, na2, na3, na4, na5, na6, na7⟩, rfl, wa0, wa1, wa2, wa3, wa4, wa5, wa6, wa7⟩
theorem Call.fitV {d : Nat} {v : V} (h : FitV Try.prog (d + 2) 30 v) : ∃ x : Call, v = .agg x.cells ∧ x.ok := by
  simp only [FitV, Try.underlying30] at h
  obtain ⟨xs, rfl, h⟩ := h
  obtain ⟨x, rfl, hx⟩ := Call.fit h
  exact ⟨x, rfl, hx⟩
theorem Call.fitL28 {d : Nat} {v : V} (h : FitV Try.prog (d + 3) 28 v) : ∃ l : List Call, v = .sl .frozen 8 (l.map Call.cells) ∧ l.length ≤ maxLen ∧ ∀ x ∈ l, x.ok := by
  simp only [FitV, Fit, Try.underlying28, cs30] at h
  obtain ⟨rows, h1, h2, h3⟩ := h
  injection h1 with h1
  subst h1
  have key : ∀ (rows : List (List V)), (∀ row ∈ rows, Fit Try.prog (d + 2) 30 row) → ∃ l : List Call, rows = l.map Call.cells ∧ ∀ x ∈ l, x.ok := by
    intro rows
    induction rows with
    | nil => intro _; exact ⟨[], rfl, fun x hx => by cases hx⟩
    | cons r rs ih =>
      intro h
      obtain ⟨x, rfl, hx⟩ := Call.fit (h r List.mem_cons_self)
      obtain ⟨l, rfl, hl⟩ := ih fun q hq => h q (List.mem_cons_of_mem _ hq)
      exact ⟨x :: l, rfl, fun y hy => by rcases List.mem_cons.1 hy with rfl | hy; exact hx; exact hl y hy⟩
  obtain ⟨l, rfl, hl⟩ := key rows h3
  exact ⟨l, rfl, by simpa using h2, hl⟩
theorem cs24 : Try.prog.cellsOf 24 = 18 := by kernel_rfl
theorem cs22 : Try.prog.cellsOf 22 = 1 := by kernel_rfl
/-- hoistway/api.Config -/
structure Config where
  Floors : Int
  Cars : Int
  Seats : Int
  Calls : Int
  Lines : Int
  Keys : Int
  Window : Int
  Burst : Int
  Rate : Int
  Idle : Int
  In : Int
  Out : Int
  Feed : Int
  Retries : Int
  Life : Int
  Door : Int
  Holds : Int
  Secret : Int
def Config.cells (x : Config) : List V := [.int .i64 x.Floors, .int .i64 x.Cars, .int .i64 x.Seats, .int .i64 x.Calls, .int .i64 x.Lines, .int .i64 x.Keys, .int .i64 x.Window, .int .i64 x.Burst, .int .i64 x.Rate, .int .i64 x.Idle, .int .i64 x.In, .int .i64 x.Out, .int .i64 x.Feed, .int .i64 x.Retries, .int .i64 x.Life, .int .i64 x.Door, .int .i64 x.Holds, .int .u32 x.Secret]
theorem Config.cells_eq (x : Config) : x.cells = [.int .i64 x.Floors, .int .i64 x.Cars, .int .i64 x.Seats, .int .i64 x.Calls, .int .i64 x.Lines, .int .i64 x.Keys, .int .i64 x.Window, .int .i64 x.Burst, .int .i64 x.Rate, .int .i64 x.Idle, .int .i64 x.In, .int .i64 x.Out, .int .i64 x.Feed, .int .i64 x.Retries, .int .i64 x.Life, .int .i64 x.Door, .int .i64 x.Holds, .int .u32 x.Secret] := rfl
theorem Config.eta (x : Config) : Config.mk x.Floors x.Cars x.Seats x.Calls x.Lines x.Keys x.Window x.Burst x.Rate x.Idle x.In x.Out x.Feed x.Retries x.Life x.Door x.Holds x.Secret = x := rfl
def Config.ok (x : Config) : Prop := (Lit.int .i64 x.Floors).wf = true ∧ (Lit.int .i64 x.Cars).wf = true ∧ (Lit.int .i64 x.Seats).wf = true ∧ (Lit.int .i64 x.Calls).wf = true ∧ (Lit.int .i64 x.Lines).wf = true ∧ (Lit.int .i64 x.Keys).wf = true ∧ (Lit.int .i64 x.Window).wf = true ∧ (Lit.int .i64 x.Burst).wf = true ∧ (Lit.int .i64 x.Rate).wf = true ∧ (Lit.int .i64 x.Idle).wf = true ∧ (Lit.int .i64 x.In).wf = true ∧ (Lit.int .i64 x.Out).wf = true ∧ (Lit.int .i64 x.Feed).wf = true ∧ (Lit.int .i64 x.Retries).wf = true ∧ (Lit.int .i64 x.Life).wf = true ∧ (Lit.int .i64 x.Door).wf = true ∧ (Lit.int .i64 x.Holds).wf = true ∧ (Lit.int .u32 x.Secret).wf = true
theorem Config.pure (x : Config) : x.cells.all V.pureCell = true := rfl
theorem Config.len (x : Config) : x.cells.length = 18 := rfl
theorem Config.dcut_0 (x : Config) : cut (x.cells.drop 0) 0 1 = some [.int .i64 x.Floors] := rfl
theorem Config.cut_0 (x : Config) : cut x.cells 0 1 = some [.int .i64 x.Floors] := rfl
theorem Config.set_0 (x : Config) (v : Int) : setAt x.cells 0 [.int .i64 v] = ({ x with Floors := v } : Config).cells := rfl
theorem Config.dcut_1 (x : Config) : cut (x.cells.drop 1) 0 1 = some [.int .i64 x.Cars] := rfl
theorem Config.cut_1 (x : Config) : cut x.cells 1 1 = some [.int .i64 x.Cars] := rfl
theorem Config.set_1 (x : Config) (v : Int) : setAt x.cells 1 [.int .i64 v] = ({ x with Cars := v } : Config).cells := rfl
theorem Config.dcut_2 (x : Config) : cut (x.cells.drop 2) 0 1 = some [.int .i64 x.Seats] := rfl
theorem Config.cut_2 (x : Config) : cut x.cells 2 1 = some [.int .i64 x.Seats] := rfl
theorem Config.set_2 (x : Config) (v : Int) : setAt x.cells 2 [.int .i64 v] = ({ x with Seats := v } : Config).cells := rfl
theorem Config.dcut_3 (x : Config) : cut (x.cells.drop 3) 0 1 = some [.int .i64 x.Calls] := rfl
theorem Config.cut_3 (x : Config) : cut x.cells 3 1 = some [.int .i64 x.Calls] := rfl
theorem Config.set_3 (x : Config) (v : Int) : setAt x.cells 3 [.int .i64 v] = ({ x with Calls := v } : Config).cells := rfl
theorem Config.dcut_4 (x : Config) : cut (x.cells.drop 4) 0 1 = some [.int .i64 x.Lines] := rfl
theorem Config.cut_4 (x : Config) : cut x.cells 4 1 = some [.int .i64 x.Lines] := rfl
theorem Config.set_4 (x : Config) (v : Int) : setAt x.cells 4 [.int .i64 v] = ({ x with Lines := v } : Config).cells := rfl
theorem Config.dcut_5 (x : Config) : cut (x.cells.drop 5) 0 1 = some [.int .i64 x.Keys] := rfl
theorem Config.cut_5 (x : Config) : cut x.cells 5 1 = some [.int .i64 x.Keys] := rfl
theorem Config.set_5 (x : Config) (v : Int) : setAt x.cells 5 [.int .i64 v] = ({ x with Keys := v } : Config).cells := rfl
theorem Config.dcut_6 (x : Config) : cut (x.cells.drop 6) 0 1 = some [.int .i64 x.Window] := rfl
theorem Config.cut_6 (x : Config) : cut x.cells 6 1 = some [.int .i64 x.Window] := rfl
theorem Config.set_6 (x : Config) (v : Int) : setAt x.cells 6 [.int .i64 v] = ({ x with Window := v } : Config).cells := rfl
theorem Config.dcut_7 (x : Config) : cut (x.cells.drop 7) 0 1 = some [.int .i64 x.Burst] := rfl
theorem Config.cut_7 (x : Config) : cut x.cells 7 1 = some [.int .i64 x.Burst] := rfl
theorem Config.set_7 (x : Config) (v : Int) : setAt x.cells 7 [.int .i64 v] = ({ x with Burst := v } : Config).cells := rfl
theorem Config.dcut_8 (x : Config) : cut (x.cells.drop 8) 0 1 = some [.int .i64 x.Rate] := rfl
theorem Config.cut_8 (x : Config) : cut x.cells 8 1 = some [.int .i64 x.Rate] := rfl
theorem Config.set_8 (x : Config) (v : Int) : setAt x.cells 8 [.int .i64 v] = ({ x with Rate := v } : Config).cells := rfl
theorem Config.dcut_9 (x : Config) : cut (x.cells.drop 9) 0 1 = some [.int .i64 x.Idle] := rfl
theorem Config.cut_9 (x : Config) : cut x.cells 9 1 = some [.int .i64 x.Idle] := rfl
theorem Config.set_9 (x : Config) (v : Int) : setAt x.cells 9 [.int .i64 v] = ({ x with Idle := v } : Config).cells := rfl
theorem Config.dcut_10 (x : Config) : cut (x.cells.drop 10) 0 1 = some [.int .i64 x.In] := rfl
theorem Config.cut_10 (x : Config) : cut x.cells 10 1 = some [.int .i64 x.In] := rfl
theorem Config.set_10 (x : Config) (v : Int) : setAt x.cells 10 [.int .i64 v] = ({ x with In := v } : Config).cells := rfl
theorem Config.dcut_11 (x : Config) : cut (x.cells.drop 11) 0 1 = some [.int .i64 x.Out] := rfl
theorem Config.cut_11 (x : Config) : cut x.cells 11 1 = some [.int .i64 x.Out] := rfl
theorem Config.set_11 (x : Config) (v : Int) : setAt x.cells 11 [.int .i64 v] = ({ x with Out := v } : Config).cells := rfl
theorem Config.dcut_12 (x : Config) : cut (x.cells.drop 12) 0 1 = some [.int .i64 x.Feed] := rfl
theorem Config.cut_12 (x : Config) : cut x.cells 12 1 = some [.int .i64 x.Feed] := rfl
theorem Config.set_12 (x : Config) (v : Int) : setAt x.cells 12 [.int .i64 v] = ({ x with Feed := v } : Config).cells := rfl
theorem Config.dcut_13 (x : Config) : cut (x.cells.drop 13) 0 1 = some [.int .i64 x.Retries] := rfl
theorem Config.cut_13 (x : Config) : cut x.cells 13 1 = some [.int .i64 x.Retries] := rfl
theorem Config.set_13 (x : Config) (v : Int) : setAt x.cells 13 [.int .i64 v] = ({ x with Retries := v } : Config).cells := rfl
theorem Config.dcut_14 (x : Config) : cut (x.cells.drop 14) 0 1 = some [.int .i64 x.Life] := rfl
theorem Config.cut_14 (x : Config) : cut x.cells 14 1 = some [.int .i64 x.Life] := rfl
theorem Config.set_14 (x : Config) (v : Int) : setAt x.cells 14 [.int .i64 v] = ({ x with Life := v } : Config).cells := rfl
theorem Config.dcut_15 (x : Config) : cut (x.cells.drop 15) 0 1 = some [.int .i64 x.Door] := rfl
theorem Config.cut_15 (x : Config) : cut x.cells 15 1 = some [.int .i64 x.Door] := rfl
theorem Config.set_15 (x : Config) (v : Int) : setAt x.cells 15 [.int .i64 v] = ({ x with Door := v } : Config).cells := rfl
theorem Config.dcut_16 (x : Config) : cut (x.cells.drop 16) 0 1 = some [.int .i64 x.Holds] := rfl
theorem Config.cut_16 (x : Config) : cut x.cells 16 1 = some [.int .i64 x.Holds] := rfl
theorem Config.set_16 (x : Config) (v : Int) : setAt x.cells 16 [.int .i64 v] = ({ x with Holds := v } : Config).cells := rfl
theorem Config.dcut_17 (x : Config) : cut (x.cells.drop 17) 0 1 = some [.int .u32 x.Secret] := rfl
theorem Config.cut_17 (x : Config) : cut x.cells 17 1 = some [.int .u32 x.Secret] := rfl
theorem Config.set_17 (x : Config) (v : Int) : setAt x.cells 17 [.int .u32 v] = ({ x with Secret := v } : Config).cells := rfl
theorem Config.cut_all (x : Config) : cut x.cells 0 18 = some x.cells := rfl
theorem Config.set_all (x y : Config) : setAt x.cells 0 y.cells = y.cells := rfl
theorem Config.take_all (x : Config) : x.cells.take 18 = x.cells := rfl
theorem Config.drop_all (x : Config) : x.cells.drop 18 = [] := rfl
theorem Config.fit {d : Nat} {xs : List V} (h : Fit Try.prog (d + 2) 24 xs) : ∃ x : Config, xs = x.cells ∧ x.ok := by
  simp only [Fit, Try.underlying24, cs24] at h
  obtain ⟨hl, hf⟩ := h
  match xs, hl with
  | [a0, a1, a2, a3, a4, a5, a6, a7, a8, a9, a10, a11, a12, a13, a14, a15, a16, a17], _ =>
    simp only [List.forall_mem_cons, cs3, cs22] at hf
    simp [-Bool.exists_bool, Fit, Try.underlying3, Try.underlying22] at hf
    obtain ⟨⟨na0, rfl, wa0⟩, ⟨na1, rfl, wa1⟩, ⟨na2, rfl, wa2⟩, ⟨na3, rfl, wa3⟩, ⟨na4, rfl, wa4⟩, ⟨na5, rfl, wa5⟩, ⟨na6, rfl, wa6⟩, ⟨na7, rfl, wa7⟩, ⟨na8, rfl, wa8⟩, ⟨na9, rfl, wa9⟩, ⟨na10, rfl, wa10⟩, ⟨na11, rfl, wa11⟩, ⟨na12, rfl, wa12⟩, ⟨na13, rfl, wa13⟩, ⟨na14, rfl, wa14⟩, ⟨na15, rfl, wa15⟩, ⟨na16, rfl, wa16⟩, ⟨na17, rfl, wa17⟩⟩ := hf
    exact ⟨⟨na0, na1, na2, na3, na4, na5, na6, na7, na8, na9, na10, na11, na12, na13, na14, na15, na16, na17⟩, rfl, wa0, wa1, wa2, wa3, wa4, wa5, wa6, wa7, wa8, wa9, wa10, wa11, wa12, wa13, wa14, wa15, wa16, wa17⟩
theorem Config.fitV {d : Nat} {v : V} (h : FitV Try.prog (d + 2) 24 v) : ∃ x : Config, v = .agg x.cells ∧ x.ok := by
  simp only [FitV, Try.underlying24] at h
  obtain ⟨xs, rfl, h⟩ := h
  obtain ⟨x, rfl, hx⟩ := Config.fit h
  exact ⟨x, rfl, hx⟩
theorem fit3 {d : Nat} {v : V} (h : FitV Try.prog (d + 1) 3 v) : ∃ n, v = .int .i64 n ∧ (Lit.int .i64 n).wf = true := by
  simp only [FitV, Fit, Try.underlying3] at h
  obtain ⟨n, h1, h2⟩ := h
  injection h1 with h1
  exact ⟨n, h1, h2⟩
theorem fit4 {d : Nat} {v : V} (h : FitV Try.prog (d + 1) 4 v) : ∃ b, v = .bool b := by
  simp only [FitV, Fit, Try.underlying4] at h
  obtain ⟨n, h1⟩ := h
  injection h1 with h1
  exact ⟨n, h1⟩
theorem fitL27 {d : Nat} {v : V} (h : FitV Try.prog (d + 2) 27 v) : ∃ l : List Int, v = .sl .frozen 1 (l.map (fun n : Int => [V.int .i64 n])) ∧ l.length ≤ maxLen ∧ ∀ x ∈ l, (Lit.int .i64 x).wf = true := by
  simp only [FitV, Fit, Try.underlying27, Try.underlying3, cs3] at h
  obtain ⟨rows, h1, h2, h3⟩ := h
  injection h1 with h1
  subst h1
  have key : ∀ (rows : List (List V)), (∀ row ∈ rows, ∃ x : Int, row = (fun n : Int => [V.int .i64 n]) x ∧ (Lit.int .i64 x).wf = true) → ∃ l : List Int, rows = l.map (fun n : Int => [V.int .i64 n]) ∧ ∀ x ∈ l, (Lit.int .i64 x).wf = true := by
    intro rows
    induction rows with
    | nil => intro _; exact ⟨[], rfl, fun x hx => by cases hx⟩
    | cons r rs ih =>
      intro h
      obtain ⟨x, rfl, hx⟩ := h r List.mem_cons_self
      obtain ⟨l, rfl, hl⟩ := ih fun q hq => h q (List.mem_cons_of_mem _ hq)
      exact ⟨x :: l, rfl, fun y hy => by rcases List.mem_cons.1 hy with rfl | hy; exact hx; exact hl y hy⟩
  obtain ⟨l, rfl, hl⟩ := key rows (fun row hr => by have := h3 row hr; simpa [-Bool.exists_bool] using this)
  exact ⟨l, rfl, by simpa using h2, hl⟩
theorem fitL50 {d : Nat} {v : V} (h : FitV Try.prog (d + 2) 50 v) : ∃ l : List Bool, v = .sl .frozen 1 (l.map (fun b : Bool => [V.bool b])) ∧ l.length ≤ maxLen ∧ ∀ x ∈ l, True := by
  simp only [FitV, Fit, Try.underlying50, Try.underlying4, cs4] at h
  obtain ⟨rows, h1, h2, h3⟩ := h
  injection h1 with h1
  subst h1
  have key : ∀ (rows : List (List V)), (∀ row ∈ rows, ∃ x : Bool, row = (fun b : Bool => [V.bool b]) x ∧ True) → ∃ l : List Bool, rows = l.map (fun b : Bool => [V.bool b]) ∧ ∀ x ∈ l, True := by
    intro rows
    induction rows with
    | nil => intro _; exact ⟨[], rfl, fun x hx => by cases hx⟩
    | cons r rs ih =>
      intro h
      obtain ⟨x, rfl, hx⟩ := h r List.mem_cons_self
      obtain ⟨l, rfl, hl⟩ := ih fun q hq => h q (List.mem_cons_of_mem _ hq)
      exact ⟨x :: l, rfl, fun y hy => by rcases List.mem_cons.1 hy with rfl | hy; exact hx; exact hl y hy⟩
  obtain ⟨l, rfl, hl⟩ := key rows (fun row hr => by have := h3 row hr; simpa [-Bool.exists_bool] using this)
  exact ⟨l, rfl, by simpa using h2, hl⟩
attribute [go_sem] Car.eta RCar.eta Call.eta Config.eta
attribute [go_sem high] Car.dcut_0 Car.cut_0 Car.set_0 Car.dcut_1 Car.cut_1 Car.set_1 Car.dcut_2 Car.cut_2 Car.set_2 Car.dcut_3 Car.cut_3 Car.set_3 Car.dcut_4 Car.cut_4 Car.set_4 Car.cut_all Car.take_all Car.drop_all Car.set_all Car.len Car.pure RCar.dcut_0 RCar.cut_0 RCar.set_0 RCar.dcut_1 RCar.cut_1 RCar.set_1 RCar.dcut_2 RCar.cut_2 RCar.set_2 RCar.dcut_3 RCar.cut_3 RCar.set_3 RCar.dcut_4 RCar.cut_4 RCar.set_4 RCar.cut_all RCar.take_all RCar.drop_all RCar.set_all RCar.len RCar.pure Call.dcut_0 Call.cut_0 Call.set_0 Call.dcut_1 Call.cut_1 Call.set_1 Call.dcut_2 Call.cut_2 Call.set_2 Call.dcut_3 Call.cut_3 Call.set_3 Call.dcut_4 Call.cut_4 Call.set_4 Call.dcut_5 Call.cut_5 Call.set_5 Call.dcut_6 Call.cut_6 Call.set_6 Call.dcut_7 Call.cut_7 Call.set_7 Call.cut_all Call.take_all Call.drop_all Call.set_all Call.len Call.pure Config.dcut_0 Config.cut_0 Config.set_0 Config.dcut_1 Config.cut_1 Config.set_1 Config.dcut_2 Config.cut_2 Config.set_2 Config.dcut_3 Config.cut_3 Config.set_3 Config.dcut_4 Config.cut_4 Config.set_4 Config.dcut_5 Config.cut_5 Config.set_5 Config.dcut_6 Config.cut_6 Config.set_6 Config.dcut_7 Config.cut_7 Config.set_7 Config.dcut_8 Config.cut_8 Config.set_8 Config.dcut_9 Config.cut_9 Config.set_9 Config.dcut_10 Config.cut_10 Config.set_10 Config.dcut_11 Config.cut_11 Config.set_11 Config.dcut_12 Config.cut_12 Config.set_12 Config.dcut_13 Config.cut_13 Config.set_13 Config.dcut_14 Config.cut_14 Config.set_14 Config.dcut_15 Config.cut_15 Config.set_15 Config.dcut_16 Config.cut_16 Config.set_16 Config.dcut_17 Config.cut_17 Config.set_17 Config.cut_all Config.take_all Config.drop_all Config.set_all Config.len Config.pure
end Go.Vi
