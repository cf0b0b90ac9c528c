/- The environment of the machine Vi at this seat: printed by a program (vigen.py) of this work. -/
import Derived.Test.YtngeclldoplihaaProg
import Derived.Test.YtngeclldoplihaaViExec
import Derived.Test.YtngeclldoplihaaViRun
import Derived.Test.YtngeclldoplihaaViPrimSort
import Derived.KernelRfl
import Derived.Attr
set_option maxRecDepth 100000
set_option linter.unusedVariables false
namespace Go.Vi
open Go.Proofs
def lookN {α : Type} (d : α) : List (Nat × α) → Nat → α
  | [], _ => d
  | (k, x) :: l, n => if Nat.beq n k then x else lookN d l n
def elemN : List Nat → Nat → Bool
  | [], _ => false
  | k :: l, n => Nat.beq n k || elemN l n
def locL : List (Nat × List Nat) := [(3, [8, 9, 13]), (4, [5, 11]), (5, [3, 11]), (6, [3, 9]), (7, [5, 8]), (8, [6, 9]), (13, [1]), (14, [1, 3, 4, 5]), (15, [2]), (17, [4]), (18, [4]), (19, [1, 2]), (20, [5, 6, 9]), (21, [5, 6, 9]), (22, [2, 3]), (23, [2]), (24, [7]), (25, [3]), (26, [3]), (29, [1, 2]), (30, [0]), (31, [5, 8, 14]), (32, [5, 8]), (58, [0]), (59, [1, 2]), (61, [2]), (62, [1]), (63, [1]), (64, [2]), (65, [1]), (66, [1]), (70, [2]), (74, [7]), (75, [4]), (76, [4, 7]), (102, [2]), (103, [2])]
def refL : List (Nat × List Nat) := [(24, [5])]
def litL : List (Nat × List Nat) := []
def modeL : List (Nat × Mode) := []
noncomputable def primL : List (Nat × Option PX) := [(68, some sortP), (69, some compactP)]
noncomputable def prims (f : FuncId) : Option PX := lookN none primL f
noncomputable def E0 : Env := { P := Try.prog, mode := fun f => lookN .pure modeL f, prim := fun f => (prims f).map relOf, loc := fun f d => elemN (lookN [] locL f) d, refApp := fun f r => elemN (lookN [] refL f) r, boxLit := fun f r => elemN (lookN [] litL f) r }
theorem E0p : ∀ f, E0.prim f = (prims f).map relOf := fun _ => rfl
theorem E0good : E0.Good := env_good prims E0p
noncomputable def tabL : List (Nat × Option Func) := [(3, some Try.f3), (4, some Try.f4), (5, some Try.f5), (6, some Try.f6), (7, some Try.f7), (8, some Try.f8), (13, some Try.f13), (14, some Try.f14), (15, some Try.f15), (16, some Try.f16), (17, some Try.f17), (18, some Try.f18), (19, some Try.f19), (20, some Try.f20), (21, some Try.f21), (22, some Try.f22), (23, some Try.f23), (24, some Try.f24), (25, some Try.f25), (26, some Try.f26), (27, some Try.f27), (28, some Try.f28), (29, some Try.f29), (30, some Try.f30), (31, some Try.f31), (32, some Try.f32), (58, some Try.f58), (59, some Try.f59), (60, some Try.f60), (61, some Try.f61), (62, some Try.f62), (63, some Try.f63), (64, some Try.f64), (65, some Try.f65), (66, some Try.f66), (67, some Try.f67), (70, some Try.f70), (71, some Try.f71), (72, some Try.f72), (73, some Try.f73), (74, some Try.f74), (75, some Try.f75), (76, some Try.f76), (101, some Try.f101), (102, some Try.f102), (103, some Try.f103), (106, some Try.f106), (107, some Try.f107), (124, some Try.f124)]
noncomputable def fnTab (f : FuncId) : Option Func := lookN none tabL f
theorem rg3 : regionsOK E0 3 (Try.f3.body.getD .skip) = true := by kernel_rfl
theorem rg4 : regionsOK E0 4 (Try.f4.body.getD .skip) = true := by kernel_rfl
theorem rg5 : regionsOK E0 5 (Try.f5.body.getD .skip) = true := by kernel_rfl
theorem rg6 : regionsOK E0 6 (Try.f6.body.getD .skip) = true := by kernel_rfl
theorem rg7 : regionsOK E0 7 (Try.f7.body.getD .skip) = true := by kernel_rfl
theorem rg8 : regionsOK E0 8 (Try.f8.body.getD .skip) = true := by kernel_rfl
theorem rg13 : regionsOK E0 13 (Try.f13.body.getD .skip) = true := by kernel_rfl
theorem rg14 : regionsOK E0 14 (Try.f14.body.getD .skip) = true := by kernel_rfl
theorem rg15 : regionsOK E0 15 (Try.f15.body.getD .skip) = true := by kernel_rfl
theorem rg16 : regionsOK E0 16 (Try.f16.body.getD .skip) = true := by kernel_rfl
theorem rg17 : regionsOK E0 17 (Try.f17.body.getD .skip) = true := by kernel_rfl
theorem rg18 : regionsOK E0 18 (Try.f18.body.getD .skip) = true := by kernel_rfl
theorem rg19 : regionsOK E0 19 (Try.f19.body.getD .skip) = true := by kernel_rfl
theorem rg20 : regionsOK E0 20 (Try.f20.body.getD .skip) = true := by kernel_rfl
theorem rg21 : regionsOK E0 21 (Try.f21.body.getD .skip) = true := by kernel_rfl
theorem rg22 : regionsOK E0 22 (Try.f22.body.getD .skip) = true := by kernel_rfl
theorem rg23 : regionsOK E0 23 (Try.f23.body.getD .skip) = true := by kernel_rfl
theorem rg24 : regionsOK E0 24 (Try.f24.body.getD .skip) = true := by kernel_rfl
theorem rg25 : regionsOK E0 25 (Try.f25.body.getD .skip) = true := by kernel_rfl
theorem rg26 : regionsOK E0 26 (Try.f26.body.getD .skip) = true := by kernel_rfl
theorem rg27 : regionsOK E0 27 (Try.f27.body.getD .skip) = true := by kernel_rfl
theorem rg28 : regionsOK E0 28 (Try.f28.body.getD .skip) = true := by kernel_rfl
theorem rg29 : regionsOK E0 29 (Try.f29.body.getD .skip) = true := by kernel_rfl
theorem rg30 : regionsOK E0 30 (Try.f30.body.getD .skip) = true := by kernel_rfl
theorem rg31 : regionsOK E0 31 (Try.f31.body.getD .skip) = true := by kernel_rfl
theorem rg32 : regionsOK E0 32 (Try.f32.body.getD .skip) = true := by kernel_rfl
theorem rg58 : regionsOK E0 58 (Try.f58.body.getD .skip) = true := by kernel_rfl
theorem rg59 : regionsOK E0 59 (Try.f59.body.getD .skip) = true := by kernel_rfl
theorem rg60 : regionsOK E0 60 (Try.f60.body.getD .skip) = true := by kernel_rfl
theorem rg61 : regionsOK E0 61 (Try.f61.body.getD .skip) = true := by kernel_rfl
theorem rg62 : regionsOK E0 62 (Try.f62.body.getD .skip) = true := by kernel_rfl
theorem rg63 : regionsOK E0 63 (Try.f63.body.getD .skip) = true := by kernel_rfl
theorem rg64 : regionsOK E0 64 (Try.f64.body.getD .skip) = true := by kernel_rfl
theorem rg65 : regionsOK E0 65 (Try.f65.body.getD .skip) = true := by kernel_rfl
theorem rg66 : regionsOK E0 66 (Try.f66.body.getD .skip) = true := by kernel_rfl
theorem rg67 : regionsOK E0 67 (Try.f67.body.getD .skip) = true := by kernel_rfl
theorem rg70 : regionsOK E0 70 (Try.f70.body.getD .skip) = true := by kernel_rfl
theorem rg71 : regionsOK E0 71 (Try.f71.body.getD .skip) = true := by kernel_rfl
theorem rg72 : regionsOK E0 72 (Try.f72.body.getD .skip) = true := by kernel_rfl
theorem rg73 : regionsOK E0 73 (Try.f73.body.getD .skip) = true := by kernel_rfl
theorem rg74 : regionsOK E0 74 (Try.f74.body.getD .skip) = true := by kernel_rfl
theorem rg75 : regionsOK E0 75 (Try.f75.body.getD .skip) = true := by kernel_rfl
theorem rg76 : regionsOK E0 76 (Try.f76.body.getD .skip) = true := by kernel_rfl
theorem rg101 : regionsOK E0 101 (Try.f101.body.getD .skip) = true := by kernel_rfl
theorem rg102 : regionsOK E0 102 (Try.f102.body.getD .skip) = true := by kernel_rfl
theorem rg103 : regionsOK E0 103 (Try.f103.body.getD .skip) = true := by kernel_rfl
theorem rg106 : regionsOK E0 106 (Try.f106.body.getD .skip) = true := by kernel_rfl
theorem rg107 : regionsOK E0 107 (Try.f107.body.getD .skip) = true := by kernel_rfl
theorem rg124 : regionsOK E0 124 (Try.f124.body.getD .skip) = true := by kernel_rfl
theorem sz3 : szOf E0.P 3 = some 1 := by kernel_rfl
theorem sz4 : szOf E0.P 4 = some 1 := by kernel_rfl
theorem sz24 : szOf E0.P 24 = some 18 := by kernel_rfl
theorem sz26 : szOf E0.P 26 = some 5 := by kernel_rfl
theorem sz28 : szOf E0.P 28 = some 1 := by kernel_rfl
theorem sz30 : szOf E0.P 30 = some 8 := by kernel_rfl
theorem sz37 : szOf E0.P 37 = some 5 := by kernel_rfl
theorem sz114 : szOf E0.P 114 = some 17 := by kernel_rfl
theorem ag3 : aggT E0.P 3 = some false := by kernel_rfl
theorem ag4 : aggT E0.P 4 = some false := by kernel_rfl
theorem ag24 : aggT E0.P 24 = some true := by kernel_rfl
theorem ag26 : aggT E0.P 26 = some true := by kernel_rfl
theorem ag28 : aggT E0.P 28 = some false := by kernel_rfl
theorem ag30 : aggT E0.P 30 = some true := by kernel_rfl
theorem ag37 : aggT E0.P 37 = some true := by kernel_rfl
theorem ag114 : aggT E0.P 114 = some true := by kernel_rfl
theorem fs24_0 : fieldSz E0.P 24 0 = some (0, 1, false) := by kernel_rfl
theorem fs24_1 : fieldSz E0.P 24 1 = some (1, 1, false) := by kernel_rfl
theorem fs24_2 : fieldSz E0.P 24 2 = some (2, 1, false) := by kernel_rfl
theorem fs24_3 : fieldSz E0.P 24 3 = some (3, 1, false) := by kernel_rfl
theorem fs24_4 : fieldSz E0.P 24 4 = some (4, 1, false) := by kernel_rfl
theorem fs24_5 : fieldSz E0.P 24 5 = some (5, 1, false) := by kernel_rfl
theorem fs24_6 : fieldSz E0.P 24 6 = some (6, 1, false) := by kernel_rfl
theorem fs24_7 : fieldSz E0.P 24 7 = some (7, 1, false) := by kernel_rfl
theorem fs24_8 : fieldSz E0.P 24 8 = some (8, 1, false) := by kernel_rfl
theorem fs24_9 : fieldSz E0.P 24 9 = some (9, 1, false) := by kernel_rfl
theorem fs24_10 : fieldSz E0.P 24 10 = some (10, 1, false) := by kernel_rfl
theorem fs24_11 : fieldSz E0.P 24 11 = some (11, 1, false) := by kernel_rfl
theorem fs24_12 : fieldSz E0.P 24 12 = some (12, 1, false) := by kernel_rfl
theorem fs24_13 : fieldSz E0.P 24 13 = some (13, 1, false) := by kernel_rfl
theorem fs24_14 : fieldSz E0.P 24 14 = some (14, 1, false) := by kernel_rfl
theorem fs24_15 : fieldSz E0.P 24 15 = some (15, 1, false) := by kernel_rfl
theorem fs24_16 : fieldSz E0.P 24 16 = some (16, 1, false) := by kernel_rfl
theorem fs24_17 : fieldSz E0.P 24 17 = some (17, 1, false) := by kernel_rfl
theorem fs26_0 : fieldSz E0.P 26 0 = some (0, 1, false) := by kernel_rfl
theorem fs26_1 : fieldSz E0.P 26 1 = some (1, 1, false) := by kernel_rfl
theorem fs26_2 : fieldSz E0.P 26 2 = some (2, 1, false) := by kernel_rfl
theorem fs26_3 : fieldSz E0.P 26 3 = some (3, 1, false) := by kernel_rfl
theorem fs26_4 : fieldSz E0.P 26 4 = some (4, 1, false) := by kernel_rfl
theorem fs30_0 : fieldSz E0.P 30 0 = some (0, 1, false) := by kernel_rfl
theorem fs30_1 : fieldSz E0.P 30 1 = some (1, 1, false) := by kernel_rfl
theorem fs30_2 : fieldSz E0.P 30 2 = some (2, 1, false) := by kernel_rfl
theorem fs30_3 : fieldSz E0.P 30 3 = some (3, 1, false) := by kernel_rfl
theorem fs30_4 : fieldSz E0.P 30 4 = some (4, 1, false) := by kernel_rfl
theorem fs30_5 : fieldSz E0.P 30 5 = some (5, 1, false) := by kernel_rfl
theorem fs37_0 : fieldSz E0.P 37 0 = some (0, 1, false) := by kernel_rfl
theorem fs37_1 : fieldSz E0.P 37 1 = some (1, 1, false) := by kernel_rfl
theorem fs37_2 : fieldSz E0.P 37 2 = some (2, 1, false) := by kernel_rfl
theorem fs37_3 : fieldSz E0.P 37 3 = some (3, 1, false) := by kernel_rfl
theorem fs37_4 : fieldSz E0.P 37 4 = some (4, 1, false) := by kernel_rfl
theorem ze3 : zeroIn E0.P 3 = some [.int .i64 0] := by kernel_rfl
theorem ze4 : zeroIn E0.P 4 = some [.bool false] := by kernel_rfl
theorem ze24 : zeroIn E0.P 24 = some [.int .i64 0, .int .i64 0, .int .i64 0, .int .i64 0, .int .i64 0, .int .i64 0, .int .i64 0, .int .i64 0, .int .i64 0, .int .i64 0, .int .i64 0, .int .i64 0, .int .i64 0, .int .i64 0, .int .i64 0, .int .i64 0, .int .i64 0, .int .u32 0] := by kernel_rfl
theorem ze26 : zeroIn E0.P 26 = some [.int .i64 0, .int .i64 0, .int .i64 0, .int .i64 0, .bool false] := by kernel_rfl
theorem ze30 : zeroIn E0.P 30 = some [.int .i64 0, .int .i64 0, .int .i64 0, .int .i64 0, .int .i64 0, .int .i64 0, .int .i64 0, .int .i64 0] := by kernel_rfl
theorem ze37 : zeroIn E0.P 37 = some [.int .i64 0, .int .i64 0, .int .i64 0, .int .i64 0, .bool false] := by kernel_rfl
theorem ze114 : zeroIn E0.P 114 = some [.int .i64 0, .int .i64 0, .int .i64 0, .int .i64 0, .int .i64 0, .int .i64 0, .int .i64 0, .int .i64 0, .int .i64 0, .int .i64 0, .int .i64 0, .int .i64 0, .int .i64 0, .int .i64 0, .int .i64 0, .int .i64 0, .int .i64 0] := by kernel_rfl
theorem el27 : elemIn E0.P 27 = some 3 := by kernel_rfl
theorem el28 : elemIn E0.P 28 = some 30 := by kernel_rfl
theorem el49 : elemIn E0.P 49 = some 26 := by kernel_rfl
theorem el50 : elemIn E0.P 50 = some 4 := by kernel_rfl
theorem el52 : elemIn E0.P 52 = some 37 := by kernel_rfl
theorem el114 : elemIn E0.P 114 = none := by kernel_rfl
theorem ar114 : arrIn E0.P 114 = some (17, 3) := by kernel_rfl
theorem le27 : lenT E0.P 27 = 2 := by kernel_rfl
theorem le28 : lenT E0.P 28 = 2 := by kernel_rfl
theorem le49 : lenT E0.P 49 = 2 := by kernel_rfl
theorem le50 : lenT E0.P 50 = 2 := by kernel_rfl
theorem le52 : lenT E0.P 52 = 2 := by kernel_rfl
theorem ez28 : elemSz E0.P 28 = some 8 := by kernel_rfl
theorem ki4 : kindOf E0.P 4 = 1 := by kernel_rfl
theorem ae30 : aggEq E0.P 30 = some [2, 2, 2, 2, 2, 2, 2, 2] := by kernel_rfl
theorem in3 : intIn E0.P 3 = some .i64 := by kernel_rfl
theorem in56 : intIn E0.P 56 = some .u64 := by kernel_rfl
theorem ro3 : rowT E0.P 3 = some (1, 8) := by kernel_rfl
theorem ro4 : rowT E0.P 4 = some (1, 1) := by kernel_rfl
theorem ro30 : rowT E0.P 30 = some (8, 64) := by kernel_rfl
theorem ro37 : rowT E0.P 37 = some (5, 40) := by kernel_rfl
theorem bu24 : buildT E0.P 24 = true := by kernel_rfl
theorem bu26 : buildT E0.P 26 = true := by kernel_rfl
theorem bu30 : buildT E0.P 30 = true := by kernel_rfl
theorem bu37 : buildT E0.P 37 = true := by kernel_rfl
theorem bu114 : buildT E0.P 114 = false := by kernel_rfl
theorem ia27 {st : St} {x i : Operand} : opIndexAddr E0.P st 27 x i = ob (ev st i) fun iv => ob (asNat iv) fun j => ob (szOf E0.P 3) fun n => ob (ev st x) fun v => elemAddr st n j v := indexAddr_sl el27
theorem ia28 {st : St} {x i : Operand} : opIndexAddr E0.P st 28 x i = ob (ev st i) fun iv => ob (asNat iv) fun j => ob (szOf E0.P 30) fun n => ob (ev st x) fun v => elemAddr st n j v := indexAddr_sl el28
theorem ia49 {st : St} {x i : Operand} : opIndexAddr E0.P st 49 x i = ob (ev st i) fun iv => ob (asNat iv) fun j => ob (szOf E0.P 26) fun n => ob (ev st x) fun v => elemAddr st n j v := indexAddr_sl el49
theorem ia50 {st : St} {x i : Operand} : opIndexAddr E0.P st 50 x i = ob (ev st i) fun iv => ob (asNat iv) fun j => ob (szOf E0.P 4) fun n => ob (ev st x) fun v => elemAddr st n j v := indexAddr_sl el50
theorem ia52 {st : St} {x i : Operand} : opIndexAddr E0.P st 52 x i = ob (ev st i) fun iv => ob (asNat iv) fun j => ob (szOf E0.P 37) fun n => ob (ev st x) fun v => elemAddr st n j v := indexAddr_sl el52
theorem ia114 {st : St} {x i : Operand} : opIndexAddr E0.P st 114 x i = ob (ev st i) fun iv => ob (asNat iv) fun j => ob (arrIn E0.P 114) fun q => ob (szOf E0.P q.2) fun m => ob (adr st x) fun a => if j < q.1 ∧ 0 < m then some ((a.add (j * m)).val, st) else none := indexAddr_arr el114
theorem lc3_8 : E0.loc 3 8 = true := rfl
theorem lc3_9 : E0.loc 3 9 = true := rfl
theorem lc3_13 : E0.loc 3 13 = true := rfl
theorem lc4_5 : E0.loc 4 5 = true := rfl
theorem lc4_11 : E0.loc 4 11 = true := rfl
theorem lc5_3 : E0.loc 5 3 = true := rfl
theorem lc5_11 : E0.loc 5 11 = true := rfl
theorem lc6_3 : E0.loc 6 3 = true := rfl
theorem lc6_9 : E0.loc 6 9 = true := rfl
theorem lc7_5 : E0.loc 7 5 = true := rfl
theorem lc7_8 : E0.loc 7 8 = true := rfl
theorem lc8_6 : E0.loc 8 6 = true := rfl
theorem lc8_9 : E0.loc 8 9 = true := rfl
theorem lc13_1 : E0.loc 13 1 = true := rfl
theorem lc14_1 : E0.loc 14 1 = true := rfl
theorem lc14_3 : E0.loc 14 3 = true := rfl
theorem lc14_4 : E0.loc 14 4 = true := rfl
theorem lc14_5 : E0.loc 14 5 = true := rfl
theorem lc15_2 : E0.loc 15 2 = true := rfl
theorem lc17_4 : E0.loc 17 4 = true := rfl
theorem lc18_4 : E0.loc 18 4 = true := rfl
theorem lc19_1 : E0.loc 19 1 = true := rfl
theorem lc19_2 : E0.loc 19 2 = true := rfl
theorem lc20_5 : E0.loc 20 5 = true := rfl
theorem lc20_6 : E0.loc 20 6 = true := rfl
theorem lc20_9 : E0.loc 20 9 = true := rfl
theorem lc21_5 : E0.loc 21 5 = true := rfl
theorem lc21_6 : E0.loc 21 6 = true := rfl
theorem lc21_9 : E0.loc 21 9 = true := rfl
theorem lc22_2 : E0.loc 22 2 = true := rfl
theorem lc22_3 : E0.loc 22 3 = true := rfl
theorem lc23_2 : E0.loc 23 2 = true := rfl
theorem lc24_7 : E0.loc 24 7 = true := rfl
theorem lc25_3 : E0.loc 25 3 = true := rfl
theorem lc26_3 : E0.loc 26 3 = true := rfl
theorem lc27_3 : E0.loc 27 3 = false := rfl
theorem lc27_5 : E0.loc 27 5 = false := rfl
theorem lc28_3 : E0.loc 28 3 = false := rfl
theorem lc28_4 : E0.loc 28 4 = false := rfl
theorem lc28_5 : E0.loc 28 5 = false := rfl
theorem lc29_1 : E0.loc 29 1 = true := rfl
theorem lc29_2 : E0.loc 29 2 = true := rfl
theorem lc30_0 : E0.loc 30 0 = true := rfl
theorem lc31_5 : E0.loc 31 5 = true := rfl
theorem lc31_8 : E0.loc 31 8 = true := rfl
theorem lc31_14 : E0.loc 31 14 = true := rfl
theorem lc32_5 : E0.loc 32 5 = true := rfl
theorem lc32_8 : E0.loc 32 8 = true := rfl
theorem lc58_0 : E0.loc 58 0 = true := rfl
theorem lc59_1 : E0.loc 59 1 = true := rfl
theorem lc59_2 : E0.loc 59 2 = true := rfl
theorem lc61_2 : E0.loc 61 2 = true := rfl
theorem lc62_1 : E0.loc 62 1 = true := rfl
theorem lc63_1 : E0.loc 63 1 = true := rfl
theorem lc64_2 : E0.loc 64 2 = true := rfl
theorem lc65_1 : E0.loc 65 1 = true := rfl
theorem lc66_1 : E0.loc 66 1 = true := rfl
theorem lc67_3 : E0.loc 67 3 = false := rfl
theorem lc70_2 : E0.loc 70 2 = true := rfl
theorem lc71_2 : E0.loc 71 2 = false := rfl
theorem lc74_7 : E0.loc 74 7 = true := rfl
theorem lc75_4 : E0.loc 75 4 = true := rfl
theorem lc76_4 : E0.loc 76 4 = true := rfl
theorem lc76_7 : E0.loc 76 7 = true := rfl
theorem lc102_2 : E0.loc 102 2 = true := rfl
theorem lc103_2 : E0.loc 103 2 = true := rfl
theorem bl3_3 : E0.boxLit 3 3 = false := rfl
theorem bl4_8 : E0.boxLit 4 8 = false := rfl
theorem bl4_14 : E0.boxLit 4 14 = false := rfl
theorem ra4_14 : E0.refApp 4 14 = false := rfl
theorem bl4_19 : E0.boxLit 4 19 = false := rfl
theorem ra4_19 : E0.refApp 4 19 = false := rfl
theorem bl6_5 : E0.boxLit 6 5 = false := rfl
theorem bl6_11 : E0.boxLit 6 11 = false := rfl
theorem ra6_11 : E0.refApp 6 11 = false := rfl
theorem bl7_3 : E0.boxLit 7 3 = false := rfl
theorem bl7_5 : E0.boxLit 7 5 = false := rfl
theorem bl7_11 : E0.boxLit 7 11 = false := rfl
theorem ra7_11 : E0.refApp 7 11 = false := rfl
theorem bl8_3 : E0.boxLit 8 3 = false := rfl
theorem bl8_25 : E0.boxLit 8 25 = false := rfl
theorem ra8_25 : E0.refApp 8 25 = false := rfl
theorem bl13_2 : E0.boxLit 13 2 = false := rfl
theorem bl13_4 : E0.boxLit 13 4 = false := rfl
theorem bl17_4 : E0.boxLit 17 4 = false := rfl
theorem bl21_1 : E0.boxLit 21 1 = false := rfl
theorem bl21_13 : E0.boxLit 21 13 = false := rfl
theorem ra21_13 : E0.refApp 21 13 = false := rfl
theorem bl22_1 : E0.boxLit 22 1 = false := rfl
theorem bl24_5 : E0.boxLit 24 5 = false := rfl
theorem ra24_5 : E0.refApp 24 5 = true := rfl
theorem bl61_5 : E0.boxLit 61 5 = false := rfl
theorem bl74_6 : E0.boxLit 74 6 = false := rfl
theorem ra74_6 : E0.refApp 74 6 = false := rfl
theorem md3 : E0.mode 3 = .pure := rfl
theorem md4 : E0.mode 4 = .pure := rfl
theorem md5 : E0.mode 5 = .pure := rfl
theorem md6 : E0.mode 6 = .pure := rfl
theorem md7 : E0.mode 7 = .pure := rfl
theorem md8 : E0.mode 8 = .pure := rfl
theorem md13 : E0.mode 13 = .pure := rfl
theorem md14 : E0.mode 14 = .pure := rfl
theorem md15 : E0.mode 15 = .pure := rfl
theorem md16 : E0.mode 16 = .pure := rfl
theorem md17 : E0.mode 17 = .pure := rfl
theorem md18 : E0.mode 18 = .pure := rfl
theorem md19 : E0.mode 19 = .pure := rfl
theorem md20 : E0.mode 20 = .pure := rfl
theorem md21 : E0.mode 21 = .pure := rfl
theorem md22 : E0.mode 22 = .pure := rfl
theorem md23 : E0.mode 23 = .pure := rfl
theorem md24 : E0.mode 24 = .pure := rfl
theorem md25 : E0.mode 25 = .pure := rfl
theorem md26 : E0.mode 26 = .pure := rfl
theorem md27 : E0.mode 27 = .pure := rfl
theorem md28 : E0.mode 28 = .pure := rfl
theorem md29 : E0.mode 29 = .pure := rfl
theorem md30 : E0.mode 30 = .pure := rfl
theorem md31 : E0.mode 31 = .pure := rfl
theorem md32 : E0.mode 32 = .pure := rfl
theorem md58 : E0.mode 58 = .pure := rfl
theorem md59 : E0.mode 59 = .pure := rfl
theorem md60 : E0.mode 60 = .pure := rfl
theorem md61 : E0.mode 61 = .pure := rfl
theorem md62 : E0.mode 62 = .pure := rfl
theorem md63 : E0.mode 63 = .pure := rfl
theorem md64 : E0.mode 64 = .pure := rfl
theorem md65 : E0.mode 65 = .pure := rfl
theorem md66 : E0.mode 66 = .pure := rfl
theorem md67 : E0.mode 67 = .pure := rfl
theorem md70 : E0.mode 70 = .pure := rfl
theorem md71 : E0.mode 71 = .pure := rfl
theorem md72 : E0.mode 72 = .pure := rfl
theorem md73 : E0.mode 73 = .pure := rfl
theorem md74 : E0.mode 74 = .pure := rfl
theorem md75 : E0.mode 75 = .pure := rfl
theorem md76 : E0.mode 76 = .pure := rfl
theorem md101 : E0.mode 101 = .pure := rfl
theorem md102 : E0.mode 102 = .pure := rfl
theorem md103 : E0.mode 103 = .pure := rfl
theorem md106 : E0.mode 106 = .pure := rfl
theorem md107 : E0.mode 107 = .pure := rfl
theorem md124 : E0.mode 124 = .pure := rfl
theorem tabOk : TabOk E0 fnTab := by
  intro f fn h
  have key : ∀ (l : List (Nat × Option Func)), (∀ p ∈ l, ∀ fn, p.2 = some fn → E0.P.funcs[p.1]? = some fn ∧ (fn.name == "runtime.NumGoroutine") = false ∧ ∀ c, fn.body = some c → regionsOK E0 p.1 c = true) → lookN none l f = some fn → E0.P.funcs[f]? = some fn ∧ (fn.name == "runtime.NumGoroutine") = false ∧ ∀ c, fn.body = some c → regionsOK E0 f c = true := by
    intro l
    induction l with
    | nil => intro _ h; cases h
    | cons p l ih =>
      intro hp h
      obtain ⟨k, x⟩ := p
      simp only [lookN] at h
      split at h
      · rename_i hk
        have e : f = k := Nat.eq_of_beq_eq_true hk
        subst e
        exact hp (f, x) List.mem_cons_self fn h
      · exact ih (fun q hq => hp q (List.mem_cons_of_mem _ hq)) h
  refine key tabL ?_ h
  have one : ∀ (k : Nat) (g fn : Func), E0.P.funcs[k]? = some g → (g.name == "runtime.NumGoroutine") = false → regionsOK E0 k (g.body.getD .skip) = true → some g = some fn → E0.P.funcs[k]? = some fn ∧ (fn.name == "runtime.NumGoroutine") = false ∧ ∀ c, fn.body = some c → regionsOK E0 k c = true := by
    intro k g fn h1 h2 h3 h4
    injection h4 with h4
    subst h4
    exact ⟨h1, h2, fun c hc => by rw [hc] at h3; exact h3⟩
  simp only [tabL, List.forall_mem_cons]
  exact ⟨fun fn h => one _ _ _ Try.func3 (by kernel_rfl) rg3 h, fun fn h => one _ _ _ Try.func4 (by kernel_rfl) rg4 h, fun fn h => one _ _ _ Try.func5 (by kernel_rfl) rg5 h, fun fn h => one _ _ _ Try.func6 (by kernel_rfl) rg6 h, fun fn h => one _ _ _ Try.func7 (by kernel_rfl) rg7 h, fun fn h => one _ _ _ Try.func8 (by kernel_rfl) rg8 h, fun fn h => one _ _ _ Try.func13 (by kernel_rfl) rg13 h, fun fn h => one _ _ _ Try.func14 (by kernel_rfl) rg14 h, fun fn h => one _ _ _ Try.func15 (by kernel_rfl) rg15 h, fun fn h => one _ _ _ Try.func16 (by kernel_rfl) rg16 h, fun fn h => one _ _ _ Try.func17 (by kernel_rfl) rg17 h, fun fn h => one _ _ _ Try.func18 (by kernel_rfl) rg18 h, fun fn h => one _ _ _ Try.func19 (by kernel_rfl) rg19 h, fun fn h => one _ _ _ Try.func20 (by kernel_rfl) rg20 h, fun fn h => one _ _ _ Try.func21 (by kernel_rfl) rg21 h, fun fn h => one _ _ _ Try.func22 (by kernel_rfl) rg22 h, fun fn h => one _ _ _ Try.func23 (by kernel_rfl) rg23 h, fun fn h => one _ _ _ Try.func24 (by kernel_rfl) rg24 h, fun fn h => one _ _ _ Try.func25 (by kernel_rfl) rg25 h, fun fn h => one _ _ _ Try.func26 (by kernel_rfl) rg26 h, fun fn h => one _ _ _ Try.func27 (by kernel_rfl) rg27 h, fun fn h => one _ _ _ Try.func28 (by kernel_rfl) rg28 h, fun fn h => one _ _ _ Try.func29 (by kernel_rfl) rg29 h, fun fn h => one _ _ _ Try.func30 (by kernel_rfl) rg30 h, fun fn h => one _ _ _ Try.func31 (by kernel_rfl) rg31 h, fun fn h => one _ _ _ Try.func32 (by kernel_rfl) rg32 h, fun fn h => one _ _ _ Try.func58 (by kernel_rfl) rg58 h, fun fn h => one _ _ _ Try.func59 (by kernel_rfl) rg59 h, fun fn h => one _ _ _ Try.func60 (by kernel_rfl) rg60 h, fun fn h => one _ _ _ Try.func61 (by kernel_rfl) rg61 h, fun fn h => one _ _ _ Try.func62 (by kernel_rfl) rg62 h, fun fn h => one _ _ _ Try.func63 (by kernel_rfl) rg63 h, fun fn h => one _ _ _ Try.func64 (by kernel_rfl) rg64 h, fun fn h => one _ _ _ Try.func65 (by kernel_rfl) rg65 h, fun fn h => one _ _ _ Try.func66 (by kernel_rfl) rg66 h, fun fn h => one _ _ _ Try.func67 (by kernel_rfl) rg67 h, fun fn h => one _ _ _ Try.func70 (by kernel_rfl) rg70 h, fun fn h => one _ _ _ Try.func71 (by kernel_rfl) rg71 h, fun fn h => one _ _ _ Try.func72 (by kernel_rfl) rg72 h, fun fn h => one _ _ _ Try.func73 (by kernel_rfl) rg73 h, fun fn h => one _ _ _ Try.func74 (by kernel_rfl) rg74 h, fun fn h => one _ _ _ Try.func75 (by kernel_rfl) rg75 h, fun fn h => one _ _ _ Try.func76 (by kernel_rfl) rg76 h, fun fn h => one _ _ _ Try.func101 (by kernel_rfl) rg101 h, fun fn h => one _ _ _ Try.func102 (by kernel_rfl) rg102 h, fun fn h => one _ _ _ Try.func103 (by kernel_rfl) rg103 h, fun fn h => one _ _ _ Try.func106 (by kernel_rfl) rg106 h, fun fn h => one _ _ _ Try.func107 (by kernel_rfl) rg107 h, fun fn h => one _ _ _ Try.func124 (by kernel_rfl) rg124 h, fun _ h => by cases h⟩
attribute [go_sem] ia27 ia28 ia49 ia50 ia52 ia114 sz3 sz4 sz24 sz26 sz28 sz30 sz37 sz114 ag3 ag4 ag24 ag26 ag28 ag30 ag37 ag114 fs24_0 fs24_1 fs24_2 fs24_3 fs24_4 fs24_5 fs24_6 fs24_7 fs24_8 fs24_9 fs24_10 fs24_11 fs24_12 fs24_13 fs24_14 fs24_15 fs24_16 fs24_17 fs26_0 fs26_1 fs26_2 fs26_3 fs26_4 fs30_0 fs30_1 fs30_2 fs30_3 fs30_4 fs30_5 fs37_0 fs37_1 fs37_2 fs37_3 fs37_4 ze3 ze4 ze24 ze26 ze30 ze37 ze114 el27 el28 el49 el50 el52 el114 ar114 le27 le28 le49 le50 le52 ez28 ki4 ae30 in3 in56 ro3 ro4 ro30 ro37 bu24 bu26 bu30 bu37 bu114 lc3_8 lc3_9 lc3_13 lc4_5 lc4_11 lc5_3 lc5_11 lc6_3 lc6_9 lc7_5 lc7_8 lc8_6 lc8_9 lc13_1 lc14_1 lc14_3 lc14_4 lc14_5 lc15_2 lc17_4 lc18_4 lc19_1 lc19_2 lc20_5 lc20_6 lc20_9 lc21_5 lc21_6 lc21_9 lc22_2 lc22_3 lc23_2 lc24_7 lc25_3 lc26_3 lc27_3 lc27_5 lc28_3 lc28_4 lc28_5 lc29_1 lc29_2 lc30_0 lc31_5 lc31_8 lc31_14 lc32_5 lc32_8 lc58_0 lc59_1 lc59_2 lc61_2 lc62_1 lc63_1 lc64_2 lc65_1 lc66_1 lc67_3 lc70_2 lc71_2 lc74_7 lc75_4 lc76_4 lc76_7 lc102_2 lc103_2 bl3_3 bl4_8 bl4_14 ra4_14 bl4_19 ra4_19 bl6_5 bl6_11 ra6_11 bl7_3 bl7_5 bl7_11 ra7_11 bl8_3 bl8_25 ra8_25 bl13_2 bl13_4 bl17_4 bl21_1 bl21_13 ra21_13 bl22_1 bl24_5 ra24_5 bl61_5 bl74_6 ra74_6 md3 md4 md5 md6 md7 md8 md13 md14 md15 md16 md17 md18 md19 md20 md21 md22 md23 md24 md25 md26 md27 md28 md29 md30 md31 md32 md58 md59 md60 md61 md62 md63 md64 md65 md66 md67 md70 md71 md72 md73 md74 md75 md76 md101 md102 md103 md106 md107 md124
end Go.Vi
