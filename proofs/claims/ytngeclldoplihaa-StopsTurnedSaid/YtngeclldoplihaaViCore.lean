/- An abstract machine over the model's own code: values in which slices are lists and local structs are values; a weakest precondition over it. Definitions alone: nothing is claimed here. -/
import Derived.Orders
set_option linter.unusedVariables false
set_option linter.unusedSimpArgs false
namespace Go.Vi

/-- The binds of the abstract machine: rewriting looks at what is bound alone, till it is known. -/
def ob {α β : Type} (o : Option α) (f : α → Option β) : Option β :=
  match o with
  | some a => f a
  | none => none
def om {α β : Type} (o : Option α) (f : α → β) : Option β :=
  match o with
  | some a => some (f a)
  | none => none
theorem ob_some {α β : Type} (a : α) (f : α → Option β) : ob (some a) f = f a := rfl
theorem ob_none {α β : Type} (f : α → Option β) : ob none f = none := rfl
theorem om_some {α β : Type} (a : α) (f : α → β) : om (some a) f = some (f a) := rfl
theorem om_none {α β : Type} (f : α → β) : om none f = none := rfl
theorem ob_congr {α β : Type} {o o' : Option α} (h : Unit → o = o') (f : α → Option β) : ob o f = ob o' f := by rw [h ()]
theorem om_congr {α β : Type} {o o' : Option α} (h : Unit → o = o') (f : α → β) : om o f = om o' f := by rw [h ()]
attribute [congr] ob_congr om_congr
theorem ob_eq {α β : Type} {o : Option α} {f : α → Option β} {b : β} (h : ob o f = some b) : ∃ a, o = some a ∧ f a = some b := by
  cases o with
  | none => cases h
  | some a => exact ⟨a, rfl, h⟩
theorem om_eq {α β : Type} {o : Option α} {f : α → β} {b : β} (h : om o f = some b) : ∃ a, o = some a ∧ f a = b := by
  cases o with
  | none => cases h
  | some a => exact ⟨a, rfl, by injection h⟩

/-- What a slice's spare room is known to be: nothing known; none left; that of a token. -/
inductive SK where
  | frozen
  | full
  | tok (id : Nat)

inductive V where
  | undef
  | junk
  | bool (b : Bool)
  | int (k : IntKind) (n : Int)
  | str (s : ByteArray)
  | nilp
  | ptr (r i off : Nat)
  | iptr (cs : List V)
  | loc (cs : List V)
  | lptr (t off : Nat)
  | nils
  | sl (k : SK) (es : Nat) (rows : List (List V))
  | ref (r off len : Nat)
  | nilm
  | map (r : Nat)
  | func (fn : Fn) (first captured : List V)
  | nilf
  | iface (t : TypeId) (v : V)
  | nili
  | agg (cs : List V)
  | tuple (vs : List V)

/-- A value that lies in one cell. -/
def V.cell : V → Bool
  | .undef | .junk | .loc _ | .lptr .. | .agg _ | .tuple _ => false
  | _ => true
/-- A cell that leads to no memory that may change. -/
def V.pureCell : V → Bool
  | .bool _ | .int .. | .str _ | .nilp | .nils | .sl .frozen _ _ | .sl .full _ _ | .nilm | .nilf | .nili => true
  | .func _ [] [] => true
  | _ => false

inductive Box where
  | rows (es : Nat) (rs : List (List V))
  | dead
  | map (es : List (Int × List V))

structure St where
  tm : List V
  bx : List Box
  tk : List (Nat × Nat)

inductive Ex where
  | normal
  | exit (id : Nat)
  | ret

/-- How a function is entered: its effects are seen ('obj'), it only makes memory ('make'), or what it answers is a plain value ('pure'). -/
inductive Mode where
  | pure
  | make
  | obj

abbrev Res := V → List Box → List (Nat × Nat) → Prop
/-- What a call comes to: the function, its arguments, the store, the barriers. -/
abbrev CallT := FuncId → List V → List Box → List (Nat × Nat) → Nat → Nat → Res → Prop

structure Env where
  P : Program
  mode : FuncId → Mode
  prim : FuncId → Option (List V → List Box → List (Nat × Nat) → Nat → Nat → Res → Prop)
  loc : FuncId → Nat → Bool
  refApp : FuncId → Nat → Bool
  boxLit : FuncId → Nat → Bool

section types
variable (P : Program)
def szOf (t : TypeId) : Option Nat := (P.info? t).map (·.size)
def bytesIn (t : TypeId) : Option Nat := (P.info? t).map (·.bytes)
def aggT (t : TypeId) : Option Bool := (P.underlying t).map fun | .struct _ => true | .array _ _ => true | _ => false
def fieldIn (s : TypeId) (f : Nat) : Option (Nat × TypeId) :=
  match P.underlying s with
  | some (.struct fs) => (fs[f]?).map fun x => (x.offset, x.type)
  | _ => none
def fieldSz (s : TypeId) (f : Nat) : Option (Nat × Nat × Bool) :=
  (fieldIn P s f).bind fun x => (szOf P x.2).bind fun n => (aggT P x.2).map fun b => (x.1, n, b)
def elemIn (t : TypeId) : Option TypeId :=
  match P.underlying t with
  | some (.slice e) => some e
  | _ => none
def arrIn (t : TypeId) : Option (Nat × TypeId) :=
  match P.underlying t with
  | some (.array n e) => some (n, e)
  | _ => none
/-- The zero value of one cell. -/
def zeroCell : Value → Option V
  | .bool b => some (.bool b)
  | .int k n => some (.int k n)
  | .string s => some (.str s)
  | .pointer none => some .nilp
  | .slice none 0 0 => some .nils
  | .map none => some .nilm
  | .nilFunc => some .nilf
  | .nilIface => some .nili
  | _ => none
def zeroCells : List Value → Option (List V)
  | [] => some []
  | v :: vs => (zeroCell v).bind fun x => (zeroCells vs).map (x :: ·)
def zeroIn (t : TypeId) : Option (List V) := (P.info? t).bind fun i => i.zero.bind fun z => zeroCells z.cells.toList
def intIn (t : TypeId) : Option IntKind :=
  match P.underlying t with
  | some (.int k) => some k
  | _ => none
end types

def V.copy : V → Option V
  | .loc _ => none
  | .lptr .. => none
  | v => some v
def nth : List V → Nat → V
  | [], _ => .undef
  | v :: _, 0 => v
  | _ :: l, n + 1 => nth l n
def upd : List V → Nat → V → List V
  | [], _, _ => []
  | _ :: l, 0, u => u :: l
  | v :: l, n + 1, u => v :: upd l n u
def St.get (st : St) (t : Nat) : V := nth st.tm t
def ev (st : St) : Operand → Option V
  | .tmp t => (st.get t).copy
  | .const c => zeroCell c
  | .func f => some (.func (.func f) [] [])
  | .global _ => none
def evs (st : St) : List Operand → Option (List V)
  | [] => some []
  | x :: xs => ob (ev st x) fun v => om (evs st xs) (v :: ·)

inductive Ad where
  | box (r i off : Nat)
  | imm (cs : List V)
  | loc (t off : Nat)
def adrV (t : Nat) : V → Option Ad
  | .ptr r i off => some (.box r i off)
  | .iptr cs => some (.imm cs)
  | .loc _ => some (.loc t 0)
  | .lptr t' off => some (.loc t' off)
  | _ => none
def adr (st : St) : Operand → Option Ad
  | .tmp t => adrV t (st.get t)
  | _ => none
def Ad.val : Ad → V
  | .box r i off => .ptr r i off
  | .imm cs => .iptr cs
  | .loc t off => .lptr t off
def Ad.add : Ad → Nat → Ad
  | .box r i off, n => .box r i (off + n)
  | .imm cs, n => .imm (cs.drop n)
  | .loc t off, n => .loc t (off + n)
def cut (cs : List V) (off n : Nat) : Option (List V) := if off + n ≤ cs.length then some ((cs.drop off).take n) else none
def rowsIn : Option Box → Option (List (List V))
  | some (.rows _ rs) => some rs
  | _ => none
def rowAt (st : St) (r i : Nat) : Option (List V) := ob (rowsIn st.bx[r]?) fun rs => rs[i]?
def locCells : V → Option (List V)
  | .loc cs => some cs
  | _ => none
def cellsAt (st : St) (a : Ad) (n : Nat) : Option (List V) :=
  match a with
  | .box r i off => ob (rowAt st r i) fun row => cut row off n
  | .imm cs => cut cs 0 n
  | .loc t off => ob (locCells (st.get t)) fun cs => cut cs off n
def mkV (agg : Bool) (cs : List V) : Option V :=
  match agg, cs with
  | true, cs => some (.agg cs)
  | false, [v] => some v
  | false, _ => none
/-- A value's cells, of a type of n cells. -/
def cellsOf (agg : Bool) (n : Nat) (v : V) : Option (List V) :=
  match agg, v with
  | true, .agg cs => if cs.length = n then some cs else none
  | false, v => if n = 1 && v.cell then some [v] else none
  | _, _ => none
def setAt (cs : List V) (off : Nat) (vs : List V) : List V := cs.take off ++ vs ++ cs.drop (off + vs.length)
def boxIn : Option Box → Option (Nat × List (List V))
  | some (.rows es rs) => some (es, rs)
  | _ => none
def storeAt (st : St) (lo : Nat) (a : Ad) (vs : List V) : Option St :=
  match a with
  | .box r i off => ob (boxIn st.bx[r]?) fun p => ob p.2[i]? fun row => if lo ≤ r ∧ off + vs.length ≤ row.length then some { st with bx := st.bx.set r (.rows p.1 (p.2.set i (setAt row off vs))) } else none
  | .imm _ => none
  | .loc t off => ob (locCells (st.get t)) fun cs => if off + vs.length ≤ cs.length then some { st with tm := upd st.tm t (.loc (setAt cs off vs)) } else none

/-- Comparisons, as words that rewriting leaves alone. -/
def eqI (a b : Int) : Bool := a == b
def ltI (a b : Int) : Bool := decide (a < b)
def leI (a b : Int) : Bool := decide (a ≤ b)
def eqB (a b : Bool) : Bool := a == b
def eqS (a b : ByteArray) : Bool := a.toList == b.toList
theorem eqI_true {a b : Int} : eqI a b = true ↔ a = b := by simp [eqI]
theorem eqI_false {a b : Int} : eqI a b = false ↔ ¬ a = b := by simp [eqI]
theorem ltI_true {a b : Int} : ltI a b = true ↔ a < b := by simp [ltI]
theorem ltI_false {a b : Int} : ltI a b = false ↔ ¬ a < b := by simp [ltI]
theorem leI_true {a b : Int} : leI a b = true ↔ a ≤ b := by simp [leI]
theorem leI_false {a b : Int} : leI a b = false ↔ ¬ a ≤ b := by simp [leI]
def eqCell : V → V → Option Bool
  | .bool a, .bool b => some (eqB a b)
  | .int k a, .int k' b => if k = k' then some (eqI a b) else none
  | .str a, .str b => some (eqS a b)
  | .nilp, .nilp => some true
  | .nilp, .ptr .. => some false
  | .ptr .., .nilp => some false
  | .nils, .nils => some true
  | .nilm, .nilm => some true
  | .nilm, .map _ => some false
  | .map _, .nilm => some false
  | .nilf, .nilf => some true
  | .nilf, .func .. => some false
  | .func .., .nilf => some false
  | .nili, .iface .. => some false
  | .iface .., .nili => some false
  | _, _ => none
def binInt (op : BinOp) (k : IntKind) (a b : Int) : Option V :=
  match op with
  | .add => some (.int k (k.wrap (a + b)))
  | .sub => some (.int k (k.wrap (a - b)))
  | .mul => some (.int k (k.wrap (a * b)))
  | .quo => if b = 0 then none else some (.int k (k.wrap (a.tdiv b)))
  | .rem => if b = 0 then none else some (.int k (a.tmod b))
  | .and => some (.int k (k.wrap (BitVec.ofInt k.bits a &&& BitVec.ofInt k.bits b).toNat))
  | .or => some (.int k (k.wrap (BitVec.ofInt k.bits a ||| BitVec.ofInt k.bits b).toNat))
  | .xor => some (.int k (k.wrap (BitVec.ofInt k.bits a ^^^ BitVec.ofInt k.bits b).toNat))
  | .andNot => some (.int k (k.wrap (BitVec.ofInt k.bits a &&& ~~~ BitVec.ofInt k.bits b).toNat))
  | .eql => some (.bool (eqI a b))
  | .neq => some (.bool (!eqI a b))
  | .lss => some (.bool (ltI a b))
  | .leq => some (.bool (leI a b))
  | .gtr => some (.bool (ltI b a))
  | .geq => some (.bool (leI b a))
  | _ => none
def binShift (op : BinOp) (k : IntKind) (a b : Int) : Option V :=
  if b < 0 then none else
  match op with
  | .shl => some (.int k (k.wrap (a * 2 ^ (min b.toNat k.bits))))
  | .shr => some (.int k (a.fdiv (2 ^ (min b.toNat k.bits))))
  | _ => none
def binStr (op : BinOp) (a b : ByteArray) : Option V :=
  match op with
  | .add => if a.size + b.size ≤ 9223372036854775807 then some (.str (a ++ b)) else none
  | .eql => some (.bool (eqS a b))
  | .neq => some (.bool (!eqS a b))
  | .lss => some (.bool (Op.bytesLess a.toList b.toList))
  | .leq => some (.bool (Op.bytesLess a.toList b.toList || a.toList == b.toList))
  | .gtr => some (.bool (!(Op.bytesLess a.toList b.toList || a.toList == b.toList)))
  | .geq => some (.bool (!Op.bytesLess a.toList b.toList))
  | _ => none
/-- What a cell holds, for comparing structs. -/
def kindC : V → Nat
  | .bool _ => 1
  | .int .. => 2
  | .str _ => 3
  | _ => 0
/-- The cells of a struct whose fields tile it. -/
def tileF (f : TypeId → Option (List Nat)) : Nat → List Field → Option (List Nat)
  | _, [] => some []
  | off, x :: xs => if x.name ≠ "_" ∧ x.offset = off then (f x.type).bind fun ks => (tileF f (off + ks.length) xs).map (ks ++ ·) else none
/-- The cells of a type whose values are compared cell by cell: whole numbers, bools, texts, and structs of these. -/
def plainK (P : Program) : Nat → TypeId → Option (List Nat)
  | 0, _ => none
  | d + 1, t =>
    match P.underlying t with
    | some .bool => some [1]
    | some (.int _) => some [2]
    | some .string => some [3]
    | some (.struct fs) => if P.stoodInHeld t then none else tileF (fun u => (plainK P d u).bind fun ks => if szOf P u = some ks.length then some ks else none) 0 fs.toList
    | _ => none
/-- The cells of a struct that is compared so. -/
def aggEq (P : Program) (t : TypeId) : Option (List Nat) := if P.eqGuardType P.depth t then none else (aggT P t).bind fun b => if b then plainK P 20 t else none
def eqCells : List V → List V → Option Bool
  | [], [] => some true
  | a :: as, b :: bs => ob (eqCell a b) fun x => om (eqCells as bs) (x && ·)
  | _, _ => none
def binV (op : BinOp) (x y : V) : Option V :=
  match op, x, y with
  | .shl, .int k a, .int _ b => binShift .shl k a b
  | .shr, .int k a, .int _ b => binShift .shr k a b
  | op, .int k a, .int k' b => if k = k' then binInt op k a b else none
  | _, _, _ => none
def unV (op : UnOp) (x : V) : Option V :=
  match op, x with
  | .neg, .int k n => some (.int k (k.wrap (0 - n)))
  | .not, .bool b => some (.bool (!b))
  | .xor, .int k n => some (.int k (k.wrap (BitVec.ofInt k.bits (if k.signed then -1 else k.max) ^^^ BitVec.ofInt k.bits n).toNat))
  | _, _ => none
def asNat : V → Option Nat
  | .int _ n => if 0 ≤ n then some n.toNat else none
  | _ => none
/-- A bound of a cut: absent, or a number. -/
def bound (st : St) (d : Nat) : Option Operand → Option Nat
  | none => some d
  | some x => ob (ev st x) asNat
def cutSk (k : SK) (whole : Bool) : SK :=
  match k, whole with
  | .full, true => .full
  | _, _ => .frozen
def sliceV (st : St) (n : Nat) (v : V) (l h : Nat) (whole : Bool) : Option V :=
  match v with
  | .str s => if l ≤ h ∧ h ≤ s.size then some (.str (s.extract l h)) else none
  | .sl k es rows => if es = n ∧ l ≤ h ∧ h ≤ rows.length then some (.sl (cutSk k whole) es ((rows.take h).drop l)) else none
  | .nils => if l = 0 ∧ h = 0 then some .nils else none
  | .ref r off len => ob (boxIn st.bx[r]?) fun p => if p.1 = n ∧ l ≤ h ∧ h ≤ len then some (.ref r (off + l) (h - l)) else none
  | _ => none
def lenV : V → Option Nat
  | .str s => some s.size
  | .sl _ _ rows => some rows.length
  | .nils => some 0
  | .ref _ _ len => some len
  | _ => none
/-- Fills a struct's or a row's cells. -/
def fillV (place : Nat → Option (Nat × Nat × Bool)) (cs : List V) : List (Nat × V) → Option (List V)
  | [] => some cs
  | (i, v) :: rest =>
    match place i with
    | none => none
    | some (off, n, agg) =>
      match cellsOf agg n v with
      | some vs => if off + n ≤ cs.length then fillV place (setAt cs off vs) rest else none
      | none => none
def evParts (st : St) : List (Nat × Operand) → Option (List (Nat × V))
  | [] => some []
  | (i, x) :: xs => ob (ev st x) fun v => om (evParts st xs) ((i, v) :: ·)
/-- The rows of a slice that is read as a list. -/
def rowsOf (st : St) : V → Option (List (List V))
  | .nils => some []
  | .sl _ _ rows => some rows
  | .ref r off len => ob (rowsIn st.bx[r]?) fun rs => if off + len ≤ rs.length then some ((rs.drop off).take len) else none
  | _ => none
def pureRows (rs : List (List V)) : Bool := rs.all fun row => row.all V.pureCell
def splitRows (es : Nat) : Nat → List V → List (List V)
  | 0, _ => []
  | n + 1, cs => cs.take es :: splitRows es n (cs.drop es)
def appLim : Nat := 140737488355328
def newRows (st : St) (es : Nat) (asRef : Bool) (rows news : List (List V)) : Option (V × St) :=
  if asRef then (if news.length = 0 then none else some (.ref st.bx.length 0 (rows ++ news).length, { st with bx := st.bx ++ [.rows es (rows ++ news)] }))
  else if pureRows news then some (.sl (.tok st.tk.length) es (rows ++ news), { st with tk := st.tk ++ [(es, (rows ++ news).length)] }) else none
/-- append's answer, and the store. -/
def appendV (st : St) (lo tlo es : Nat) (asRef : Bool) (s : V) (news : List (List V)) : Option (V × St) :=
  match s with
  | .nils => newRows st es asRef [] news
  | .sl .full es' rows => if es' = es then newRows st es asRef rows news else none
  | .sl (.tok id) es' rows => ob st.tk[id]? fun q =>
    if tlo ≤ id ∧ es' = es ∧ q.1 = es ∧ q.2 = rows.length ∧ pureRows news then some (.sl (.tok id) es (rows ++ news), { st with tk := st.tk.set id (es, (rows ++ news).length) }) else none
  | .ref r off len => ob (boxIn st.bx[r]?) fun p =>
    if asRef = true ∧ lo ≤ r ∧ p.1 = es ∧ off = 0 ∧ len = p.2.length then some (.ref st.bx.length 0 (p.2 ++ news).length, { st with bx := st.bx.set r .dead ++ [.rows es (p.2 ++ news)] }) else none
  | _ => none
def clearL (t : Nat) : V → V
  | .lptr t' off => if t' = t then .junk else .lptr t' off
  | v => v
def St.put (st : St) (dst : Option Nat) (v : V) : St :=
  match dst with
  | some d => { st with tm := upd st.tm d v }
  | none => st
/-- A variable's place in memory: a slot's own, or a new box. -/
def allocV (st : St) (isLoc : Bool) (d : Nat) (cs : List V) : Option (V × St) :=
  if isLoc then some (.loc cs, { st with tm := st.tm.map (clearL d) })
  else some (.ptr st.bx.length 0 0, { st with bx := st.bx ++ [.rows cs.length [cs]] })

def maxV : List V → Option V
  | [.int k a] => some (.int k a)
  | [.int k a, .int k' b] => if k = k' then some (.int k (if b > a then b else a)) else none
  | [.int k a, .int k' b, .int k'' c] => if k = k' ∧ k = k'' then some (.int k (if c > (if b > a then b else a) then c else (if b > a then b else a))) else none
  | _ => none
def minV : List V → Option V
  | [.int k a] => some (.int k a)
  | [.int k a, .int k' b] => if k = k' then some (.int k (if b < a then b else a)) else none
  | [.int k a, .int k' b, .int k'' c] => if k = k' ∧ k = k'' then some (.int k (if c < (if b < a then b else a) then c else (if b < a then b else a))) else none
  | _ => none

section ops
variable (P : Program) (st : St)
def opMove (x : Operand) : Option (V × St) := om (ev st x) fun v => (v, st)
def pickB (c : V) (a b : Option V) : Option V :=
  match c with
  | .bool t => if t = true then a else b
  | _ => none
def opPick (c a b : Operand) : Option (V × St) := ob (ev st c) fun v => om (pickB v (ev st a) (ev st b)) fun r => (r, st)
def opAlloc (isLoc : Nat → Bool) (d : Option Nat) (t : TypeId) : Option (V × St) := ob (zeroIn P t) fun cs => ob d fun d => allocV st (isLoc d) d cs
def opBox (isLoc : Nat → Bool) (d : Option Nat) (t : TypeId) (x : Operand) : Option (V × St) :=
  ob (szOf P t) fun n => ob (aggT P t) fun g => ob (ev st x) fun v => ob (cellsOf g n v) fun cs => ob d fun d => allocV st (isLoc d) d cs
def opLoad (t : TypeId) (a : Operand) : Option (V × St) :=
  ob (szOf P t) fun n => ob (aggT P t) fun g => ob (adr st a) fun a => ob (cellsAt st a n) fun cs => om (mkV g cs) fun v => (v, st)
def opStore (lo : Nat) (t : TypeId) (a x : Operand) : Option (V × St) :=
  ob (szOf P t) fun n => ob (aggT P t) fun g => ob (adr st a) fun a => ob (ev st x) fun v => ob (cellsOf g n v) fun cs => om (storeAt st lo a cs) fun s => (.undef, s)
def nilV (t : Nat) : V → Option V
  | .ptr r i off => some (.ptr r i off)
  | .iptr cs => some (.iptr cs)
  | .loc _ => some (.lptr t 0)
  | .lptr t' off => some (.lptr t' off)
  | .func (.func f) a b => some (.func (.func f) a b)
  | _ => none
def opNil : Operand → Option (V × St)
  | .tmp t => om (nilV t (st.get t)) fun v => (v, st)
  | _ => none
def binAgg (op : BinOp) (as bs : List V) : Option V :=
  match op with
  | .eql => om (eqCells as bs) .bool
  | .neq => om (eqCells as bs) fun b => .bool (!b)
  | _ => none
/-- What kind a type is, for comparing by == and !=. -/
def kindOf (t : TypeId) : Nat :=
  match P.underlying t with
  | some .bool => 1
  | some (.pointer _) => 2
  | some (.slice _) => 3
  | some (.map _ _) => 4
  | some (.func _ _ _) => 5
  | some (.interface _) => 6
  | _ => 0
def eqKind : V → V → Nat
  | .bool _, .bool _ => 1
  | .nilp, .nilp => 2
  | .nilp, .ptr .. => 2
  | .ptr .., .nilp => 2
  | .nils, .nils => 3
  | .nilm, .nilm => 4
  | .nilm, .map _ => 4
  | .map _, .nilm => 4
  | .nilf, .nilf => 5
  | .nilf, .func .. => 5
  | .func .., .nilf => 5
  | .nili, .iface .. => 6
  | .iface .., .nili => 6
  | _, _ => 7
def binEq (op : BinOp) (v u : V) : Option V :=
  match op with
  | .eql => om (eqCell v u) .bool
  | .neq => om (eqCell v u) fun b => .bool (!b)
  | _ => none
def binAny (op : BinOp) (t : TypeId) : V → V → Option V
  | .agg as, .agg bs => if aggEq P t = some (as.map kindC) ∧ as.map kindC = bs.map kindC then binAgg op as bs else none
  | .int k a, .int k' b => binV op (.int k a) (.int k' b)
  | .str a, .str b => binStr op a b
  | v, u => if kindOf P t = eqKind v u then binEq op v u else none
def opBin (op : BinOp) (t : TypeId) (x y : Operand) : Option (V × St) :=
  ob (ev st x) fun v => ob (ev st y) fun u => om (binAny P op t v u) fun r => (r, st)
def opUn (op : UnOp) (x : Operand) : Option (V × St) := ob (ev st x) fun v => om (unV op v) fun r => (r, st)
def opConv (t d : TypeId) (x : Operand) : Option (V × St) := ob (intIn P t) fun _ => ob (ev st x) fun
  | .int _ n => om (intIn P d) fun k => (.int k (k.wrap n), st)
  | _ => none
/-- A struct of whom all is known. -/
def buildT (t : TypeId) : Bool :=
  match P.underlying t with
  | some (.struct fs) => fs.all fun f => (szOf P f.type).isSome
  | _ => false
def opBuild (t : TypeId) (parts : List (Nat × Operand)) : Option (V × St) :=
  ob (zeroIn P t) fun z => ob (evParts st parts) fun ps => if buildT P t = true then om (fillV (fieldSz P t) z ps) fun cs => (.agg cs, st)
    else ob (arrIn P t) fun q => ob (szOf P q.2) fun m => ob (aggT P q.2) fun g => om (fillV (fun i => some (i * m, m, g)) z ps) fun cs => (.agg cs, st)
def opLit (asBox : Bool) (t : TypeId) (len : Nat) (parts : List (Nat × Operand)) : Option (V × St) :=
  ob (elemIn P t) fun e => ob (szOf P e) fun es => ob (aggT P e) fun g => ob (zeroIn P e) fun z => ob (evParts st parts) fun ps =>
    if len ≤ 4096 ∧ 0 < es ∧ es ≤ 4096 ∧ z.length = es then
      ob (fillV (fun i => some (i * es, es, g)) (List.replicate len z).flatten ps) fun cs =>
        if asBox then some (.ref st.bx.length 0 len, { st with bx := st.bx ++ [.rows es (splitRows es len cs)] })
        else if pureRows (splitRows es len cs) then some (.sl .full es (splitRows es len cs), st) else none
    else none
def opFunc (f : Fn) (first captured : List Operand) : Option (V × St) := ob (evs st first) fun a => om (evs st captured) fun b => (.func f a b, st)
/-- A type of one cell that is no interface. -/
def concT (t : TypeId) : Bool :=
  match P.underlying t with
  | some (.struct _) => false
  | some (.array _ _) => false
  | some (.interface _) => false
  | some _ => true
  | none => false
def opIface (t : TypeId) (x : Operand) : Option (V × St) := ob (ev st x) fun v => if concT P t = true ∧ v.cell = true then some (.iface t v, st) else none
def opExtract (x : Operand) (i : Nat) : Option (V × St) := ob (ev st x) fun
  | .tuple vs => om vs[i]? fun v => (v, st)
  | _ => none
def opFieldAddr (s : TypeId) (x : Operand) (f : Nat) : Option (V × St) :=
  ob (adr st x) fun a => ob (fieldSz P s f) fun p => if p.2.1 = 0 then none else some ((a.add p.1).val, st)
def opField (s : TypeId) (x : Operand) (f : Nat) : Option (V × St) := ob (ev st x) fun
  | .agg cs => ob (fieldSz P s f) fun p => ob (cut cs p.1 p.2.1) fun vs => om (mkV p.2.2 vs) fun v => (v, st)
  | _ => none
def elemAddr (n j : Nat) : V → Option (V × St)
  | .sl _ es rows => ob rows[j]? fun row => if es = n ∧ 0 < n then some (.iptr row, st) else none
  | .ref r off len => ob (boxIn st.bx[r]?) fun p => if j < len ∧ p.1 = n ∧ 0 < n then some (.ptr r (off + j) 0, st) else none
  | _ => none
def opIndexAddr (t : TypeId) (x i : Operand) : Option (V × St) :=
  ob (ev st i) fun iv => ob (asNat iv) fun j =>
    match elemIn P t with
    | some e => ob (szOf P e) fun n => ob (ev st x) fun v => elemAddr st n j v
    | none => ob (arrIn P t) fun q => ob (szOf P q.2) fun m => ob (adr st x) fun a => if j < q.1 ∧ 0 < m then some ((a.add (j * m)).val, st) else none
/-- What kind a type is, for len and cuts: a text, a slice. -/
def lenT (t : TypeId) : Nat :=
  match P.underlying t with
  | some .string => 1
  | some (.slice _) => 2
  | _ => 0
def byteAt (s : ByteArray) (j : Nat) : Option V := if h : j < s.size then some (.int .u8 s[j].toNat) else none
def opIndex (t : TypeId) (x i : Operand) : Option (V × St) :=
  ob (ev st i) fun iv => ob (asNat iv) fun j => ob (ev st x) fun
    | .str s => if lenT P t = 1 then om (byteAt s j) fun v => (v, st) else none
    | .agg cs => ob (arrIn P t) fun q => ob (szOf P q.2) fun m => ob (aggT P q.2) fun g => if j < q.1 then ob (cut cs (j * m) m) fun vs => om (mkV g vs) fun v => (v, st) else none
    | _ => none
def lenK : V → Nat
  | .str _ => 1
  | .sl .. => 2
  | .nils => 2
  | .ref .. => 2
  | _ => 3
def elemSz (t : TypeId) : Option Nat := if lenT P t = 1 then some 1 else (elemIn P t).bind (szOf P)
def opSlice (t : TypeId) (x : Operand) (l h : Option Operand) : Option (V × St) :=
  ob (elemSz P t) fun e => ob (ev st x) fun v => ob (lenV v) fun n => ob (bound st 0 l) fun a => ob (bound st n h) fun b =>
    if lenT P t = lenK v then om (sliceV st e v a b h.isNone) fun r => (r, st) else none
def opLen (ts : List TypeId) (xs : List Operand) : Option (V × St) :=
  match ts with
  | [t] => ob (evs st xs) fun
    | [v] => if lenT P t = lenK v then om (lenV v) fun n => (.int .i64 n, st) else none
    | _ => none
  | _ => none
def opMax (xs : List Operand) : Option (V × St) := ob (evs st xs) fun vs => om (maxV vs) fun v => (v, st)
def opMin (xs : List Operand) : Option (V × St) := ob (evs st xs) fun vs => om (minV vs) fun v => (v, st)
/-- An element's size in cells and in bytes. -/
def rowT (e : TypeId) : Option (Nat × Nat) :=
  (P.info? e).bind fun i => i.zero.bind fun z => if z.cells.size = i.size ∧ 0 < i.size ∧ 0 < i.bytes then some (i.size, i.bytes) else none
def opAppend (lo tlo : Nat) (asRef : Bool) (ts : List TypeId) (xs : List Operand) : Option (V × St) :=
  match ts with
  | [t, t2] => ob (elemIn P t) fun e => ob (rowT P e) fun q => ob (evs st xs) fun
    | [s, x] => ob (rowsOf st x) fun news => ob (rowsOf st s) fun olds =>
      if t2 = t ∧ (news.all fun row => row.length = q.1) ∧ (olds.length + news.length) * q.2 ≤ appLim then appendV st lo tlo q.1 asRef s news else none
    | _ => none
  | _ => none
end ops
/-- An operation that is no call of a function. -/
def opV (E : Env) (fn : FuncId) (rg lo tlo : Nat) (st : St) (d : Option Nat) : Op → Option (V × St)
  | .move x => opMove st x
  | .assign x => opMove st x
  | .pick c a b => opPick st c a b
  | .alloc t => opAlloc E.P st (E.loc fn) d t
  | .box t x => opBox E.P st (E.loc fn) d t x
  | .load t a => opLoad E.P st t a
  | .store t a x => opStore E.P st lo t a x
  | .nilCheck x => opNil st x
  | .binOp op t x y _ => opBin E.P st op t x y
  | .unOp op _ x => opUn st op x
  | .convert t d x => opConv E.P st t d x
  | .build t parts => opBuild E.P st t parts.toList
  | .buildSlice t len parts => opLit E.P st (E.boxLit fn rg) t len parts.toList
  | .makeFunc f first captured => opFunc st f first.toList captured.toList
  | .makeInterface t x => opIface E.P st t x
  | .extract x i => opExtract st x i
  | .fieldAddr s x f => opFieldAddr E.P st s x f
  | .field s x f => opField E.P st s x f
  | .indexAddr t x i => opIndexAddr E.P st t x i
  | .index t x i => opIndex E.P st t x i
  | .slice t x l h none => opSlice E.P st t x l h
  | .call ⟨.builtin .len, xs, ts⟩ => opLen E.P st ts.toList xs.toList
  | .call ⟨.builtin .max, xs, _⟩ => opMax st xs.toList
  | .call ⟨.builtin .min, xs, _⟩ => opMin st xs.toList
  | .call ⟨.builtin .append, xs, ts⟩ => opAppend E.P st lo tlo (E.refApp fn rg) ts.toList xs.toList
  | _ => none

/-- A plain function that is called. -/
def callee (st : St) (f : Operand) (xs : List Operand) : Option (FuncId × List V) := ob (ev st f) fun
  | .func (.func g) first captured => om (evs st xs) fun vs => (g, first ++ vs ++ captured)
  | _ => none
def calleeOf (st : St) : Op → Option (FuncId × List V)
  | .call ⟨.value f, xs, _⟩ => callee st f xs.toList
  | _ => none
def isTrue : V → Bool → Option Bool
  | .bool b, want => some (b == want)
  | .undef, _ => some false
  | _, _ => none
/-- Where the operation of a number puts its answer. -/
def dstAt : List Oper → Nat → Option Nat
  | [], _ => none
  | o :: _, 0 => o.dst
  | _ :: os, n + 1 => dstAt os n
def slotTrue (st : St) (want : Bool) : Option Nat → Option Bool
  | some d => isTrue (st.get d) want
  | none => some false
def wantV (os : List Oper) (st : St) : Option (Nat × Bool) → Option Bool
  | none => some true
  | some (j, want) => slotTrue st want (dstAt os j)

section wp
variable (E : Env) (C : CallT) (fn : FuncId) (rg lo tlo : Nat)
/-- What is done where a guard says so, and what else. -/
def guardK (w : Option Bool) (run skip : Prop) : Prop :=
  match w with
  | none => False
  | some b => (b = true → run) ∧ (b = false → skip)
theorem guardK_true (run skip : Prop) : guardK (some true) run skip = run := by simp [guardK]
theorem guardK_false (run skip : Prop) : guardK (some false) run skip = skip := by simp [guardK]
theorem guardK_some (b : Bool) (run skip : Prop) : guardK (some b) run skip = ((b = true → run) ∧ (b = false → skip)) := rfl
theorem guardK_congr {w w' : Option Bool} (h : Unit → w = w') (run skip : Prop) : guardK w run skip = guardK w' run skip := by rw [h ()]
def stepK (r : Option (V × St)) (call : Prop) (k : V → St → Prop) : Prop :=
  match r with
  | some (v, s) => k v s
  | none => call
theorem stepK_some (v : V) (s : St) (call : Prop) (k : V → St → Prop) : stepK (some (v, s)) call k = k v s := rfl
theorem stepK_none (call : Prop) (k : V → St → Prop) : stepK none call k = call := rfl
theorem stepK_congr {r r' : Option (V × St)} (h : Unit → r = r') (call : Prop) (k : V → St → Prop) : stepK r call k = stepK r' call k := by rw [h ()]
def callK (r : Option (FuncId × List V)) (k : FuncId → List V → Prop) : Prop :=
  match r with
  | some (f, args) => k f args
  | none => False
theorem callK_some (f : FuncId) (args : List V) (k : FuncId → List V → Prop) : callK (some (f, args)) k = k f args := rfl
theorem callK_congr {r r' : Option (FuncId × List V)} (h : Unit → r = r') (k : FuncId → List V → Prop) : callK r k = callK r' k := by rw [h ()]
/-- A place may be put into a slot that the environment names, and into no other. -/
def locK (isLoc : Nat → Bool) (d : Option Nat) (v : V) (k : Prop) : Prop :=
  match v with
  | .loc _ => (∃ n, d = some n ∧ isLoc n = true) ∧ k
  | _ => k
theorem locK_congr {v v' : V} (h : Unit → v = v') (isLoc : Nat → Bool) (d : Option Nat) (k : Prop) : locK isLoc d v k = locK isLoc d v' k := by rw [h ()]
attribute [congr] guardK_congr stepK_congr callK_congr locK_congr
/-- One operation. -/
def wpOne (ds : List Oper) (d : Option Nat) (op : Op) (gd : Option (Nat × Bool)) (st : St) (K : St → Prop) : Prop :=
  guardK (wantV ds st gd)
    (stepK (opV E fn rg lo tlo st d op) (callK (calleeOf st op) fun f args => C f args st.bx st.tk lo tlo fun v bx tk => locK (E.loc fn) d v (K ({ st with bx := bx, tk := tk }.put d v))) fun v st' => locK (E.loc fn) d v (K (st'.put d v)))
    (K (st.put d .undef))
def wpList (ds : List Oper) : List Oper → St → (St → Prop) → Prop
  | [], st, K => K st
  | o :: os, st, K => wpOne E C fn rg lo tlo ds o.dst o.op o.guard st fun st' => wpList ds os st' K
end wp

/-- A value that is handed back as a plain one: what was made is plain from now on. -/
def freezeCell (st : St) (lo tlo : Nat) : V → Option V
  | .ref r off len =>
    if r < lo then some (.ref r off len) else
    ob (boxIn st.bx[r]?) fun p => if off + len ≤ p.2.length ∧ pureRows ((p.2.drop off).take len) then some (.sl .frozen p.1 ((p.2.drop off).take len)) else none
  | .sl (.tok id) es rows => if id < tlo then some (.sl (.tok id) es rows) else some (.sl .frozen es rows)
  | .ptr r i off => if r < lo then some (.ptr r i off) else none
  | .map r => if r < lo then some (.map r) else none
  | .iface t v => if v.pureCell then some (.iface t v) else none
  | v => if v.pureCell then some v else none
def freezeCells (st : St) (lo tlo : Nat) : List V → Option (List V)
  | [] => some []
  | v :: vs => ob (freezeCell st lo tlo v) fun x => om (freezeCells st lo tlo vs) (x :: ·)
def freezeV (st : St) (lo tlo : Nat) : V → Option V
  | .agg cs => om (freezeCells st lo tlo cs) .agg
  | v => freezeCell st lo tlo v
def freezeVs (st : St) (lo tlo : Nat) : List V → Option (List V)
  | [] => some []
  | v :: vs => ob (freezeV st lo tlo v) fun x => om (freezeVs st lo tlo vs) (x :: ·)
/-- The results of a function. -/
def resOne (P : Program) (st : St) : ResultVar → Option V
  | .tmp t => (st.get t).copy
  | .cell a t => ob (szOf P t) fun n => ob (aggT P t) fun g => ob (adr st (.tmp a)) fun ad => ob (cellsAt st ad n) fun cs => mkV g cs
def resAll (P : Program) (st : St) : List ResultVar → Option (List V)
  | [] => some []
  | r :: rs => ob (resOne P st r) fun v => om (resAll P st rs) (v :: ·)
def packV : List V → V
  | [v] => v
  | vs => .tuple vs
/-- What stands at a function's end. -/
def endOf (E : Env) (f : FuncId) (rs : List ResultVar) (bx0 : List Box) (tk0 : List (Nat × Nat)) (R : Res) : Ex → St → Prop
  | .exit _, _ => False
  | _, st =>
    match resAll E.P st rs with
    | none => False
    | some vs =>
      match E.mode f with
      | .pure => match freezeVs st bx0.length tk0.length vs with
        | some us => R (packV us) bx0 tk0
        | none => False
      | _ => R (packV vs) st.bx st.tk

/-- A region that draws its order: see Draw. -/
def tmpsOf (o : Oper) : List Tmp := o.op.operands.toList.filterMap fun | .tmp t => some t | _ => none
inductive Cls where
  | P | R | A | C | T | W | X
def Mode.isPure : Mode → Bool
  | .pure => true
  | _ => false
def locDst (E : Env) (fn : FuncId) (o : Oper) : Bool :=
  match o.dst with
  | some d => E.loc fn d
  | none => false
def clsOp (E : Env) (fn : FuncId) (rg : Nat) : Op → Cls
  | .move _ | .assign _ | .pick .. | .nilCheck _ | .binOp .. | .unOp .. | .convert .. | .build .. | .makeFunc .. | .makeInterface .. | .extract .. | .fieldAddr .. | .field .. | .index .. => .P
  | .indexAddr .. | .load .. => .R
  | .slice _ _ _ _ none => .R
  | .buildSlice .. => if E.boxLit fn rg then .A else .P
  | .alloc _ | .box .. => .A
  | .call ⟨.builtin .len, _, _⟩ | .call ⟨.builtin .max, _, _⟩ | .call ⟨.builtin .min, _, _⟩ => .P
  | .call ⟨.builtin .append, _, _⟩ => if E.refApp fn rg then .X else .T
  | .call ⟨.value (.func f), _, _⟩ => if (E.prim f).isNone && (E.mode f).isPure then .C else .W
  | .call ⟨.value _, _, _⟩ => .W
  | _ => .X
def clsOf (E : Env) (fn : FuncId) (rg : Nat) (o : Oper) : Cls := if locDst E fn o then .X else clsOp E fn rg o.op
def Cls.ok : Cls → Cls → Bool
  | .X, _ => false
  | _, .X => false
  | .P, _ => true
  | _, .P => true
  | .R, .R => true
  | .R, .C => true
  | .C, .R => true
  | .C, .C => true
  | .R, .A => true
  | .R, .T => true
  | .T, .R => true
  | _, _ => false
/-- Behind which operations an operation stands, by the edges: bit i for operation i. -/
def maskOf (ms : List Nat) (es : List Edge) : Nat := es.foldl (fun m e => if Region.binds .any e then (m ||| (1 <<< e.on)) ||| ms.getD e.on 0 else m) 0
def masks : List Oper → List Nat → List Nat
  | [], ms => ms
  | o :: os, ms => masks os (ms ++ [maskOf ms o.after.toList])
def pairOK (E : Env) (fn : FuncId) (rg : Nat) (ops : Array Oper) (m i : Nat) (a b : Oper) : Bool := m.testBit i || ((clsOf E fn rg a).ok (clsOf E fn rg b) && a.apart ops b)
/-- Each operation against all ahead of it. -/
def pairsOK (E : Env) (fn : FuncId) (rg : Nat) (ops : Array Oper) (m : Nat) (b : Oper) : Nat → List Oper → Bool
  | _, [] => true
  | i, a :: as => pairOK E fn rg ops m i a b && pairsOK E fn rg ops m b (i + 1) as
def rowsOK (E : Env) (fn : FuncId) (rg : Nat) (ops : Array Oper) (all : List Oper) : Nat → List Nat → List Oper → Bool
  | _, _, [] => true
  | _, [], _ => false
  | j, m :: ms, b :: bs => (b.after.toList.all fun e => !Region.binds .any e || Nat.blt e.on j) && pairsOK E fn rg ops m b 0 (all.take j) && rowsOK E fn rg ops all (j + 1) ms bs
def drawOK (E : Env) (fn : FuncId) (rg : Nat) (ops : Array Oper) : Bool :=
  Region.noSelect ops && rowsOK E fn rg ops ops.toList 0 (masks ops.toList []) ops.toList
/-- All regions of a function that draw. -/
def regionsOK (E : Env) (fn : FuncId) : Code → Bool
  | .seq a b => regionsOK E fn a && regionsOK E fn b
  | .cond _ a b => regionsOK E fn a && regionsOK E fn b
  | .block _ b => regionsOK E fn b
  | .loop b => regionsOK E fn b
  | .region id ops draw => !draw || drawOK E fn id ops
  | _ => true

/-- Below what nothing is written. -/
def floor (m : Mode) (lo n : Nat) : Nat :=
  match m with
  | .obj => lo
  | _ => n
/-- The calls of a machine whose code is told by W. -/
def callBy (E : Env) (W : FuncId → Nat → Nat → Code → St → (Ex → St → Prop) → Prop) : CallT := fun f args bx tk lo tlo R =>
  match E.prim f with
  | some p => p args bx tk lo tlo R
  | none =>
    match E.P.funcs[f]? with
    | none => False
    | some fn =>
      match fn.body with
      | none => False
      | some c =>
        (fn.name == "runtime.NumGoroutine") = false ∧ args.length ≤ fn.ntmps ∧ regionsOK E f c = true ∧
        W f (floor (E.mode f) lo bx.length) (floor (E.mode f) tlo tk.length) c
          { tm := args ++ List.replicate (fn.ntmps - args.length) .undef, bx := bx, tk := tk } (endOf E f fn.results.toList bx tk R)

/-- What stands behind a part of the code. -/
def thenK (next : St → Prop) (Q : Ex → St → Prop) : Ex → St → Prop
  | .normal, st => next st
  | .exit id, st => Q (.exit id) st
  | .ret, st => Q .ret st
def blockK (id : Nat) (Q : Ex → St → Prop) : Ex → St → Prop
  | .normal, st => Q .normal st
  | .exit j, st => if j = id then Q .normal st else Q (.exit j) st
  | .ret, st => Q .ret st
/-- The weakest precondition, by rounds. -/
def wpk (E : Env) : Nat → FuncId → Nat → Nat → Code → St → (Ex → St → Prop) → Prop
  | 0, _, _, _, _, _, _ => False
  | k + 1, fn, lo, tlo, c, st, Q =>
    match c with
    | .skip => Q .normal st
    | .seq a b => wpk E k fn lo tlo a st (thenK (fun st' => wpk E k fn lo tlo b st' Q) Q)
    | .region id ops draw => wpList E (callBy E (wpk E k)) fn id lo tlo ops.toList ops.toList st (Q .normal)
    | .cond c a b => ∃ t, ev st c = some (.bool t) ∧ wpk E k fn lo tlo (if t then a else b) st Q
    | .block id b => wpk E k fn lo tlo b st (blockK id Q)
    | .loop b => wpk E k fn lo tlo b st (thenK (fun st' => wpk E k fn lo tlo (.loop b) st' Q) Q)
    | .exit id => Q (.exit id) st
    | .ret => Q .ret st
    | _ => False
/-- A call comes to R. -/
def callsV (E : Env) (f : FuncId) (args : List V) (bx : List Box) (tk : List (Nat × Nat)) (lo tlo : Nat) (R : Res) : Prop :=
  ∃ k, callBy E (wpk E k) f args bx tk lo tlo R
end Go.Vi
