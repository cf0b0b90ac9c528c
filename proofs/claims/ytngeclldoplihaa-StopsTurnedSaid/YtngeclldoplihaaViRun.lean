/- How the abstract machine is computed by rewriting: each part of the code as an equivalence. -/
import Derived.Test.YtngeclldoplihaaViWp
set_option linter.unusedVariables false
set_option linter.unusedSimpArgs false
namespace Go.Vi
section iffs
variable {E : Env} (hE : E.Good) {fn : FuncId} {lo tlo : Nat} {st : St} {Q : Ex → St → Prop}
theorem wpv_skip_iff : wpv E fn lo tlo .skip st Q ↔ Q .normal st := ⟨fun ⟨k, h⟩ => by cases k with | zero => exact h.elim | succ k => unfold wpk at h; exact h, wpv_skip⟩
theorem wpv_exit_iff {id : Nat} : wpv E fn lo tlo (.exit id) st Q ↔ Q (.exit id) st := ⟨fun ⟨k, h⟩ => by cases k with | zero => exact h.elim | succ k => unfold wpk at h; exact h, wpv_exit⟩
theorem wpv_ret_iff : wpv E fn lo tlo .ret st Q ↔ Q .ret st := ⟨fun ⟨k, h⟩ => by cases k with | zero => exact h.elim | succ k => unfold wpk at h; exact h, wpv_ret⟩
include hE in
theorem wpv_seq_iff {a b : Code} : wpv E fn lo tlo (.seq a b) st Q ↔ wpv E fn lo tlo a st (thenK (fun s => wpv E fn lo tlo b s Q) Q) := by
  refine ⟨fun ⟨k, h⟩ => ?_, wpv_seq hE⟩
  cases k with
  | zero => exact h.elim
  | succ k => unfold wpk at h; exact ⟨k, wpk_up hE _ _ _ _ _ _ _ _ h (thenK_mono (fun s hs => ⟨k, hs⟩) fun _ _ h => h)⟩
theorem wpv_block_iff {id : Nat} {b : Code} : wpv E fn lo tlo (.block id b) st Q ↔ wpv E fn lo tlo b st (blockK id Q) := by
  refine ⟨fun ⟨k, h⟩ => ?_, wpv_block⟩
  cases k with
  | zero => exact h.elim
  | succ k => unfold wpk at h; exact ⟨k, h⟩
def condK (v : Option V) (a b : Prop) : Prop :=
  match v with
  | some (.bool t) => (t = true → a) ∧ (t = false → b)
  | _ => False
theorem wpv_cond_iff {c : Operand} {a b : Code} : wpv E fn lo tlo (.cond c a b) st Q ↔ condK (ev st c) (wpv E fn lo tlo a st Q) (wpv E fn lo tlo b st Q) := by
  constructor
  · rintro ⟨k, h⟩
    cases k with
    | zero => exact h.elim
    | succ k =>
      unfold wpk at h
      obtain ⟨t, ht, h⟩ := h
      simp only [ht, condK]
      cases t
      · exact And.intro (fun hf => (by cases hf)) (fun _ => ⟨k, h⟩)
      · exact And.intro (fun _ => ⟨k, h⟩) (fun hf => (by cases hf))
  · intro h
    unfold condK at h
    split at h
    · rename_i t ht
      cases t
      · exact wpv_cond ht (h.2 rfl)
      · exact wpv_cond ht (h.1 rfl)
    · exact h.elim
include hE in
theorem wpv_region_iff {id : Nat} {ops : Array Oper} {draw : Bool} : wpv E fn lo tlo (.region id ops draw) st Q ↔ wpList E (callsV E) fn id lo tlo ops.toList ops.toList st (Q .normal) := by
  refine ⟨fun ⟨k, h⟩ => ?_, wpv_region hE⟩
  cases k with
  | zero => exact h.elim
  | succ k => unfold wpk at h; exact wpList_mono (fun _ _ _ _ _ _ _ _ h hR => ⟨k, callBy_up hE (wpk_up hE k) _ _ _ _ _ _ _ _ h hR⟩) (fun _ h => h) h
include hE in
theorem wpv_region_lit {id : Nat} {ops : List Oper} {draw : Bool} : wpv E fn lo tlo (.region id ops.toArray draw) st Q ↔ wpList E (callsV E) fn id lo tlo ops ops st (Q .normal) := by
  rw [wpv_region_iff hE]
end iffs
theorem dstAt_zero {d : Option Nat} {op : Op} {ty : TypeId} {ps : String} {af : Array Edge} {gd : Option (Nat × Bool)} {l : List Oper} : dstAt ({ dst := d, op := op, type := ty, pos := ps, after := af, guard := gd } :: l) 0 = d := rfl
theorem dstAt_succ {o : Oper} {l : List Oper} {n : Nat} : dstAt (o :: l) (n + 1) = dstAt l n := rfl
theorem wantV_none {os : List Oper} {st : St} : wantV os st none = some true := rfl
theorem wantV_some {os : List Oper} {st : St} {j : Nat} {want : Bool} : wantV os st (some (j, want)) = slotTrue st want (dstAt os j) := rfl
theorem slotTrue_some {st : St} {want : Bool} {d : Nat} : slotTrue st want (some d) = isTrue (st.get d) want := rfl
theorem thenK_normal {n : St → Prop} {Q : Ex → St → Prop} {s : St} : thenK n Q .normal s = n s := rfl
theorem thenK_exit {n : St → Prop} {Q : Ex → St → Prop} {s : St} {i : Nat} : thenK n Q (.exit i) s = Q (.exit i) s := rfl
theorem thenK_ret {n : St → Prop} {Q : Ex → St → Prop} {s : St} : thenK n Q .ret s = Q .ret s := rfl
theorem blockK_normal {i : Nat} {Q : Ex → St → Prop} {s : St} : blockK i Q .normal s = Q .normal s := rfl
theorem blockK_exit {i j : Nat} {Q : Ex → St → Prop} {s : St} : blockK i Q (.exit j) s = (if j = i then Q .normal s else Q (.exit j) s) := rfl
theorem blockK_ret {i : Nat} {Q : Ex → St → Prop} {s : St} : blockK i Q .ret s = Q .ret s := rfl
theorem condK_true {a b : Prop} : condK (some (.bool true)) a b = a := by simp [condK]
theorem condK_false {a b : Prop} : condK (some (.bool false)) a b = b := by simp [condK]
theorem condK_some {t : Bool} {a b : Prop} : condK (some (.bool t)) a b = ((t = true → a) ∧ (t = false → b)) := rfl
theorem condK_congr {v v' : Option V} (h : Unit → v = v') (a b : Prop) : condK v a b = condK v' a b := by rw [h ()]
theorem wpv_congr {s s' : St} (h : Unit → s = s') (E : Env) (fn : FuncId) (lo tlo : Nat) (c : Code) (Q : Ex → St → Prop) : wpv E fn lo tlo c s Q = wpv E fn lo tlo c s' Q := by rw [h ()]
/-- The rest of a region, ahead of which the state is computed. -/
def listP (E : Env) (C : CallT) (fn : FuncId) (rg lo tlo : Nat) (ds : List Oper) (s : St) (l : List Oper) (K : St → Prop) : Prop := wpList E C fn rg lo tlo ds l s K
theorem listP_congr {s s' : St} (h : Unit → s = s') (E : Env) (C : CallT) (fn : FuncId) (rg lo tlo : Nat) (ds : List Oper) (l : List Oper) (K : St → Prop) : listP E C fn rg lo tlo ds s l K = listP E C fn rg lo tlo ds s' l K := by rw [h ()]
theorem listP_mk {E : Env} {C : CallT} {fn : FuncId} {rg lo tlo : Nat} {ds l : List Oper} {tm : List V} {bx : List Box} {tk : List (Nat × Nat)} {K : St → Prop} : listP E C fn rg lo tlo ds ⟨tm, bx, tk⟩ l K = wpList E C fn rg lo tlo ds l ⟨tm, bx, tk⟩ K := rfl
theorem wpList_cons {E : Env} {C : CallT} {fn : FuncId} {rg lo tlo : Nat} {ds : List Oper} {d : Option Nat} {op : Op} {ty : TypeId} {ps : String} {af : Array Edge} {gd : Option (Nat × Bool)} {l : List Oper} {tm : List V} {bx : List Box} {tk : List (Nat × Nat)} {K : St → Prop} :
    wpList E C fn rg lo tlo ds ({ dst := d, op := op, type := ty, pos := ps, after := af, guard := gd } :: l) ⟨tm, bx, tk⟩ K = guardK (wantV ds ⟨tm, bx, tk⟩ gd)
      (stepK (opV E fn rg lo tlo ⟨tm, bx, tk⟩ d op) (callK (calleeOf ⟨tm, bx, tk⟩ op) fun f args => C f args bx tk lo tlo fun v bx tk => locK (E.loc fn) d v (listP E C fn rg lo tlo ds (St.put ⟨tm, bx, tk⟩ d v) l K)) fun v st' => locK (E.loc fn) d v (listP E C fn rg lo tlo ds (st'.put d v) l K))
      (listP E C fn rg lo tlo ds (St.put ⟨tm, bx, tk⟩ d .undef) l K) := rfl
theorem wpList_nil {E : Env} {C : CallT} {fn : FuncId} {rg lo tlo : Nat} {ds : List Oper} {s : St} {K : St → Prop} : wpList E C fn rg lo tlo ds [] s K = K s := rfl
attribute [congr] condK_congr wpv_congr listP_congr

section lock
variable {L : Nat → Bool} {d : Option Nat} {p : Prop}
theorem lk_undef : locK L d .undef p = p := rfl
theorem lk_junk : locK L d .junk p = p := rfl
theorem lk_bool {b : Bool} : locK L d (.bool b) p = p := rfl
theorem lk_int {k : IntKind} {n : Int} : locK L d (.int k n) p = p := rfl
theorem lk_str {s : ByteArray} : locK L d (.str s) p = p := rfl
theorem lk_nilp : locK L d .nilp p = p := rfl
theorem lk_ptr {r i o : Nat} : locK L d (.ptr r i o) p = p := rfl
theorem lk_iptr {cs : List V} : locK L d (.iptr cs) p = p := rfl
theorem lk_lptr {t o : Nat} : locK L d (.lptr t o) p = p := rfl
theorem lk_nils : locK L d .nils p = p := rfl
theorem lk_sl {k : SK} {es : Nat} {rows : List (List V)} : locK L d (.sl k es rows) p = p := rfl
theorem lk_ref {r i o : Nat} : locK L d (.ref r i o) p = p := rfl
theorem lk_nilm : locK L d .nilm p = p := rfl
theorem lk_map {r : Nat} : locK L d (.map r) p = p := rfl
theorem lk_func {f : Fn} {a b : List V} : locK L d (.func f a b) p = p := rfl
theorem lk_nilf : locK L d .nilf p = p := rfl
theorem lk_iface {t : TypeId} {v : V} : locK L d (.iface t v) p = p := rfl
theorem lk_nili : locK L d .nili p = p := rfl
theorem lk_agg {cs : List V} : locK L d (.agg cs) p = p := rfl
theorem lk_tuple {cs : List V} : locK L d (.tuple cs) p = p := rfl
theorem lk_loc {cs : List V} {n : Nat} (h : L n = true) : locK L (some n) (.loc cs) p = p := by simp [locK, h]
end lock

def endP (r : Option (List V)) (bx : List Box) (tk : List (Nat × Nat)) (R : Res) : Prop :=
  match r with
  | some us => R (packV us) bx tk
  | none => False
theorem endP_some {us : List V} {bx : List Box} {tk : List (Nat × Nat)} {R : Res} : endP (some us) bx tk R = R (packV us) bx tk := rfl
def lenOne (P : Program) (st : St) (t : TypeId) : List V → Option (V × St)
  | [v] => if lenT P t = lenK v then om (lenV v) fun n => (.int .i64 n, st) else none
  | _ => none
section eval
variable {E : Env} {fn : FuncId} {rg lo tlo : Nat} {st : St} {d : Option Nat} {tm : List V} {bx : List Box} {tk : List (Nat × Nat)}
theorem nth_zero {v : V} {l : List V} : nth (v :: l) 0 = v := rfl
theorem nth_succ {v : V} {l : List V} {n : Nat} : nth (v :: l) (n + 1) = nth l n := rfl
theorem upd_zero {v u : V} {l : List V} : upd (v :: l) 0 u = u :: l := rfl
theorem upd_succ {v u : V} {l : List V} {n : Nat} : upd (v :: l) (n + 1) u = v :: upd l n u := rfl
theorem get_mk {t : Nat} : St.get ⟨tm, bx, tk⟩ t = nth tm t := rfl
theorem put_some {t : Nat} {v : V} : St.put ⟨tm, bx, tk⟩ (some t) v = ⟨upd tm t v, bx, tk⟩ := rfl
theorem put_none {v : V} : St.put ⟨tm, bx, tk⟩ none v = ⟨tm, bx, tk⟩ := rfl
theorem ev_tmp {t : Nat} : ev st (.tmp t) = (st.get t).copy := rfl
theorem ev_const {c : Value} : ev st (.const c) = zeroCell c := rfl
theorem ev_func {f : FuncId} : ev st (.func f) = some (.func (.func f) [] []) := rfl
theorem adr_tmp {t : Nat} : adr st (.tmp t) = adrV t (st.get t) := rfl
theorem evs_nil : evs st [] = some [] := rfl
theorem evs_cons {x : Operand} {xs : List Operand} : evs st (x :: xs) = ob (ev st x) fun v => om (evs st xs) (v :: ·) := rfl
theorem evParts_nil : evParts st [] = some [] := rfl
theorem evParts_cons {i : Nat} {x : Operand} {xs : List (Nat × Operand)} : evParts st ((i, x) :: xs) = ob (ev st x) fun v => om (evParts st xs) ((i, v) :: ·) := rfl
theorem V_move {x : Operand} : opV E fn rg lo tlo st d (.move x) = om (ev st x) fun v => (v, st) := rfl
theorem V_assign {x : Operand} : opV E fn rg lo tlo st d (.assign x) = om (ev st x) fun v => (v, st) := rfl
theorem V_pick {c a b : Operand} : opV E fn rg lo tlo st d (.pick c a b) = opPick st c a b := rfl
theorem V_alloc {t : TypeId} : opV E fn rg lo tlo st d (.alloc t) = opAlloc E.P st (E.loc fn) d t := rfl
theorem V_box {t : TypeId} {x : Operand} : opV E fn rg lo tlo st d (.box t x) = opBox E.P st (E.loc fn) d t x := rfl
theorem V_load {t : TypeId} {a : Operand} : opV E fn rg lo tlo st d (.load t a) = opLoad E.P st t a := rfl
theorem V_store {t : TypeId} {a x : Operand} : opV E fn rg lo tlo st d (.store t a x) = opStore E.P st lo t a x := rfl
theorem V_nil {t : Nat} : opV E fn rg lo tlo st d (.nilCheck (.tmp t)) = om (nilV t (st.get t)) fun v => (v, st) := rfl
theorem V_bin {op : BinOp} {t t' : TypeId} {x y : Operand} : opV E fn rg lo tlo st d (.binOp op t x y t') = opBin E.P st op t x y := rfl
theorem V_un {op : UnOp} {t : TypeId} {x : Operand} : opV E fn rg lo tlo st d (.unOp op t x) = opUn st op x := rfl
theorem V_conv {s t : TypeId} {x : Operand} : opV E fn rg lo tlo st d (.convert s t x) = opConv E.P st s t x := rfl
theorem V_build {t : TypeId} {ps : List (Nat × Operand)} : opV E fn rg lo tlo st d (.build t ps.toArray) = opBuild E.P st t ps := rfl
theorem V_lit {t : TypeId} {n : Nat} {ps : List (Nat × Operand)} : opV E fn rg lo tlo st d (.buildSlice t n ps.toArray) = opLit E.P st (E.boxLit fn rg) t n ps := rfl
theorem V_func {f : Fn} {a b : List Operand} : opV E fn rg lo tlo st d (.makeFunc f a.toArray b.toArray) = opFunc st f a b := rfl
theorem V_iface {t : TypeId} {x : Operand} : opV E fn rg lo tlo st d (.makeInterface t x) = opIface E.P st t x := rfl
theorem V_extract {x : Operand} {i : Nat} : opV E fn rg lo tlo st d (.extract x i) = opExtract st x i := rfl
theorem V_fieldAddr {s : TypeId} {x : Operand} {f : Nat} : opV E fn rg lo tlo st d (.fieldAddr s x f) = opFieldAddr E.P st s x f := rfl
theorem V_field {s : TypeId} {x : Operand} {f : Nat} : opV E fn rg lo tlo st d (.field s x f) = opField E.P st s x f := rfl
theorem V_indexAddr {t : TypeId} {x i : Operand} : opV E fn rg lo tlo st d (.indexAddr t x i) = opIndexAddr E.P st t x i := rfl
theorem V_index {t : TypeId} {x i : Operand} : opV E fn rg lo tlo st d (.index t x i) = opIndex E.P st t x i := rfl
theorem V_slice {t : TypeId} {x : Operand} {l h : Option Operand} : opV E fn rg lo tlo st d (.slice t x l h none) = opSlice E.P st t x l h := rfl
theorem V_len {xs : List Operand} {ts : List TypeId} : opV E fn rg lo tlo st d (.call { callee := .builtin .len, args := xs.toArray, argTypes := ts.toArray }) = opLen E.P st ts xs := rfl
theorem len_one {P : Program} {st : St} {t : TypeId} {xs : List Operand} : opLen P st [t] xs = ob (evs st xs) fun vs => lenOne P st t vs := by
  simp only [opLen]
  cases evs st xs with
  | none => rfl
  | some vs => match vs with
    | [] => rfl
    | [v] => rfl
    | _ :: _ :: _ => rfl
theorem lenOne_ok {P : Program} {st : St} {t : TypeId} {v : V} (h : lenT P t = lenK v) : lenOne P st t [v] = om (lenV v) fun n => (.int .i64 n, st) := if_pos h
theorem opSlice_ok {P : Program} {st : St} {t : TypeId} {x : Operand} {l h : Option Operand} : opSlice P st t x l h = ob (elemSz P t) fun e => ob (ev st x) fun v => ob (lenV v) fun n => ob (bound st 0 l) fun a => ob (bound st n h) fun b => if lenT P t = lenK v then om (sliceV st e v a b h.isNone) fun r => (r, st) else none := rfl
theorem V_max {xs : List Operand} {ts : Array TypeId} : opV E fn rg lo tlo st d (.call { callee := .builtin .max, args := xs.toArray, argTypes := ts }) = opMax st xs := rfl
theorem V_min {xs : List Operand} {ts : Array TypeId} : opV E fn rg lo tlo st d (.call { callee := .builtin .min, args := xs.toArray, argTypes := ts }) = opMin st xs := rfl
theorem V_append {xs : List Operand} {ts : List TypeId} : opV E fn rg lo tlo st d (.call { callee := .builtin .append, args := xs.toArray, argTypes := ts.toArray }) = opAppend E.P st lo tlo (E.refApp fn rg) ts xs := rfl
theorem V_call {f : Operand} {xs ts} : opV E fn rg lo tlo st d (.call { callee := .value f, args := xs, argTypes := ts }) = none := rfl
theorem calleeOf_value {f : Operand} {xs : List Operand} {ts} : calleeOf st (.call { callee := .value f, args := xs.toArray, argTypes := ts }) = callee st f xs := rfl
theorem copy_undef : V.copy .undef = some .undef := rfl
theorem copy_bool {b : Bool} : V.copy (.bool b) = some (.bool b) := rfl
theorem copy_int {k : IntKind} {n : Int} : V.copy (.int k n) = some (.int k n) := rfl
theorem copy_str {s : ByteArray} : V.copy (.str s) = some (.str s) := rfl
theorem copy_nilp : V.copy .nilp = some .nilp := rfl
theorem copy_ptr {r i o : Nat} : V.copy (.ptr r i o) = some (.ptr r i o) := rfl
theorem copy_iptr {cs : List V} : V.copy (.iptr cs) = some (.iptr cs) := rfl
theorem copy_nils : V.copy .nils = some .nils := rfl
theorem copy_sl {k : SK} {e : Nat} {rs : List (List V)} : V.copy (.sl k e rs) = some (.sl k e rs) := rfl
theorem copy_ref {r o n : Nat} : V.copy (.ref r o n) = some (.ref r o n) := rfl
theorem copy_nilm : V.copy .nilm = some .nilm := rfl
theorem copy_map {r : Nat} : V.copy (.map r) = some (.map r) := rfl
theorem copy_func {f : Fn} {a b : List V} : V.copy (.func f a b) = some (.func f a b) := rfl
theorem copy_nilf : V.copy .nilf = some .nilf := rfl
theorem copy_iface {t : TypeId} {v : V} : V.copy (.iface t v) = some (.iface t v) := rfl
theorem copy_nili : V.copy .nili = some .nili := rfl
theorem copy_agg {cs : List V} : V.copy (.agg cs) = some (.agg cs) := rfl
theorem copy_tuple {cs : List V} : V.copy (.tuple cs) = some (.tuple cs) := rfl
theorem zc_bool {b : Bool} : zeroCell (.bool b) = some (.bool b) := rfl
theorem zc_int {k : IntKind} {n : Int} : zeroCell (.int k n) = some (.int k n) := rfl
theorem zc_str {s : ByteArray} : zeroCell (.string s) = some (.str s) := rfl
theorem zc_ptr : zeroCell (.pointer none) = some .nilp := rfl
theorem zc_sl : zeroCell (.slice none 0 0) = some .nils := rfl
theorem zc_map : zeroCell (.map none) = some .nilm := rfl
theorem zc_f : zeroCell .nilFunc = some .nilf := rfl
theorem zc_i : zeroCell .nilIface = some .nili := rfl
theorem adrV_ptr {t r i o : Nat} : adrV t (.ptr r i o) = some (.box r i o) := rfl
theorem adrV_iptr {t : Nat} {cs : List V} : adrV t (.iptr cs) = some (.imm cs) := rfl
theorem adrV_loc {t : Nat} {cs : List V} : adrV t (.loc cs) = some (.loc t 0) := rfl
theorem adrV_lptr {t u o : Nat} : adrV t (.lptr u o) = some (.loc u o) := rfl
theorem nilV_ptr {t r i o : Nat} : nilV t (.ptr r i o) = some (.ptr r i o) := rfl
theorem nilV_iptr {t : Nat} {cs : List V} : nilV t (.iptr cs) = some (.iptr cs) := rfl
theorem nilV_loc {t : Nat} {cs : List V} : nilV t (.loc cs) = some (.lptr t 0) := rfl
theorem nilV_lptr {t u o : Nat} : nilV t (.lptr u o) = some (.lptr u o) := rfl
theorem nilV_func {t : Nat} {f : FuncId} {a b : List V} : nilV t (.func (.func f) a b) = some (.func (.func f) a b) := rfl
theorem rowsIn_rows {es : Nat} {rs : List (List V)} : rowsIn (some (.rows es rs)) = some rs := rfl
theorem boxIn_rows {es : Nat} {rs : List (List V)} : boxIn (some (.rows es rs)) = some (es, rs) := rfl
theorem locCells_loc {cs : List V} : locCells (.loc cs) = some cs := rfl
theorem isTrue_bool {b w : Bool} : isTrue (.bool b) w = some (b == w) := rfl
theorem isTrue_undef {w : Bool} : isTrue .undef w = some false := rfl
theorem cellsAt_box {st : St} {r i o n : Nat} : cellsAt st (.box r i o) n = ob (rowAt st r i) fun row => cut row o n := rfl
theorem cellsAt_imm {st : St} {cs : List V} {n : Nat} : cellsAt st (.imm cs) n = cut cs 0 n := rfl
theorem cellsAt_loc {st : St} {t o n : Nat} : cellsAt st (.loc t o) n = ob (locCells (st.get t)) fun cs => cut cs o n := rfl
theorem rowAt_mk {tm : List V} {bx : List Box} {tk : List (Nat × Nat)} {r i : Nat} : rowAt ⟨tm, bx, tk⟩ r i = ob (rowsIn bx[r]?) fun rs => rs[i]? := rfl
theorem cut_ok {cs : List V} {o n : Nat} (h : o + n ≤ cs.length) : cut cs o n = some ((cs.drop o).take n) := if_pos h
theorem mkV_true {cs : List V} : mkV true cs = some (.agg cs) := rfl
theorem mkV_false {v : V} : mkV false [v] = some v := rfl
theorem cellsOf_true {n : Nat} {cs : List V} (h : cs.length = n) : cellsOf true n (.agg cs) = some cs := if_pos h
theorem cellsOf_bool {b : Bool} : cellsOf false 1 (.bool b) = some [(.bool b)] := rfl
theorem cellsOf_int {k : IntKind} {n : Int} : cellsOf false 1 (.int k n) = some [(.int k n)] := rfl
theorem cellsOf_str {s : ByteArray} : cellsOf false 1 (.str s) = some [(.str s)] := rfl
theorem cellsOf_nilp  : cellsOf false 1 .nilp = some [.nilp] := rfl
theorem cellsOf_ptr {r i o : Nat} : cellsOf false 1 (.ptr r i o) = some [(.ptr r i o)] := rfl
theorem cellsOf_iptr {cs : List V} : cellsOf false 1 (.iptr cs) = some [(.iptr cs)] := rfl
theorem cellsOf_nils  : cellsOf false 1 .nils = some [.nils] := rfl
theorem cellsOf_sl {k : SK} {e : Nat} {rs : List (List V)} : cellsOf false 1 (.sl k e rs) = some [(.sl k e rs)] := rfl
theorem cellsOf_ref {r o n : Nat} : cellsOf false 1 (.ref r o n) = some [(.ref r o n)] := rfl
theorem cellsOf_nilm  : cellsOf false 1 .nilm = some [.nilm] := rfl
theorem cellsOf_map {r : Nat} : cellsOf false 1 (.map r) = some [(.map r)] := rfl
theorem cellsOf_func {f : Fn} {a b : List V} : cellsOf false 1 (.func f a b) = some [(.func f a b)] := rfl
theorem cellsOf_nilf  : cellsOf false 1 .nilf = some [.nilf] := rfl
theorem cellsOf_iface {t : TypeId} {v : V} : cellsOf false 1 (.iface t v) = some [(.iface t v)] := rfl
theorem cellsOf_nili  : cellsOf false 1 .nili = some [.nili] := rfl
theorem storeAt_box {tm : List V} {bx : List Box} {tk : List (Nat × Nat)} {lo r i o : Nat} {vs : List V} : storeAt ⟨tm, bx, tk⟩ lo (.box r i o) vs = ob (boxIn bx[r]?) fun p => ob p.2[i]? fun row => if lo ≤ r ∧ o + vs.length ≤ row.length then some ⟨tm, bx.set r (.rows p.1 (p.2.set i (setAt row o vs))), tk⟩ else none := rfl
theorem storeAt_loc {tm : List V} {bx : List Box} {tk : List (Nat × Nat)} {lo t o : Nat} {vs : List V} : storeAt ⟨tm, bx, tk⟩ lo (.loc t o) vs = ob (locCells (nth tm t)) fun cs => if o + vs.length ≤ cs.length then some ⟨upd tm t (.loc (setAt cs o vs)), bx, tk⟩ else none := rfl
theorem bin_add {P : Program} {t : TypeId} {k : IntKind} {a b : Int} : binAny P .add t (.int k a) (.int k b) = some (.int k (k.wrap (a + b))) := by simp [binAny, binV, binInt]
theorem bin_sub {P : Program} {t : TypeId} {k : IntKind} {a b : Int} : binAny P .sub t (.int k a) (.int k b) = some (.int k (k.wrap (a - b))) := by simp [binAny, binV, binInt]
theorem bin_mul {P : Program} {t : TypeId} {k : IntKind} {a b : Int} : binAny P .mul t (.int k a) (.int k b) = some (.int k (k.wrap (a * b))) := by simp [binAny, binV, binInt]
theorem bin_quo {P : Program} {t : TypeId} {k : IntKind} {a b : Int} : binAny P .quo t (.int k a) (.int k b) = (if b = 0 then none else some (.int k (k.wrap (a.tdiv b)))) := by simp [binAny, binV, binInt]
theorem bin_rem {P : Program} {t : TypeId} {k : IntKind} {a b : Int} : binAny P .rem t (.int k a) (.int k b) = (if b = 0 then none else some (.int k (a.tmod b))) := by simp [binAny, binV, binInt]
theorem bin_eql {P : Program} {t : TypeId} {k : IntKind} {a b : Int} : binAny P .eql t (.int k a) (.int k b) = some (.bool (eqI a b)) := by simp [binAny, binV, binInt]
theorem bin_neq {P : Program} {t : TypeId} {k : IntKind} {a b : Int} : binAny P .neq t (.int k a) (.int k b) = some (.bool (!eqI a b)) := by simp [binAny, binV, binInt]
theorem bin_lss {P : Program} {t : TypeId} {k : IntKind} {a b : Int} : binAny P .lss t (.int k a) (.int k b) = some (.bool (ltI a b)) := by simp [binAny, binV, binInt]
theorem bin_leq {P : Program} {t : TypeId} {k : IntKind} {a b : Int} : binAny P .leq t (.int k a) (.int k b) = some (.bool (leI a b)) := by simp [binAny, binV, binInt]
theorem bin_gtr {P : Program} {t : TypeId} {k : IntKind} {a b : Int} : binAny P .gtr t (.int k a) (.int k b) = some (.bool (ltI b a)) := by simp [binAny, binV, binInt]
theorem bin_geq {P : Program} {t : TypeId} {k : IntKind} {a b : Int} : binAny P .geq t (.int k a) (.int k b) = some (.bool (leI b a)) := by simp [binAny, binV, binInt]
theorem bin_shl {P : Program} {t : TypeId} {k k' : IntKind} {a b : Int} : binAny P .shl t (.int k a) (.int k' b) = (if b < 0 then none else some (.int k (k.wrap (a * 2 ^ (min b.toNat k.bits))))) := by simp [binAny, binV, binShift]
theorem bin_shr {P : Program} {t : TypeId} {k k' : IntKind} {a b : Int} : binAny P .shr t (.int k a) (.int k' b) = (if b < 0 then none else some (.int k (a.fdiv (2 ^ (min b.toNat k.bits))))) := by simp [binAny, binV, binShift]
theorem bin_str {P : Program} {op : BinOp} {t : TypeId} {a b : ByteArray} : binAny P op t (.str a) (.str b) = binStr op a b := rfl
theorem bin_beq {P : Program} {t : TypeId} {a b : Bool} (h : kindOf P t = 1) : binAny P .eql t (.bool a) (.bool b) = some (.bool (eqB a b)) := by simp [binAny, h, eqKind, binEq, eqCell, om]
theorem bin_bne {P : Program} {t : TypeId} {a b : Bool} (h : kindOf P t = 1) : binAny P .neq t (.bool a) (.bool b) = some (.bool (!eqB a b)) := by simp [binAny, h, eqKind, binEq, eqCell, om]
theorem bin_agg {P : Program} {op : BinOp} {t : TypeId} {as bs : List V} {ks : List Nat} (h1 : aggEq P t = some ks) (ha : as.map kindC = ks) (hb : bs.map kindC = ks) : binAny P op t (.agg as) (.agg bs) = binAgg op as bs := by simp [binAny, h1, ha, hb]
theorem bin_eq_nilp_nilp {P : Program} {t : TypeId} (h : kindOf P t = 2) : binAny P .eql t .nilp .nilp = some (.bool true) := by simp [binAny, h, eqKind, binEq, eqCell, om]
theorem bin_ne_nilp_nilp {P : Program} {t : TypeId} (h : kindOf P t = 2) : binAny P .neq t .nilp .nilp = some (.bool false) := by simp [binAny, h, eqKind, binEq, eqCell, om]
theorem bin_eq_nils_nils {P : Program} {t : TypeId} (h : kindOf P t = 3) : binAny P .eql t .nils .nils = some (.bool true) := by simp [binAny, h, eqKind, binEq, eqCell, om]
theorem bin_ne_nils_nils {P : Program} {t : TypeId} (h : kindOf P t = 3) : binAny P .neq t .nils .nils = some (.bool false) := by simp [binAny, h, eqKind, binEq, eqCell, om]
theorem bin_eq_nilm_nilm {P : Program} {t : TypeId} (h : kindOf P t = 4) : binAny P .eql t .nilm .nilm = some (.bool true) := by simp [binAny, h, eqKind, binEq, eqCell, om]
theorem bin_ne_nilm_nilm {P : Program} {t : TypeId} (h : kindOf P t = 4) : binAny P .neq t .nilm .nilm = some (.bool false) := by simp [binAny, h, eqKind, binEq, eqCell, om]
theorem bin_eq_nilf_nilf {P : Program} {t : TypeId} (h : kindOf P t = 5) : binAny P .eql t .nilf .nilf = some (.bool true) := by simp [binAny, h, eqKind, binEq, eqCell, om]
theorem bin_ne_nilf_nilf {P : Program} {t : TypeId} (h : kindOf P t = 5) : binAny P .neq t .nilf .nilf = some (.bool false) := by simp [binAny, h, eqKind, binEq, eqCell, om]
theorem bin_eql_ptr {P : Program} {t : TypeId} {r i o : Nat} (h : kindOf P t = 2) : binAny P .eql t (.ptr r i o) .nilp = some (.bool false) := by simp [binAny, h, eqKind, binEq, eqCell, om]
theorem bin_eql_ptr' {P : Program} {t : TypeId} {r i o : Nat} (h : kindOf P t = 2) : binAny P .eql t .nilp (.ptr r i o) = some (.bool false) := by simp [binAny, h, eqKind, binEq, eqCell, om]
theorem bin_neq_ptr {P : Program} {t : TypeId} {r i o : Nat} (h : kindOf P t = 2) : binAny P .neq t (.ptr r i o) .nilp = some (.bool true) := by simp [binAny, h, eqKind, binEq, eqCell, om]
theorem bin_neq_ptr' {P : Program} {t : TypeId} {r i o : Nat} (h : kindOf P t = 2) : binAny P .neq t .nilp (.ptr r i o) = some (.bool true) := by simp [binAny, h, eqKind, binEq, eqCell, om]
theorem bin_eql_map {P : Program} {t : TypeId} {r : Nat} (h : kindOf P t = 4) : binAny P .eql t (.map r) .nilm = some (.bool false) := by simp [binAny, h, eqKind, binEq, eqCell, om]
theorem bin_eql_map' {P : Program} {t : TypeId} {r : Nat} (h : kindOf P t = 4) : binAny P .eql t .nilm (.map r) = some (.bool false) := by simp [binAny, h, eqKind, binEq, eqCell, om]
theorem bin_neq_map {P : Program} {t : TypeId} {r : Nat} (h : kindOf P t = 4) : binAny P .neq t (.map r) .nilm = some (.bool true) := by simp [binAny, h, eqKind, binEq, eqCell, om]
theorem bin_neq_map' {P : Program} {t : TypeId} {r : Nat} (h : kindOf P t = 4) : binAny P .neq t .nilm (.map r) = some (.bool true) := by simp [binAny, h, eqKind, binEq, eqCell, om]
theorem bin_eql_func {P : Program} {t : TypeId} {f : Fn} {a b : List V} (h : kindOf P t = 5) : binAny P .eql t (.func f a b) .nilf = some (.bool false) := by simp [binAny, h, eqKind, binEq, eqCell, om]
theorem bin_eql_func' {P : Program} {t : TypeId} {f : Fn} {a b : List V} (h : kindOf P t = 5) : binAny P .eql t .nilf (.func f a b) = some (.bool false) := by simp [binAny, h, eqKind, binEq, eqCell, om]
theorem bin_neq_func {P : Program} {t : TypeId} {f : Fn} {a b : List V} (h : kindOf P t = 5) : binAny P .neq t (.func f a b) .nilf = some (.bool true) := by simp [binAny, h, eqKind, binEq, eqCell, om]
theorem bin_neq_func' {P : Program} {t : TypeId} {f : Fn} {a b : List V} (h : kindOf P t = 5) : binAny P .neq t .nilf (.func f a b) = some (.bool true) := by simp [binAny, h, eqKind, binEq, eqCell, om]
theorem bin_eql_iface {P : Program} {t : TypeId} {u : TypeId} {v : V} (h : kindOf P t = 6) : binAny P .eql t (.iface u v) .nili = some (.bool false) := by simp [binAny, h, eqKind, binEq, eqCell, om]
theorem bin_eql_iface' {P : Program} {t : TypeId} {u : TypeId} {v : V} (h : kindOf P t = 6) : binAny P .eql t .nili (.iface u v) = some (.bool false) := by simp [binAny, h, eqKind, binEq, eqCell, om]
theorem bin_neq_iface {P : Program} {t : TypeId} {u : TypeId} {v : V} (h : kindOf P t = 6) : binAny P .neq t (.iface u v) .nili = some (.bool true) := by simp [binAny, h, eqKind, binEq, eqCell, om]
theorem bin_neq_iface' {P : Program} {t : TypeId} {u : TypeId} {v : V} (h : kindOf P t = 6) : binAny P .neq t .nili (.iface u v) = some (.bool true) := by simp [binAny, h, eqKind, binEq, eqCell, om]
theorem binAgg_eql {as bs : List V} : binAgg .eql as bs = om (eqCells as bs) .bool := rfl
theorem binAgg_neq {as bs : List V} : binAgg .neq as bs = om (eqCells as bs) fun b => .bool (!b) := rfl
theorem eqCells_nil : eqCells [] [] = some true := rfl
theorem eqCells_int {k : IntKind} {a b : Int} {as bs : List V} : eqCells (.int k a :: as) (.int k b :: bs) = om (eqCells as bs) fun r => eqI a b && r := by simp [eqCells, eqCell, ob, om]
theorem eqCells_bool {a b : Bool} {as bs : List V} : eqCells (.bool a :: as) (.bool b :: bs) = om (eqCells as bs) fun r => eqB a b && r := by simp [eqCells, eqCell, ob, om]
theorem eqCells_str {a b : ByteArray} {as bs : List V} : eqCells (.str a :: as) (.str b :: bs) = om (eqCells as bs) fun r => eqS a b && r := by simp [eqCells, eqCell, ob, om]
theorem un_neg {k : IntKind} {n : Int} : unV .neg (.int k n) = some (.int k (k.wrap (0 - n))) := rfl
theorem un_not {b : Bool} : unV .not (.bool b) = some (.bool (!b)) := rfl
theorem asNat_ok {k : IntKind} {n : Int} (h : 0 ≤ n) : asNat (.int k n) = some n.toNat := if_pos h
theorem asNat_cast {k : IntKind} {n : Nat} : asNat (.int k (n : Int)) = some n := by simp [asNat]
theorem lenK_str {s : ByteArray} : lenK (.str s) = 1 := rfl
theorem lenK_sl {k : SK} {e : Nat} {rs : List (List V)} : lenK (.sl k e rs) = 2 := rfl
theorem lenK_nils : lenK .nils = 2 := rfl
theorem lenK_ref {r o n : Nat} : lenK (.ref r o n) = 2 := rfl
theorem lenV_str {s : ByteArray} : lenV (.str s) = some s.size := rfl
theorem lenV_sl {k : SK} {e : Nat} {rs : List (List V)} : lenV (.sl k e rs) = some rs.length := rfl
theorem lenV_nils : lenV .nils = some 0 := rfl
theorem lenV_ref {r o n : Nat} : lenV (.ref r o n) = some n := rfl
theorem bound_none {st : St} {d : Nat} : bound st d none = some d := rfl
theorem bound_some {st : St} {d : Nat} {x : Operand} : bound st d (some x) = ob (ev st x) asNat := rfl
theorem rows_nils {st : St} : rowsOf st .nils = some [] := rfl
theorem rows_sl {st : St} {k : SK} {e : Nat} {rs : List (List V)} : rowsOf st (.sl k e rs) = some rs := rfl
theorem rows_ref {tm : List V} {bx : List Box} {tk : List (Nat × Nat)} {r o n : Nat} : rowsOf ⟨tm, bx, tk⟩ (.ref r o n) = ob (rowsIn bx[r]?) fun rs => if o + n ≤ rs.length then some ((rs.drop o).take n) else none := rfl
theorem Ad_add_box {r i o n : Nat} : Ad.add (.box r i o) n = .box r i (o + n) := rfl
theorem Ad_add_imm {cs : List V} {n : Nat} : Ad.add (.imm cs) n = .imm (cs.drop n) := rfl
theorem Ad_add_loc {t o n : Nat} : Ad.add (.loc t o) n = .loc t (o + n) := rfl
theorem Ad_val_box {r i o : Nat} : Ad.val (.box r i o) = .ptr r i o := rfl
theorem Ad_val_imm {cs : List V} : Ad.val (.imm cs) = .iptr cs := rfl
theorem Ad_val_loc {t o : Nat} : Ad.val (.loc t o) = .lptr t o := rfl
theorem elem_sl {st : St} {n j e : Nat} {k : SK} {rs : List (List V)} : elemAddr st n j (.sl k e rs) = ob rs[j]? fun row => if e = n ∧ 0 < n then some (.iptr row, st) else none := rfl
theorem elem_ref {tm : List V} {bx : List Box} {tk : List (Nat × Nat)} {n j r o len : Nat} : elemAddr ⟨tm, bx, tk⟩ n j (.ref r o len) = ob (boxIn bx[r]?) fun p => if j < len ∧ p.1 = n ∧ 0 < n then some (.ptr r (o + j) 0, ⟨tm, bx, tk⟩) else none := rfl
theorem indexAddr_sl {P : Program} {st : St} {t e : TypeId} {x i : Operand} (h : elemIn P t = some e) : opIndexAddr P st t x i = ob (ev st i) fun iv => ob (asNat iv) fun j => ob (szOf P e) fun n => ob (ev st x) fun v => elemAddr st n j v := by simp [opIndexAddr, h]
theorem indexAddr_arr {P : Program} {st : St} {t : TypeId} {x i : Operand} (h : elemIn P t = none) : opIndexAddr P st t x i = ob (ev st i) fun iv => ob (asNat iv) fun j => ob (arrIn P t) fun q => ob (szOf P q.2) fun m => ob (adr st x) fun a => if j < q.1 ∧ 0 < m then some ((a.add (j * m)).val, st) else none := by simp [opIndexAddr, h]
theorem cutSk_full : cutSk .full true = .full := rfl
theorem cutSk_full' : cutSk .full false = .frozen := rfl
theorem cutSk_frozen {b : Bool} : cutSk .frozen b = .frozen := by cases b <;> rfl
theorem cutSk_tok {i : Nat} {b : Bool} : cutSk (.tok i) b = .frozen := by cases b <;> rfl
theorem slice_sl {st : St} {n : Nat} {k : SK} {e : Nat} {rs : List (List V)} {l h : Nat} {w : Bool} : sliceV st n (.sl k e rs) l h w = if e = n ∧ l ≤ h ∧ h ≤ rs.length then some (.sl (cutSk k w) e ((rs.take h).drop l)) else none := rfl
theorem slice_str {st : St} {n : Nat} {s : ByteArray} {l h : Nat} {w : Bool} : sliceV st n (.str s) l h w = if l ≤ h ∧ h ≤ s.size then some (.str (s.extract l h)) else none := rfl
theorem slice_nils {st : St} {n : Nat} {l h : Nat} {w : Bool} : sliceV st n .nils l h w = if l = 0 ∧ h = 0 then some .nils else none := rfl
theorem slice_ref {tm : List V} {bx : List Box} {tk : List (Nat × Nat)} {n : Nat} {r o m l h : Nat} {w : Bool} : sliceV ⟨tm, bx, tk⟩ n (.ref r o m) l h w = ob (boxIn bx[r]?) fun p => if p.1 = n ∧ l ≤ h ∧ h ≤ m then some (.ref r (o + l) (h - l)) else none := rfl
theorem append_nils {st : St} {lo tlo es : Nat} {b : Bool} {news : List (List V)} : appendV st lo tlo es b .nils news = newRows st es b [] news := rfl
theorem append_full {st : St} {lo tlo es : Nat} {b : Bool} {rows news : List (List V)} : appendV st lo tlo es b (.sl .full es rows) news = newRows st es b rows news := by simp [appendV]
theorem append_tok {tm : List V} {bx : List Box} {tk : List (Nat × Nat)} {lo tlo es id : Nat} {b : Bool} {rows news : List (List V)} : appendV ⟨tm, bx, tk⟩ lo tlo es b (.sl (.tok id) es rows) news = ob tk[id]? fun q => if tlo ≤ id ∧ q.1 = es ∧ q.2 = rows.length ∧ pureRows news = true then some (.sl (.tok id) es (rows ++ news), ⟨tm, bx, tk.set id (es, (rows ++ news).length)⟩) else none := by simp [appendV]
theorem append_ref {tm : List V} {bx : List Box} {tk : List (Nat × Nat)} {lo tlo es r o n : Nat} {news : List (List V)} : appendV ⟨tm, bx, tk⟩ lo tlo es true (.ref r o n) news = ob (boxIn bx[r]?) fun p => if lo ≤ r ∧ p.1 = es ∧ o = 0 ∧ n = p.2.length then some (.ref bx.length 0 (p.2 ++ news).length, ⟨tm, bx.set r .dead ++ [.rows es (p.2 ++ news)], tk⟩) else none := by simp [appendV]
theorem newRows_tok {tm : List V} {bx : List Box} {tk : List (Nat × Nat)} {es : Nat} {rows news : List (List V)} (h : pureRows news = true) : newRows ⟨tm, bx, tk⟩ es false rows news = some (.sl (.tok tk.length) es (rows ++ news), ⟨tm, bx, tk ++ [(es, (rows ++ news).length)]⟩) := by simp [newRows, h]
theorem newRows_ref {tm : List V} {bx : List Box} {tk : List (Nat × Nat)} {es : Nat} {rows news : List (List V)} (h : news.length ≠ 0) : newRows ⟨tm, bx, tk⟩ es true rows news = some (.ref bx.length 0 (rows ++ news).length, ⟨tm, bx ++ [.rows es (rows ++ news)], tk⟩) := by simp [newRows, h]
theorem alloc_box {tm : List V} {bx : List Box} {tk : List (Nat × Nat)} {d : Nat} {cs : List V} : allocV ⟨tm, bx, tk⟩ false d cs = some (.ptr bx.length 0 0, ⟨tm, bx ++ [.rows cs.length [cs]], tk⟩) := rfl
theorem alloc_loc {tm : List V} {bx : List Box} {tk : List (Nat × Nat)} {d : Nat} {cs : List V} : allocV ⟨tm, bx, tk⟩ true d cs = some (.loc cs, ⟨tm.map (clearL d), bx, tk⟩) := rfl
theorem max_1 {k : IntKind} {a : Int} : maxV [.int k a] = some (.int k a) := rfl
theorem max_2 {k : IntKind} {a b : Int} : maxV [.int k a, .int k b] = some (.int k (if b > a then b else a)) := by simp [maxV]
theorem min_2 {k : IntKind} {a b : Int} : minV [.int k a, .int k b] = some (.int k (if b < a then b else a)) := by simp [minV]
theorem max_3 {k : IntKind} {a b c : Int} : maxV [.int k a, .int k b, .int k c] = some (.int k (if c > (if b > a then b else a) then c else (if b > a then b else a))) := by simp [maxV]
theorem min_3 {k : IntKind} {a b c : Int} : minV [.int k a, .int k b, .int k c] = some (.int k (if c < (if b < a then b else a) then c else (if b < a then b else a))) := by simp [minV]
theorem res_nil {P : Program} {st : St} : resAll P st [] = some [] := rfl
theorem res_tmp {P : Program} {st : St} {t : Nat} {rs : List ResultVar} : resAll P st (.tmp t :: rs) = ob (st.get t).copy fun v => om (resAll P st rs) (v :: ·) := rfl
theorem res_cell {P : Program} {st : St} {t a : Nat} {rs : List ResultVar} : resAll P st (.cell a t :: rs) = ob (resOne P st (.cell a t)) fun v => om (resAll P st rs) (v :: ·) := rfl
theorem res_one {P : Program} {st : St} {t a : Nat} : resOne P st (.cell a t) = ob (szOf P t) fun n => ob (aggT P t) fun g => ob (adr st (.tmp a)) fun ad => ob (cellsAt st ad n) fun cs => mkV g cs := rfl
theorem fz_nil {st : St} {lo tlo : Nat} : freezeVs st lo tlo [] = some [] := rfl
theorem fz_cons {st : St} {lo tlo : Nat} {v : V} {vs : List V} : freezeVs st lo tlo (v :: vs) = ob (freezeV st lo tlo v) fun x => om (freezeVs st lo tlo vs) (x :: ·) := rfl
theorem fz_agg {st : St} {lo tlo : Nat} {cs : List V} : freezeV st lo tlo (.agg cs) = om (freezeCells st lo tlo cs) .agg := rfl
theorem fzc_nil {st : St} {lo tlo : Nat} : freezeCells st lo tlo [] = some [] := rfl
theorem fzc_cons {st : St} {lo tlo : Nat} {v : V} {vs : List V} : freezeCells st lo tlo (v :: vs) = ob (freezeCell st lo tlo v) fun x => om (freezeCells st lo tlo vs) (x :: ·) := rfl
theorem fzc_bool {st : St} {lo tlo : Nat} {b : Bool} : freezeCell st lo tlo (.bool b) = some (.bool b) := rfl
theorem fz_bool {st : St} {lo tlo : Nat} {b : Bool} : freezeV st lo tlo (.bool b) = some (.bool b) := rfl
theorem fzc_int {st : St} {lo tlo : Nat} {k : IntKind} {n : Int} : freezeCell st lo tlo (.int k n) = some (.int k n) := rfl
theorem fz_int {st : St} {lo tlo : Nat} {k : IntKind} {n : Int} : freezeV st lo tlo (.int k n) = some (.int k n) := rfl
theorem fzc_str {st : St} {lo tlo : Nat} {s : ByteArray} : freezeCell st lo tlo (.str s) = some (.str s) := rfl
theorem fz_str {st : St} {lo tlo : Nat} {s : ByteArray} : freezeV st lo tlo (.str s) = some (.str s) := rfl
theorem fzc_nilp {st : St} {lo tlo : Nat}  : freezeCell st lo tlo (.nilp) = some (.nilp) := rfl
theorem fz_nilp {st : St} {lo tlo : Nat}  : freezeV st lo tlo (.nilp) = some (.nilp) := rfl
theorem fzc_nils {st : St} {lo tlo : Nat}  : freezeCell st lo tlo (.nils) = some (.nils) := rfl
theorem fz_nils {st : St} {lo tlo : Nat}  : freezeV st lo tlo (.nils) = some (.nils) := rfl
theorem fzc_frozen {st : St} {lo tlo e : Nat} {rs : List (List V)} : freezeCell st lo tlo (.sl .frozen e rs) = some (.sl .frozen e rs) := rfl
theorem fz_frozen {st : St} {lo tlo e : Nat} {rs : List (List V)} : freezeV st lo tlo (.sl .frozen e rs) = some (.sl .frozen e rs) := rfl
theorem fzc_full {st : St} {lo tlo e : Nat} {rs : List (List V)} : freezeCell st lo tlo (.sl .full e rs) = some (.sl .full e rs) := rfl
theorem fz_full {st : St} {lo tlo e : Nat} {rs : List (List V)} : freezeV st lo tlo (.sl .full e rs) = some (.sl .full e rs) := rfl
theorem fzc_nilm {st : St} {lo tlo : Nat}  : freezeCell st lo tlo (.nilm) = some (.nilm) := rfl
theorem fz_nilm {st : St} {lo tlo : Nat}  : freezeV st lo tlo (.nilm) = some (.nilm) := rfl
theorem fzc_nilf {st : St} {lo tlo : Nat}  : freezeCell st lo tlo (.nilf) = some (.nilf) := rfl
theorem fz_nilf {st : St} {lo tlo : Nat}  : freezeV st lo tlo (.nilf) = some (.nilf) := rfl
theorem fzc_nili {st : St} {lo tlo : Nat}  : freezeCell st lo tlo (.nili) = some (.nili) := rfl
theorem fz_nili {st : St} {lo tlo : Nat}  : freezeV st lo tlo (.nili) = some (.nili) := rfl
theorem fzc_func {st : St} {lo tlo : Nat} {f : Fn} : freezeCell st lo tlo (.func f [] []) = some (.func f [] []) := rfl
theorem fz_func {st : St} {lo tlo : Nat} {f : Fn} : freezeV st lo tlo (.func f [] []) = some (.func f [] []) := rfl
theorem fzc_tok {st : St} {lo tlo id e : Nat} {rs : List (List V)} (h : tlo ≤ id) : freezeCell st lo tlo (.sl (.tok id) e rs) = some (.sl .frozen e rs) := by simp [freezeV, freezeCell, Nat.not_lt.2 h]
theorem fz_tok {st : St} {lo tlo id e : Nat} {rs : List (List V)} (h : tlo ≤ id) : freezeV st lo tlo (.sl (.tok id) e rs) = some (.sl .frozen e rs) := by simp [freezeV, freezeCell, Nat.not_lt.2 h]
theorem fzc_ref {tm : List V} {bx : List Box} {tk : List (Nat × Nat)} {lo tlo r o n es : Nat} {rs : List (List V)} (h : lo ≤ r) (hb : bx[r]? = some (.rows es rs)) (hn : o + n ≤ rs.length) (hp : pureRows ((rs.drop o).take n) = true) : freezeCell ⟨tm, bx, tk⟩ lo tlo (.ref r o n) = some (.sl .frozen es ((rs.drop o).take n)) := by simp [freezeV, freezeCell, boxIn, ob, hb, hn, hp, Nat.not_lt.2 h]
theorem fz_ref {tm : List V} {bx : List Box} {tk : List (Nat × Nat)} {lo tlo r o n es : Nat} {rs : List (List V)} (h : lo ≤ r) (hb : bx[r]? = some (.rows es rs)) (hn : o + n ≤ rs.length) (hp : pureRows ((rs.drop o).take n) = true) : freezeV ⟨tm, bx, tk⟩ lo tlo (.ref r o n) = some (.sl .frozen es ((rs.drop o).take n)) := by simp [freezeV, freezeCell, boxIn, ob, hb, hn, hp, Nat.not_lt.2 h]
theorem pack_1 {v : V} : packV [v] = v := rfl
theorem pack_0 : packV [] = .tuple [] := rfl
theorem pack_2 {v u : V} {vs : List V} : packV (v :: u :: vs) = .tuple (v :: u :: vs) := rfl
def posB (b : Bool) : Bool := b
def negB (b : Bool) : Bool := !b
theorem posB_true : posB true = true := rfl
theorem posB_false : posB false = false := rfl
theorem negB_true : negB true = false := rfl
theorem negB_false : negB false = true := rfl
theorem isTrue_t {b : Bool} : isTrue (.bool b) true = some (posB b) := by simp [isTrue, posB]
theorem isTrue_f {b : Bool} : isTrue (.bool b) false = some (negB b) := by simp [isTrue, negB]
theorem guardK_pos {b : Bool} {run skip : Prop} : guardK (some (posB b)) run skip = ((b = true → run) ∧ (b = false → skip)) := by cases b <;> simp [guardK, posB]
theorem guardK_neg {b : Bool} {run skip : Prop} : guardK (some (negB b)) run skip = ((b = false → run) ∧ (b = true → skip)) := by cases b <;> simp [guardK, negB]
theorem condK_not {b : Bool} {x y : Prop} : condK (some (.bool (!b))) x y = condK (some (.bool b)) y x := by cases b <;> simp [condK]
theorem pickB_bool {t : Bool} {a b : Option V} : pickB (.bool t) a b = if t = true then a else b := rfl
theorem endOf_ret {E : Env} {f : FuncId} {rs : List ResultVar} {bx0 : List Box} {tk0 : List (Nat × Nat)} {R : Res} {s : St} (hm : E.mode f = .pure) : endOf E f rs bx0 tk0 R .ret s = endP (ob (resAll E.P s rs) fun vs => freezeVs s bx0.length tk0.length vs) bx0 tk0 R := by
  simp only [endOf, hm, endP]
  cases resAll E.P s rs <;> rfl
end eval
end Go.Vi
