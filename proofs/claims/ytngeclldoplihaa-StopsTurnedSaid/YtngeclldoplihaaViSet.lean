/- The rules by which the machine is computed at this seat. -/
import Derived.Test.YtngeclldoplihaaViEnv
import Derived.Test.YtngeclldoplihaaViTab
set_option linter.unusedVariables false
namespace Go.Vi
section x
variable {fn : FuncId} {lo tlo : Nat} {st : St} {Q : Ex → St → Prop}
theorem x_seq {a b : Code} : wpv E0 fn lo tlo (.seq a b) st Q ↔ wpv E0 fn lo tlo a st (thenK (fun s => wpv E0 fn lo tlo b s Q) Q) := wpv_seq_iff E0good
theorem x_region {id : Nat} {ops : List Oper} {draw : Bool} : wpv E0 fn lo tlo (.region id ops.toArray draw) st Q ↔ wpList E0 (callsV E0) fn id lo tlo ops ops st (Q .normal) := wpv_region_lit E0good
theorem len_boxes {a b : List Box} : (a ++ b).length = a.length + b.length := List.length_append
theorem app_boxes {a b c : List Box} : (a ++ b) ++ c = a ++ (b ++ c) := List.append_assoc a b c
theorem get_box0 {a b : List Box} : (a ++ b)[a.length]? = b[0]? := by rw [List.getElem?_append_right (Nat.le_refl _)]; simp
theorem get_boxk {a b : List Box} {k : Nat} : (a ++ b)[a.length + k]? = b[k]? := by rw [List.getElem?_append_right (by omega)]; simp
theorem set_box0 {a b : List Box} {x : Box} : (a ++ b).set a.length x = a ++ b.set 0 x := by rw [List.set_append_right _ _ (Nat.le_refl _)]; simp
theorem set_boxk {a b : List Box} {x : Box} {k : Nat} : (a ++ b).set (a.length + k) x = a ++ b.set k x := by rw [List.set_append_right _ _ (by omega)]; simp
/-- A loop whose code and rest are not looked into. -/
inductive Kp {α : Type} (a : α) : Type | mk : Kp a
def wloop (E : Env) (fn : FuncId) (lo tlo : Nat) (c : Code) (s : St) (Q : Ex → St → Prop) (u : Kp (c, Q)) : Prop := wpv E fn lo tlo (.loop c) s Q
theorem x_loop {c : Code} : wpv E0 fn lo tlo (.loop c) st Q ↔ wloop E0 fn lo tlo c st Q .mk := Iff.rfl
theorem asNat_zero {k : IntKind} : asNat (.int k 0) = some 0 := rfl
theorem asNat_one {k : IntKind} : asNat (.int k 1) = some 1 := rfl
theorem set_list {cs vs : List V} {o : Nat} : setAt cs o vs = cs.take o ++ vs ++ cs.drop (o + vs.length) := rfl
/-- A call that no equation answers: what follows is not looked into. -/
def wcall (E : Env) (f : FuncId) (args : List V) (bx : List Box) (tk : List (Nat × Nat)) (lo tlo : Nat) (R : Res) (u : Kp R) : Prop := callsV E f args bx tk lo tlo R
theorem x_call {f : FuncId} {args : List V} {bx : List Box} {tk : List (Nat × Nat)} {R : Res} : callsV E0 f args bx tk lo tlo R = wcall E0 f args bx tk lo tlo R .mk := rfl
theorem x_same {i : Nat} {Q : Ex → St → Prop} {s : St} : blockK i Q (.exit i) s = Q .normal s := by simp [blockK_exit]
theorem x_other {i j : Nat} {Q : Ex → St → Prop} {s : St} (h : (j = i) = False) : blockK i Q (.exit j) s = Q (.exit j) s := by simp [blockK_exit, h]
theorem x_clear_undef {d : Nat} : clearL d .undef = .undef := rfl
theorem x_clear_bool {d : Nat} {b : Bool} : clearL d (.bool b) = .bool b := rfl
theorem x_clear_int {d : Nat} {k : IntKind} {n : Int} : clearL d (.int k n) = .int k n := rfl
theorem x_clear_str {d : Nat} {s : ByteArray} : clearL d (.str s) = .str s := rfl
theorem x_clear_ptr {d r i o : Nat} : clearL d (.ptr r i o) = .ptr r i o := rfl
theorem x_clear_iptr {d : Nat} {cs : List V} : clearL d (.iptr cs) = .iptr cs := rfl
theorem x_clear_loc {d : Nat} {cs : List V} : clearL d (.loc cs) = .loc cs := rfl
theorem x_clear_lptr {d u o : Nat} : clearL d (.lptr u o) = if u = d then .junk else .lptr u o := by simp [clearL]
theorem x_clear_nils {d : Nat} : clearL d .nils = .nils := rfl
theorem x_clear_sl {d : Nat} {k : SK} {e : Nat} {rs : List (List V)} : clearL d (.sl k e rs) = .sl k e rs := rfl
theorem x_clear_ref {d r i o : Nat} : clearL d (.ref r i o) = .ref r i o := rfl
theorem x_clear_agg {d : Nat} {cs : List V} : clearL d (.agg cs) = .agg cs := rfl
theorem x_clear_func {d : Nat} {f : Fn} {a b : List V} : clearL d (.func f a b) = .func f a b := rfl
theorem x_clear_nilp {d : Nat} : clearL d .nilp = .nilp := rfl
theorem x_clear_tuple {d : Nat} {cs : List V} : clearL d (.tuple cs) = .tuple cs := rfl
theorem x_clear_junk {d : Nat} : clearL d .junk = .junk := rfl
theorem x_ret {f : FuncId} {rs : List ResultVar} {bx0 : List Box} {tk0 : List (Nat × Nat)} {R : Res} {s : St} (hm : E0.mode f = .pure) : endOf E0 f rs bx0 tk0 R .ret s = endP (ob (resAll E0.P s rs) fun vs => freezeVs s bx0.length tk0.length vs) bx0 tk0 R := endOf_ret hm
theorem fill_nil {place : Nat → Option (Nat × Nat × Bool)} {cs : List V} : fillV place cs [] = some cs := rfl
theorem fill_cons {place : Nat → Option (Nat × Nat × Bool)} {cs : List V} {i : Nat} {v : V} {rest : List (Nat × V)} : fillV place cs ((i, v) :: rest) = ob (place i) fun p => ob (cellsOf p.2.2 p.2.1 v) fun vs => ob (if p.1 + p.2.1 ≤ cs.length then some () else none) fun _ => fillV place (setAt cs p.1 vs) rest := by
  simp only [fillV]
  cases h : place i with
  | none => simp [ob]
  | some p =>
    obtain ⟨off, n, agg⟩ := p
    simp only [ob_some]
    cases cellsOf agg n v with
    | none => rfl
    | some vs => by_cases hc : off + n ≤ cs.length <;> simp [hc, ob]
theorem split_zero {es : Nat} {cs : List V} : splitRows es 0 cs = [] := rfl
theorem split_succ {es n : Nat} {cs : List V} : splitRows es (n + 1) cs = cs.take es :: splitRows es n (cs.drop es) := rfl
theorem pr_nil : pureRows [] = true := rfl
theorem pr_cons {r : List V} {rs : List (List V)} : pureRows (r :: rs) = (r.all V.pureCell && pureRows rs) := by simp [pureRows]
theorem pc_bool {b : Bool} : V.pureCell (.bool b) = true := rfl
theorem pc_int {k : IntKind} {n : Int} : V.pureCell (.int k n) = true := rfl
theorem pc_str {s : ByteArray} : V.pureCell (.str s) = true := rfl
theorem pc_nils : V.pureCell .nils = true := rfl
theorem pc_frozen {e : Nat} {rs : List (List V)} : V.pureCell (.sl .frozen e rs) = true := rfl
theorem pc_full {e : Nat} {rs : List (List V)} : V.pureCell (.sl .full e rs) = true := rfl
theorem pc_func {f : Fn} : V.pureCell (.func f [] []) = true := rfl
end x
attribute [go_sem ↓] x_ret
attribute [go_sem] x_clear_undef x_clear_bool x_clear_int x_clear_str x_clear_ptr x_clear_iptr x_clear_loc x_clear_lptr x_clear_nils x_clear_sl x_clear_ref x_clear_agg x_clear_func x_clear_nilp x_clear_tuple x_clear_junk List.map_cons List.map_nil
attribute [go_sem ↓] x_loop x_seq x_region wpv_block_iff wpv_cond_iff wpv_ret_iff wpv_skip_iff wpv_exit_iff thenK_normal thenK_exit thenK_ret blockK_normal x_same x_other blockK_ret wpList_cons wpList_nil wantV_none wantV_some dstAt_zero dstAt_succ nth_zero nth_succ upd_zero upd_succ get_mk put_some put_none ev_tmp ev_const ev_func adr_tmp evs_nil evs_cons evParts_nil evParts_cons V_move V_assign V_pick V_alloc V_box V_load V_store V_nil V_bin V_un V_conv V_build V_lit V_func V_iface V_extract V_fieldAddr V_field V_indexAddr V_index V_slice V_len V_max V_min V_append V_call calleeOf_value lk_undef lk_junk lk_bool lk_int lk_str lk_nilp lk_ptr lk_iptr lk_lptr lk_nils lk_sl lk_ref lk_nilm lk_map lk_func lk_nilf lk_iface lk_nili lk_agg lk_tuple lk_loc
attribute [go_sem] upd_zero upd_succ put_some put_none listP_mk guardK_pos guardK_neg posB_true posB_false negB_true negB_false stepK_some stepK_none callK_some slotTrue_some pickB_bool ev_tmp ev_const adr_tmp nth_zero nth_succ get_mk callee opPick opAlloc opBox opLoad opStore opBin opUn opConv opBuild opLit opFunc opIface opExtract opFieldAddr opField opIndex opSlice opLen opMax opMin opAppend ob_some ob_none om_some om_none endP_some if_true if_false ite_true ite_false List.getElem?_cons_zero List.getElem?_cons_succ List.drop_zero List.drop_succ_cons List.take_succ_cons List.take_zero List.length_cons List.length_nil beq_self_eq_true bne_self_eq_false List.cons_append List.nil_append List.append_nil copy_undef copy_bool copy_int copy_str copy_nilp copy_ptr copy_iptr copy_nils copy_sl copy_ref copy_nilm copy_map copy_func copy_nilf copy_iface copy_nili copy_agg copy_tuple zc_bool zc_int zc_str zc_ptr zc_sl zc_map zc_f zc_i adrV_ptr adrV_iptr adrV_loc adrV_lptr nilV_ptr nilV_iptr nilV_loc nilV_lptr nilV_func rowsIn_rows boxIn_rows locCells_loc isTrue_t isTrue_f Bool.not_true Bool.not_false Bool.true_eq_false Bool.false_eq_true isTrue_undef cellsAt_box cellsAt_imm cellsAt_loc rowAt_mk cut_ok mkV_true mkV_false cellsOf_true cellsOf_bool cellsOf_int cellsOf_str cellsOf_nilp cellsOf_ptr cellsOf_iptr cellsOf_nils cellsOf_sl cellsOf_ref cellsOf_nilm cellsOf_map cellsOf_func cellsOf_nilf cellsOf_iface cellsOf_nili storeAt_box storeAt_loc bin_add bin_sub bin_mul bin_quo bin_rem bin_eql bin_neq bin_lss bin_leq bin_gtr bin_geq bin_shl bin_shr bin_str bin_beq bin_bne bin_agg bin_eq_nilp_nilp bin_ne_nilp_nilp bin_eq_nils_nils bin_ne_nils_nils bin_eq_nilm_nilm bin_ne_nilm_nilm bin_eq_nilf_nilf bin_ne_nilf_nilf bin_eql_ptr bin_eql_ptr' bin_neq_ptr bin_neq_ptr' bin_eql_map bin_eql_map' bin_neq_map bin_neq_map' bin_eql_func bin_eql_func' bin_neq_func bin_neq_func' bin_eql_iface bin_eql_iface' bin_neq_iface bin_neq_iface' binAgg_eql binAgg_neq eqCells_nil eqCells_int eqCells_bool eqCells_str un_neg un_not asNat_ok asNat_cast lenV_str lenV_sl lenV_nils lenV_ref bound_none bound_some rows_nils rows_sl rows_ref Ad_add_box Ad_add_imm Ad_add_loc Ad_val_box Ad_val_imm Ad_val_loc elem_sl elem_ref indexAddr_sl indexAddr_arr cutSk_full cutSk_full' cutSk_frozen cutSk_tok slice_sl slice_str slice_nils slice_ref append_nils append_full append_tok append_ref newRows_tok newRows_ref alloc_box alloc_loc max_1 max_2 min_2 max_3 min_3 res_nil res_tmp res_cell res_one fz_nil fz_cons fz_agg fzc_nil fzc_cons fzc_bool fz_bool fzc_int fz_int fzc_str fz_str fzc_nilp fz_nilp fzc_nils fz_nils fzc_frozen fz_frozen fzc_full fz_full fzc_nilm fz_nilm fzc_nilf fz_nilf fzc_nili fz_nili fzc_func fz_func fzc_tok fz_tok fzc_ref fz_ref pack_1 pack_0 pack_2 lenK_str lenK_sl lenK_nils lenK_ref
attribute [go_sem] lk_agg lk_bool lk_func lk_iface lk_int lk_iptr lk_junk lk_loc lk_lptr lk_map lk_nilf lk_nili lk_nilm lk_nilp lk_nils lk_ptr lk_ref lk_sl lk_str lk_tuple lk_undef
attribute [go_sem high] condK_true condK_false guardK_true guardK_false
attribute [go_sem low] condK_some
attribute [go_sem high] condK_not
attribute [go_sem low] set_list
attribute [go_sem] asNat_zero asNat_one
attribute [go_sem ↓ low] x_call
attribute [go_sem] len_boxes app_boxes get_box0 get_boxk set_box0 set_boxk List.set_cons_zero List.set_cons_succ Nat.le_add_right Nat.le_refl Nat.zero_add
attribute [go_sem] decide_true decide_false Nat.zero_le false_implies true_implies implies_true and_true true_and and_self
attribute [go_sem] fill_nil fill_cons split_zero split_succ pr_nil pr_cons pc_bool pc_int pc_str pc_nils pc_frozen pc_full pc_func List.all_cons List.all_nil Bool.and_true Bool.true_and Bool.and_self List.replicate_succ List.replicate_zero List.flatten_cons List.flatten_nil
attribute [go_sem ↓] upd_tab2a upd_tab2b look_hit
attribute [go_sem] nth_tab2a nth_tab2b look_miss look_hit map_tab2 clearU upd_tab2a upd_tab2b enumU
end Go.Vi
