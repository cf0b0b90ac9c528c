/- One operation of a region, a list of operations, a call. -/
import Derived.Test.YtngeclldoplihaaViCall
import Derived.Orders
set_option linter.unusedVariables false
set_option linter.unusedSimpArgs false
namespace Go.Vi
open Go.RowKit
def enters (P : Program) (f : FuncId) : Prop := ∃ fn, P.funcs[f]? = some fn ∧ fn.body.isNone = false ∧ (fn.name == "runtime.NumGoroutine") = false
/-- What a call comes back with. -/
def Back (lo tlo : Nat) (w : World) (O : Nat → Prop) (g : G) (bx : List Box) (tk : List (Nat × Nat)) (R : Res) (e : Ending) (w' : World) : Prop :=
  ∃ v x bx' tk' g', e = .returned v ∧ R x bx' tk' ∧ Fr lo tlo w O g lam0 (bare bx tk) w' g' lam0 (bare bx' tk') ∧ Sim w' O g' lam0 #[] (bare bx' tk') ∧ FR w' O g' lam0 (bare bx' tk') v x
/-- What is claimed of the calls that the machine tells of. -/
def CallOk (E : Env) (C : CallT) : Prop :=
  ∀ f args bx tk lo tlo R, C f args bx tk lo tlo R → enters E.P f ∧ ∀ (w : World) (O : Nat → Prop) (g : G) (vs : Array Value), Sim w O g lam0 #[] (bare bx tk) → lo ≤ bx.length → tlo ≤ tk.length → vs.size = args.length →
    (∀ i (hi : i < args.length), FR w O g lam0 (bare bx tk) (vs.getD i undef) args[i]) → Calls E.P f vs w (Back lo tlo w O g bx tk R)
/-- A frame that has come from one state to another. -/
def Went (lo tlo : Nat) (w : World) (O : Nat → Prop) (g : G) (lam : Nat → Nat) (st : St) (K : St → Prop) (a' : Act) (w' : World) : Prop :=
  ∃ st' g' lam', K st' ∧ Fr lo tlo w O g lam st w' g' lam' st' ∧ Sim w' O g' lam' a'.tmps st' ∧ a'.defers = []
section sound
variable {E : Env} {C : CallT} {fn rg lo tlo : Nat} {o : Oper} {a : Act} {w : World} {O : Nat → Prop} {g : G} {lam : Nat → Nat} {st : St} {Q : Exit → Act → World → Prop}
theorem slot_ok (hs : Sim w O g lam a.tmps st) {d : Nat} {want b : Bool} (h : slotTrue st want (some d) = some b) : ((match a.tmps[d]? with | some (.bool b) => some b | _ => none) == some want) = b := by
  simp only [slotTrue, St.get] at h
  have hsz := hs.size
  by_cases hlt : d < st.tm.length
  · have h0 := hs.slot d hlt
    have hd2 : d < a.tmps.size := by omega
    have e2 : a.tmps[d]? = some (a.tmps.getD d undef) := by simp [Array.getD, hd2]
    rw [e2]
    cases hn : nth st.tm d <;> rw [hn] at h h0 <;> simp only [isTrue] at h <;> try (cases h; done)
    · injection h with h
      subst h
      have h1 : FR w O g lam st (a.tmps.getD d undef) .undef := h0
      generalize a.tmps.getD d undef = v at h1
      cases h1
      rfl
    · injection h with h
      rw [FR.bool_inv (show FR w O g lam st _ _ from h0)]
      subst h
      simp
  · rw [nth_ge (by omega)] at h
    simp only [isTrue, Option.some.injEq] at h
    subst h
    have e2 : a.tmps[d]? = none := by simp; omega
    rw [e2]
    rfl
theorem guard_ok (hs : Sim w O g lam a.tmps st) {ops : Array Oper} {gd : Option (Nat × Bool)} (hg : o.guard = gd) {b : Bool} (h : wantV ops.toList st gd = some b) : Region.wanted o (yielded ops a.tmps) = b := by
  subst hg
  unfold Region.wanted
  cases hgd : o.guard with
  | none => rw [hgd] at h; simp only [wantV, Option.some.injEq] at h; exact h
  | some q =>
    obtain ⟨j, want⟩ := q
    rw [hgd] at h
    simp only [wantV] at h
    have hd : ∀ (l : List Oper) (j : Nat), dstAt l j = (l[j]?).bind (·.dst) := by
      intro l
      induction l with
      | nil => intro j; rfl
      | cons x l ih => intro j; cases j with
        | zero => rfl
        | succ j => simp [dstAt, ih]
    rw [hd] at h
    simp only [yielded]
    have e1 : ops[j]? = ops.toList[j]? := by simp
    rw [e1]
    cases hdst : (ops.toList[j]?).bind (·.dst) with
    | none => rw [hdst] at h; simp only [slotTrue, Option.some.injEq] at h; subst h; rfl
    | some d =>
      rw [hdst] at h
      simp only [Option.bind_some]
      exact slot_ok hs h
theorem act_tmps (a : Act) (d : Option Nat) (v : Value) : (a.put d v).tmps = putA a.tmps d v ∧ (a.put d v).defers = a.defers := by cases d <;> exact ⟨rfl, rfl⟩
/-- A call of a function. -/
theorem call_ok (hC : CallOk E C) (hs : Sim w O g lam a.tmps st) (hlo : lo ≤ st.bx.length) (htlo : tlo ≤ st.tk.length) (hd : a.defers = []) {K : St → Prop}
    (h : callK (calleeOf st o.op) fun f args => C f args st.bx st.tk lo tlo fun v bx tk => locK (E.loc fn) o.dst v (K ({ st with bx := bx, tk := tk }.put o.dst v))) : o.wp E.P a w (Went lo tlo w O g lam st K) Q := by
  cases hc : calleeOf st o.op with
  | none => rw [hc] at h; exact h.elim
  | some q =>
    obtain ⟨f, args⟩ := q
    rw [hc] at h
    simp only [callK] at h
    obtain ⟨hen, hcall⟩ := hC _ _ _ _ _ _ _ h
    generalize hop : o.op = op at hc
    unfold calleeOf at hc
    split at hc
    · rename_i fo xs ats
      unfold callee at hc
      obtain ⟨u, h1, hc⟩ := ob_eq hc
      have hf := ev_FR hs h1
      split at hc
      · rename_i gid first captured
        obtain ⟨vs, h2, hc⟩ := om_eq hc
        injection hc with e1 e2
        subst e1
        subst e2
        obtain ⟨l1, hv⟩ := evs_FR hs h2
        cases hfv : a.eval fo <;> rw [hfv] at hf <;> cases hf
        rename_i fs cs hl1 hf1 hl2 hf2
        obtain ⟨fd, k1, k2, k3⟩ := hen
        have hexec : (execOp a.eval o).run E.P w = .ok (.enter gid (fs ++ xs.map a.eval ++ cs)) w := by
          have k2' : ¬ fd.body = none := by intro e; rw [e] at k2; cases k2
          have k3' : ¬ fd.name = "runtime.NumGoroutine" := by simpa using k3
          simp [execOp, hop, resolve, hfv, Deferred.ofValue, invoke, callFunc, k1, k2', k3']
        unfold Oper.wp
        rw [hexec, Oper.upon_enter]
        have hsz : (fs ++ xs.map a.eval ++ cs).size = (first ++ vs ++ captured).length := by
          have : xs.size = vs.length := by simpa using l1
          simp [hl1, hl2, this]
        refine Calls.mono (hcall w _ g _ (Sim.enter hs) hlo htlo hsz fun i hi => ?_) fun e w' hb => ?_
        · have hxs : xs.size = vs.length := by simpa using l1
          simp only [Array.getD_eq_getD_getElem?]
          by_cases hi1 : i < first.length
          · have e1 : (first ++ vs ++ captured)[i] = first[i] := by rw [List.getElem_append_left (by simp; omega), List.getElem_append_left hi1]
            have e2 : (fs ++ xs.map a.eval ++ cs)[i]? = fs[i]? := by rw [Array.getElem?_append_left (by simp; omega), Array.getElem?_append_left (by omega)]
            rw [e1, e2, ← Array.getD_eq_getD_getElem?]
            exact FR.enter (hf1 i hi1)
          · by_cases hi2 : i < first.length + vs.length
            · have e1 : (first ++ vs ++ captured)[i] = vs[i - first.length]'(by omega) := by rw [List.getElem_append_left (by simp; omega), List.getElem_append_right (by omega)]
              have e2 : (fs ++ xs.map a.eval ++ cs)[i]? = (xs.map a.eval)[i - first.length]? := by rw [Array.getElem?_append_left (by simp; omega), Array.getElem?_append_right (by omega), hl1]
              rw [e1, e2]
              have := hv (i - first.length) (by omega)
              have e3 : (xs.map a.eval)[i - first.length]? = (xs.toList.map a.eval)[i - first.length]? := by simp
              rw [e3]
              exact FR.enter this
            · have hi' := hi
              simp at hi'
              have e1 : (first ++ vs ++ captured)[i] = captured[i - (first.length + vs.length)]'(by omega) := by
                rw [List.getElem_append_right (by simp; omega)]
                congr 1
                simp
              have e2 : (fs ++ xs.map a.eval ++ cs)[i]? = cs[i - (first.length + vs.length)]? := by
                rw [Array.getElem?_append_right (by simp; omega)]
                congr 1
                simp [hl1, hxs]
              rw [e1, e2, ← Array.getD_eq_getD_getElem?]
              exact FR.enter (hf2 _ (by omega))
        · obtain ⟨v, x, bx', tk', g', rfl, hR, hF, hS, hV⟩ := hb
          have hF2 := Fr.leave hs hF
          have hS2 := Sim.leave hs hF hS
          have hV2 : FR w' O g' lam { st with bx := bx', tk := tk' } v x := FR.leave (st := { st with bx := bx', tk := tk' }) hV
          refine ⟨_, g', lam, locK_k hR, hF2.trans (Fr.put (TR.not_loc hV2)), ?_, by rw [(act_tmps ..).2]; exact hd⟩
          rw [(act_tmps ..).1]
          exact hS2.putV o.dst hV2
      · cases hc
    · cases hc
/-- One operation that its guard lets through, and one that it holds back. -/
theorem one_ok (hC : CallOk E C) (hs : Sim w O g lam a.tmps st) (hlo : lo ≤ st.bx.length) (htlo : tlo ≤ st.tk.length) (hd : a.defers = []) {ops : Array Oper} {K : St → Prop} (h : wpOne E C fn rg lo tlo ops.toList o.dst o.op o.guard st K) :
    (Region.wanted o (yielded ops a.tmps) = true → o.wp E.P a w (Went lo tlo w O g lam st K) Q) ∧ (Region.wanted o (yielded ops a.tmps) = false → Went lo tlo w O g lam st K (a.put o.dst undef) w) := by
  unfold wpOne at h
  cases hw : wantV ops.toList st o.guard with
  | none => rw [hw] at h; exact h.elim
  | some b =>
    rw [hw] at h
    obtain ⟨h1, h2⟩ := h
    rw [guard_ok hs rfl hw]
    refine ⟨fun hb => ?_, fun hb => ⟨_, g, lam, h2 hb, Fr.put (by simp), by rw [(act_tmps ..).1]; exact hs.putV o.dst .undef, by rw [(act_tmps ..).2]; exact hd⟩⟩
    have h1 := h1 hb
    cases hop : opV E fn rg lo tlo st o.dst o.op with
    | none => rw [hop] at h1; exact call_ok hC hs hlo htlo hd h1
    | some q =>
      obtain ⟨v, st'⟩ := q
      rw [hop] at h1
      obtain ⟨n, w', v', g', lam', k1, k2, k3, k4⟩ := opV_does hs hlo htlo hop
      unfold Oper.wp
      rw [k1]
      rcases k2 with rfl | ⟨rfl, rfl⟩
      · exact ⟨_, g', lam', locK_k h1, k3, by rw [(act_tmps ..).1]; exact k4, by rw [(act_tmps ..).2]; exact hd⟩
      · exact ⟨_, g', lam', locK_k h1, k3, by rw [(act_tmps ..).1]; exact k4, by rw [(act_tmps ..).2]; exact hd⟩
end sound
end Go.Vi
