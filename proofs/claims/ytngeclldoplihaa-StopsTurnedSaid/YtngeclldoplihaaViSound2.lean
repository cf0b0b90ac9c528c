/- A list of operations; code. -/
import Derived.Test.YtngeclldoplihaaViSound
import Derived.Test.YtngeclldoplihaaViLoc
import Derived.LoopN
set_option linter.unusedVariables false
set_option linter.unusedSimpArgs false
namespace Go.Vi
open Go.RowKit
section list
variable {P : Program} {E : Env} {C : CallT} {fn rg lo tlo : Nat} {o : Oper} {a : Act} {w : World} {O : Nat → Prop} {g : G} {lam : Nat → Nat} {st : St} {Q : Exit → Act → World → Prop}
theorem upon_mono {next next' : Act → World → Prop} (hn : ∀ a w, next a w → next' a w) (h : o.wp P a w next Q) : o.wp P a w next' Q := by
  unfold Oper.wp at h ⊢
  generalize (execOp a.eval o).run P w = r at h ⊢
  cases r with
  | ok n w' =>
    cases n <;> first
      | exact hn _ _ h
      | exact h
      | (refine Calls.mono h fun e w'' hr => ?_
         cases e <;> first | exact hn _ _ hr | exact hr)
      | exact Rows.mono h fun v w'' hr => hn _ _ hr
  | halt x w' => cases x <;> exact h
theorem Went.after {K : St → Prop} {st1 : St} {g1 : G} {lam1 : Nat → Nat} {w1 : World} (hf : Fr lo tlo w O g lam st w1 g1 lam1 st1) {a' : Act} {w' : World} (h : Went lo tlo w1 O g1 lam1 st1 K a' w') : Went lo tlo w O g lam st K a' w' :=
  let ⟨st', g', lam', h1, h2, h3, h4⟩ := h
  ⟨st', g', lam', h1, hf.trans h2, h3, h4⟩
theorem list_ok (hC : CallOk E C) {ops : Array Oper} {K : St → Prop} : ∀ (os : List Oper) (i : Nat) (a : Act) (w : World) (g : G) (lam : Nat → Nat) (st : St), os = ops.toList.drop i → Sim w O g lam a.tmps st → lo ≤ st.bx.length → tlo ≤ st.tk.length → a.defers = [] →
    wpList E C fn rg lo tlo ops.toList os st K → (∀ a' w', Went lo tlo w O g lam st K a' w' → Q .normal a' w') → wpOps E.P ops Q (List.range' i os.length) a w
  | [], i, a, w, g, lam, st, hos, hs, hlo, htlo, hd, h, hQ => hQ a w ⟨st, g, lam, h, Fr.refl .., hs, hd⟩
  | o :: os, i, a, w, g, lam, st, hos, hs, hlo, htlo, hd, h, hQ => by
    have hi : ops[i]? = some o := by
      have : (ops.toList.drop i)[0]? = some o := by rw [← hos]; rfl
      simpa using this
    have hos' : os = ops.toList.drop (i + 1) := by
      have : (ops.toList.drop i).drop 1 = os := by rw [← hos]; rfl
      rw [← this, List.drop_drop]
    have hrest : ∀ a' w', Went lo tlo w O g lam st (fun st' => wpList E C fn rg lo tlo ops.toList os st' K) a' w' → wpOps E.P ops Q (List.range' (i + 1) os.length) a' w' := by
      intro a' w' hw
      obtain ⟨st', g', lam', h1, h2, h3, h4⟩ := hw
      exact list_ok hC os (i + 1) a' w' g' lam' st' hos' h3 (Nat.le_trans hlo h2.keep.len) (Nat.le_trans htlo h2.keep.tlen) h4 h1 fun a'' w'' hw => hQ a'' w'' (Went.after h2 hw)
    obtain ⟨k1, k2⟩ := one_ok (Q := Q) hC hs hlo htlo hd h
    simp only [List.length_cons, List.range'_succ, wpOps, hi]
    split
    · rename_i hw
      exact .inl (upon_mono hrest (k1 hw))
    · rename_i hw
      exact hrest _ _ (k2 (by simpa using hw))
/-- What stands at the end of a piece of code. -/
def Post (lo tlo : Nat) (w : World) (O : Nat → Prop) (g : G) (lam : Nat → Nat) (st : St) (Qv : Ex → St → Prop) : Exit → Act → World → Prop
  | .normal, a', w' => Went lo tlo w O g lam st (Qv .normal) a' w'
  | .exit id, a', w' => Went lo tlo w O g lam st (Qv (.exit id)) a' w'
  | .ret, a', w' => Went lo tlo w O g lam st (Qv .ret) a' w'
  | _, _, _ => False
theorem Post.after {Qv : Ex → St → Prop} {st1 : St} {g1 : G} {lam1 : Nat → Nat} {w1 : World} (hf : Fr lo tlo w O g lam st w1 g1 lam1 st1) {e : Exit} {a' : Act} {w' : World} (h : Post lo tlo w1 O g1 lam1 st1 Qv e a' w') : Post lo tlo w O g lam st Qv e a' w' := by
  cases e <;> first | exact Went.after hf h | exact h
theorem Went.mono {K K' : St → Prop} (hK : ∀ s, K s → K' s) {a' : Act} {w' : World} (h : Went lo tlo w O g lam st K a' w') : Went lo tlo w O g lam st K' a' w' :=
  let ⟨st', g', lam', h1, h2, h3, h4⟩ := h
  ⟨st', g', lam', hK _ h1, h2, h3, h4⟩
theorem Post.mono {Qv Qv' : Ex → St → Prop} (hQ : ∀ e s, Qv e s → Qv' e s) {e : Exit} {a' : Act} {w' : World} (h : Post lo tlo w O g lam st Qv e a' w') : Post lo tlo w O g lam st Qv' e a' w' := by
  cases e <;> first | exact Went.mono (hQ _) h | exact h
def CodeOk (E : Env) (k : Nat) : Prop :=
  ∀ fn lo tlo c st Qv, wpk E k fn lo tlo c st Qv → regionsOK E fn c = true → LocI E fn st → ∀ (a : Act) (w : World) (O : Nat → Prop) (g : G) (lam : Nat → Nat), Sim w O g lam a.tmps st → lo ≤ st.bx.length → tlo ≤ st.tk.length → a.defers = [] → c.wp E.P (Post lo tlo w O g lam st Qv) a w
/-- What is claimed of a region that draws its order. -/
def PureC (E : Env) (C : CallT) : Prop := ∀ f, E.prim f = none → E.mode f = .pure → ∀ args bx tk lo tlo R, C f args bx tk lo tlo R → C f args bx tk lo tlo (fun v b t => b = bx ∧ t = tk ∧ R v b t)
theorem callBy_pure {W : WT} (hW : UpW W W) : PureC E (callBy E W) := by
  intro f hp hm args bx tk lo tlo R h
  unfold callBy at *
  simp only [hp] at h ⊢
  split
  · rename_i hf; simp only [hf] at h
  · rename_i fn hf; simp only [hf] at h
    split
    · rename_i hb; simp only [hb] at h
    · rename_i hb; simp only [hb] at h
      refine ⟨h.1, h.2.1, h.2.2.1, hW _ _ _ _ _ _ _ h.2.2.2 fun e s hq => ?_⟩
      cases e with
      | exit id => exact hq
      | normal | ret =>
        simp only [endOf, hm] at hq ⊢
        split
        · rename_i h1; rw [h1] at hq; exact hq
        · rename_i us h1; rw [h1] at hq
          simp only at hq ⊢
          split
          · rename_i h2; rw [h2] at hq; exact ⟨trivial, trivial, hq⟩
          · rename_i h2; rw [h2] at hq; exact hq
def DrawOk (E : Env) : Prop :=
  ∀ C, CallOk E C → C.Good → PureC E C → ∀ fn id (ops : Array Oper) lo tlo st K, drawOK E fn id ops = true → LocI E fn st → wpList E C fn id lo tlo ops.toList ops.toList st K → ∀ (a : Act) (w : World) (O : Nat → Prop) (g : G) (lam : Nat → Nat), Sim w O g lam a.tmps st → lo ≤ st.bx.length → tlo ≤ st.tk.length → a.defers = [] →
    ∀ Q : Exit → Act → World → Prop, (∀ a' w', Went lo tlo w O g lam st K a' w' → Q .normal a' w') → (Code.region id ops true).wp E.P Q a w
theorem rounds_mono {c : Code} {Q Q' : Exit → Act → World → Prop} : ∀ {n : Nat} {a : Act} {w : World}, Code.rounds P c Q n a w → (∀ e a w, Q e a w → Q' e a w) → Code.rounds P c Q' n a w
  | 0, _, _, h, _ => h
  | n + 1, a, w, h, hq => wp_mono h fun e a' w' hp => by
    cases e with
    | normal => exact rounds_mono (n := n) hp hq
    | _ => exact hq _ _ _ hp
theorem rounds_ok (hE : E.Good) {b : Code} {Qv : Ex → St → Prop} : ∀ (k : Nat), (∀ j, j < k → CodeOk E j) → ∀ (st : St) (a : Act) (w : World) (g : G) (lam : Nat → Nat), wpk E k fn lo tlo (.loop b) st Qv → regionsOK E fn b = true → LocI E fn st → Sim w O g lam a.tmps st → lo ≤ st.bx.length → tlo ≤ st.tk.length → a.defers = [] →
    Code.rounds E.P b (Post lo tlo w O g lam st Qv) k a w
  | 0, _, st, a, w, g, lam, h, _, _, _, _, _, _ => h.elim
  | k + 1, hk, st, a, w, g, lam, h, hr, hl, hs, hlo, htlo, hd => by
    simp only [wpk] at h
    have := hk k (by omega) _ _ _ _ _ _ (wpk_loc hE _ _ _ _ _ _ _ hl h) hr hl a w O g lam hs hlo htlo hd
    refine wp_mono this fun e a' w' hp => ?_
    cases e with
    | normal =>
      obtain ⟨st', g', lam', ⟨h1, h1l⟩, h2, h3, h4⟩ := hp
      have ih := rounds_ok hE k (fun j hj => hk j (by omega)) st' a' w' g' lam' h1 hr h1l h3 (Nat.le_trans hlo h2.keep.len) (Nat.le_trans htlo h2.keep.tlen) h4
      exact rounds_mono ih fun e a'' w'' hq => Post.after h2 hq
    | exit id => exact Went.mono (fun _ h => h.1) hp
    | ret => exact Went.mono (fun _ h => h.1) hp
    | _ => exact hp
theorem code_ok (hE : E.Good) (hD : DrawOk E) : ∀ (k : Nat), (∀ j, j < k → CodeOk E j) → (∀ j, j < k → CallOk E (callBy E (wpk E j))) → CodeOk E k
  | 0, _, _ => fun fn lo tlo c st Qv h => h.elim
  | k + 1, hk, hc => by
    intro fn lo tlo c st Qv h hr hl a w O g lam hs hlo htlo hd
    have hk0 := hk k (by omega)
    unfold wpk at h
    split at h
    · exact wp_skip ⟨st, g, lam, h, Fr.refl .., hs, hd⟩
    · simp only [regionsOK, Bool.and_eq_true] at hr
      refine wp_seq (wp_mono (hk0 _ _ _ _ _ _ (wpk_loc hE _ _ _ _ _ _ _ hl h) hr.1 hl a w O g lam hs hlo htlo hd) fun e a' w' hp => ?_)
      cases e with
      | normal =>
        obtain ⟨st', g', lam', ⟨h1, h1l⟩, h2, h3, h4⟩ := hp
        exact wp_mono (hk0 _ _ _ _ _ _ h1 hr.2 h1l a' w' O g' lam' h3 (Nat.le_trans hlo h2.keep.len) (Nat.le_trans htlo h2.keep.tlen) h4) fun e a'' w'' hq => Post.after h2 hq
      | exit id => exact Went.mono (fun _ h => h.1) hp
      | ret => exact Went.mono (fun _ h => h.1) hp
      | _ => exact hp
    · rename_i id ops draw
      have h2 := h
      cases draw with
      | true => exact hD _ (hc k (by omega)) (callBy_good hE (wpk_up hE k) (wpk_point hE k)) (callBy_pure (wpk_up hE k)) _ _ _ _ _ _ _ (by simpa [regionsOK] using hr) hl h2 a w O g lam hs hlo htlo hd _ fun a' w' hw => hw
      | false =>
        refine wp_region ?_
        have := list_ok (Q := Post lo tlo w O g lam st Qv) (hc k (by omega)) ops.toList 0 a w g lam st (by simp) hs hlo htlo hd h2 fun a' w' hw => hw
        rw [List.range_eq_range']
        simpa using this
    · obtain ⟨t, h1, h2⟩ := h
      simp only [regionsOK, Bool.and_eq_true] at hr
      refine wp_cond (FR.bool_inv (ev_FR hs h1)) ?_
      refine hk0 _ _ _ _ _ _ h2 (by cases t <;> simp [hr]) hl a w O g lam hs hlo htlo hd
    · refine wp_block (wp_mono (hk0 _ _ _ _ _ _ h (by simpa [regionsOK] using hr) hl a w O g lam hs hlo htlo hd) fun e a' w' hp => ?_)
      rename_i id b
      cases e with
      | exit j =>
        simp only [Exit.inBlock]
        obtain ⟨st', g', lam', h1, h2, h3, h4⟩ := hp
        simp only [blockK] at h1
        split
        · rename_i e; rw [if_pos e] at h1; exact ⟨st', g', lam', h1, h2, h3, h4⟩
        · rename_i e; rw [if_neg e] at h1; exact ⟨st', g', lam', h1, h2, h3, h4⟩
      | _ => exact hp
    · rename_i b
      exact wp_loop_rounds (k + 1) (rounds_ok hE (fn := fn) (k + 1) hk st a w g lam (by unfold wpk; exact h) (by simpa [regionsOK] using hr) hl hs hlo htlo hd)
    · exact wp_exit ⟨st, g, lam, h, Fr.refl .., hs, hd⟩
    · exact wp_ret ⟨st, g, lam, h, Fr.refl .., hs, hd⟩
    · exact h.elim
end list
end Go.Vi
