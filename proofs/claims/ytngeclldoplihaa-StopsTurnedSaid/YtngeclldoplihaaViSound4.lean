/- A call, whole: what the machine says of it, the model does. -/
import Derived.Test.YtngeclldoplihaaViSound3
set_option linter.unusedVariables false
set_option linter.unusedSimpArgs false
namespace Go.Vi
open Go.RowKit
section whole
variable {P : Program} {E : Env} {lo tlo : Nat} {a : Act} {w w' : World} {O : Nat → Prop} {g g' : G} {lam lam' : Nat → Nat} {st st' : St} {tmps : Array Value} {bx : List Box} {tk : List (Nat × Nat)}
/-- The model's reading of one result. -/
def resSem (tmps : Array Value) : ResultVar → Sem Value
  | .tmp t => pure (tmps.getD t undef)
  | .cell a t => do loadVar t (← asAddr (tmps.getD a undef))
theorem res_ok (hs : Sim w O g lam a.tmps st) {r : ResultVar} {x : V} (h : resOne P st r = some x) : ∃ v, (resSem a.tmps r).run P w = .ok v w ∧ FR w O g lam st v x := by
  cases r with
  | tmp t => exact ⟨_, rfl, ev_FR (x := .tmp t) hs h⟩
  | cell u t =>
    simp only [resOne] at h
    obtain ⟨n, h1, h⟩ := ob_eq h
    obtain ⟨b, h2, h⟩ := ob_eq h
    obtain ⟨ad, h3, h⟩ := ob_eq h
    obtain ⟨cs, h4, h5⟩ := ob_eq h
    clear h
    obtain ⟨p, hp, hpl⟩ := adr_place hs h3
    have hp' : a.tmps.getD u undef = .pointer (some p) := hp
    by_cases hn : 0 < n
    · obtain ⟨hsp, hl, hce, hc⟩ := place_cells hs hpl h4 hn
      obtain ⟨v, hr, hu⟩ := run_var h1 h2 hsp hl hce hc h5
      exact ⟨v, by simp only [resSem, hp', asAddr, Sem.run_bind, Sem.run_pure, Result.andThen_ok, hr], hu⟩
    · have hn0 : n = 0 := by omega
      subst hn0
      have hcs : cs = [] := by
        have : cs.length = 0 := by
          cases ad <;> simp only [cellsAt] at h4
          · obtain ⟨_, _, q⟩ := ob_eq h4; exact (cut_eq q).2.1
          · exact (cut_eq h4).2.1
          · obtain ⟨_, _, q⟩ := ob_eq h4; exact (cut_eq q).2.1
        exact List.eq_nil_of_length_eq_zero this
      subst hcs
      cases b with
      | false => simp [mkV] at h5
      | true =>
        simp only [mkV, Option.some.injEq] at h5
        subst h5
        exact ⟨.agg #[], by simp [resSem, hp', asAddr, loadVar, run_agg h2, run_size h1, loadCells, loadCellsFrom], .agg _ _ rfl (by simp) (fun i hi => absurd hi (by simp))⟩
theorem resAll_ok (hs : Sim w O g lam a.tmps st) : ∀ {rs : List ResultVar} {xs : List V}, resAll P st rs = some xs → ∃ vs : List Value, (rs.mapM (resSem a.tmps)).run P w = .ok vs w ∧ vs.length = xs.length ∧ ∀ i (hi : i < xs.length), FR w O g lam st (vs.getD i undef) xs[i]
  | [], xs, h => by simp only [resAll, Option.some.injEq] at h; subst h; exact ⟨[], rfl, rfl, fun i hi => absurd hi (by simp)⟩
  | r :: rs, xs, h => by
    simp only [resAll] at h
    obtain ⟨x, h1, h⟩ := ob_eq h
    obtain ⟨ys, h2, rfl⟩ := om_eq h
    obtain ⟨v, k1, k2⟩ := res_ok hs h1
    obtain ⟨vs, q1, q2, q3⟩ := resAll_ok hs h2
    refine ⟨v :: vs, by simp only [List.mapM_cons, Sem.run_bind, k1, q1, Result.andThen_ok, Sem.run_pure], by simp [q2], fun i hi => ?_⟩
    cases i with
    | zero => exact k2
    | succ i => exact q3 i (by simpa using hi)
/-- The model's results. -/
theorem run_results {fn : Func} {vs : List Value} (h : (fn.results.toList.mapM (resSem tmps)).run P w = .ok vs w) : (results fn tmps).run P w = .ok (if h : vs.toArray.size = 1 then vs.toArray[0] else .tuple vs.toArray) w := by
  show (do let vs ← fn.results.mapM (resSem tmps); pure (if h : vs.size = 1 then vs[0] else .tuple vs) : Sem Value).run P w = _
  rw [Array.mapM_eq_mapM_toList]
  simp only [Sem.run_bind, Sem.run_map, h, Result.andThen_ok, Sem.run_pure]
theorem pack_ok {vs : List Value} {xs : List V} (hl : vs.length = xs.length) (h : ∀ i (hi : i < xs.length), FR w O g lam st (vs.getD i undef) xs[i]) : FR w O g lam st (if h : vs.toArray.size = 1 then vs.toArray[0] else .tuple vs.toArray) (packV xs) := by
  by_cases h1 : vs.length = 1
  · match vs, xs, hl, h1, h with
    | [v], [x], _, _, h => exact h 0 (by simp)
  · have e : packV xs = .tuple xs := by
      unfold packV
      split
      · simp at hl; omega
      · rfl
    rw [e, dif_neg (by simpa using h1)]
    refine .tuple _ _ (by simpa using hl) fun i hi => ?_
    have := h i hi
    simpa [Array.getD_eq_getD_getElem?, List.getD_eq_getElem?_getD] using this
/-- The frame in which a function starts. -/
theorem nth_start {args : List V} {n t : Nat} : nth (args ++ List.replicate n .undef) t = if h : t < args.length then args[t] else .undef := by
  induction args generalizing t with
  | nil =>
    simp only [List.nil_append, List.length_nil, Nat.not_lt_zero, dite_false]
    induction n generalizing t with
    | zero => rfl
    | succ n ih => cases t with
      | zero => rfl
      | succ t => exact ih
  | cons x args ih =>
    cases t with
    | zero => rfl
    | succ t => simp [nth, ih]
section start
variable {args : List V} {vs : Array Value} {n : Nat}
theorem start_noloc (h : ∀ i (hi : i < args.length), FR w O g lam0 (bare bx tk) (vs.getD i undef) args[i]) {t : Nat} {cs : List V} (hl : nth (args ++ List.replicate n .undef) t = .loc cs) : False := by
  rw [nth_start] at hl
  split at hl
  · rename_i ht
    have := h t ht
    rw [hl] at this
    generalize vs.getD t undef = v at this
    cases this
  · cases hl
theorem start_blk (h : ∀ i (hi : i < args.length), FR w O g lam0 (bare bx tk) (vs.getD i undef) args[i]) {x : Ow} {b : Nat} (hx : Blk g lam0 { tm := args ++ List.replicate n .undef, bx := bx, tk := tk } x b) : Blk g lam0 (bare bx tk) x b := by
  cases x with
  | box r => exact hx
  | tok id => exact hx
  | loc t => obtain ⟨⟨cs, h1⟩, _⟩ := hx; exact (start_noloc h h1).elim
theorem start_keeps (h : ∀ i (hi : i < args.length), FR w O g lam0 (bare bx tk) (vs.getD i undef) args[i]) : Keeps (cellOf w) (Stab O g lam0 (bare bx tk)) bx tk g (cellOf w) (Stab O g lam0 { tm := args ++ List.replicate n .undef, bx := bx, tk := tk }) bx tk g :=
  ⟨fun b o v hs hc => ⟨hc, hs.1, fun r hr => hs.2.1 r hr, fun t ht => hs.2.2.1 t (start_blk h ht), hs.2.2.2⟩, Nat.le_refl _, fun r es rs _ h => ⟨rs, h, rfl, rfl, rfl⟩, fun _ _ => rfl, Nat.le_refl _, fun id es n _ h => ⟨n, h, Nat.le_refl _, fun _ => ⟨rfl, rfl⟩⟩⟩
theorem start_fr (h : ∀ i (hi : i < args.length), FR w O g lam0 (bare bx tk) (vs.getD i undef) args[i]) : Fr lo tlo w O g lam0 (bare bx tk) w g lam0 { tm := args ++ List.replicate n .undef, bx := bx, tk := tk } :=
  ⟨rfl, rfl, rfl, Nat.le_refl _, start_keeps h, fun _ _ _ => rfl, fun b _ hl x hx => hl x (start_blk h hx), fun _ _ => ⟨rfl, rfl, rfl⟩, fun _ _ => ⟨rfl, rfl, rfl⟩⟩
theorem start_sim (hs : Sim w O g lam0 #[] (bare bx tk)) (hl : vs.size = args.length) (h : ∀ i (hi : i < args.length), FR w O g lam0 (bare bx tk) (vs.getD i undef) args[i]) : Sim w O g lam0 (vs ++ Array.replicate n undef) { tm := args ++ List.replicate n .undef, bx := bx, tk := tk } := by
  have hk := start_keeps (n := n) h
  refine ⟨by simp [hl], fun t ht => ?_, fun r es rs hb => RowsAt.keeps (st' := { tm := args ++ List.replicate n .undef, bx := bx, tk := tk }) hk (hs.box r es rs hb) rfl, fun t cs hc => (start_noloc h hc).elim, hs.tok, hs.nomap, fun x y b hx hy => hs.inj x y b (start_blk h hx) (start_blk h hy), fun x b hx => hs.own x b (start_blk h hx), hs.out⟩
  refine TR.of_FR ?_
  simp only
  rw [nth_start]
  by_cases hlt : t < args.length
  · rw [dif_pos hlt]
    have e : (vs ++ Array.replicate n undef).getD t undef = vs.getD t undef := by
      simp only [Array.getD_eq_getD_getElem?]
      rw [Array.getElem?_append_left (by omega)]
    rw [e]
    exact (h t hlt).keeps hk
  · rw [dif_neg hlt]
    have ht2 : t < args.length + n := by simpa using ht
    have e : (vs ++ Array.replicate n undef).getD t undef = .tuple #[] := by
      simp only [Array.getD_eq_getD_getElem?]
      rw [Array.getElem?_append_right (by omega)]
      simp [show t - vs.size < n by omega, undef]
    rw [e]
    exact .undef
end start
/-- What is asked of the environment: the library functions do what is said of them. -/
def PrimOk (E : Env) : Prop := ∀ f p, E.prim f = some p → CallOk E fun f' args bx tk lo tlo R => f' = f ∧ p args bx tk lo tlo R
theorem call_code (hP : PrimOk E) {k : Nat} (hk : CodeOk E k) : CallOk E (callBy E (wpk E k)) := by
  intro f args bx tk lo tlo R h
  unfold callBy at h
  split at h
  · rename_i p hp
    exact hP f p hp f args bx tk lo tlo R ⟨rfl, h⟩
  · split at h
    · exact h.elim
    · rename_i fn hf
      split at h
      · exact h.elim
      · rename_i c hb
        obtain ⟨hname, hlen, hreg, hW⟩ := h
        refine ⟨⟨fn, hf, by rw [hb]; rfl, hname⟩, fun w O g vs hs hlo htlo hl hv => ?_⟩
        have hfl : ∀ m lo n, lo ≤ n → lo ≤ floor m lo n ∧ floor m lo n ≤ n := by
          intro m lo n h
          cases m <;> simp [floor, h]
        have hst := start_sim (n := fn.ntmps - args.length) hs hl hv
        have hfr := start_fr (lo := floor (E.mode f) lo bx.length) (tlo := floor (E.mode f) tlo tk.length) (n := fn.ntmps - args.length) hv
        have hwp := hk _ _ _ _ _ _ hW hreg (fun t cs ht => (start_noloc hv ht).elim) { tmps := vs ++ Array.replicate (fn.ntmps - args.length) undef, defers := [] } w O g lam0 hst (hfl _ _ _ hlo).2 (hfl _ _ _ htlo).2 rfl
        refine calls_of_wp hf hb ?_
        rw [hl]
        refine wp_mono hwp fun e a' w' hp => ?_
        have hend : ∀ x, (x = .normal ∨ x = .ret) → Went (floor (E.mode f) lo bx.length) (floor (E.mode f) tlo tk.length) w O g lam0 { tm := args ++ List.replicate (fn.ntmps - args.length) .undef, bx := bx, tk := tk } (endOf E f fn.results.toList bx tk R x) a' w' →
            a'.defers = [] ∧ ∃ v, (results fn a'.tmps).run E.P w' = .ok v w' ∧ Back lo tlo w O g bx tk R (.returned v) w' := by
          intro x hx hw
          obtain ⟨st', g', lam', h1, h2, h3, h4⟩ := hw
          have h2' := hfr.trans h2
          have h1' : (match resAll E.P st' fn.results.toList with
              | none => False
              | some vs =>
                match E.mode f with
                | .pure => match freezeVs st' bx.length tk.length vs with
                  | some us => R (packV us) bx tk
                  | none => False
                | _ => R (packV vs) st'.bx st'.tk) := by
            rcases hx with rfl | rfl <;> exact h1
          split at h1'
          · exact h1'.elim
          · rename_i xs hxs
            obtain ⟨rs, r1, r2, r3⟩ := resAll_ok h3 hxs
            refine ⟨h4, _, run_results r1, ?_⟩
            have hother : E.mode f ≠ .pure → R (packV xs) st'.bx st'.tk → Back lo tlo w O g bx tk R (.returned (if h : rs.toArray.size = 1 then rs.toArray[0] else .tuple rs.toArray)) w' := by
              intro _ hR
              refine ⟨_, packV xs, st'.bx, st'.tk, g', rfl, hR, (h2'.trans Fr.drop).floor (hfl _ _ _ hlo).1 (hfl _ _ _ htlo).1, Sim.drop h3, ?_⟩
              exact VR.keeps drop_keeps (pack_ok r2 r3)
            cases hm : E.mode f with
            | pure =>
              rw [hm] at h1' h2'
              simp only at h1'
              split at h1'
              · rename_i us hus
                have h2p : Fr bx.length tk.length w O g lam0 (bare bx tk) w' g' lam' st' := h2'
                have hg := Fr.pure h2p
                obtain ⟨k1, k2⟩ := freezeVs_eq hus
                exact ⟨_, packV us, bx, tk, g, rfl, h1', Fr.grow hg, Sim.grow hs hg, pack_ok (by omega) fun i hi => freeze_value h3 h2p (r3 i (by omega)) (k2 i (by omega) hi)⟩
              · exact h1'.elim
            | make => rw [hm] at h1' hother; exact hother (by simp) h1'
            | obj => rw [hm] at h1' hother; exact hother (by simp) h1'
        cases e with
        | normal => exact hend .normal (.inl rfl) hp
        | ret => exact hend .ret (.inr rfl) hp
        | exit id =>
          obtain ⟨st', g', lam', h1, _⟩ := hp
          exact h1.elim
        | _ => exact hp.elim
/-- The whole: what the machine says of a call, the model does, whatever the tape. -/
theorem calls_ok (hE : E.Good) (hD : DrawOk E) (hP : PrimOk E) : ∀ k, CodeOk E k := by
  intro k
  induction k using Nat.strongRecOn with
  | _ k ih => exact code_ok hE hD k ih fun j hj => call_code hP (ih j hj)
theorem callsV_ok (hE : E.Good) (hD : DrawOk E) (hP : PrimOk E) : CallOk E (callsV E) := fun f args bx tk lo tlo R ⟨k, h⟩ => call_code hP (calls_ok hE hD hP k) f args bx tk lo tlo R h
end whole
end Go.Vi
