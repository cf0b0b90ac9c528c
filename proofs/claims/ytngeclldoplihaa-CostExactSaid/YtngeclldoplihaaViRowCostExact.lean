/-
Proved: the law CostExact returns true for every input, and each argument reads behind the call as it read before.
Conditions: none beyond the given row.
-/
import Derived.Test.YtngeclldoplihaaRows
import Derived.Test.YtngeclldoplihaaViCost8
import Derived.Test.YtngeclldoplihaaViOpen
import Derived.Test.YtngeclldoplihaaViPrims
namespace Go.Proofs.Ytngeclldoplihaa.costExact
open Go.ChangeShapes Go.WideShapes Go.ChangeAt Go.RowKit Go.Vi
open Go.ChangeMaps (open_string shut_string)
set_option linter.unusedVariables false
theorem own : ownKnob Try.prog.godebug = none := by kernel_rfl
theorem laidOut : laidOutB Try.prog = true := by kernel_rfl
set_option maxRecDepth 100000 in
theorem lifted (os : Os) (started : os.Started) (H : Type) (enc : TypeId × Value → H) :
    ReturnsInHanded {} Try.checked os 3 .any (Rows.costExactSpec.pre6 enc Try.prog Try.f3 Rows.costExactRow.domain false) (Rows.costExactSpec.post enc Try.prog Try.f3 false true false false) := by
  refine returnsInHanded_of_change_sized (C := Try.checked) own started (by kernel_rfl) Try.func3
    (ChangeSpec.witness6 (enc := enc) (C := Try.checked) false ⟨#[], #[.agg #[.int .i64 0, .int .i64 0, .int .i64 0, .int .i64 0, .int .i64 0, .int .i64 0, .int .i64 0, .int .i64 0, .int .i64 0, .int .i64 0, .int .i64 0, .int .i64 0, .int .i64 0, .int .i64 0, .int .i64 0, .int .i64 0, .int .i64 0, .int .u32 0], .agg #[.int .i64 0, .int .i64 0, .int .i64 0, .int .i64 0, .bool false], .slice none 0 0, .slice none 0 0, .int .i64 0, .agg #[.int .i64 0, .int .i64 0, .int .i64 0, .int .i64 0, .int .i64 0, .int .i64 0, .int .i64 0, .int .i64 0], .int .i64 0, .int .i64 0], []⟩ 8 (by kernel_rfl) (by kernel_rfl) (by kernel_rfl) (by kernel_rfl)) ?_
  intro W base args ds gs before hval0 hW hcnd hsz0 _
  have hval : ∀ (j : Nat) t v, Try.f3.params[j]? = some t → args[j]? = some v → Value.okWide Try.prog W .any base t v := hval0
  have hW' := hW
  obtain ⟨p, q, hA0, hV, rfl, hfz, hnd⟩ := hW
  have hA : DataW.TrodAll enc Try.prog W 0 (fun _ => true) true Try.f3.params.toList args.toList ds p := hA0
  rw [Try.params3] at hA hval
  obtain ⟨v0, vs0, d0, ds0, p0, q0, hargs, rfl, rfl, h0, r0⟩ := trodAll_cons hA
  obtain ⟨v1, vs1, d1, ds1, p1, q1, rfl, rfl, rfl, h1, r1⟩ := trodAll_cons r0
  obtain ⟨v2, vs2, d2, ds2, p2, q2, rfl, rfl, rfl, h2, r2⟩ := trodAll_cons r1
  obtain ⟨v3, vs3, d3, ds3, p3, q3, rfl, rfl, rfl, h3, r3⟩ := trodAll_cons r2
  obtain ⟨v4, vs4, d4, ds4, p4, q4, rfl, rfl, rfl, h4, r4⟩ := trodAll_cons r3
  obtain ⟨v5, vs5, d5, ds5, p5, q5, rfl, rfl, rfl, h5, r5⟩ := trodAll_cons r4
  obtain ⟨v6, vs6, d6, ds6, p6, q6, rfl, rfl, rfl, h6, r6⟩ := trodAll_cons r5
  obtain ⟨v7, vs7, d7, ds7, p7, q7, rfl, rfl, rfl, h7, r7⟩ := trodAll_cons r6
  obtain ⟨rfl, rfl, rfl⟩ := trodAll_nil r7
  obtain rfl : args = #[v0, v1, v2, v3, v4, v5, v6, v7] := by cases args; simp_all
  obtain ⟨rfl, rfl⟩ := trodVars_none hV
  have lt0 : ∀ x ∈ p0, x.block < W.heap.size := by obtain ⟨m, hm⟩ := h0; exact DataW.trod_lt m _ _ _ hm
  obtain ⟨x0, e0, w0⟩ := open_arg (P := Try.prog) (S := Stab O0 g0 lam0 (bare [] [])) (g := g0) stab0 (d := 6) (by kernel_rfl) (hval 0 24 v0 rfl rfl) h0
  obtain ⟨y0, rfl, z0⟩ := Config.fitV (d := 4) w0
  have lt1 : ∀ x ∈ p1, x.block < W.heap.size := by obtain ⟨m, hm⟩ := h1; exact DataW.trod_lt m _ _ _ hm
  obtain ⟨x1, e1, w1⟩ := open_arg (P := Try.prog) (S := Stab O0 g0 lam0 (bare [] [])) (g := g0) stab0 (d := 6) (by kernel_rfl) (hval 1 26 v1 rfl rfl) h1
  obtain ⟨y1, rfl, z1⟩ := Car.fitV (d := 4) w1
  have lt2 : ∀ x ∈ p2, x.block < W.heap.size := by obtain ⟨m, hm⟩ := h2; exact DataW.trod_lt m _ _ _ hm
  obtain ⟨x2, e2, w2⟩ := open_arg (P := Try.prog) (S := Stab O0 g0 lam0 (bare [] [])) (g := g0) stab0 (d := 6) (by kernel_rfl) (hval 2 27 v2 rfl rfl) h2
  obtain ⟨y2, rfl, l2, z2⟩ := fitL27 (d := 4) w2
  have lt3 : ∀ x ∈ p3, x.block < W.heap.size := by obtain ⟨m, hm⟩ := h3; exact DataW.trod_lt m _ _ _ hm
  obtain ⟨x3, e3, w3⟩ := open_arg (P := Try.prog) (S := Stab O0 g0 lam0 (bare [] [])) (g := g0) stab0 (d := 6) (by kernel_rfl) (hval 3 28 v3 rfl rfl) h3
  obtain ⟨y3, rfl, l3, z3⟩ := Call.fitL28 (d := 3) w3
  have lt4 : ∀ x ∈ p4, x.block < W.heap.size := by obtain ⟨m, hm⟩ := h4; exact DataW.trod_lt m _ _ _ hm
  obtain ⟨x4, e4, w4⟩ := open_arg (P := Try.prog) (S := Stab O0 g0 lam0 (bare [] [])) (g := g0) stab0 (d := 6) (by kernel_rfl) (hval 4 3 v4 rfl rfl) h4
  obtain ⟨y4, rfl, z4⟩ := fit3 (d := 5) w4
  have lt5 : ∀ x ∈ p5, x.block < W.heap.size := by obtain ⟨m, hm⟩ := h5; exact DataW.trod_lt m _ _ _ hm
  obtain ⟨x5, e5, w5⟩ := open_arg (P := Try.prog) (S := Stab O0 g0 lam0 (bare [] [])) (g := g0) stab0 (d := 6) (by kernel_rfl) (hval 5 30 v5 rfl rfl) h5
  obtain ⟨y5, rfl, z5⟩ := Call.fitV (d := 4) w5
  have lt6 : ∀ x ∈ p6, x.block < W.heap.size := by obtain ⟨m, hm⟩ := h6; exact DataW.trod_lt m _ _ _ hm
  obtain ⟨x6, e6, w6⟩ := open_arg (P := Try.prog) (S := Stab O0 g0 lam0 (bare [] [])) (g := g0) stab0 (d := 6) (by kernel_rfl) (hval 6 3 v6 rfl rfl) h6
  obtain ⟨y6, rfl, z6⟩ := fit3 (d := 5) w6
  have lt7 : ∀ x ∈ p7, x.block < W.heap.size := by obtain ⟨m, hm⟩ := h7; exact DataW.trod_lt m _ _ _ hm
  obtain ⟨x7, e7, w7⟩ := open_arg (P := Try.prog) (S := Stab O0 g0 lam0 (bare [] [])) (g := g0) stab0 (d := 6) (by kernel_rfl) (hval 7 3 v7 rfl rfl) h7
  obtain ⟨y7, rfl, z7⟩ := fit3 (d := 5) w7
  have hcall : callsV E0 3 [.agg y0.cells, .agg y1.cells, .sl .frozen 1 (y2.map _), .sl .frozen 8 (y3.map Call.cells), .int .i64 y4, .agg y5.cells, .int .i64 y6, .int .i64 y7] [] [] 0 0 (fun u _ _ => u = .bool true) := exact_walk (IsL.sl (by unfold maxLen at l2; omega)) (IsL.sl (by unfold maxLen at l3; omega))
  have hcalls : Calls Try.prog 3 #[v0, v1, v2, v3, v4, v5, v6, v7] W fun e w' => e = .returned (.bool true) ∧ Below W.heap.size W w' := law_calls (E := E0) E0good (by kernel_rfl) primOk rfl (by intro i hi; match i, hi with | 0, _ => exact e0 | 1, _ => exact e1 | 2, _ => exact e2 | 3, _ => exact e3 | 4, _ => exact e4 | 5, _ => exact e5 | 6, _ => exact e6 | 7, _ => exact e7) hcall
  refine hcalls.mono fun e W' ⟨he, bel⟩ => ?_
  subst he
  exact ⟨_, rfl, _, _, _, [], _, [], hW', trodAll_mk1 (shut_bool Try.underlying4 _), (trodAll_cons_mk (Below.trod laidOut (by kernel_rfl) (of_decide_eq_true (by kernel_rfl)) h0 bel lt0) (trodAll_cons_mk (Below.trod laidOut (by kernel_rfl) (of_decide_eq_true (by kernel_rfl)) h1 bel lt1) (trodAll_cons_mk (Below.trod laidOut (by kernel_rfl) (of_decide_eq_true (by kernel_rfl)) h2 bel lt2) (trodAll_cons_mk (Below.trod laidOut (by kernel_rfl) (of_decide_eq_true (by kernel_rfl)) h3 bel lt3) (trodAll_cons_mk (Below.trod laidOut (by kernel_rfl) (of_decide_eq_true (by kernel_rfl)) h4 bel lt4) (trodAll_cons_mk (Below.trod laidOut (by kernel_rfl) (of_decide_eq_true (by kernel_rfl)) h5 bel lt5) (trodAll_cons_mk (Below.trod laidOut (by kernel_rfl) (of_decide_eq_true (by kernel_rfl)) h6 bel lt6) (trodAll_cons_mk (Below.trod laidOut (by kernel_rfl) (of_decide_eq_true (by kernel_rfl)) h7 bel lt7) trodAll_mk0)))))))), rfl, bel.frame _, fun h => by cases h⟩
theorem over : Rows.costExactRow.holds Try.pinned (OpenSpec.ofChange Rows.costExactSpec) :=
  OpenClaim.holds_of_wide 3 Try.f3 rfl rfl rfl rfl rfl rfl rfl ⟨rfl, rfl, rfl, rfl, rfl⟩ rfl rfl rfl rfl rfl (by kernel_rfl) Try.func3 (by kernel_rfl)
    (of_decide_eq_true (by kernel_rfl)) (by unfold Func.isWrapper; first | (rw [if_pos (by decide +kernel)]; kernel_rfl) | (rw [if_neg (by decide +kernel)]; exact ⟨rfl, rfl⟩))
    (fun os started H enc _ => lifted os started H enc)
theorem proved : Rows.CostExactSaid := over
#print axioms proved
end Go.Proofs.Ytngeclldoplihaa.costExact
namespace Go.Proofs.Ytngeclldoplihaa
/-- The row, under a short name, for the claim. -/
theorem costExact_holds : Rows.CostExactSaid := costExact.proved
end Go.Proofs.Ytngeclldoplihaa
