/-
Proved: the law StopsTurned returns true for every input, and each argument reads behind the call as it read before.
Conditions: none beyond the given row.
-/
import Derived.Test.YtngeclldoplihaaRows
import Derived.Test.YtngeclldoplihaaViStops7
import Derived.Test.YtngeclldoplihaaViOpen
import Derived.Test.YtngeclldoplihaaViPrims
namespace Go.Proofs.Ytngeclldoplihaa.stopsTurned
open Go.ChangeShapes Go.WideShapes Go.ChangeAt Go.RowKit Go.Vi
open Go.ChangeMaps (open_string shut_string)
set_option linter.unusedVariables false
theorem own : ownKnob Try.prog.godebug = none := by kernel_rfl
theorem laidOut : laidOutB Try.prog = true := by kernel_rfl
set_option maxRecDepth 100000 in
theorem lifted (os : Os) (started : os.Started) (H : Type) (enc : TypeId × Value → H) :
    ReturnsInHanded {} Try.checked os 6 .any (Rows.stopsTurnedSpec.pre6 enc Try.prog Try.f6 Rows.stopsTurnedRow.domain false) (Rows.stopsTurnedSpec.post enc Try.prog Try.f6 false true false false) := by
  refine returnsInHanded_of_change_sized (C := Try.checked) own started (by kernel_rfl) Try.func6
    (ChangeSpec.witness6 (enc := enc) (C := Try.checked) false ⟨#[], #[.agg #[.int .i64 0, .int .i64 0, .int .i64 0, .int .i64 0, .bool false], .slice none 0 0, .int .i64 0], []⟩ 8 (by kernel_rfl) (by kernel_rfl) (by kernel_rfl) (by kernel_rfl)) ?_
  intro W base args ds gs before hval0 hW hcnd hsz0 _
  have hval : ∀ (j : Nat) t v, Try.f6.params[j]? = some t → args[j]? = some v → Value.okWide Try.prog W .any base t v := hval0
  have hW' := hW
  obtain ⟨p, q, hA0, hV, rfl, hfz, hnd⟩ := hW
  have hA : DataW.TrodAll enc Try.prog W 0 (fun _ => true) true Try.f6.params.toList args.toList ds p := hA0
  rw [Try.params6] at hA hval
  obtain ⟨v0, vs0, d0, ds0, p0, q0, hargs, rfl, rfl, h0, r0⟩ := trodAll_cons hA
  obtain ⟨v1, vs1, d1, ds1, p1, q1, rfl, rfl, rfl, h1, r1⟩ := trodAll_cons r0
  obtain ⟨v2, vs2, d2, ds2, p2, q2, rfl, rfl, rfl, h2, r2⟩ := trodAll_cons r1
  obtain ⟨rfl, rfl, rfl⟩ := trodAll_nil r2
  obtain rfl : args = #[v0, v1, v2] := by cases args; simp_all
  obtain ⟨rfl, rfl⟩ := trodVars_none hV
  have lt0 : ∀ x ∈ p0, x.block < W.heap.size := by obtain ⟨m, hm⟩ := h0; exact DataW.trod_lt m _ _ _ hm
  obtain ⟨x0, e0, w0⟩ := open_arg (P := Try.prog) (S := Stab O0 g0 lam0 (bare [] [])) (g := g0) stab0 (d := 6) (by kernel_rfl) (hval 0 26 v0 rfl rfl) h0
  obtain ⟨y0, rfl, z0⟩ := Car.fitV (d := 4) w0
  have lt1 : ∀ x ∈ p1, x.block < W.heap.size := by obtain ⟨m, hm⟩ := h1; exact DataW.trod_lt m _ _ _ hm
  obtain ⟨x1, e1, w1⟩ := open_arg (P := Try.prog) (S := Stab O0 g0 lam0 (bare [] [])) (g := g0) stab0 (d := 6) (by kernel_rfl) (hval 1 28 v1 rfl rfl) h1
  obtain ⟨y1, rfl, l1, z1⟩ := Call.fitL28 (d := 3) w1
  have lt2 : ∀ x ∈ p2, x.block < W.heap.size := by obtain ⟨m, hm⟩ := h2; exact DataW.trod_lt m _ _ _ hm
  obtain ⟨x2, e2, w2⟩ := open_arg (P := Try.prog) (S := Stab O0 g0 lam0 (bare [] [])) (g := g0) stab0 (d := 6) (by kernel_rfl) (hval 2 3 v2 rfl rfl) h2
  obtain ⟨y2, rfl, z2⟩ := fit3 (d := 5) w2
  have hcall : callsV E0 6 [.agg y0.cells, .sl .frozen 8 (y1.map Call.cells), .int .i64 y2] [] [] 0 0 (fun u _ _ => u = .bool true) := sturned_walk (IsL.sl (by unfold maxLen at l1; omega))
  have hcalls : Calls Try.prog 6 #[v0, v1, v2] W fun e w' => e = .returned (.bool true) ∧ Below W.heap.size W w' := law_calls (E := E0) E0good (by kernel_rfl) primOk rfl (by intro i hi; match i, hi with | 0, _ => exact e0 | 1, _ => exact e1 | 2, _ => exact e2) hcall
  refine hcalls.mono fun e W' ⟨he, bel⟩ => ?_
  subst he
  exact ⟨_, rfl, _, _, _, [], _, [], hW', trodAll_mk1 (shut_bool Try.underlying4 _), (trodAll_cons_mk (Below.trod laidOut (by kernel_rfl) (of_decide_eq_true (by kernel_rfl)) h0 bel lt0) (trodAll_cons_mk (Below.trod laidOut (by kernel_rfl) (of_decide_eq_true (by kernel_rfl)) h1 bel lt1) (trodAll_cons_mk (Below.trod laidOut (by kernel_rfl) (of_decide_eq_true (by kernel_rfl)) h2 bel lt2) trodAll_mk0))), rfl, bel.frame _, fun h => by cases h⟩
theorem over : Rows.stopsTurnedRow.holds Try.pinned (OpenSpec.ofChange Rows.stopsTurnedSpec) :=
  OpenClaim.holds_of_wide 6 Try.f6 rfl rfl rfl rfl rfl rfl rfl ⟨rfl, rfl, rfl, rfl, rfl⟩ rfl rfl rfl rfl rfl (by kernel_rfl) Try.func6 (by kernel_rfl)
    (of_decide_eq_true (by kernel_rfl)) (by unfold Func.isWrapper; first | (rw [if_pos (by decide +kernel)]; kernel_rfl) | (rw [if_neg (by decide +kernel)]; exact ⟨rfl, rfl⟩))
    (fun os started H enc _ => lifted os started H enc)
theorem proved : Rows.StopsTurnedSaid := over
#print axioms proved
end Go.Proofs.Ytngeclldoplihaa.stopsTurned
namespace Go.Proofs.Ytngeclldoplihaa
/-- The row, under a short name, for the claim. -/
theorem stopsTurned_holds : Rows.StopsTurnedSaid := stopsTurned.proved
end Go.Proofs.Ytngeclldoplihaa
