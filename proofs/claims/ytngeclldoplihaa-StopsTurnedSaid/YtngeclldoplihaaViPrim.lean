/- A box whose rows are all written anew: what library functions do to a slice. -/
import Derived.Test.YtngeclldoplihaaViDraw
set_option linter.unusedVariables false
set_option linter.unusedSimpArgs false
namespace Go.Vi
open Go.RowKit
section prim
variable {P : Program} {E : Env} {lo tlo : Nat} {w w' : World} {O : Nat → Prop} {g : G} {lam : Nat → Nat} {st : St} {tmps : Array Value} {bx : List Box} {tk : List (Nat × Nat)}
theorem box_rows (hs : Sim w O g lam tmps st) {r es : Nat} {rs rs' : List (List V)} (hb : st.bx[r]? = some (.rows es rs)) (hlen : rs'.length = rs.length) (hos : w'.os = w.os) (htape : w'.tape = w.tape) (hout : w'.output = w.output)
    (hsz : w'.heap.size = w.heap.size) (hold : ∀ b, b ≠ g.ρ r → w'.heap[b]? = w.heap[b]?) {cur' : Array Value} {e : TypeId} (hblk' : w'.heap[g.ρ r]? = some (.cells cur' e (0, 0))) (hcs : cur'.size = g.κ r * es)
    (hrow : ∀ row ∈ rs', row.length = es ∧ ∀ v ∈ row, v.cell = true) (hv : ∀ i j (hi : i < rs'.length) (hj : j < rs'[i].length), ∃ c, cur'[i * es + j]? = some c ∧ FR w O g lam st c rs'[i][j]) :
    Wrote w w' O g lam st { st with bx := st.bx.set r (.rows es rs') } (.box r) (g.ρ r) ∧ Sim w' O g lam tmps { st with bx := st.bx.set r (.rows es rs') } := by
  have hr : r < st.bx.length := (List.getElem?_eq_some_iff.1 hb).1
  obtain ⟨cur, e0, h1, h2, h3, h4, h5⟩ := hs.box r es rs hb
  have hown : Blk g lam st (.box r) (g.ρ r) := ⟨by rw [hb]; trivial, rfl⟩
  have hblk : ∀ y b, Blk g lam { st with bx := st.bx.set r (.rows es rs') } y b → Blk g lam st y b := by
    intro y b hy
    cases y with
    | loc t => exact hy
    | tok id => exact hy
    | box r' =>
      obtain ⟨k1, k2⟩ := hy
      refine ⟨?_, k2⟩
      simp only [List.getElem?_set] at k1
      split at k1
      · rename_i e'; subst e'; rw [hb]; trivial
      · exact k1
  have hW : Wrote w w' O g lam st { st with bx := st.bx.set r (.rows es rs') } (.box r) (g.ρ r) := by
    refine ⟨hown, hos, htape, hout, hsz, hold, rfl, by simp, hblk, by simp, fun r' es' rs2 h => ?_⟩
    simp only [List.getElem?_set] at h
    split at h
    · rename_i e'
      subst e'
      injection h with h
      injection h with q1 q2
      subst q1
      subst q2
      exact ⟨rs, hb, hlen, fun hne => absurd rfl hne⟩
    · exact ⟨rs2, h, rfl, fun _ => rfl⟩
  have hk := hW.keeps
  refine ⟨hW, ⟨hs.size, fun t ht => (hs.slot t ht).keeps hk (fun _ _ => rfl) (fun u off _ cs h => ⟨⟨cs, h⟩, rfl⟩), fun r' es' rs2 h => ?_, fun t cs h => ?_, fun id es' n h b hbb => ?_, fun r' es' h => ?_, fun x y b hx hy => hs.inj x y b (hblk _ _ hx) (hblk _ _ hy), fun x b hx => ?_, fun b h => by rw [hsz]; exact hs.out b h⟩⟩
  · simp only [List.getElem?_set] at h
    split at h
    · rename_i e'
      subst e'
      injection h with h
      injection h with q1 q2
      subst q1
      subst q2
      refine ⟨cur', e, hblk', hcs, by rw [hlen]; exact h3, hrow, fun i j hi hj => ?_⟩
      obtain ⟨c, q1, q2⟩ := hv i j hi hj
      exact ⟨c, q1, q2.keeps hk⟩
    · rename_i hne
      refine (hs.box r' es' rs2 h).keeps hk (hold _ fun e' => ?_)
      have := hs.inj (.box r') (.box r) (g.ρ r) ⟨by rw [h]; trivial, e'⟩ hown
      injection this with this
      exact hne this.symm
  · refine (hs.loc t cs h).keeps hk (hold _ fun e' => ?_)
    have := hs.inj (.loc t) (.box r) (g.ρ r) ⟨⟨cs, h⟩, e'⟩ hown
    cases this
  · obtain ⟨cur', e', q1, q2⟩ := hs.tok id es' n h b hbb
    refine ⟨cur', e', (hold _ fun e'' => ?_).trans q1, q2⟩
    have := hs.inj (.tok id) (.box r) (g.ρ r) ⟨(List.getElem?_eq_some_iff.1 h).1, by rw [hbb, e'']⟩ hown
    cases this
  · simp only [List.getElem?_set] at h
    split at h
    · cases h
    · exact hs.nomap r' es' h
  · rw [hsz]; exact hs.own x b (hblk _ _ hx)

/-- Library functions, told by what they compute. -/
abbrev PX := List V → List Box → List (Nat × Nat) → Nat → Nat → Option (V × List Box × List (Nat × Nat))
def relOf (p : PX) (args : List V) (bx : List Box) (tk : List (Nat × Nat)) (lo tlo : Nat) (R : Res) : Prop :=
  match p args bx tk lo tlo with
  | some (v, b, t) => R v b t
  | none => False
theorem relOf_eq {p : PX} {args : List V} {R : Res} (h : relOf p args bx tk lo tlo R) : ∃ v b t, p args bx tk lo tlo = some (v, b, t) ∧ R v b t := by
  unfold relOf at h
  split at h
  · rename_i v b t e; exact ⟨v, b, t, e, h⟩
  · exact h.elim
theorem relOf_mono {p : PX} {args : List V} {R R' : Res} (h : relOf p args bx tk lo tlo R) (hR : ∀ v b t, R v b t → R' v b t) : relOf p args bx tk lo tlo R' := by
  obtain ⟨v, b, t, e, h⟩ := relOf_eq h
  simp only [relOf, e]
  exact hR _ _ _ h
theorem relOf_point {p : PX} {args : List V} {R : Res} (h : relOf p args bx tk lo tlo R) : ∃ v b t, R v b t ∧ relOf p args bx tk lo tlo (fun v' b' t' => v' = v ∧ b' = b ∧ t' = t) := by
  obtain ⟨v, b, t, e, h⟩ := relOf_eq h
  exact ⟨v, b, t, h, by simp only [relOf, e, and_self]⟩
theorem env_good (p : FuncId → Option PX) (h : ∀ f, E.prim f = (p f).map relOf) : E.Good := by
  refine ⟨fun f q args bx tk lo tlo R R' hf hq hR => ?_, fun f q args bx tk lo tlo R hf hq => ?_⟩
  · rw [h] at hf
    cases hp : p f with
    | none => rw [hp] at hf; cases hf
    | some x => rw [hp] at hf; simp only [Option.map_some, Option.some.injEq] at hf; subst hf; exact relOf_mono hq hR
  · rw [h] at hf
    cases hp : p f with
    | none => rw [hp] at hf; cases hf
    | some x => rw [hp] at hf; simp only [Option.map_some, Option.some.injEq] at hf; subst hf; exact relOf_point hq
/-- What is asked of one library function. -/
def PXOk (P : Program) (f : FuncId) (p : PX) : Prop := enters P f ∧
  ∀ args bx tk lo tlo v b t, p args bx tk lo tlo = some (v, b, t) → ∀ (w : World) (O : Nat → Prop) (g : G) (vs : Array Value), Sim w O g lam0 #[] (bare bx tk) → lo ≤ bx.length → tlo ≤ tk.length → vs.size = args.length →
    (∀ i (hi : i < args.length), FR w O g lam0 (bare bx tk) (vs.getD i undef) args[i]) → Calls P f vs w (Back lo tlo w O g bx tk fun v' b' t' => v' = v ∧ b' = b ∧ t' = t)
theorem Back.mono {R R' : Res} (hR : ∀ v b t, R v b t → R' v b t) {e : Ending} (h : Back lo tlo w O g bx tk R e w') : Back lo tlo w O g bx tk R' e w' :=
  let ⟨v, x, b, t, g', h1, h2, h3, h4, h5⟩ := h
  ⟨v, x, b, t, g', h1, hR _ _ _ h2, h3, h4, h5⟩
theorem prim_ok (p : FuncId → Option PX) (h : ∀ f, E.prim f = (p f).map relOf) (hp : ∀ f q, p f = some q → PXOk E.P f q) : PrimOk E := by
  intro f q hf f' args bx tk lo tlo R ⟨e, hq⟩
  subst e
  rw [h] at hf
  cases hpf : p f' with
  | none => rw [hpf] at hf; cases hf
  | some x =>
    rw [hpf] at hf
    simp only [Option.map_some, Option.some.injEq] at hf
    subst hf
    obtain ⟨h1, h2⟩ := hp f' x hpf
    obtain ⟨v, b, t, e, hR⟩ := relOf_eq hq
    refine ⟨h1, fun w O g vs hs hlo htlo hl hv => ?_⟩
    refine Calls.mono (h2 args bx tk lo tlo v b t e w O g vs hs hlo htlo hl hv) fun e w' hb => Back.mono ?_ hb
    rintro v' b' t' ⟨rfl, rfl, rfl⟩
    exact hR
end prim
end Go.Vi
