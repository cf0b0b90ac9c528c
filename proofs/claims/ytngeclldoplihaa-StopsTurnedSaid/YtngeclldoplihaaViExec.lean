/- The abstract machine as a program that Lean's kernel can run: for calls of which all is known. -/
import Derived.Test.YtngeclldoplihaaViPrim
set_option linter.unusedVariables false
set_option linter.unusedSimpArgs false
namespace Go.Vi
abbrev CX := FuncId → List V → List Box → List (Nat × Nat) → Nat → Nat → Option (V × List Box × List (Nat × Nat))
abbrev WX := FuncId → Nat → Nat → Code → St → Option (Ex × St)
def locX (L : Nat → Bool) (d : Option Nat) (v : V) : Bool :=
  match v with
  | .loc _ => (match d with | some n => L n | none => false)
  | _ => true
def putX (L : Nat → Bool) (d : Option Nat) (v : V) (st : St) : Option St := if locX L d v then some (st.put d v) else none
def doX (E : Env) (C : CX) (fn rg lo tlo : Nat) (o : Oper) (st : St) : Option St :=
  match opV E fn rg lo tlo st o.dst o.op with
  | some (v, st') => putX (E.loc fn) o.dst v st'
  | none =>
    match calleeOf st o.op with
    | none => none
    | some (f, args) =>
      match C f args st.bx st.tk lo tlo with
      | none => none
      | some (v, bx, tk) => putX (E.loc fn) o.dst v { st with bx := bx, tk := tk }
def oneX (E : Env) (C : CX) (fn rg lo tlo : Nat) (ds : List Oper) (o : Oper) (st : St) : Option St :=
  match wantV ds st o.guard with
  | none => none
  | some false => some (st.put o.dst .undef)
  | some true => doX E C fn rg lo tlo o st
def listX (E : Env) (C : CX) (fn rg lo tlo : Nat) (ds : List Oper) : List Oper → St → Option St
  | [], st => some st
  | o :: os, st => match oneX E C fn rg lo tlo ds o st with
    | some s => listX E C fn rg lo tlo ds os s
    | none => none
def endX (E : Env) (f : FuncId) (rs : List ResultVar) (bx0 : List Box) (tk0 : List (Nat × Nat)) : Ex → St → Option (V × List Box × List (Nat × Nat))
  | .exit _, _ => none
  | _, st =>
    match resAll E.P st rs with
    | none => none
    | some vs =>
      match E.mode f with
      | .pure => match freezeVs st bx0.length tk0.length vs with
        | some us => some (packV us, bx0, tk0)
        | none => none
      | _ => some (packV vs, st.bx, st.tk)
def callX (E : Env) (p : FuncId → Option PX) (T : FuncId → Option Func) (W : WX) : CX := fun f args bx tk lo tlo =>
  match p f with
  | some q => q args bx tk lo tlo
  | none =>
    match T f with
    | none => none
    | some fn =>
      match fn.body with
      | none => none
      | some c =>
        if Nat.ble args.length fn.ntmps then
          match W f (floor (E.mode f) lo bx.length) (floor (E.mode f) tlo tk.length) c { tm := args ++ List.replicate (fn.ntmps - args.length) .undef, bx := bx, tk := tk } with
          | some (e, s) => endX E f fn.results.toList bx tk e s
          | none => none
        else none
def codeX (E : Env) (p : FuncId → Option PX) (T : FuncId → Option Func) : Nat → FuncId → Nat → Nat → Code → St → Option (Ex × St)
  | 0, _, _, _, _, _ => none
  | k + 1, fn, lo, tlo, c, st =>
    match c with
    | .skip => some (.normal, st)
    | .seq a b => match codeX E p T k fn lo tlo a st with
      | some (.normal, s) => codeX E p T k fn lo tlo b s
      | r => r
    | .region id ops _ => match listX E (callX E p T (codeX E p T k)) fn id lo tlo ops.toList ops.toList st with
      | some s => some (.normal, s)
      | none => none
    | .cond c a b => match ev st c with
      | some (.bool t) => codeX E p T k fn lo tlo (if t then a else b) st
      | _ => none
    | .block id b => match codeX E p T k fn lo tlo b st with
      | some (.exit j, s) => if j = id then some (.normal, s) else some (.exit j, s)
      | r => r
    | .loop b => match codeX E p T k fn lo tlo b st with
      | some (.normal, s) => codeX E p T k fn lo tlo (.loop b) s
      | r => r
    | .exit id => some (.exit id, st)
    | .ret => some (.ret, st)
    | _ => none
section sound
variable {E : Env} {p : FuncId → Option PX} {T : FuncId → Option Func}
/-- What is asked of the table of functions. -/
def TabOk (E : Env) (T : FuncId → Option Func) : Prop := ∀ f fn, T f = some fn → E.P.funcs[f]? = some fn ∧ (fn.name == "runtime.NumGoroutine") = false ∧ ∀ c, fn.body = some c → regionsOK E f c = true
def CXOk (C : CX) (C' : CallT) : Prop := ∀ f args bx tk lo tlo v b t, C f args bx tk lo tlo = some (v, b, t) → ∀ R : Res, R v b t → C' f args bx tk lo tlo R
def WXOk (W : WX) (W' : WT) : Prop := ∀ f lo tlo c st e s, W f lo tlo c st = some (e, s) → ∀ Q : Ex → St → Prop, Q e s → W' f lo tlo c st Q
theorem putX_ok {L : Nat → Bool} {d : Option Nat} {v : V} {st s : St} (h : putX L d v st = some s) {K : St → Prop} (hk : K s) : locK L d v (K (st.put d v)) := by
  unfold putX at h
  split at h
  · rename_i hl
    injection h with h
    subst h
    unfold locK
    split
    · cases d with
      | none => cases hl
      | some n => exact ⟨⟨n, rfl, hl⟩, hk⟩
    · exact hk
  · cases h
theorem oneX_ok {C : CX} {C' : CallT} (hC : CXOk C C') {fn rg lo tlo : Nat} {ds : List Oper} {o : Oper} {st s : St} (h : oneX E C fn rg lo tlo ds o st = some s) {K : St → Prop} (hk : K s) : wpOne E C' fn rg lo tlo ds o.dst o.op o.guard st K := by
  unfold oneX at h
  unfold wpOne
  split at h
  · cases h
  · rename_i hw
    injection h with h
    subst h
    rw [hw, guardK_false]
    exact hk
  · rename_i hw
    rw [hw, guardK_true]
    unfold doX at h
    split at h
    · rename_i v st' ho
      rw [ho]
      exact putX_ok h hk
    · rename_i ho
      rw [ho, stepK_none]
      split at h
      · cases h
      · rename_i f args hc
        rw [hc, callK_some]
        split at h
        · cases h
        · rename_i v bx tk hcc
          exact hC _ _ _ _ _ _ _ _ _ hcc _ (putX_ok h hk)
theorem listX_ok {C : CX} {C' : CallT} (hC : CXOk C C') {fn rg lo tlo : Nat} {ds : List Oper} : ∀ {l : List Oper} {st s : St}, listX E C fn rg lo tlo ds l st = some s → ∀ {K : St → Prop}, K s → wpList E C' fn rg lo tlo ds l st K
  | [], st, s, h, K, hk => by simp only [listX, Option.some.injEq] at h; subst h; exact hk
  | o :: l, st, s, h, K, hk => by
    unfold listX at h
    split at h
    · rename_i s1 h1
      exact oneX_ok hC h1 (listX_ok hC h hk)
    · cases h
theorem endX_ok {f : FuncId} {rs : List ResultVar} {bx : List Box} {tk : List (Nat × Nat)} {e : Ex} {s : St} {v : V} {b : List Box} {t : List (Nat × Nat)} (h : endX E f rs bx tk e s = some (v, b, t)) {R : Res} (hR : R v b t) : endOf E f rs bx tk R e s := by
  cases e with
  | exit id => cases h
  | normal | ret =>
    simp only [endX] at h
    simp only [endOf]
    split at h
    · cases h
    · rename_i vs hv
      rw [hv]
      simp only
      split at h
      · rename_i hm
        rw [hm]
        simp only
        split at h
        · rename_i us hu
          rw [hu]
          injection h with h; injection h with e1 e2; injection e2 with e2 e3; subst e1; subst e2; subst e3
          exact hR
        · cases h
      · rename_i hm
        injection h with h; injection h with e1 e2; injection e2 with e2 e3; subst e1; subst e2; subst e3
        split
        · rename_i hm2; exact absurd hm2 hm
        · exact hR
theorem callX_ok (hp : ∀ f, E.prim f = (p f).map relOf) (hT : TabOk E T) {W : WX} {W' : WT} (hW : WXOk W W') : CXOk (callX E p T W) (callBy E W') := by
  intro f args bx tk lo tlo v b t h R hR
  unfold callX at h
  unfold callBy
  rw [hp]
  split at h
  · rename_i q hq
    rw [hq]
    simp only [Option.map_some, relOf, h]
    exact hR
  · rename_i hq
    rw [hq]
    simp only [Option.map_none]
    split at h
    · cases h
    · rename_i fn hf
      obtain ⟨h1, h2, h3⟩ := hT f fn hf
      rw [h1]
      simp only
      split at h
      · cases h
      · rename_i c hb
        rw [hb]
        simp only
        split at h
        · rename_i hl
          split at h
          · rename_i e s hw
            exact ⟨h2, Nat.le_of_ble_eq_true hl, h3 c hb, hW _ _ _ _ _ _ _ hw _ (endX_ok h hR)⟩
          · cases h
        · cases h
theorem codeX_ok (hE : E.Good) (hp : ∀ f, E.prim f = (p f).map relOf) (hT : TabOk E T) : ∀ k, WXOk (codeX E p T k) (wpk E k)
  | 0 => fun f lo tlo c st e s h => by cases h
  | k + 1 => by
    intro fn lo tlo c st e s h Q hQ
    have ih := codeX_ok hE hp hT k
    unfold codeX at h
    unfold wpk
    cases c <;> simp only at h ⊢ <;> try (cases h; done)
    case skip => injection h with h; injection h with e1 e2; subst e1; subst e2; exact hQ
    case exit id => injection h with h; injection h with e1 e2; subst e1; subst e2; exact hQ
    case ret => injection h with h; injection h with e1 e2; subst e1; subst e2; exact hQ
    case region id ops draw =>
      split at h
      · rename_i s' hl
        injection h with h; injection h with e1 e2; subst e1; subst e2
        exact listX_ok (callX_ok hp hT ih) hl hQ
      · cases h
    case seq a b =>
      split at h
      · rename_i s' ha
        exact ih _ _ _ _ _ _ _ ha _ (ih _ _ _ _ _ _ _ h _ hQ)
      · rename_i r hne
        refine ih _ _ _ _ _ _ _ h _ ?_
        cases e with
        | normal => exact absurd h (by intro h'; exact hne _ h')
        | exit id => exact hQ
        | ret => exact hQ
    case cond c a b =>
      split at h
      · rename_i t ht
        exact ⟨t, ht, ih _ _ _ _ _ _ _ h _ hQ⟩
      · cases h
    case block id b =>
      split at h
      · rename_i j s' hb
        split at h
        · rename_i hj
          injection h with h; injection h with e1 e2; subst e1; subst e2
          exact ih _ _ _ _ _ _ _ hb _ (by simp only [blockK, hj, if_true]; exact hQ)
        · rename_i hj
          injection h with h; injection h with e1 e2; subst e1; subst e2
          exact ih _ _ _ _ _ _ _ hb _ (by simp only [blockK, hj, if_false]; exact hQ)
      · rename_i r hne
        refine ih _ _ _ _ _ _ _ h _ ?_
        cases e with
        | normal => exact hQ
        | exit j => exact absurd h (by intro h'; exact hne _ _ h')
        | ret => exact hQ
    case loop b =>
      split at h
      · rename_i s' ha
        exact ih _ _ _ _ _ _ _ ha _ (ih _ _ _ _ _ _ _ h _ hQ)
      · rename_i r hne
        refine ih _ _ _ _ _ _ _ h _ ?_
        cases e with
        | normal => exact absurd h (by intro h'; exact hne _ h')
        | exit id => exact hQ
        | ret => exact hQ
/-- A call that has been run. -/
theorem callsV_run (hE : E.Good) (hp : ∀ f, E.prim f = (p f).map relOf) (hT : TabOk E T) (k : Nat) {f : FuncId} {args : List V} {bx : List Box} {tk : List (Nat × Nat)} {lo tlo : Nat} {v : V} {b : List Box} {t : List (Nat × Nat)}
    (h : callX E p T (codeX E p T k) f args bx tk lo tlo = some (v, b, t)) {R : Res} (hR : R v b t) : callsV E f args bx tk lo tlo R :=
  ⟨k, callX_ok hp hT (codeX_ok hE hp hT k) _ _ _ _ _ _ _ _ _ h R hR⟩
end sound
end Go.Vi
