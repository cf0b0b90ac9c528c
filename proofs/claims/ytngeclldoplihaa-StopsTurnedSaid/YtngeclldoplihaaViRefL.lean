/- A list that is made by appending to none and then written in place: it lies in a box. -/
import Derived.Test.YtngeclldoplihaaViList
import Derived.Test.YtngeclldoplihaaViPrimSort
set_option linter.unusedVariables false
set_option linter.unusedSimpArgs false
namespace Go.Vi
/-- The boxes after so many appends: all but the last are dead. -/
def gBx (bx : List Box) (es : Nat) : List (List V) → List Box
  | [] => bx
  | r :: rs => bx ++ List.replicate rs.length .dead ++ [.rows es (r :: rs)]
def gRef (bx : List Box) : List (List V) → V
  | [] => .nils
  | r :: rs => .ref (bx.length + rs.length) 0 (rs.length + 1)
section gref
variable {bx : List Box} {tk : List (Nat × Nat)} {tm : List V} {es : Nat} {rs : List (List V)} {lo tlo : Nat}
theorem gRef_copy : (gRef bx rs).copy = some (gRef bx rs) := by cases rs <;> rfl
theorem gRef_lk {L : Nat → Bool} {d : Option Nat} {p : Prop} : locK L d (gRef bx rs) p = p := by cases rs <;> rfl
theorem gRef_clear {d : Nat} : clearL d (gRef bx rs) = gRef bx rs := by cases rs <;> rfl
theorem gBx_last {r : List V} : (gBx bx es (r :: rs))[bx.length + rs.length]? = some (.rows es (r :: rs)) := by
  simp only [gBx]
  rw [List.getElem?_append_right (by simp)]
  simp
theorem gRef_rows : rowsOf ⟨tm, gBx bx es rs, tk⟩ (gRef bx rs) = some rs := by
  cases rs with
  | nil => rfl
  | cons r rs =>
    simp only [gRef, rowsOf, gBx_last, rowsIn, ob_some]
    simp
theorem gRef_app {r : List V} (h : lo ≤ bx.length) : appendV ⟨tm, gBx bx es rs, tk⟩ lo tlo es true (gRef bx rs) [r] = some (gRef bx (rs ++ [r]), ⟨tm, gBx bx es (rs ++ [r]), tk⟩) := by
  cases rs with
  | nil => simp [gRef, gBx, appendV, newRows]
  | cons a rs =>
    simp only [gRef, appendV, gBx_last, boxIn, ob_some]
    have hlo : lo ≤ bx.length + rs.length := by omega
    rw [if_pos (by simp [hlo])]
    have e1 : (gBx bx es (a :: rs)).length = bx.length + rs.length + 1 := by simp [gBx]; omega
    have e2 : (gBx bx es (a :: rs)).set (bx.length + rs.length) .dead = bx ++ List.replicate (rs.length + 1) .dead := by
      simp only [gBx]
      rw [List.set_append_right _ _ (by simp)]
      simp [List.replicate_succ']
    rw [e1, e2]
    simp [gRef, gBx]
    omega
theorem gBx_set {r r' : List V} {rs' : List (List V)} (h : rs'.length = rs.length) : (gBx bx es (r :: rs)).set (bx.length + rs.length) (.rows es (r' :: rs')) = gBx bx es (r' :: rs') := by
  simp only [gBx, h]
  rw [List.set_append_right _ _ (by simp)]
  simp
variable {E : Env} {f : FuncId} {R : Res}
theorem callsV_prim {p : PX} (hp : E.prim f = some (relOf p)) {args : List V} : callsV E f args bx tk lo tlo R = relOf p args bx tk lo tlo R := by
  refine propext ⟨fun ⟨k, h⟩ => ?_, fun h => ⟨0, ?_⟩⟩
  · unfold callBy at h; rw [hp] at h; exact h
  · unfold callBy; rw [hp]; exact h
theorem sort_run (hp : E.prim f = some (relOf sortP)) {zs : List Int} (h : lo ≤ bx.length) (hz : zs.length < 4611686018427387904) :
    callsV E f [gRef bx (rowsInt zs)] (gBx bx 1 (rowsInt zs)) tk lo tlo R = R (.tuple []) (gBx bx 1 (rowsInt (isort zs))) tk := by
  rw [callsV_prim hp]
  cases zs with
  | nil => simp [relOf, sortP, gRef, rowsInt, isort, gBx]
  | cons z zs =>
    have hl : (isort (z :: zs)).length = zs.length + 1 := by have := (isort_perm (z :: zs)).length_eq; simpa using this
    obtain ⟨y, ys, hy⟩ : ∃ y ys, isort (z :: zs) = y :: ys := by
      cases he : isort (z :: zs) with
      | nil => rw [he] at hl; simp at hl
      | cons y ys => exact ⟨y, ys, rfl⟩
    have hl2 : ys.length = zs.length := by rw [hy] at hl; simpa using hl
    have hb : (gBx bx 1 (rowsInt (z :: zs)))[bx.length + (rowsInt zs).length]? = some (.rows 1 (rowsInt (z :: zs))) := gBx_last (rs := rowsInt zs)
    have hlen : (rowsInt zs).length = zs.length := by simp [rowsInt]
    simp only [relOf, sortP, gRef, rowsInt, List.map_cons]
    simp only [rowsInt, List.map_cons] at hb hlen
    rw [hb]
    simp only [boxIn, ob_some]
    have hi : intRows ([V.int .i64 z] :: zs.map fun z => [V.int .i64 z]) = some (z :: zs) := intRows_rows (z :: zs)
    rw [hi]
    simp only [ob_some]
    rw [if_pos ⟨by omega, trivial, by simp, by simp at hz ⊢; omega⟩, hy]
    simp only [rowsInt, List.map_cons]
    rw [gBx_set (by simp [hl2])]
theorem compact_run (hp : E.prim f = some (relOf compactP)) {zs : List Int} (h : lo ≤ bx.length) (hz : zs.length < 4611686018427387904) (hne : zs ≠ []) :
    callsV E f [gRef bx (rowsInt zs)] (gBx bx 1 (rowsInt zs)) tk lo tlo R = R (.ref (bx.length + (zs.length - 1)) 0 (compA none zs).length) (gBx bx 1 (rowsInt (compA none zs ++ List.replicate (zs.length - (compA none zs).length) 0))) tk := by
  rw [callsV_prim hp]
  cases zs with
  | nil => exact absurd rfl hne
  | cons z zs =>
    have hle := compA_length (z :: zs) none
    obtain ⟨y, ys, hy⟩ : ∃ y ys, compA none (z :: zs) ++ List.replicate ((z :: zs).length - (compA none (z :: zs)).length) 0 = y :: ys := by
      cases he : compA none (z :: zs) ++ List.replicate ((z :: zs).length - (compA none (z :: zs)).length) 0 with
      | nil => simp [compA] at he
      | cons y ys => exact ⟨y, ys, rfl⟩
    have hl2 : ys.length = zs.length := by
      have := congrArg List.length hy
      simp at this hle
      omega
    have hb : (gBx bx 1 (rowsInt (z :: zs)))[bx.length + (rowsInt zs).length]? = some (.rows 1 (rowsInt (z :: zs))) := gBx_last (rs := rowsInt zs)
    have hlen : (rowsInt zs).length = zs.length := by simp [rowsInt]
    simp only [relOf, compactP, gRef, rowsInt, List.map_cons]
    simp only [rowsInt, List.map_cons] at hb hlen
    rw [hb]
    simp only [boxIn, ob_some]
    have hi : intRows ([V.int .i64 z] :: zs.map fun z => [V.int .i64 z]) = some (z :: zs) := intRows_rows (z :: zs)
    rw [hi]
    simp only [ob_some]
    rw [if_pos ⟨by omega, trivial, by simp, by simp at hz ⊢; omega⟩]
    have e1 : (zs.map fun z => [V.int .i64 z]).length + 1 = (z :: zs).length := by simp
    rw [e1, hy]
    simp only [List.map_cons]
    rw [gBx_set (by simp [hl2])]
    simp
theorem sort_nil (hp : E.prim f = some (relOf sortP)) : callsV E f [.nils] bx tk lo tlo R = R (.tuple []) bx tk := by
  rw [callsV_prim hp]
  simp [relOf, sortP]
theorem compact_nil (hp : E.prim f = some (relOf compactP)) : callsV E f [.nils] bx tk lo tlo R = R .nils bx tk := by
  rw [callsV_prim hp]
  simp [relOf, compactP]
theorem compA_ne {p : Option Int} {zs : List Int} (h : zs ≠ []) (hp : p = none) : compA p zs ≠ [] := by
  subst hp
  cases zs with
  | nil => exact absurd rfl h
  | cons z zs => simp [compA]
theorem compact_fz {zs : List Int} {k : Nat} (h : lo ≤ bx.length) (hne : zs ≠ []) {n : Nat} (hn : n = zs.length + k) :
    freezeV ⟨tm, gBx bx 1 (rowsInt (zs ++ List.replicate k 0)), tk⟩ lo tlo (.ref (bx.length + (n - 1)) 0 zs.length) = some (mkL 1 (rowsInt zs)) := by
  obtain ⟨z, zs, rfl⟩ : ∃ z zs', zs = z :: zs' := by
    cases zs with
    | nil => exact absurd rfl hne
    | cons z zs => exact ⟨z, zs, rfl⟩
  have hb : (gBx bx 1 (rowsInt (z :: zs ++ List.replicate k 0)))[bx.length + (n - 1)]? = some (.rows 1 (rowsInt (z :: zs ++ List.replicate k 0))) := by
    have := gBx_last (bx := bx) (es := 1) (r := [V.int .i64 z]) (rs := rowsInt (zs ++ List.replicate k 0))
    have e : n - 1 = (rowsInt (zs ++ List.replicate k 0)).length := by subst hn; simp [rowsInt]
    rw [e]
    exact this
  rw [fz_ref (es := 1) (rs := rowsInt (z :: zs ++ List.replicate k 0)) (by omega) hb (by simp [rowsInt]) (by simp [rowsInt, pureRows, V.pureCell])]
  simp [mkL, rowsInt]
end gref
attribute [go_sem] gRef_copy gRef_lk gRef_clear gRef_rows
attribute [go_sem ↓] gRef_lk
end Go.Vi
