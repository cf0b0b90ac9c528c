/- The slots as a table of what was written last: writing costs nothing, reading looks back. -/
import Derived.Test.YtngeclldoplihaaViDet
set_option linter.unusedVariables false
set_option linter.unusedSimpArgs false
namespace Go.Vi
def look : List (Nat × V) → Nat → V
  | [], _ => .undef
  | (k, v) :: us, j => if k = j then v else look us j
def tab (n : Nat) (us : List (Nat × V)) : List V := (List.range n).map (look us)
theorem look_cons {k j : Nat} {v : V} {us : List (Nat × V)} : look ((k, v) :: us) j = if k = j then v else look us j := rfl
theorem look_miss {k j : Nat} {v : V} {us : List (Nat × V)} (h : (k == j) = false) : look ((k, v) :: us) j = look us j := if_neg (fun e => by subst e; simp at h)
theorem look_hit {k : Nat} {v : V} {us : List (Nat × V)} : look ((k, v) :: us) k = v := if_pos rfl
theorem nth_getElem : ∀ (l : List V) (j : Nat), nth l j = l.getD j .undef
  | [], j => by simp [nth]
  | v :: l, 0 => by simp [nth]
  | v :: l, j + 1 => by simp only [nth]; rw [nth_getElem l j]; simp
theorem nth_tab {n j : Nat} {us : List (Nat × V)} (h : j < n) : nth (tab n us) j = look us j := by
  rw [nth_getElem]
  simp [tab, List.getD_eq_getElem?_getD, h]
theorem upd_set : ∀ (l : List V) (k : Nat) (v : V), upd l k v = l.set k v
  | [], k, v => by cases k <;> rfl
  | x :: l, 0, v => rfl
  | x :: l, k + 1, v => by simp only [upd]; rw [upd_set l k v]; rfl
theorem upd_tab {n k : Nat} {v : V} {us : List (Nat × V)} : upd (tab n us) k v = tab n ((k, v) :: us) := by
  rw [upd_set]
  unfold tab
  apply List.ext_getElem?
  intro i
  rw [List.getElem?_set]
  simp only [List.getElem?_map, List.length_map, List.length_range]
  by_cases hik : k = i
  · subst hik
    rw [if_pos rfl]
    by_cases hk : k < n
    · simp [hk, look]
    · simp [hk]
  · rw [if_neg hik]
    by_cases hi : i < n
    · simp [hi, look, hik]
    · simp [hi]
def clearU (d : Nat) : List (Nat × V) → List (Nat × V)
  | [] => []
  | (k, v) :: us => (k, clearL d v) :: clearU d us
theorem look_clear {d : Nat} : ∀ (us : List (Nat × V)) (j : Nat), look (clearU d us) j = clearL d (look us j)
  | [], j => rfl
  | (k, v) :: us, j => by
    simp only [clearU, look]
    split
    · rfl
    · exact look_clear us j
theorem map_tab {n d : Nat} {us : List (Nat × V)} : (tab n us).map (clearL d) = tab n (clearU d us) := by
  simp only [tab, List.map_map]
  refine List.map_congr_left fun j _ => ?_
  exact (look_clear us j).symm
def enumU : Nat → List V → List (Nat × V)
  | _, [] => []
  | k, v :: vs => (k, v) :: enumU (k + 1) vs
theorem look_enum : ∀ (args : List V) (k j : Nat), look (enumU k args) j = if k ≤ j then nth args (j - k) else .undef
  | [], k, j => by simp [enumU, look, nth]
  | v :: vs, k, j => by
    simp only [enumU, look]
    by_cases h : k = j
    · subst h; simp [nth]
    · rw [if_neg h, look_enum vs (k + 1) j]
      by_cases h2 : k ≤ j
      · rw [if_pos (by omega), if_pos h2]
        obtain ⟨m, rfl⟩ : ∃ m, j = k + 1 + m := ⟨j - (k + 1), by omega⟩
        rw [show k + 1 + m - (k + 1) = m by omega, show k + 1 + m - k = m + 1 by omega]
        rfl
      · rw [if_neg (by omega), if_neg h2]
theorem tab_start {args : List V} {n : Nat} (h : args.length ≤ n) : args ++ List.replicate (n - args.length) .undef = tab n (enumU 0 args) := by
  apply List.ext_getElem?
  intro i
  have hl : (args ++ List.replicate (n - args.length) V.undef).length = n := by simp; omega
  by_cases hi : i < n
  · have e1 : nth (args ++ List.replicate (n - args.length) V.undef) i = nth (tab n (enumU 0 args)) i := by
      rw [nth_tab hi, look_enum, if_pos (Nat.zero_le _), Nat.sub_zero]
      rw [nth_getElem, nth_getElem]
      simp only [List.getD_eq_getElem?_getD]
      by_cases h2 : i < args.length
      · rw [List.getElem?_append_left h2]
      · rw [List.getElem?_append_right (by omega), List.getElem?_replicate, if_pos (by omega), List.getElem?_eq_none (by omega)]
        rfl
    rw [nth_getElem, nth_getElem, List.getD_eq_getElem?_getD, List.getD_eq_getElem?_getD] at e1
    rw [List.getElem?_eq_getElem (by rw [hl]; exact hi), List.getElem?_eq_getElem (by simp [tab, hi])] at e1 ⊢
    simp only [Option.getD_some] at e1
    rw [e1]
  · rw [List.getElem?_eq_none (by rw [hl]; omega), List.getElem?_eq_none (by simp [tab]; omega)]
theorem callsV_congr {args args' : List V} (h : Unit → args = args') (E : Env) (f : FuncId) (bx : List Box) (tk : List (Nat × Nat)) (lo tlo : Nat) (R : Res) : callsV E f args bx tk lo tlo R = callsV E f args' bx tk lo tlo R := by rw [h ()]
attribute [congr] callsV_congr
/-- Two tables: variables, and what is computed on the way. -/
def tab2 (n m : Nat) (us ws : List (Nat × V)) : List V := (List.range n).map fun j => if j < m then look us j else look ws j
theorem nth_tab2a {n m j : Nat} {us ws : List (Nat × V)} (h : j < m) (hn : j < n) : nth (tab2 n m us ws) j = look us j := by
  rw [nth_getElem]
  simp [tab2, List.getD_eq_getElem?_getD, hn, h]
theorem nth_tab2b {n m j : Nat} {us ws : List (Nat × V)} (h : m ≤ j) (hn : j < n) : nth (tab2 n m us ws) j = look ws j := by
  rw [nth_getElem]
  simp [tab2, List.getD_eq_getElem?_getD, hn, Nat.not_lt.2 h]
theorem upd_tab2a {n m k : Nat} {v : V} {us ws : List (Nat × V)} (h : k < m) : upd (tab2 n m us ws) k v = tab2 n m ((k, v) :: us) ws := by
  rw [upd_set]
  unfold tab2
  apply List.ext_getElem?
  intro i
  rw [List.getElem?_set]
  simp only [List.getElem?_map, List.length_map, List.length_range]
  by_cases hik : k = i
  · subst hik
    rw [if_pos rfl]
    by_cases hk : k < n
    · simp [hk, look, h]
    · simp [hk]
  · rw [if_neg hik]
    by_cases hi : i < n
    · simp [hi, look, hik]
    · simp [hi]
theorem upd_tab2b {n m k : Nat} {v : V} {us ws : List (Nat × V)} (h : m ≤ k) : upd (tab2 n m us ws) k v = tab2 n m us ((k, v) :: ws) := by
  rw [upd_set]
  unfold tab2
  apply List.ext_getElem?
  intro i
  rw [List.getElem?_set]
  simp only [List.getElem?_map, List.length_map, List.length_range]
  by_cases hik : k = i
  · subst hik
    rw [if_pos rfl]
    by_cases hk : k < n
    · simp [hk, look, Nat.not_lt.2 h]
    · simp [hk]
  · rw [if_neg hik]
    by_cases hi : i < n
    · simp [hi, look, hik]
    · simp [hi]
theorem map_tab2 {n m d : Nat} {us ws : List (Nat × V)} : (tab2 n m us ws).map (clearL d) = tab2 n m (clearU d us) (clearU d ws) := by
  simp only [tab2, List.map_map]
  refine List.map_congr_left fun j _ => ?_
  simp only [Function.comp]
  split
  · exact (look_clear us j).symm
  · exact (look_clear ws j).symm
theorem tab2_start {args : List V} {n m : Nat} (h : args.length ≤ n) (hm : args.length ≤ m) : args ++ List.replicate (n - args.length) .undef = tab2 n m (enumU 0 args) [] := by
  rw [tab_start h]
  simp only [tab, tab2]
  refine List.map_congr_left fun j _ => ?_
  split
  · rfl
  · rename_i hj
    rw [look_enum, if_pos (Nat.zero_le _), Nat.sub_zero, nth_getElem, List.getD_eq_getElem?_getD, List.getElem?_eq_none (by omega)]
    rfl
section rules
variable {E : Env} {lo tlo : Nat}
theorem callsT_pure {f : FuncId} {g : Func} {c : Code} {n : Nat} {rs : List ResultVar} {args : List V} {bx : List Box} {tk : List (Nat × Nat)} {R : Res} (m : Nat) (us : List (Nat × V)) (hp : E.prim f = none) (hf : E.P.funcs[f]? = some g) (hb : g.body = some c)
    (hn : (g.name == "runtime.NumGoroutine") = false) (ht : g.ntmps = n) (hr : g.results.toList = rs) (hl : args.length ≤ n) (hlm : args.length ≤ m) (hus : enumU 0 args = us) (hm : E.mode f = .pure) (hr2 : regionsOK E f c = true)
    (h : wpv E f bx.length tk.length c ⟨tab2 n m us [], bx, tk⟩ (endOf E f rs bx tk R)) :
    callsV E f args bx tk lo tlo R := by
  subst hus
  exact callsV_pure (tab2 n m (enumU 0 args) []) hp hf hb hn ht hr hl (tab2_start hl hlm) hm hr2 h
end rules
end Go.Vi
