/- The law CostTurned: upwards and downwards cost the same: the walk and the plain law. -/
import Derived.Test.YtngeclldoplihaaViCost4
set_option maxRecDepth 100000
set_option linter.unusedVariables false
set_option linter.unusedSimpArgs false
namespace Go.Vi
open Go.Proofs
def neg (n : Int) : Int := W (0 - n)
def turn (x : Car) : Car := { x with Floor := neg x.Floor, Dir := neg x.Dir }
def negs (l : List Int) (i : Nat) : List (List V) := ((l.take i).map neg).map encI
theorem negs_zero (l : List Int) : negs l 0 = [] := rfl
theorem negs_succ {l : List Int} {i : Nat} (hi : i < l.length) : negs l (i + 1) = negs l i ++ [encI (neg l[i])] := by
  simp only [negs]
  rw [List.take_succ_eq_append_getElem hi]
  simp only [List.map_append, List.map_cons, List.map_nil]
theorem negs_len {l : List Int} {i : Nat} (hi : i ≤ l.length) : (negs l i).length = i := by simp [negs]; omega
theorem negs_all (l : List Int) : negs l l.length = (l.map neg).map encI := by simp [negs]
/-! The plain law. -/
def inF (n : Int) : Prop := -1000 ≤ n ∧ n ≤ 1000
theorem wild_false {n : Int} : wild n = false ↔ inF n := by
  simp [wild, ltI, inF]
theorem far_eq {a b : Int} (ha : inF a) (hb : inF b) : far a b = if b - a > a - b then b - a else a - b := by
  unfold far inF at *
  rw [wrap_id (by omega) (by omega), wrap_id (by omega) (by omega)]
theorem neg_eq {a : Int} (ha : inF a) : neg a = -a := by
  unfold neg inF at *
  rw [wrap_id (by omega) (by omega)]; omega
theorem neg_in {a : Int} (ha : inF a) : inF (neg a) := by
  rw [neg_eq ha]; unfold inF at *; omega
theorem far_turn {a b : Int} (ha : inF a) (hb : inF b) : far (neg a) (neg b) = far a b := by
  rw [far_eq (neg_in ha) (neg_in hb), far_eq ha hb, neg_eq ha, neg_eq hb]
  split <;> split <;> omega
def dirOk (d : Int) : Prop := -1 ≤ d ∧ d ≤ 1
theorem neg_dir {d : Int} (h : dirOk d) : neg d = -d := neg_eq (by unfold inF dirOk at *; omega)
theorem ahead_turn {x : Car} {d n : Int} (hx : inF x.Floor) (hd : dirOk d) (hn : inF n) : ahead1 (turn x) (neg d) (neg n) = ahead1 x d n := by
  simp only [ahead1, turn, neg_eq hx, neg_dir hd, neg_eq hn, eqI, ltI]
  unfold dirOk at hd
  have : d = -1 ∨ d = 0 ∨ d = 1 := by omega
  rcases this with rfl | rfl | rfl <;> simp <;> omega
theorem farStep_turn {x : Car} {o n : Int} (hx : inF x.Floor) (hd : dirOk x.Dir) (hn : inF n) : farStep (turn x) o (neg n) = farStep x o n := by
  have h1 : ahead1 (turn x) (turn x).Dir (neg n) = ahead1 x x.Dir n := ahead_turn hx hd hn
  have h2 : far (neg n) (turn x).Floor = far n x.Floor := far_turn hn hx
  simp only [farStep, h1, h2]
theorem fold_turn {x : Car} (hx : inF x.Floor) (hd : dirOk x.Dir) : ∀ (l : List Int) (o : Int), (∀ n ∈ l, inF n) → (l.map neg).foldl (farStep (turn x)) o = l.foldl (farStep x) o
  | [], o, _ => rfl
  | n :: l, o, h => by
    simp only [List.map_cons, List.foldl_cons]
    rw [farStep_turn hx hd (h n List.mem_cons_self), fold_turn hx hd l _ fun m hm => h m (List.mem_cons_of_mem _ hm)]
theorem farStep_mono {x : Car} {a b n : Int} (h : a ≤ b) : farStep x a n ≤ farStep x b n := by
  simp only [farStep]
  split
  · split <;> split <;> omega
  · exact h
theorem farStep_ge {x : Car} {a n : Int} : a ≤ farStep x a n := by
  simp only [farStep]
  split
  · split <;> omega
  · omega
theorem fold_mono {x : Car} : ∀ (l : List Int) {a b : Int}, a ≤ b → l.foldl (farStep x) a ≤ l.foldl (farStep x) b
  | [], _, _, h => h
  | n :: l, _, _, h => fold_mono l (farStep_mono h)
theorem far_bound {a b : Int} (ha : inF a) (hb : inF b) : 0 ≤ far a b ∧ far a b ≤ 2000 := by
  rw [far_eq ha hb]
  unfold inF at *
  split <;> omega
theorem fold_bound {x : Car} (hx : inF x.Floor) : ∀ (l : List Int) {a : Int}, (∀ n ∈ l, inF n) → 0 ≤ a → a ≤ 2000 → 0 ≤ l.foldl (farStep x) a ∧ l.foldl (farStep x) a ≤ 2000
  | [], a, _, h1, h2 => ⟨h1, h2⟩
  | n :: l, a, h, h1, h2 => by
    have hb := far_bound (h n List.mem_cons_self) hx
    refine fold_bound hx l (fun m hm => h m (List.mem_cons_of_mem _ hm)) ?_ ?_
    · simp only [farStep]
      split
      · split <;> omega
      · omega
    · simp only [farStep]
      split
      · split <;> omega
      · omega
theorem farthest_bound {x : Car} {l : List Int} (hx : inF x.Floor) (hl : ∀ n ∈ l, inF n) : 0 ≤ farthest x l ∧ farthest x l ≤ 2000 := fold_bound hx l hl (by omega) (by omega)
/-- A way, without what wraps round. -/
theorem way_eq {x : Car} {l : List Int} {floor dir : Int} (hx : inF x.Floor) (hl : ∀ n ∈ l, inF n) (hf : inF floor) : way x l floor dir =
    if eqI x.Dir 0 || eqI (far floor x.Floor) 0 then far floor x.Floor
    else if !ahead1 x x.Dir floor then farthest x l + farthest x l + far floor x.Floor
    else if eqI dir x.Dir || eqI dir 0 || leI (farthest x l) (far floor x.Floor) then far floor x.Floor
    else farthest x l + farthest x l - far floor x.Floor := by
  have h1 := farthest_bound hx hl
  have h2 := far_bound hf hx
  unfold way
  rw [wrap_id (n := farthest x l + farthest x l) (by omega) (by omega), wrap_id (n := farthest x l + farthest x l + far floor x.Floor) (by omega) (by omega), wrap_id (n := farthest x l + farthest x l - far floor x.Floor) (by omega) (by omega)]
theorem way_turn {x : Car} {l : List Int} {floor dir : Int} (hx : inF x.Floor) (hd : dirOk x.Dir) (hl : ∀ n ∈ l, inF n) (hf : inF floor) (hdir : dirOk dir) : way (turn x) (l.map neg) (neg floor) (neg dir) = way x l floor dir := by
  have hl' : ∀ n ∈ l.map neg, inF n := by
    intro n hn
    obtain ⟨m, hm, rfl⟩ := List.mem_map.1 hn
    exact neg_in (hl m hm)
  rw [way_eq (x := turn x) (neg_in hx) hl' (neg_in hf), way_eq hx hl hf]
  have e1 : far (neg floor) (turn x).Floor = far floor x.Floor := far_turn hf hx
  have e2 : farthest (turn x) (l.map neg) = farthest x l := fold_turn hx hd l 0 hl
  have e3 : ahead1 (turn x) (turn x).Dir (neg floor) = ahead1 x x.Dir floor := ahead_turn hx hd hf
  have e4 : eqI (turn x).Dir 0 = eqI x.Dir 0 := by rw [Bool.eq_iff_iff, eqI_true, eqI_true]; simp only [turn, neg_dir hd]; omega
  have e5 : eqI (neg dir) (turn x).Dir = eqI dir x.Dir := by rw [Bool.eq_iff_iff, eqI_true, eqI_true]; simp only [turn, neg_dir hd, neg_dir hdir]; omega
  have e6 : eqI (neg dir) 0 = eqI dir 0 := by rw [Bool.eq_iff_iff, eqI_true, eqI_true]; simp only [neg_dir hdir]; omega
  rw [e1, e2, e3, e4, e5, e6]
theorem way_far {x : Car} {l : List Int} {floor dir : Int} (hx : inF x.Floor) (hl : ∀ n ∈ l, inF n) (hf : inF floor) : far floor x.Floor ≤ way x l floor dir := by
  rw [way_eq hx hl hf]
  have h1 := farthest_bound hx hl
  have h2 := far_bound hf hx
  split
  · omega
  · split
    · omega
    · split
      · omega
      · rename_i h
        simp [leI] at h
        omega
theorem way_more {x : Car} {l : List Int} {floor dir more : Int} (hx : inF x.Floor) (hl : ∀ n ∈ l, inF n) (hf : inF floor) (hm : inF more) : way x l floor dir ≤ way x (more :: l) floor dir := by
  have hl' : ∀ n ∈ more :: l, inF n := fun n hn => by rcases List.mem_cons.1 hn with rfl | hn; exact hm; exact hl n hn
  rw [way_eq hx hl hf, way_eq hx hl' hf]
  have h1 := farthest_bound hx hl
  have h3 := farthest_bound hx hl'
  have h2 := far_bound hf hx
  have h4 : farthest x l ≤ farthest x (more :: l) := fold_mono l farStep_ge
  split
  · omega
  · split
    · omega
    · by_cases c : (eqI dir x.Dir || eqI dir 0) = true
      · simp only [c, Bool.true_or, if_true]; omega
      · have c' : (eqI dir x.Dir || eqI dir 0) = false := by simpa using c
        simp only [c', Bool.false_or, leI, decide_eq_true_eq]
        split <;> split <;> omega
/-! The walk. -/
def TurS (v : V) (x : Car) (l : List Int) (floor dir more : Int) (i : Nat) (s : St) : Prop :=
  ∃ us ws : List (Nat × V), (look us 1 = v ∧ look us 2 = I floor ∧ look us 3 = I dir ∧ look us 4 = I more ∧ look us 5 = .loc x.cells ∧ look us 11 = .loc (turn x).cells ∧ look us 12 = accE [] 1 (negs l i) ∧ look us 13 = I i) ∧ s = ⟨tab2 109 16 us ws, [], tkAt [] 1 (negs l i).length⟩ ∧ ∀ j (hj : j < i) (hl : j < l.length), wild l[j] = false
theorem turned_walk {v : V} {x : Car} {l : List Int} {floor dir more : Int} (hv : IsL encI 1 v l) : callsV E0 4 [.agg x.cells, v, I floor, I dir, I more] [] [] 0 0 (fun u _ _ => u = .bool true) := by
  refine callsT_pure (g := Try.f4) (n := 109) (rs := [.tmp 10]) 16 [(0, .agg x.cells), (1, v), (2, I floor), (3, I dir), (4, I more)] rfl Try.func4 rfl (by kernel_rfl) rfl rfl (by simp) (by simp) rfl md4 rg4 ?_
  simp (config := { implicitDefEqProofs := false, contextual := true, maxSteps := 1000000 }) only [go_sem, Nat.reduceAdd, Nat.reduceMul, Nat.reduceLeDiff, Nat.reduceEqDiff, Nat.reduceLT, Nat.reduceBEq, hv.copy, hv.lenV, hv.lenK, hv.lk, hv.clear, Car.cells_eq, ↓awake18_ok, ↓odd_ok' IsL.nil, ↓wild_ok]
  repeat' (first | intro _ | refine And.intro ?_ ?_)
  all_goals try (simp_all; done)
  rename_i h1 h2 h3 h4 h5 h6
  have hx : inF x.Floor ∧ dirOk x.Dir := by
    simp [odd, wild, ltI] at h1
    unfold inF dirOk
    omega
  have hfl := wild_false.1 h3
  have hmo := wild_false.1 h4
  have hdir : dirOk dir := by simp [ltI] at h5 h6; unfold dirOk; omega
  have hlen : l.length ≤ 30 := by simp [ltI] at h2; omega
  refine wpv_for E0good l.length (TurS v x l floor dir more) ?_ ?_ ?_
  · exact ⟨_, _, ⟨by simp [look, enumU, turn, neg, negs, accE, Car.cells_eq], by simp [look, enumU, turn, neg, negs, accE, Car.cells_eq], by simp [look, enumU, turn, neg, negs, accE, Car.cells_eq], by simp [look, enumU, turn, neg, negs, accE, Car.cells_eq], by simp [look, enumU, turn, neg, negs, accE, Car.cells_eq], by simp [look, enumU, turn, neg, negs, accE, Car.cells_eq], by simp [look, enumU, turn, neg, negs, accE, Car.cells_eq], by simp [look, enumU, turn, neg, negs, accE, Car.cells_eq]⟩, rfl, fun j hj => absurd hj (by omega)⟩
  · intro i hi s hs
    obtain ⟨us, ws, ⟨s1, s2, s3, s4, s5, s11, s12, s13⟩, rfl, hp⟩ := hs
    have h8 : ((negs l i).length + 1) * 8 ≤ appLim := by rw [negs_len (by omega)]; unfold appLim; omega
    simp (config := { implicitDefEqProofs := false, contextual := true, maxSteps := 1000000 }) only [go_sem, Nat.reduceAdd, Nat.reduceMul, Nat.reduceLeDiff, Nat.reduceEqDiff, Nat.reduceLT, Nat.reduceBEq, s1, s2, s3, s4, s5, s11, s12, s13, hv.copy, hv.lk, hv.lenV, hv.lenK, hv.elem (by decide) hi, lt_cast hi, wrap_succ hi hv.len, asNat_cast, ↓wild_ok, h8, acce_app (tk := []), Nat.zero_le]
    repeat' (first | intro _ | refine And.intro ?_ ?_)
    rename_i hw
    have e : tkAt [] 1 (negs l (i + 1)).length = tkAt [] 1 ((negs l i).length + 1) := by rw [negs_succ hi]; simp
    unfold TurS
    rw [e]
    exact ⟨_, _, ⟨by simp [look, negs_succ hi, neg, s1, s2, s3, s4, s5, s11, s12, s13], by simp [look, negs_succ hi, neg, s1, s2, s3, s4, s5, s11, s12, s13], by simp [look, negs_succ hi, neg, s1, s2, s3, s4, s5, s11, s12, s13], by simp [look, negs_succ hi, neg, s1, s2, s3, s4, s5, s11, s12, s13], by simp [look, negs_succ hi, neg, s1, s2, s3, s4, s5, s11, s12, s13], by simp [look, negs_succ hi, neg, s1, s2, s3, s4, s5, s11, s12, s13], by simp [look, negs_succ hi, neg, s1, s2, s3, s4, s5, s11, s12, s13], by simp [look, negs_succ hi, neg, s1, s2, s3, s4, s5, s11, s12, s13]⟩, rfl, fun j hj hl => by
      by_cases hji : j = i
      · subst hji; exact hw
      · exact hp j (by omega) hl⟩
  · intro s hs
    obtain ⟨us, ws, ⟨s1, s2, s3, s4, s5, s11, s12, s13⟩, rfl, hp⟩ := hs
    have hl : ∀ n ∈ l, inF n := by
      intro n hn
      obtain ⟨j, hj, rfl⟩ := List.getElem_of_mem hn
      exact wild_false.1 (hp j hj hj)
    have hg : IsL encI 1 (accE [] 1 (negs l l.length)) (l.map neg) := by rw [negs_all]; exact acce_isL (by simp; exact hv.len)
    have hm : ∀ k, IsL encI 1 (.sl (.tok k) 1 ([V.int .i64 more] :: l.map encI)) (more :: l) := fun k => IsL.sl (l := more :: l) (by simp; omega)
    have h8 : (1 + (l.map encI).length) * 8 ≤ appLim := by simp; unfold appLim; omega
    have hpr : pureRows (l.map encI) = true := pure_map (enc := encI) (fun _ => rfl) l
    have hal : ((l.map encI).all fun row => decide (row.length = 1)) = true := all_len (enc := encI) (fun _ => rfl) l
    have hA := way_turn hx.1 hx.2 hl hfl hdir
    have hB := way_far (dir := dir) hx.1 hl hfl
    have hC := way_more (dir := dir) hx.1 hl hfl hmo
    simp (config := { implicitDefEqProofs := false, contextual := true, maxSteps := 1000000 }) only [go_sem, Nat.reduceAdd, Nat.reduceMul, Nat.reduceLeDiff, Nat.reduceEqDiff, Nat.reduceLT, Nat.reduceBEq, s1, s2, s3, s4, s5, s11, s12, s13, hv.copy, hv.lk, hv.lenV, hv.lenK, lt_self, hv.rows, (hm _).lk, Car.cells_eq, ↓way_ok' hv, ↓way_ok' hg, ↓way_ok' (hm _), h8, hpr, hal]
    have hA' : eqI (way (turn x) (l.map neg) (IntKind.i64.wrap (0 - floor)) (IntKind.i64.wrap (0 - dir))) (way x l floor dir) = true := eqI_true.2 hA
    have hC' : leI (way x l floor dir) (way x (more :: l) floor dir) = true := leI_true.2 hC
    have hF : inF x.Floor := hx.1
    have e1 : IntKind.i64.wrap (floor - x.Floor) = floor - x.Floor := wrap_id (by unfold inF at *; omega) (by unfold inF at *; omega)
    have e2 : IntKind.i64.wrap (0 - (floor - x.Floor)) = 0 - (floor - x.Floor) := wrap_id (by unfold inF at *; omega) (by unfold inF at *; omega)
    rw [far_eq hfl hF] at hB
    simp only [hA', hC', e1, e2, ltI_true, ltI_false, leI_true, leI_false]
    refine ⟨fun c => ⟨fun _ => ⟨fun _ => trivial, fun h => ?_⟩, fun h => by cases h⟩, fun c => ⟨fun _ => ⟨fun _ => trivial, fun h => ?_⟩, fun h => by cases h⟩⟩
    · exfalso; split at hB <;> omega
    · exfalso; split at hB <;> omega
end Go.Vi
