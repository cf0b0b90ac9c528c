/- A region that draws its order does what its list does. -/
import Derived.Test.YtngeclldoplihaaViSwap
import Derived.Test.YtngeclldoplihaaViSound4
set_option linter.unusedVariables false
set_option linter.unusedSimpArgs false
namespace Go.Vi
open Go.RowKit
section draw
variable {E : Env} {C : CallT} {fn rg lo tlo : Nat} {st : St} {ops : Array Oper}
/-- Operations in the order of their numbers. -/
def wpIx (E : Env) (C : CallT) (fn rg lo tlo : Nat) (ops : Array Oper) : List Nat → St → (St → Prop) → Prop
  | [], st, K => K st
  | i :: l, st, K => match ops[i]? with
    | some o => wpOne E C fn rg lo tlo ops.toList o.dst o.op o.guard st fun s => wpIx E C fn rg lo tlo ops l s K
    | none => wpIx E C fn rg lo tlo ops l st K
theorem wpIx_mono (hC : UpC C C) : ∀ {l : List Nat} {st : St} {K K' : St → Prop}, (∀ s, K s → K' s) → wpIx E C fn rg lo tlo ops l st K → wpIx E C fn rg lo tlo ops l st K'
  | [], _, _, _, hK, h => hK _ h
  | i :: l, st, K, K', hK, h => by
    unfold wpIx at h ⊢
    cases ho : ops[i]? with
    | none => rw [ho] at h; exact wpIx_mono hC hK h
    | some o => rw [ho] at h; exact wpOne_mono hC (fun _ hs => wpIx_mono hC hK hs) h
theorem wpIx_list (hC : UpC C C) : ∀ (l : List Oper) (i : Nat) {st : St} {K : St → Prop}, l = ops.toList.drop i → wpList E C fn rg lo tlo ops.toList l st K → wpIx E C fn rg lo tlo ops (List.range' i l.length) st K
  | [], i, st, K, hl, h => h
  | o :: l, i, st, K, hl, h => by
    have hi : ops[i]? = some o := by
      have : (ops.toList.drop i)[0]? = some o := by rw [← hl]; rfl
      simpa using this
    have hl' : l = ops.toList.drop (i + 1) := by
      have : (ops.toList.drop i).drop 1 = l := by rw [← hl]; rfl
      rw [← this, List.drop_drop]
    simp only [List.length_cons, List.range'_succ, wpIx, hi]
    exact wpOne_mono hC (fun _ hs => wpIx_list hC l (i + 1) hl' hs) h
/-- One of them comes first. -/
theorem pull (hC : C.Good) (hPu : PureC E C) {j : Nat} {o : Oper} (hj : ops[j]? = some o) {post : List Nat} {K : St → Prop} :
    ∀ (pre : List Nat) (st : St), (∀ i ∈ pre, ∀ a, ops[i]? = some a → (clsOf E fn rg a).ok (clsOf E fn rg o) = true ∧ a.apart ops o = true) → LocI E fn st →
      wpIx E C fn rg lo tlo ops (pre ++ j :: post) st K → wpOne E C fn rg lo tlo ops.toList o.dst o.op o.guard st fun s => wpIx E C fn rg lo tlo ops (pre ++ post) s K
  | [], st, _, _, h => by simp only [List.nil_append, wpIx, hj] at h; exact h
  | i :: pre, st, hp, hl, h => by
    simp only [List.cons_append, wpIx] at h ⊢
    cases ha : ops[i]? with
    | none =>
      rw [ha] at h
      simp only at h ⊢
      exact pull hC hPu hj pre st (fun k hk => hp k (List.mem_cons_of_mem _ hk)) hl h
    | some a =>
      rw [ha] at h
      simp only at h ⊢
      obtain ⟨h1, h2⟩ := hp i List.mem_cons_self a ha
      refine swap hC hPu h1 h2 hl ?_
      exact wpOne_mono hC.mono (fun s hs => pull hC hPu hj pre s (fun k hk => hp k (List.mem_cons_of_mem _ hk)) hs.2 hs.1) (wpOne_loc hC.mono hl h)

def unl (ops : Array Oper) (listed : Array Bool) : List Nat := (List.range ops.size).filter fun i => !listed.getD i true
theorem range_split {n j : Nat} (h : j < n) : List.range n = List.range j ++ j :: List.range' (j + 1) (n - j - 1) := by
  have e : n = j + (1 + (n - j - 1)) := by omega
  have e1 : List.range n = List.range j ++ List.range' j (1 + (n - j - 1)) := by
    rw [List.range_eq_range', List.range_eq_range']
    conv => lhs; rw [e]
    rw [← List.range'_append_1]
    simp
  rw [e1]
  congr 1
  rw [Nat.add_comm 1, List.range'_succ]
theorem getD_set {listed : Array Bool} {i j : Nat} (h : i ≠ j) : (listed.setIfInBounds i true).getD j true = listed.getD j true := by
  simp [Array.getD_eq_getD_getElem?, Array.getElem?_setIfInBounds_ne h]
theorem unl_split {listed : Array Bool} {j : Nat} (hj : j < ops.size) (hu : listed.getD j true = false) :
    ∃ pre post, unl ops listed = pre ++ j :: post ∧ unl ops (listed.setIfInBounds j true) = pre ++ post ∧ ∀ i ∈ pre, i < j ∧ listed.getD i true = false := by
  refine ⟨(List.range j).filter fun i => !listed.getD i true, (List.range' (j + 1) (ops.size - j - 1)).filter fun i => !listed.getD i true, ?_, ?_, ?_⟩
  · unfold unl
    rw [range_split hj, List.filter_append, List.filter_cons]
    simp [hu]
  · unfold unl
    rw [range_split hj, List.filter_append, List.filter_cons]
    have hlt : j < listed.size := by
      rcases Nat.lt_or_ge j listed.size with h | h
      · exact h
      · simp [Array.getD, Nat.not_lt.2 h] at hu
    have e0 : (listed.setIfInBounds j true).getD j true = true := by simp [Array.getD, hlt]
    rw [e0]
    simp only [Bool.not_true, Bool.false_eq_true, if_false]
    congr 1
    · refine List.filter_congr fun i hi => ?_
      rw [getD_set (by have := List.mem_range.1 hi; omega)]
    · refine List.filter_congr fun i hi => ?_
      rw [getD_set (by have := List.mem_range'_1.1 hi; omega)]
  · intro i hi
    rw [List.mem_filter, List.mem_range] at hi
    exact ⟨hi.1, by simpa using hi.2⟩
/-- Whatever is listed, what it stands behind is too. -/
def Closed (ops : Array Oper) (listed : Array Bool) : Prop := ∀ k o, ops[k]? = some o → listed.getD k false = true → ∀ e ∈ o.after, Region.binds .any e = true → listed.getD e.on false = true
/-- Operation j stands behind operation i. -/
inductive Beh (ops : Array Oper) : Nat → Nat → Prop where
  | edge {j : Nat} {o : Oper} {e : Edge} (ho : ops[j]? = some o) (he : e ∈ o.after) (hb : Region.binds .any e = true) : Beh ops e.on j
  | far {i j : Nat} {o : Oper} {e : Edge} (ho : ops[j]? = some o) (he : e ∈ o.after) (hb : Region.binds .any e = true) (h : Beh ops i e.on) : Beh ops i j
theorem beh_listed {listed : Array Bool} (hcl : Closed ops listed) {i k : Nat} (h : Beh ops i k) : listed.getD k false = true → listed.getD i false = true := by
  induction h with
  | edge ho he hb => exact fun hk => hcl _ _ ho hk _ he hb
  | far ho he hb _ ih => exact fun hk => ih (hcl _ _ ho hk _ he hb)
theorem beh_ready {listed : Array Bool} (hcl : Closed ops listed) {i j : Nat} (hj : j ∈ Region.ready .any ops listed) (h : Beh ops i j) : listed.getD i false = true := by
  obtain ⟨_, o, ho, hall⟩ := mem_ready.1 hj
  cases h with
  | edge ho' he hb => rw [ho] at ho'; injection ho' with ho'; subst ho'; exact hall _ he hb
  | far ho' he hb h => rw [ho] at ho'; injection ho' with ho'; subst ho'; exact beh_listed hcl h (hall _ he hb)
def GoodM (ops : Array Oper) (ms : List Nat) : Prop := ∀ k, k < ms.length → ∀ i, (ms.getD k 0).testBit i = true → Beh ops i k
theorem maskOf_good {ms : List Nat} (hg : GoodM ops ms) {j : Nat} {o : Oper} (ho : ops[j]? = some o) : ∀ (es : List Edge) (m : Nat), (∀ e ∈ es, e ∈ o.after) → (∀ i, m.testBit i = true → Beh ops i j) →
    ∀ i, (es.foldl (fun m e => if Region.binds .any e then (m ||| (1 <<< e.on)) ||| ms.getD e.on 0 else m) m).testBit i = true → Beh ops i j
  | [], m, _, hm, i, h => hm i h
  | e :: es, m, hes, hm, i, h => by
    simp only [List.foldl_cons] at h
    refine maskOf_good hg ho es _ (fun x hx => hes x (List.mem_cons_of_mem _ hx)) ?_ i h
    intro i h
    split at h
    · rename_i hb
      have he := hes e List.mem_cons_self
      rw [Nat.testBit_or, Nat.testBit_or, Bool.or_eq_true, Bool.or_eq_true] at h
      rcases h with (h | h) | h
      · exact hm i h
      · have : i = e.on := by
          rw [Nat.one_shiftLeft, Nat.testBit_two_pow] at h
          have h' : e.on = i := by simpa using h
          exact h'.symm
        subst this
        exact .edge ho he hb
      · by_cases hl : e.on < ms.length
        · exact .far ho he hb (hg _ hl i h)
        · rw [List.getD_eq_getElem?_getD, List.getElem?_eq_none (by omega)] at h
          simp at h
    · exact hm i h
theorem masks_good : ∀ (l : List Oper) (ms : List Nat), l = ops.toList.drop ms.length → GoodM ops ms → GoodM ops (masks l ms) ∧ (masks l ms).length = ms.length + l.length
  | [], ms, _, hg => ⟨hg, by simp [masks]⟩
  | o :: l, ms, hl, hg => by
    have ho : ops[ms.length]? = some o := by
      have : (ops.toList.drop ms.length)[0]? = some o := by rw [← hl]; rfl
      simpa using this
    have hl' : l = ops.toList.drop (ms ++ [maskOf ms o.after.toList]).length := by
      have : (ops.toList.drop ms.length).drop 1 = l := by rw [← hl]; rfl
      rw [← this, List.drop_drop]
      simp
    have := masks_good l (ms ++ [maskOf ms o.after.toList]) hl' ?_
    · refine ⟨this.1, ?_⟩
      have h2 := this.2
      simp only [masks]
      simp at h2 ⊢
      omega
    · intro k hk i h
      simp at hk
      by_cases hlt : k < ms.length
      · refine hg k hlt i ?_
        rw [List.getD_eq_getElem?_getD, List.getElem?_append_left hlt] at h
        rw [List.getD_eq_getElem?_getD]
        exact h
      · have : k = ms.length := by omega
        subst this
        rw [List.getD_eq_getElem?_getD] at h
        simp at h
        exact maskOf_good hg ho o.after.toList 0 (fun e he => by simpa using he) (fun i h => by simp at h) i h
theorem pairsOK_spec {m : Nat} {b : Oper} : ∀ {i : Nat} {as : List Oper}, pairsOK E fn rg ops m b i as = true → ∀ k a, as[k]? = some a → pairOK E fn rg ops m (i + k) a b = true
  | i, [], _, k, a, h => by simp at h
  | i, x :: as, h, k, a, hk => by
    simp only [pairsOK, Bool.and_eq_true] at h
    cases k with
    | zero => simp at hk; subst hk; exact h.1
    | succ k =>
      have := pairsOK_spec h.2 k a (by simpa using hk)
      rw [show i + (k + 1) = i + 1 + k by omega]
      exact this
theorem rowsOK_spec {all : List Oper} : ∀ {j : Nat} {ms : List Nat} {bs : List Oper}, rowsOK E fn rg ops all j ms bs = true → ∀ k b, bs[k]? = some b → ∃ m, ms[k]? = some m ∧ (∀ e ∈ b.after, Region.binds .any e = true → e.on < j + k) ∧ pairsOK E fn rg ops m b 0 (all.take (j + k)) = true
  | j, ms, [], h, k, b, hk => by simp at hk
  | j, [], x :: bs, h, k, b, hk => by cases h
  | j, m :: ms, x :: bs, h, k, b, hk => by
    simp only [rowsOK, Bool.and_eq_true] at h
    cases k with
    | zero =>
      simp at hk
      subst hk
      refine ⟨m, rfl, fun e he hb => ?_, h.1.2⟩
      have := List.all_eq_true.1 h.1.1 e (by simpa using he)
      simp only [hb, Bool.not_true, Bool.false_or] at this
      simpa [Nat.blt_eq] using this
    | succ k =>
      obtain ⟨m', h1, h2, h3⟩ := rowsOK_spec h.2 k b (by simpa using hk)
      refine ⟨m', by simpa using h1, fun e he hb => ?_, ?_⟩
      · have := h2 e he hb; omega
      · rw [show j + (k + 1) = j + 1 + k by omega]; exact h3
theorem listed_not {listed : Array Bool} {i : Nat} (h : listed.getD i true = false) : listed.getD i false = false := by
  simp only [Array.getD_eq_getD_getElem?] at h ⊢
  cases hh : listed[i]? with
  | none => rfl
  | some b => rw [hh] at h; exact h
theorem drawOK_spec (h : drawOK E fn rg ops = true) :
    Region.noSelect ops = true ∧ (∀ j o, ops[j]? = some o → ∀ e ∈ o.after, Region.binds .any e = true → e.on < j) ∧
      ∀ i j a b, i < j → ops[i]? = some a → ops[j]? = some b → Beh ops i j ∨ ((clsOf E fn rg a).ok (clsOf E fn rg b) = true ∧ a.apart ops b = true) := by
  unfold drawOK at h
  simp only [Bool.and_eq_true] at h
  obtain ⟨h1, h2⟩ := h
  obtain ⟨hg, hl⟩ := masks_good (ops := ops) ops.toList [] (by simp) (fun k hk => by simp at hk)
  refine ⟨h1, fun j o ho e he hb => ?_, fun i j a b hij ha hb => ?_⟩
  · obtain ⟨m, _, h3, _⟩ := rowsOK_spec h2 j o (by simpa using ho)
    have := h3 e he hb
    omega
  · obtain ⟨m, hm, _, h3⟩ := rowsOK_spec h2 j b (by simpa using hb)
    have hj : j < ops.size := (Array.getElem?_eq_some_iff.1 hb).1
    have := pairsOK_spec h3 i a (by rw [List.getElem?_take]; simp [hij]; simpa using ha)
    unfold pairOK at this
    simp only [Bool.or_eq_true, Bool.and_eq_true] at this
    rcases this with h4 | h4
    · left
      refine hg j (by simp at hl; omega) i ?_
      rw [List.getD_eq_getElem?_getD, hm]
      simpa using h4
    · exact .inr h4
theorem ready_some {listed : Array Bool} (hf : ∀ j o, ops[j]? = some o → ∀ e ∈ o.after, Region.binds .any e = true → e.on < j) (hsz : listed.size = ops.size) (hne : unl ops listed ≠ []) : Region.ready .any ops listed ≠ [] := by
  have key : ∀ n j, j < n → j ∈ unl ops listed → ∃ i, i ∈ Region.ready .any ops listed := by
    intro n
    induction n with
    | zero => intro j hj; omega
    | succ n ih =>
      intro j hj hm
      unfold unl at hm
      rw [List.mem_filter, List.mem_range] at hm
      obtain ⟨hlt, hu⟩ := hm
      have ho : ops[j]? = some ops[j] := by simp [hlt]
      by_cases hall : ∀ e ∈ ops[j].after, Region.binds .any e = true → listed.getD e.on false = true
      · exact ⟨j, mem_ready.2 ⟨by simpa using hu, _, ho, hall⟩⟩
      · have : ∃ e, e ∈ ops[j].after ∧ Region.binds .any e = true ∧ ¬ listed.getD e.on false = true := by
          refine Classical.byContradiction fun hc => hall fun e he hb => Classical.byContradiction fun hn => hc ⟨e, he, hb, hn⟩
        obtain ⟨e, he, hb, hn⟩ := this
        have hlt2 := hf j _ ho e he hb
        refine ih e.on (by omega) ?_
        unfold unl
        rw [List.mem_filter, List.mem_range]
        refine ⟨by omega, ?_⟩
        have hlt3 : e.on < listed.size := by omega
        simp [Array.getD, hlt3] at hn ⊢
        simpa using hn
  cases hu : unl ops listed with
  | nil => exact absurd hu hne
  | cons j l =>
    obtain ⟨i, hi⟩ := key (j + 1) j (by omega) (by rw [hu]; exact List.mem_cons_self)
    intro h0
    rw [h0] at hi
    cases hi
theorem any_ok (hCo : CallOk E C) (hC : C.Good) (hPu : PureC E C) (hd : drawOK E fn rg ops = true) {Q : Exit → Act → World → Prop} {K : St → Prop} {O : Nat → Prop} :
    ∀ (fuel : Nat) (listed : Array Bool) (a : Act) (w : World) (g : G) (lam : Nat → Nat) (st : St), listed.size = ops.size → (unl ops listed).length = fuel → Closed ops listed → Sim w O g lam a.tmps st → LocI E fn st → lo ≤ st.bx.length → tlo ≤ st.tk.length → a.defers = [] →
      wpIx E C fn rg lo tlo ops (unl ops listed) st K → (∀ a' w', Went lo tlo w O g lam st K a' w' → Q .normal a' w') → wpAny E.P .any ops Q fuel listed a w := by
  obtain ⟨hsel, hfw, hpair⟩ := drawOK_spec hd
  intro fuel
  induction fuel with
  | zero =>
    intro listed a w g lam st hsz hf hcl hs hl hlo htlo hdf h hQ
    have hu : unl ops listed = [] := List.eq_nil_of_length_eq_zero hf
    rw [hu] at h
    refine ⟨?_, hQ a w ⟨st, g, lam, h, Fr.refl .., hs, hdf⟩⟩
    cases hr : Region.ready .any ops listed with
    | nil => rfl
    | cons j l =>
      exfalso
      have hj : j ∈ Region.ready .any ops listed := by rw [hr]; exact List.mem_cons_self
      obtain ⟨h1, o, ho, _⟩ := mem_ready.1 hj
      have : j ∈ unl ops listed := by
        unfold unl
        rw [List.mem_filter, List.mem_range]
        exact ⟨(Array.getElem?_eq_some_iff.1 ho).1, by rw [h1]; rfl⟩
      rw [hu] at this
      cases this
  | succ fuel ih =>
    intro listed a w g lam st hsz hf hcl hs hl hlo htlo hdf h hQ
    refine ⟨fun h0 => absurd h0 (ready_some hfw hsz (by intro e; rw [e] at hf; cases hf)), fun j hj => ?_⟩
    obtain ⟨hju, o, ho, hall⟩ := mem_ready.1 hj
    have hjs : j < ops.size := (Array.getElem?_eq_some_iff.1 ho).1
    obtain ⟨pre, post, e1, e2, hpre⟩ := unl_split hjs hju
    rw [e1] at h
    have hcl' : Closed ops (listed.setIfInBounds j true) := by
      intro k ok hk hkl e he hb
      by_cases hkj : k = j
      · subst hkj
        rw [ho] at hk
        injection hk with hk
        subst hk
        exact getD_set_true (hall e he hb)
      · rw [Go.getD_set_ne false (fun e => hkj e.symm)] at hkl
        exact getD_set_true (hcl k ok hk hkl e he hb)
    have hp := pull hC hPu ho pre st (fun i hi b hb => by
      obtain ⟨hij, hiu⟩ := hpre i hi
      rcases hpair i j b o hij hb ho with hbh | hok
      · have := beh_ready hcl hj hbh
        rw [listed_not hiu] at this
        cases this
      · exact hok) hl h
    have hp := wpOne_loc hC.mono hl hp
    rw [← e2] at hp
    have hrest : ∀ a' w', Went lo tlo w O g lam st (fun s => wpIx E C fn rg lo tlo ops (unl ops (listed.setIfInBounds j true)) s K ∧ LocI E fn s) a' w' → wpAny E.P .any ops Q fuel (listed.setIfInBounds j true) a' w' := by
      intro a' w' hw
      obtain ⟨st', g', lam', ⟨h1, h1l⟩, h2, h3, h4⟩ := hw
      refine ih _ a' w' g' lam' st' (by simp [hsz]) ?_ hcl' h3 h1l (Nat.le_trans hlo h2.keep.len) (Nat.le_trans htlo h2.keep.tlen) h4 h1 fun a'' w'' hw => hQ a'' w'' (Went.after h2 hw)
      rw [e2]
      rw [e1] at hf
      simp at hf ⊢
      omega
    obtain ⟨k1, k2⟩ := one_ok (Q := Q) hCo hs hlo htlo hdf hp
    unfold wpOp
    rw [ho]
    simp only
    split
    · rename_i hw
      exact .inl (upon_mono hrest (k1 hw))
    · rename_i hw
      exact hrest _ _ (k2 (by simpa using hw))
theorem draw_ok (hm : E.P.follows .mixedOrders = true) : DrawOk E := by
  intro C hCo hC hPu fn id ops lo tlo st K hd hl h a w O g lam hs hlo htlo hdf Q hQ
  refine wp_region_any hm ?_
  have hg : Grow w { w with drawn := w.drawn + 1 } := ⟨rfl, rfl, rfl, Nat.le_refl _, fun _ _ => rfl⟩
  have h0 : unl ops (Array.replicate ops.size false) = List.range ops.size := by
    unfold unl
    rw [List.filter_eq_self]
    intro i hi
    simp [Array.getD, List.mem_range.1 hi]
  refine any_ok hCo hC hPu hd ops.size _ a _ g lam st (by simp) (by rw [h0]; simp) ?_ (Sim.grow hs hg) hl hlo htlo hdf ?_ fun a' w' hw => hQ a' w' (Went.after (Fr.grow hg) hw)
  · intro k o hk hkl
    exfalso
    simp only [Array.getD_eq_getD_getElem?, Array.getElem?_replicate] at hkl
    split at hkl <;> cases hkl
  · rw [h0, List.range_eq_range']
    have := wpIx_list (rg := id) hC.mono ops.toList 0 (by simp) h
    simpa using this
end draw
end Go.Vi
