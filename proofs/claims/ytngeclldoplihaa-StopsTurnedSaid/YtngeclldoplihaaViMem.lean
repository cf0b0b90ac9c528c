/- Memory that is made: a new box, a slot's own variable, a token. -/
import Derived.Test.YtngeclldoplihaaViOps4
set_option linter.unusedVariables false
set_option linter.unusedSimpArgs false
namespace Go.Vi
open Go.RowKit
structure Grow (w w' : World) : Prop where
  os : w'.os = w.os
  tape : w'.tape = w.tape
  output : w'.output = w.output
  size : w.heap.size ≤ w'.heap.size
  old : ∀ b, b < w.heap.size → w'.heap[b]? = w.heap[b]?
section mem
variable {P : Program} {lo tlo : Nat} {w w' : World} {O : Nat → Prop} {g : G} {lam : Nat → Nat} {st : St} {tmps : Array Value}
theorem Grow.alloc (w : World) (o : Obj) : Grow w { w with heap := w.heap.push o } :=
  ⟨rfl, rfl, rfl, by simp, fun b hb => by simp [Array.getElem?_push, Nat.ne_of_lt hb]⟩
theorem alloc_new (w : World) (o : Obj) : ({ w with heap := w.heap.push o } : World).heap[w.heap.size]? = some o := by simp
theorem cellOf_lt {b off : Nat} {v : Value} (h : cellOf w b off = some v) : b < w.heap.size := by
  unfold cellOf World.cell? at h
  cases hb : w.heap[b]? with
  | none => rw [hb] at h; cases h
  | some x => exact (Array.getElem?_eq_some_iff.1 hb).1
theorem cellOf_block {b off : Nat} (h : w'.heap[b]? = w.heap[b]?) : cellOf w' b off = cellOf w b off := by simp [cellOf, World.cell?, h]
theorem Grow.cell (h : Grow w w') {b off : Nat} {v : Value} (hc : cellOf w b off = some v) : cellOf w' b off = some v := by
  rw [cellOf_block (h.old b (cellOf_lt hc))]; exact hc
/-- A state whose blocks are the old ones, and one that is new. -/
structure News (w : World) (g : G) (lam : Nat → Nat) (st : St) (g' : G) (lam' : Nat → Nat) (st' : St) : Prop where
  blk : ∀ x b, b < w.heap.size → Blk g' lam' st' x b → Blk g lam st x b
  tok : ∀ id es n b, b < w.heap.size → st'.tk[id]? = some (es, n) → g'.τ id = some b → st.tk[id]? = some (es, n) ∧ g.τ id = some b
theorem News.stab {g' : G} {lam' : Nat → Nat} {st' : St} (h : News w g lam st g' lam' st') {b off : Nat} (hb : b < w.heap.size) (hs : Stab O g lam st b off) : Stab O g' lam' st' b off :=
  ⟨hs.1, fun r hr => hs.2.1 r (h.blk _ _ hb hr), fun t ht => hs.2.2.1 t (h.blk _ _ hb ht), fun id es n h1 h2 =>
    let ⟨k1, k2⟩ := h.tok id es n b hb h1 h2
    hs.2.2.2 id es n k1 k2⟩
theorem News.refl : News w g lam st g lam st := ⟨fun _ _ _ h => h, fun _ _ _ _ _ h1 h2 => ⟨h1, h2⟩⟩
theorem News.keeps {g' : G} {lam' : Nat → Nat} {st' : St} (h : News w g lam st g' lam' st') (hg : Grow w w')
    (len : st.bx.length ≤ st'.bx.length) (box : ∀ r es rs', r < st.bx.length → st'.bx[r]? = some (.rows es rs') → ∃ rs, st.bx[r]? = some (.rows es rs) ∧ rs'.length = rs.length ∧ g'.ρ r = g.ρ r ∧ g'.κ r = g.κ r)
    (map : ∀ r, r < st.bx.length → g'.ρ r = g.ρ r) (tlen : st.tk.length ≤ st'.tk.length)
    (tok : ∀ id es n, id < st.tk.length → st'.tk[id]? = some (es, n) → ∃ m, st.tk[id]? = some (es, m) ∧ m ≤ n ∧ (n = m → g'.θ id = g.θ id ∧ g'.τ id = g.τ id)) :
    Keeps (cellOf w) (Stab O g lam st) st.bx st.tk g (cellOf w') (Stab O g' lam' st') st'.bx st'.tk g' :=
  ⟨fun b o v hs hc => ⟨hg.cell hc, h.stab (cellOf_lt hc) hs⟩, len, box, map, tlen, tok⟩
/-- The world grows, all else stays. -/
theorem grow_keeps (hg : Grow w w') : Keeps (cellOf w) (Stab O g lam st) st.bx st.tk g (cellOf w') (Stab O g lam st) st.bx st.tk g :=
  News.refl.keeps hg (Nat.le_refl _) (fun r es rs _ h => ⟨rs, h, rfl, rfl, rfl⟩) (fun _ _ => rfl) (Nat.le_refl _) (fun id es n _ h => ⟨n, h, Nat.le_refl _, fun _ => ⟨rfl, rfl⟩⟩)
theorem Fr.grow (hg : Grow w w') : Fr lo tlo w O g lam st w' g lam st :=
  ⟨hg.os, hg.tape, hg.output, hg.size, grow_keeps hg, fun b hb _ => hg.old b hb, fun _ _ h => h, fun _ _ => ⟨rfl, rfl, rfl⟩, fun _ _ => ⟨rfl, rfl, rfl⟩⟩
theorem TR.keeps {g' : G} {lam' : Nat → Nat} {st' : St} {O' : Nat → Prop} (hk : Keeps (cellOf w) (Stab O g lam st) st.bx st.tk g (cellOf w') (Stab O' g' lam' st') st'.bx st'.tk g') {t : Nat} {v : Value} {x : V}
    (hloc : ∀ cs, x = .loc cs → lam' t = lam t) (hl : ∀ u off, x = .lptr u off → ∀ cs, nth st'.tm u = .loc cs → (∃ cs', nth st.tm u = .loc cs') ∧ lam' u = lam u) (h : TR w O g lam st t v x) : TR w' O' g' lam' st' t v x := by
  cases x
  case loc cs => simp only [TR] at h ⊢; rw [hloc cs rfl]; exact h
  case lptr u off =>
    obtain ⟨p, hp, h⟩ := h
    refine ⟨p, hp, fun cs hcs => ?_⟩
    obtain ⟨⟨cs', h1⟩, h2⟩ := hl u off rfl cs hcs
    rw [h2]
    exact h cs' h1
  all_goals exact VR.keeps hk h
theorem Sim.grow (hs : Sim w O g lam tmps st) (hg : Grow w w') : Sim w' O g lam tmps st := by
  have hk := grow_keeps (O := O) (g := g) (lam := lam) (st := st) hg
  refine ⟨hs.size, fun t ht => (hs.slot t ht).keeps hk (fun _ _ => rfl) (fun u off _ cs h => ⟨⟨cs, h⟩, rfl⟩), fun r es rs h => ?_, fun t cs h => ?_, fun id es n h b hb => ?_, hs.nomap, hs.inj, fun x b h => ?_, fun b h => Nat.lt_of_lt_of_le (hs.out b h) hg.size⟩
  · exact (hs.box r es rs h).keeps hk (hg.old _ (hs.own (.box r) _ ⟨by rw [h]; trivial, rfl⟩).1)
  · exact (hs.loc t cs h).keeps hk (hg.old _ (hs.own (.loc t) _ ⟨⟨cs, h⟩, rfl⟩).1)
  · obtain ⟨cur, e, h1, h2⟩ := hs.tok id es n h b hb
    have hid := (List.getElem?_eq_some_iff.1 h).1
    exact ⟨cur, e, (hg.old _ (hs.own (.tok id) _ ⟨hid, hb⟩).1).trans h1, h2⟩
  · exact ⟨Nat.lt_of_lt_of_le (hs.own x b h).1 hg.size, (hs.own x b h).2⟩

/-- A new box. -/
def G.addBox (g : G) (r b c : Nat) : G := { g with ρ := fun x => if x = r then b else g.ρ x, κ := fun x => if x = r then c else g.κ x }
def St.addBox (st : St) (bx : Box) : St := { st with bx := st.bx ++ [bx] }
theorem addBox_get {bx : Box} {r : Nat} (h : r < st.bx.length) : (st.addBox bx).bx[r]? = st.bx[r]? := by simp [St.addBox, List.getElem?_append, h]
theorem addBox_new {bx : Box} : (st.addBox bx).bx[st.bx.length]? = some bx := by simp [St.addBox]
theorem addBox_some {bx b : Box} {r : Nat} (h : (st.addBox bx).bx[r]? = some b) : (r < st.bx.length ∧ st.bx[r]? = some b) ∨ (r = st.bx.length ∧ b = bx) := by
  by_cases hr : r < st.bx.length
  · exact .inl ⟨hr, by rw [← addBox_get (bx := bx) hr]; exact h⟩
  · right
    have := (List.getElem?_eq_some_iff.1 h).1
    simp [St.addBox] at this
    have e : r = st.bx.length := by omega
    subst e
    rw [addBox_new] at h
    injection h with h
    exact ⟨rfl, h.symm⟩
section box
variable {b c : Nat} {bx : Box}
theorem box_news (hb : w.heap.size ≤ b) : News w g lam st (g.addBox st.bx.length b c) lam (st.addBox bx) := by
  refine ⟨fun x b' hb' hx => ?_, fun id es n b' hb' h1 h2 => ⟨h1, h2⟩⟩
  cases x with
  | loc t => exact hx
  | tok id => exact hx
  | box r =>
    obtain ⟨h1, h2⟩ := hx
    by_cases hr : r < st.bx.length
    · rw [addBox_get hr] at h1
      simp only [G.addBox] at h2
      rw [if_neg (by omega)] at h2
      exact ⟨h1, h2⟩
    · by_cases e : r = st.bx.length
      · subst e
        simp [G.addBox] at h2
        omega
      · have : (st.addBox bx).bx[r]? = none := by simp [St.addBox]; omega
        rw [this] at h1
        cases h1
theorem box_keeps (hg : Grow w w') (hb : w.heap.size ≤ b) :
    Keeps (cellOf w) (Stab O g lam st) st.bx st.tk g (cellOf w') (Stab O (g.addBox st.bx.length b c) lam (st.addBox bx)) (st.addBox bx).bx (st.addBox bx).tk (g.addBox st.bx.length b c) := by
  refine (box_news hb).keeps hg (by simp [St.addBox]) (fun r es rs hr h => ?_) (fun r hr => ?_) (Nat.le_refl _) (fun id es n _ h => ⟨n, h, Nat.le_refl _, fun _ => ⟨rfl, rfl⟩⟩)
  · rw [addBox_get hr] at h
    exact ⟨rs, h, rfl, by simp [G.addBox]; omega, by simp [G.addBox]; omega⟩
  · simp [G.addBox]; omega
theorem Fr.addBox (hlo : lo ≤ st.bx.length) (hg : Grow w w') (hb : w.heap.size ≤ b) : Fr lo tlo w O g lam st w' (g.addBox st.bx.length b c) lam (st.addBox bx) :=
  ⟨hg.os, hg.tape, hg.output, hg.size, box_keeps hg hb, fun b hb _ => hg.old b hb, fun b' hb' h x hx => h x ((box_news hb).blk x b' hb' hx),
    fun r hr => ⟨addBox_get (by omega), by simp [G.addBox]; omega, by simp [G.addBox]; omega⟩, fun _ _ => ⟨rfl, rfl, rfl⟩⟩
/-- The cells of a new block. -/
def Laid (w w' : World) (O : Nat → Prop) (g : G) (lam : Nat → Nat) (st : St) (b es cap : Nat) (rs : List (List V)) : Prop :=
  ∃ cur e, w'.heap[b]? = some (.cells cur e (0, 0)) ∧ cur.size = cap * es ∧ rs.length ≤ cap ∧ (∀ row ∈ rs, row.length = es ∧ ∀ v ∈ row, v.cell = true) ∧
    ∀ i j (hi : i < rs.length) (hj : j < rs[i].length), ∃ c, cur[i * es + j]? = some c ∧ FR w O g lam st c rs[i][j]
theorem Laid.rows {g' : G} {lam' : Nat → Nat} {st' : St} {es cap : Nat} {rs : List (List V)} (hk : Keeps (cellOf w) (Stab O g lam st) st.bx st.tk g (cellOf w') (Stab O g' lam' st') st'.bx st'.tk g')
    (h : Laid w w' O g lam st b es cap rs) : RowsAt w' O g' lam' st' b es cap rs := by
  obtain ⟨cur, e, h1, h2, h3, h4, h5⟩ := h
  exact ⟨cur, e, h1, h2, h3, h4, fun i j hi hj => let ⟨c, k1, k2⟩ := h5 i j hi hj; ⟨c, k1, k2.keeps hk⟩⟩
theorem Laid.lt {es cap : Nat} {rs : List (List V)} (h : Laid w w' O g lam st b es cap rs) : b < w'.heap.size := by
  obtain ⟨cur, e, h1, _⟩ := h
  exact (Array.getElem?_eq_some_iff.1 h1).1
theorem Sim.addBox (hs : Sim w O g lam tmps st) (hg : Grow w w') (hb : w.heap.size ≤ b) {es : Nat} {rs : List (List V)} (hl : Laid w w' O g lam st b es c rs) :
    Sim w' O (g.addBox st.bx.length b c) lam tmps (st.addBox (.rows es rs)) := by
  have hk := box_keeps (O := O) (g := g) (lam := lam) (st := st) (c := c) (bx := .rows es rs) hg hb
  have hlt := hl.lt
  have hold : ∀ x b', Blk (g.addBox st.bx.length b c) lam (st.addBox (.rows es rs)) x b' → (x = .box st.bx.length ∧ b' = b) ∨ Blk g lam st x b' := by
    intro x b' hx
    cases x with
    | loc t => exact .inr hx
    | tok id => exact .inr hx
    | box r =>
      obtain ⟨h1, h2⟩ := hx
      cases hbr : (st.addBox (.rows es rs)).bx[r]? with
      | none => rw [hbr] at h1; cases h1
      | some bb =>
        rcases addBox_some hbr with ⟨k1, k2⟩ | ⟨k1, k2⟩
        · right
          rw [hbr] at h1
          simp only [G.addBox] at h2
          rw [if_neg (by omega)] at h2
          exact ⟨by rw [k2]; exact h1, h2⟩
        · left
          subst k1
          simp [G.addBox] at h2
          exact ⟨rfl, h2.symm⟩
  refine ⟨hs.size, fun t ht => (hs.slot t ht).keeps hk (fun _ _ => rfl) (fun u off _ cs h => ⟨⟨cs, h⟩, rfl⟩), fun r es' rs' h => ?_, fun t cs h => ?_, fun id es n h b' hb' => ?_, fun r es' h => ?_, fun x y b' hx hy => ?_, fun x b' h => ?_, fun b' h => Nat.lt_of_lt_of_le (hs.out b' h) hg.size⟩
  · rcases addBox_some h with ⟨k1, k2⟩ | ⟨k1, k2⟩
    · have e1 : (g.addBox st.bx.length b c).ρ r = g.ρ r := by simp [G.addBox]; omega
      have e2 : (g.addBox st.bx.length b c).κ r = g.κ r := by simp [G.addBox]; omega
      rw [e1, e2]
      exact (hs.box r es' rs' k2).keeps hk (hg.old _ (hs.own (.box r) _ ⟨by rw [k2]; trivial, rfl⟩).1)
    · subst k1
      injection k2 with k2 k3
      subst k2
      subst k3
      have e1 : (g.addBox st.bx.length b c).ρ st.bx.length = b := by simp [G.addBox]
      have e2 : (g.addBox st.bx.length b c).κ st.bx.length = c := by simp [G.addBox]
      rw [e1, e2]
      exact hl.rows hk
  · exact (hs.loc t cs h).keeps hk (hg.old _ (hs.own (.loc t) _ ⟨⟨cs, h⟩, rfl⟩).1)
  · obtain ⟨cur, e, h1, h2⟩ := hs.tok id es n h b' hb'
    have hid := (List.getElem?_eq_some_iff.1 h).1
    exact ⟨cur, e, (hg.old _ (hs.own (.tok id) _ ⟨hid, hb'⟩).1).trans h1, h2⟩
  · rcases addBox_some h with ⟨k1, k2⟩ | ⟨k1, k2⟩
    · exact hs.nomap r es' k2
    · cases k2
  · rcases hold x b' hx with ⟨rfl, rfl⟩ | h1 <;> rcases hold y b' hy with ⟨rfl, e⟩ | h2
    · rfl
    · exact absurd (hs.own y b' h2).1 (by omega)
    · exact absurd (hs.own x b' h1).1 (by omega)
    · exact hs.inj x y b' h1 h2
  · rcases hold x b' h with ⟨rfl, rfl⟩ | h1
    · exact ⟨hlt, fun ho => absurd (hs.out b' ho) (by omega)⟩
    · exact ⟨Nat.lt_of_lt_of_le (hs.own x b' h1).1 hg.size, (hs.own x b' h1).2⟩
end box
end mem
end Go.Vi
