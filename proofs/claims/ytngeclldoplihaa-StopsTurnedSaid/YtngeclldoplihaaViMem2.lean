/- A slot's own variable; a new token. -/
import Derived.Test.YtngeclldoplihaaViMem
set_option linter.unusedVariables false
set_option linter.unusedSimpArgs false
namespace Go.Vi
open Go.RowKit
section mem2
variable {P : Program} {lo tlo : Nat} {w w' : World} {O : Nat → Prop} {g : G} {lam : Nat → Nat} {st : St} {tmps : Array Value}
theorem nth_map (d : Nat) : ∀ (l : List V) (t : Nat), nth (l.map (clearL d)) t = clearL d (nth l t)
  | [], t => rfl
  | v :: l, 0 => rfl
  | v :: l, t + 1 => by simp only [List.map_cons, nth]; exact nth_map d l t
theorem clearL_loc {d : Nat} {x : V} {cs : List V} : clearL d x = .loc cs ↔ x = .loc cs := by
  cases x <;> simp [clearL]
  split <;> simp
def St.addLoc (st : St) (d : Nat) (cs : List V) : St := { st with tm := upd (st.tm.map (clearL d)) d (.loc cs) }
def lamSet (lam : Nat → Nat) (d b : Nat) : Nat → Nat := fun t => if t = d then b else lam t
theorem nth_addLoc {d t : Nat} {cs : List V} (hd : d < st.tm.length) : nth (st.addLoc d cs).tm t = if t = d then .loc cs else clearL d (nth st.tm t) := by
  simp only [St.addLoc]
  rw [nth_upd _ _ _ _ (by simpa using hd), nth_map]
section loc
variable {b d : Nat} {cs : List V}
theorem loc_news (hd : d < st.tm.length) (hb : w.heap.size ≤ b) : News w g lam st g (lamSet lam d b) (st.addLoc d cs) := by
  refine ⟨fun x b' hb' hx => ?_, fun id es n b' hb' h1 h2 => ⟨h1, h2⟩⟩
  cases x with
  | box r => exact hx
  | tok id => exact hx
  | loc t =>
    obtain ⟨⟨cs', h1⟩, h2⟩ := hx
    rw [nth_addLoc hd] at h1
    by_cases e : t = d
    · subst e; simp [lamSet] at h2; omega
    · rw [if_neg e, clearL_loc] at h1
      simp only [lamSet, if_neg e] at h2
      exact ⟨⟨cs', h1⟩, h2⟩
theorem loc_keeps (hd : d < st.tm.length) (hg : Grow w w') (hb : w.heap.size ≤ b) :
    Keeps (cellOf w) (Stab O g lam st) st.bx st.tk g (cellOf w') (Stab O g (lamSet lam d b) (st.addLoc d cs)) (st.addLoc d cs).bx (st.addLoc d cs).tk g :=
  (loc_news hd hb).keeps hg (Nat.le_refl _) (fun r es rs _ h => ⟨rs, h, rfl, rfl, rfl⟩) (fun _ _ => rfl) (Nat.le_refl _) (fun id es n _ h => ⟨n, h, Nat.le_refl _, fun _ => ⟨rfl, rfl⟩⟩)
theorem Fr.addLoc (hd : d < st.tm.length) (hg : Grow w w') (hb : w.heap.size ≤ b) : Fr lo tlo w O g lam st w' g (lamSet lam d b) (st.addLoc d cs) :=
  ⟨hg.os, hg.tape, hg.output, hg.size, loc_keeps hd hg hb, fun b hb _ => hg.old b hb, fun b' hb' h x hx => h x ((loc_news hd hb).blk x b' hb' hx), fun r _ => ⟨rfl, rfl, rfl⟩, fun _ _ => ⟨rfl, rfl, rfl⟩⟩
theorem Sim.addLoc (hs : Sim w O g lam tmps st) (hd : d < st.tm.length) (hg : Grow w w') (hb : w.heap.size ≤ b) (hl : Laid w w' O g lam st b cs.length 1 [cs]) :
    Sim w' O g (lamSet lam d b) (tmps.setIfInBounds d (.pointer (some ⟨b, 0, none⟩))) (st.addLoc d cs) := by
  have hk := loc_keeps (O := O) (g := g) (lam := lam) (st := st) (cs := cs) hd hg hb
  have hlt := hl.lt
  have hold : ∀ x b', Blk g (lamSet lam d b) (st.addLoc d cs) x b' → (x = .loc d ∧ b' = b) ∨ Blk g lam st x b' := by
    intro x b' hx
    cases x with
    | box r => exact .inr hx
    | tok id => exact .inr hx
    | loc t =>
      obtain ⟨⟨cs', h1⟩, h2⟩ := hx
      rw [nth_addLoc hd] at h1
      by_cases e : t = d
      · subst e; simp [lamSet] at h2; exact .inl ⟨rfl, h2.symm⟩
      · rw [if_neg e, clearL_loc] at h1
        simp only [lamSet, if_neg e] at h2
        exact .inr ⟨⟨cs', h1⟩, h2⟩
  have hsz := hs.size
  refine ⟨by simp [St.addLoc, upd_length, hsz], fun t ht => ?_, fun r es rs h => ?_, fun t cs' h => ?_, fun id es n h b' hb' => ?_, hs.nomap, fun x y b' hx hy => ?_, fun x b' h => ?_, fun b' h => Nat.lt_of_lt_of_le (hs.out b' h) hg.size⟩
  · have ht' : t < st.tm.length := by simpa [St.addLoc, upd_length] using ht
    rw [nth_addLoc hd]
    by_cases e : t = d
    · subst e
      rw [if_pos rfl, getD_set_eq (by omega)]
      simp [TR, lamSet]
    · rw [if_neg e, getD_set_ne e]
      have h0 := hs.slot t ht'
      cases hn : nth st.tm t <;> rw [hn] at h0
      case loc cs' => simp only [TR, clearL, lamSet, if_neg e] at h0 ⊢; exact h0
      case lptr u off =>
        simp only [clearL]
        split
        · exact VR.junk _
        · rename_i hu
          obtain ⟨p, hp, h1⟩ := h0
          refine ⟨p, hp, fun cs' hcs => ?_⟩
          rw [nth_addLoc hd, if_neg hu, clearL_loc] at hcs
          simp only [lamSet, if_neg hu]
          exact h1 cs' hcs
      all_goals exact VR.keeps hk h0
  · exact (hs.box r es rs h).keeps hk (hg.old _ (hs.own (.box r) _ ⟨by rw [show st.bx[r]? = _ from h]; trivial, rfl⟩).1)
  · rw [nth_addLoc hd] at h
    by_cases e : t = d
    · subst e
      rw [if_pos rfl] at h
      injection h with h
      subst h
      have : lamSet lam t b t = b := by simp [lamSet]
      rw [this]
      exact hl.rows hk
    · rw [if_neg e, clearL_loc] at h
      have : lamSet lam d b t = lam t := by simp [lamSet, e]
      rw [this]
      exact (hs.loc t cs' h).keeps hk (hg.old _ (hs.own (.loc t) _ ⟨⟨cs', h⟩, rfl⟩).1)
  · obtain ⟨cur, e, h1, h2⟩ := hs.tok id es n h b' hb'
    have hid := (List.getElem?_eq_some_iff.1 h).1
    exact ⟨cur, e, (hg.old _ (hs.own (.tok id) _ ⟨hid, hb'⟩).1).trans h1, h2⟩
  · rcases hold x b' hx with ⟨rfl, rfl⟩ | h1 <;> rcases hold y b' hy with ⟨rfl, e⟩ | h2
    · rfl
    · exact absurd (hs.own y b' h2).1 (by omega)
    · exact absurd (hs.own x b' h1).1 (by omega)
    · exact hs.inj x y b' h1 h2
  · rcases hold x b' h with ⟨rfl, rfl⟩ | h1
    · exact ⟨hlt, fun ho => absurd (hs.out b' ho) (by omega)⟩
    · exact ⟨Nat.lt_of_lt_of_le (hs.own x b' h1).1 hg.size, (hs.own x b' h1).2⟩
end loc

/-- A new token. -/
def G.addTok (g : G) (id : Nat) (b : Option Nat) (c : Nat) : G := { g with τ := fun x => if x = id then b else g.τ x, θ := fun x => if x = id then c else g.θ x }
def St.addTok (st : St) (q : Nat × Nat) : St := { st with tk := st.tk ++ [q] }
theorem addTok_get {q : Nat × Nat} {r : Nat} (h : r < st.tk.length) : (st.addTok q).tk[r]? = st.tk[r]? := by simp [St.addTok, List.getElem?_append, h]
theorem addTok_new {q : Nat × Nat} : (st.addTok q).tk[st.tk.length]? = some q := by simp [St.addTok]
theorem addTok_some {q p : Nat × Nat} {r : Nat} (h : (st.addTok q).tk[r]? = some p) : (r < st.tk.length ∧ st.tk[r]? = some p) ∨ (r = st.tk.length ∧ p = q) := by
  by_cases hr : r < st.tk.length
  · exact .inl ⟨hr, by rw [← addTok_get (q := q) hr]; exact h⟩
  · right
    have := (List.getElem?_eq_some_iff.1 h).1
    simp [St.addTok] at this
    have e : r = st.tk.length := by omega
    subst e
    rw [addTok_new] at h
    injection h with h
    exact ⟨rfl, h.symm⟩
section tok
variable {ob' : Option Nat} {c es n : Nat}
theorem tok_news (hb : ∀ b, ob' = some b → w.heap.size ≤ b) : News w g lam st (g.addTok st.tk.length ob' c) lam (st.addTok (es, n)) := by
  refine ⟨fun x b' hb' hx => ?_, fun id es' n' b' hb' h1 h2 => ?_⟩
  · cases x with
    | loc t => exact hx
    | box r => exact hx
    | tok id =>
      obtain ⟨h1, h2⟩ := hx
      simp only [G.addTok] at h2
      split at h2
      · have := hb b' h2; omega
      · exact ⟨by simp [St.addTok] at h1; omega, h2⟩
  · simp only [G.addTok] at h2
    split at h2
    · have := hb b' h2; omega
    · rcases addTok_some h1 with ⟨k1, k2⟩ | ⟨k1, k2⟩
      · exact ⟨k2, h2⟩
      · contradiction
theorem tok_keeps (hg : Grow w w') (hb : ∀ b, ob' = some b → w.heap.size ≤ b) :
    Keeps (cellOf w) (Stab O g lam st) st.bx st.tk g (cellOf w') (Stab O (g.addTok st.tk.length ob' c) lam (st.addTok (es, n))) (st.addTok (es, n)).bx (st.addTok (es, n)).tk (g.addTok st.tk.length ob' c) := by
  refine (tok_news hb).keeps hg (Nat.le_refl _) (fun r es rs hr h => ⟨rs, h, rfl, rfl, rfl⟩) (fun r hr => rfl) (by simp [St.addTok]) (fun id es' n' hi h => ?_)
  rw [addTok_get hi] at h
  exact ⟨n', h, Nat.le_refl _, fun _ => ⟨by simp [G.addTok]; omega, by simp [G.addTok]; omega⟩⟩
theorem Fr.addTok (hlo : tlo ≤ st.tk.length) (hg : Grow w w') (hb : ∀ b, ob' = some b → w.heap.size ≤ b) : Fr lo tlo w O g lam st w' (g.addTok st.tk.length ob' c) lam (st.addTok (es, n)) :=
  ⟨hg.os, hg.tape, hg.output, hg.size, tok_keeps hg hb, fun b hb _ => hg.old b hb, fun b' hb' h x hx => h x ((tok_news hb).blk x b' hb' hx),
    fun r hr => ⟨rfl, rfl, rfl⟩, fun id hi => ⟨addTok_get (by omega), by simp [G.addTok]; omega, by simp [G.addTok]; omega⟩⟩
theorem Sim.addTok (hs : Sim w O g lam tmps st) (hg : Grow w w') (hb : ∀ b, ob' = some b → w.heap.size ≤ b)
    (hl : ∀ b, ob' = some b → ∃ cur e, w'.heap[b]? = some (.cells cur e (0, 0)) ∧ cur.size = c * es ∧ n ≤ c) :
    Sim w' O (g.addTok st.tk.length ob' c) lam tmps (st.addTok (es, n)) := by
  have hk := tok_keeps (O := O) (g := g) (lam := lam) (st := st) (c := c) (es := es) (n := n) hg hb
  have hold : ∀ x b', Blk (g.addTok st.tk.length ob' c) lam (st.addTok (es, n)) x b' → (x = .tok st.tk.length ∧ ob' = some b') ∨ Blk g lam st x b' := by
    intro x b' hx
    cases x with
    | loc t => exact .inr hx
    | box r => exact .inr hx
    | tok id =>
      obtain ⟨h1, h2⟩ := hx
      simp only [G.addTok] at h2
      split at h2
      · rename_i e; subst e; exact .inl ⟨rfl, h2⟩
      · exact .inr ⟨by simp [St.addTok] at h1; omega, h2⟩
  refine ⟨hs.size, fun t ht => (hs.slot t ht).keeps hk (fun _ _ => rfl) (fun u off _ cs h => ⟨⟨cs, h⟩, rfl⟩), fun r es' rs' h => ?_, fun t cs h => ?_, fun id es' n' h b' hb' => ?_, hs.nomap, fun x y b' hx hy => ?_, fun x b' h => ?_, fun b' h => Nat.lt_of_lt_of_le (hs.out b' h) hg.size⟩
  · exact (hs.box r es' rs' h).keeps hk (hg.old _ (hs.own (.box r) _ ⟨by rw [show st.bx[r]? = _ from h]; trivial, rfl⟩).1)
  · exact (hs.loc t cs h).keeps hk (hg.old _ (hs.own (.loc t) _ ⟨⟨cs, h⟩, rfl⟩).1)
  · rcases addTok_some h with ⟨k1, k2⟩ | ⟨k1, k2⟩
    · have e1 : (g.addTok st.tk.length ob' c).τ id = g.τ id := by simp [G.addTok]; omega
      have e2 : (g.addTok st.tk.length ob' c).θ id = g.θ id := by simp [G.addTok]; omega
      rw [e1] at hb'
      rw [e2]
      obtain ⟨cur, e, h1, h2⟩ := hs.tok id es' n' k2 b' hb'
      exact ⟨cur, e, (hg.old _ (hs.own (.tok id) _ ⟨k1, hb'⟩).1).trans h1, h2⟩
    · subst k1
      injection k2 with k2 k3
      subst k2
      subst k3
      have e2 : (g.addTok st.tk.length ob' c).θ st.tk.length = c := by simp [G.addTok]
      have e1 : (g.addTok st.tk.length ob' c).τ st.tk.length = ob' := by simp [G.addTok]
      rw [e1] at hb'
      rw [e2]
      exact hl b' hb'
  · rcases hold x b' hx with ⟨rfl, e1⟩ | h1 <;> rcases hold y b' hy with ⟨rfl, e2⟩ | h2
    · rfl
    · have := hb b' e1; exact absurd (hs.own y b' h2).1 (by omega)
    · have := hb b' e2; exact absurd (hs.own x b' h1).1 (by omega)
    · exact hs.inj x y b' h1 h2
  · rcases hold x b' h with ⟨rfl, e1⟩ | h1
    · obtain ⟨cur, e, h1, _⟩ := hl b' e1
      have := hb b' e1
      exact ⟨(Array.getElem?_eq_some_iff.1 h1).1, fun ho => absurd (hs.out b' ho) (by omega)⟩
    · exact ⟨Nat.lt_of_lt_of_le (hs.own x b' h1).1 hg.size, (hs.own x b' h1).2⟩
end tok
end mem2
end Go.Vi
