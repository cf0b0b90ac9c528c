/- How the abstract machine's values stand to the model's: the relation of values, of stores and of a frame; what keeps them. -/
import Derived.Test.YtngeclldoplihaaViWp
import Derived.Below
set_option linter.unusedVariables false
set_option linter.unusedSimpArgs false
namespace Go.Vi
open Go.RowKit

/-- Where things lie: a box's block and how many elements it has room for; a token's block, if it has one, and the room. -/
structure G where
  ρ : Nat → Nat
  κ : Nat → Nat
  τ : Nat → Option Nat
  θ : Nat → Nat

/-- What is known of a slice's spare room. -/
def SKR (tk : List (Nat × Nat)) (g : G) (a : Option Addr) (len cap es : Nat) (rows : List (List V)) : SK → Prop
  | .frozen => True
  | .full => cap = len
  | .tok id => id < tk.length ∧ ∀ e n, tk[id]? = some (e, n) → rows.length ≤ n ∧ e = es ∧
      (rows.length = n → cap = g.θ id ∧ (g.τ id = none → cap = len) ∧ ∀ b, g.τ id = some b → a = some ⟨b, 0, none⟩)

inductive VR (c : Nat → Nat → Option Value) (S : Nat → Nat → Prop) (bx : List Box) (tk : List (Nat × Nat)) (g : G) : Value → V → Prop where
  | junk (v : Value) : VR c S bx tk g v .junk
  | undef : VR c S bx tk g (.tuple #[]) .undef
  | bool (b : Bool) : VR c S bx tk g (.bool b) (.bool b)
  | int (k : IntKind) (n : Int) : VR c S bx tk g (.int k n) (.int k n)
  | str (s : ByteArray) : VR c S bx tk g (.string s) (.str s)
  | nilp : VR c S bx tk g (.pointer none) .nilp
  | ptr (a : Addr) (r i off : Nat) (h : r < bx.length) (ha : ∀ es rs, bx[r]? = some (.rows es rs) → a = ⟨g.ρ r, i * es + off, none⟩) : VR c S bx tk g (.pointer (some a)) (.ptr r i off)
  | iptr (b o : Nat) (cs : List V) (cf : Nat → Value) (hp : cs.all V.pureCell = true) (hc : ∀ j, j < cs.length → c b (o + j) = some (cf j) ∧ S b (o + j))
      (hv : ∀ j (hj : j < cs.length), VR c S bx tk g (cf j) cs[j]) : VR c S bx tk g (.pointer (some ⟨b, o, none⟩)) (.iptr cs)
  | nils : VR c S bx tk g (.slice none 0 0) .nils
  | sl (k : SK) (a : Option Addr) (len cap es : Nat) (rows : List (List V)) (cf : Nat → Nat → Value) (hl : rows.length = len) (hcap : len ≤ cap) (hrow : ∀ row ∈ rows, row.length = es) (hp : pureRows rows = true)
      (ha : 0 < len → ∃ b o, a = some ⟨b, o, none⟩ ∧ ∀ i j, i < len → j < es → c b (o + (i * es + j)) = some (cf i j) ∧ S b (o + (i * es + j)))
      (hv : ∀ i j (hi : i < rows.length) (hj : j < rows[i].length), VR c S bx tk g (cf i j) rows[i][j]) (hk : SKR tk g a len cap es rows k) : VR c S bx tk g (.slice a len cap) (.sl k es rows)
  | ref (a : Option Addr) (r off len cap : Nat) (h : r < bx.length) (hcap : len ≤ cap)
      (ha : ∀ es rs, bx[r]? = some (.rows es rs) → off + len ≤ rs.length ∧ off + cap = g.κ r ∧ (0 < cap → a = some ⟨g.ρ r, off * es, none⟩)) : VR c S bx tk g (.slice a len cap) (.ref r off len)
  | nilm : VR c S bx tk g (.map none) .nilm
  | map (r : Nat) (h : r < bx.length) : VR c S bx tk g (.map (some (g.ρ r))) (.map r)
  | func (fn : Fn) (fs cs : Array Value) (first captured : List V) (h1 : fs.size = first.length) (h2 : cs.size = captured.length)
      (hf : ∀ i (hi : i < first.length), VR c S bx tk g (fs.getD i Go.undef) first[i]) (hc : ∀ i (hi : i < captured.length), VR c S bx tk g (cs.getD i Go.undef) captured[i]) : VR c S bx tk g (.func fn fs cs) (.func fn first captured)
  | nilf : VR c S bx tk g .nilFunc .nilf
  | iface (t : TypeId) (v : Value) (x : V) (hx : x.cell = true) (h : VR c S bx tk g v x) : VR c S bx tk g (.iface t v) (.iface t x)
  | nili : VR c S bx tk g .nilIface .nili
  | agg (cs : Array Value) (vs : List V) (h : cs.size = vs.length) (hc : ∀ v ∈ vs, v.cell = true) (hv : ∀ i (hi : i < vs.length), VR c S bx tk g (cs.getD i Go.undef) vs[i]) : VR c S bx tk g (.agg cs) (.agg vs)
  | tuple (cs : Array Value) (vs : List V) (h : cs.size = vs.length) (hv : ∀ i (hi : i < vs.length), VR c S bx tk g (cs.getD i Go.undef) vs[i]) : VR c S bx tk g (.tuple cs) (.tuple vs)

/-- What keeps all relations: stable cells stay, boxes and tokens stay where they are. -/
structure Keeps (c : Nat → Nat → Option Value) (S : Nat → Nat → Prop) (bx : List Box) (tk : List (Nat × Nat)) (g : G)
    (c' : Nat → Nat → Option Value) (S' : Nat → Nat → Prop) (bx' : List Box) (tk' : List (Nat × Nat)) (g' : G) : Prop where
  cell : ∀ b o v, S b o → c b o = some v → c' b o = some v ∧ S' b o
  len : bx.length ≤ bx'.length
  box : ∀ r es rs', r < bx.length → bx'[r]? = some (.rows es rs') → ∃ rs, bx[r]? = some (.rows es rs) ∧ rs'.length = rs.length ∧ g'.ρ r = g.ρ r ∧ g'.κ r = g.κ r
  map : ∀ r, r < bx.length → g'.ρ r = g.ρ r
  tlen : tk.length ≤ tk'.length
  tok : ∀ id es n, id < tk.length → tk'[id]? = some (es, n) → ∃ m, tk[id]? = some (es, m) ∧ m ≤ n ∧ (n = m → g'.θ id = g.θ id ∧ g'.τ id = g.τ id)
theorem Keeps.refl (c : Nat → Nat → Option Value) (S : Nat → Nat → Prop) (bx : List Box) (tk : List (Nat × Nat)) (g : G) : Keeps c S bx tk g c S bx tk g :=
  ⟨fun _ _ _ hs hc => ⟨hc, hs⟩, Nat.le_refl _, fun _ _ rs _ h => ⟨rs, h, rfl, rfl, rfl⟩, fun _ _ => rfl, Nat.le_refl _, fun _ es n _ h => ⟨n, h, Nat.le_refl _, fun _ => ⟨rfl, rfl⟩⟩⟩
section keeps
variable {c c' c'' : Nat → Nat → Option Value} {S S' S'' : Nat → Nat → Prop} {bx bx' bx'' : List Box} {tk tk' tk'' : List (Nat × Nat)} {g g' g'' : G}
theorem Keeps.trans (h : Keeps c S bx tk g c' S' bx' tk' g') (h' : Keeps c' S' bx' tk' g' c'' S'' bx'' tk'' g'') : Keeps c S bx tk g c'' S'' bx'' tk'' g'' := by
  refine ⟨fun b o v hs hc => ?_, Nat.le_trans h.len h'.len, fun r es rs' hr hb => ?_, fun r hr => ?_, Nat.le_trans h.tlen h'.tlen, fun id es n hi ht => ?_⟩
  · obtain ⟨h1, h2⟩ := h.cell b o v hs hc
    exact h'.cell b o v h2 h1
  · obtain ⟨rs, h1, h2, h3, h4⟩ := h'.box r es rs' (Nat.lt_of_lt_of_le hr h.len) hb
    obtain ⟨rs0, k1, k2, k3, k4⟩ := h.box r es rs hr h1
    exact ⟨rs0, k1, h2.trans k2, h3.trans k3, h4.trans k4⟩
  · exact (h'.map r (Nat.lt_of_lt_of_le hr h.len)).trans (h.map r hr)
  · obtain ⟨m, h1, h2, h3⟩ := h'.tok id es n (Nat.lt_of_lt_of_le hi h.tlen) ht
    obtain ⟨m0, k1, k2, k3⟩ := h.tok id es m hi h1
    refine ⟨m0, k1, Nat.le_trans k2 h2, fun e => ?_⟩
    have e1 : n = m := by omega
    have e2 : m = m0 := by omega
    exact ⟨(h3 e1).1.trans (k3 e2).1, (h3 e1).2.trans (k3 e2).2⟩
theorem SKR.keeps (h : Keeps c S bx tk g c' S' bx' tk' g') {a : Option Addr} {len cap es : Nat} {rows : List (List V)} {k : SK} (hk : SKR tk g a len cap es rows k) : SKR tk' g' a len cap es rows k := by
  cases k with
  | frozen => trivial
  | full => exact hk
  | tok id =>
    obtain ⟨h1, h2⟩ := hk
    refine ⟨Nat.lt_of_lt_of_le h1 h.tlen, fun e n ht => ?_⟩
    obtain ⟨m, k1, k2, k3⟩ := h.tok id e n h1 ht
    obtain ⟨q1, q2, q3⟩ := h2 e m k1
    refine ⟨Nat.le_trans q1 k2, q2, fun e => ?_⟩
    have e1 : n = m := by omega
    obtain ⟨p1, p2⟩ := k3 e1
    rw [p1, p2]
    exact q3 (by omega)
theorem VR.keeps (h : Keeps c S bx tk g c' S' bx' tk' g') {v : Value} {x : V} (hv : VR c S bx tk g v x) : VR c' S' bx' tk' g' v x := by
  induction hv with
  | junk v => exact .junk v
  | undef => exact .undef
  | bool b => exact .bool b
  | int k n => exact .int k n
  | str s => exact .str s
  | nilp => exact .nilp
  | ptr a r i off hr ha =>
    refine .ptr a r i off (Nat.lt_of_lt_of_le hr h.len) fun es rs' hb => ?_
    obtain ⟨rs, k1, _, k3, _⟩ := h.box r es rs' hr hb
    rw [k3]
    exact ha es rs k1
  | iptr b o cs cf hp hc hv ih => exact .iptr b o cs cf hp (fun j hj => h.cell _ _ _ (hc j hj).2 (hc j hj).1) ih
  | nils => exact .nils
  | sl k a len cap es rows cf hl hcap hrow hp ha hv hk ih =>
    refine .sl k a len cap es rows cf hl hcap hrow hp (fun h0 => ?_) ih (hk.keeps h)
    obtain ⟨b, o, e, hh⟩ := ha h0
    exact ⟨b, o, e, fun i j hi hj => h.cell _ _ _ (hh i j hi hj).2 (hh i j hi hj).1⟩
  | ref a r off len cap hr hcap ha =>
    refine .ref a r off len cap (Nat.lt_of_lt_of_le hr h.len) hcap fun es rs' hb => ?_
    obtain ⟨rs, k1, k2, k3, k4⟩ := h.box r es rs' hr hb
    rw [k2, k3, k4]
    exact ha es rs k1
  | nilm => exact .nilm
  | map r hr => rw [← h.map r hr]; exact .map r (Nat.lt_of_lt_of_le hr h.len)
  | func fn fs cs first captured h1 h2 hf hc ihf ihc => exact .func fn fs cs first captured h1 h2 ihf ihc
  | nilf => exact .nilf
  | iface t v x hx hv ih => exact .iface t v x hx ih
  | nili => exact .nili
  | agg cs vs hs hc hv ih => exact .agg cs vs hs hc ih
  | tuple cs vs hs hv ih => exact .tuple cs vs hs ih
/-- A plain cell's reading hangs on stable cells alone. -/
theorem VR.plain {v : Value} {x : V} (hv : VR c S bx tk g v x) (hx : x.pureCell = true) (h : ∀ b o v, S b o → c b o = some v → c' b o = some v ∧ S' b o) : VR c' S' bx' tk' g' v x := by
  induction hv with
  | bool b => exact .bool b
  | int k n => exact .int k n
  | str s => exact .str s
  | nilp => exact .nilp
  | nils => exact .nils
  | nilm => exact .nilm
  | nilf => exact .nilf
  | nili => exact .nili
  | sl k a len cap es rows cf hl hcap hrow hp ha hv hk ih =>
    have hcell : ∀ i j (hi : i < rows.length) (hj : j < rows[i].length), rows[i][j].pureCell = true := by
      intro i j hi hj
      have h1 := List.all_eq_true.1 hp rows[i] (List.getElem_mem hi)
      exact List.all_eq_true.1 h1 _ (List.getElem_mem hj)
    refine .sl k a len cap es rows cf hl hcap hrow hp (fun h0 => ?_) (fun i j hi hj => ih i j hi hj (hcell i j hi hj)) ?_
    · obtain ⟨b, o, e, hh⟩ := ha h0
      exact ⟨b, o, e, fun i j hi hj => h _ _ _ (hh i j hi hj).2 (hh i j hi hj).1⟩
    · cases k with
      | frozen => trivial
      | full => exact hk
      | tok id => simp [V.pureCell] at hx
  | func fn fs cs first captured h1 h2 hf hc ihf ihc =>
    cases first with
    | cons _ _ => simp [V.pureCell] at hx
    | nil =>
      cases captured with
      | cons _ _ => simp [V.pureCell] at hx
      | nil => exact .func fn fs cs [] [] h1 h2 (fun i hi => absurd hi (by simp)) (fun i hi => absurd hi (by simp))
  | _ => simp [V.pureCell] at hx
end keeps
end Go.Vi
