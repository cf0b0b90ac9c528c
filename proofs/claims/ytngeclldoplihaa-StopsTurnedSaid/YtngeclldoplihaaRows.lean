/-
  No cell of these rows narrows 'for every input' (looked for: loops, veiled, ifaces, maps, wideKeys, modest, calm, conditions, laid).
  DERIVED. THE GIVEN ROWS OF THIS SEAT. 10 by the template 'for every input the law returns true; each argument reads behind the call as it read before'; 0 by the template 'total and deterministic' (their statements: YtngeclldoplihaaTotals.lean).
  GIVEN WITH THE SEED: the statements are not yours to turn. If you find one false, say at which input.
  Laid BY PROGRAM, IN A SANDBOX (cutbox-rows.mjs): the forced cells as the released guide's own fill.sh prints them over the translation c16b1ae94f2d092a… (all of the seat's roots in one cut). By AI agents, Wed Nov 11 2026. No macro, syntax, notation, axiom, sorry.
-/
import Derived.Test.YtngeclldoplihaaChecked
import GoSem.Claim
import GoSem.ClaimJoined
import GoSem.ClaimMapViews
import Derived.JoinedTies
import Derived.KernelRfl
namespace Go.Proofs.Ytngeclldoplihaa
/- THE CELL 'sum', in the pinned program and in every row, IS THE sha256 OF THE DUMP (.gsa) THAT YtngeclldoplihaaProg.lean LOADS. Nothing in Lean hashes anything: it is a label: what it is worth is what the hold of that sum in a sandbox is worth. -/
noncomputable def Try.pinned : Pinned := { name := "ytngeclldoplihaa", sum := "c16b1ae94f2d092aa9756edee0808b5a27009f5bbc2fc71a161cf7350745e443", checked := Try.checked }
namespace Rows
def none {H : Type} : Left H := { results := [], args := [] }

/-- 'hoistwaylaw18.CostExact': WHATEVER THE INPUT: true; the input reads as it did. -/
def costExactSpec : ChangeSpec := { name := "costExact", fn := fun _ => fun
  | [d1, d2, d3, d4, d5, d6, d7, d8] => { results := [.lit (.bool true)], args := [d1, d2, d3, d4, d5, d6, d7, d8] }
  | _ => none }
def costExactRow : OpenClaim := { program := "ytngeclldoplihaa", sum := "c16b1ae94f2d092aa9756edee0808b5a27009f5bbc2fc71a161cf7350745e443", func := "hoistway/hoistwaylaw18.CostExact", spec := "costExact", unfollowed := true, recurses := true, apart := false }
def CostExactSaid : Prop := costExactRow.holds Try.pinned (OpenSpec.ofChange costExactSpec)

/-- ITS FALSE NEIGHBOUR: 'it returns false'. Refute it at one input. -/
def costExactWrong : ChangeSpec := { name := "costExact", fn := fun _ => fun
  | [d1, d2, d3, d4, d5, d6, d7, d8] => { results := [.lit (.bool false)], args := [d1, d2, d3, d4, d5, d6, d7, d8] }
  | _ => none }
def CostExactWrongFalsely : Prop := costExactRow.holds Try.pinned (OpenSpec.ofChange costExactWrong)

/-- 'hoistwaylaw18.CostTurned': WHATEVER THE INPUT: true; the input reads as it did. -/
def costTurnedSpec : ChangeSpec := { name := "costTurned", fn := fun _ => fun
  | [d1, d2, d3, d4, d5] => { results := [.lit (.bool true)], args := [d1, d2, d3, d4, d5] }
  | _ => none }
def costTurnedRow : OpenClaim := { program := "ytngeclldoplihaa", sum := "c16b1ae94f2d092aa9756edee0808b5a27009f5bbc2fc71a161cf7350745e443", func := "hoistway/hoistwaylaw18.CostTurned", spec := "costTurned", unfollowed := true, recurses := true, apart := false }
def CostTurnedSaid : Prop := costTurnedRow.holds Try.pinned (OpenSpec.ofChange costTurnedSpec)

/-- ITS FALSE NEIGHBOUR: 'it returns false'. Refute it at one input. -/
def costTurnedWrong : ChangeSpec := { name := "costTurned", fn := fun _ => fun
  | [d1, d2, d3, d4, d5] => { results := [.lit (.bool false)], args := [d1, d2, d3, d4, d5] }
  | _ => none }
def CostTurnedWrongFalsely : Prop := costTurnedRow.holds Try.pinned (OpenSpec.ofChange costTurnedWrong)

/-- 'hoistwaylaw17.StopsOn': WHATEVER THE INPUT: true; the input reads as it did. -/
def stopsOnSpec : ChangeSpec := { name := "stopsOn", fn := fun _ => fun
  | [d1, d2, d3] => { results := [.lit (.bool true)], args := [d1, d2, d3] }
  | _ => none }
def stopsOnRow : OpenClaim := { program := "ytngeclldoplihaa", sum := "c16b1ae94f2d092aa9756edee0808b5a27009f5bbc2fc71a161cf7350745e443", func := "hoistway/hoistwaylaw17.StopsOn", spec := "stopsOn", unfollowed := true, recurses := true, apart := false }
def StopsOnSaid : Prop := stopsOnRow.holds Try.pinned (OpenSpec.ofChange stopsOnSpec)

/-- ITS FALSE NEIGHBOUR: 'it returns false'. Refute it at one input. -/
def stopsOnWrong : ChangeSpec := { name := "stopsOn", fn := fun _ => fun
  | [d1, d2, d3] => { results := [.lit (.bool false)], args := [d1, d2, d3] }
  | _ => none }
def StopsOnWrongFalsely : Prop := stopsOnRow.holds Try.pinned (OpenSpec.ofChange stopsOnWrong)

/-- 'hoistwaylaw17.StopsTurned': WHATEVER THE INPUT: true; the input reads as it did. -/
def stopsTurnedSpec : ChangeSpec := { name := "stopsTurned", fn := fun _ => fun
  | [d1, d2, d3] => { results := [.lit (.bool true)], args := [d1, d2, d3] }
  | _ => none }
def stopsTurnedRow : OpenClaim := { program := "ytngeclldoplihaa", sum := "c16b1ae94f2d092aa9756edee0808b5a27009f5bbc2fc71a161cf7350745e443", func := "hoistway/hoistwaylaw17.StopsTurned", spec := "stopsTurned", unfollowed := true, recurses := true, apart := false }
def StopsTurnedSaid : Prop := stopsTurnedRow.holds Try.pinned (OpenSpec.ofChange stopsTurnedSpec)

/-- ITS FALSE NEIGHBOUR: 'it returns false'. Refute it at one input. -/
def stopsTurnedWrong : ChangeSpec := { name := "stopsTurned", fn := fun _ => fun
  | [d1, d2, d3] => { results := [.lit (.bool false)], args := [d1, d2, d3] }
  | _ => none }
def StopsTurnedWrongFalsely : Prop := stopsTurnedRow.holds Try.pinned (OpenSpec.ofChange stopsTurnedWrong)

/-- 'hoistwaylaw18.CostLeast': WHATEVER THE INPUT: true; the input reads as it did. -/
def costLeastSpec : ChangeSpec := { name := "costLeast", fn := fun _ => fun
  | [d1, d2, d3, d4, d5] => { results := [.lit (.bool true)], args := [d1, d2, d3, d4, d5] }
  | _ => none }
def costLeastRow : OpenClaim := { program := "ytngeclldoplihaa", sum := "c16b1ae94f2d092aa9756edee0808b5a27009f5bbc2fc71a161cf7350745e443", func := "hoistway/hoistwaylaw18.CostLeast", spec := "costLeast", unfollowed := true, recurses := true, apart := false }
def CostLeastSaid : Prop := costLeastRow.holds Try.pinned (OpenSpec.ofChange costLeastSpec)

/-- ITS FALSE NEIGHBOUR: 'it returns false'. Refute it at one input. -/
def costLeastWrong : ChangeSpec := { name := "costLeast", fn := fun _ => fun
  | [d1, d2, d3, d4, d5] => { results := [.lit (.bool false)], args := [d1, d2, d3, d4, d5] }
  | _ => none }
def CostLeastWrongFalsely : Prop := costLeastRow.holds Try.pinned (OpenSpec.ofChange costLeastWrong)

/-- 'hoistwaylaw18.CostChosen': WHATEVER THE INPUT: true; the input reads as it did. -/
def costChosenSpec : ChangeSpec := { name := "costChosen", fn := fun _ => fun
  | [d1, d2, d3, d4, d5, d6] => { results := [.lit (.bool true)], args := [d1, d2, d3, d4, d5, d6] }
  | _ => none }
def costChosenRow : OpenClaim := { program := "ytngeclldoplihaa", sum := "c16b1ae94f2d092aa9756edee0808b5a27009f5bbc2fc71a161cf7350745e443", func := "hoistway/hoistwaylaw18.CostChosen", spec := "costChosen", unfollowed := true, recurses := true, apart := false }
def CostChosenSaid : Prop := costChosenRow.holds Try.pinned (OpenSpec.ofChange costChosenSpec)

/-- ITS FALSE NEIGHBOUR: 'it returns false'. Refute it at one input. -/
def costChosenWrong : ChangeSpec := { name := "costChosen", fn := fun _ => fun
  | [d1, d2, d3, d4, d5, d6] => { results := [.lit (.bool false)], args := [d1, d2, d3, d4, d5, d6] }
  | _ => none }
def CostChosenWrongFalsely : Prop := costChosenRow.holds Try.pinned (OpenSpec.ofChange costChosenWrong)

/-- 'hoistwaylaw23.SeatExact': WHATEVER THE INPUT: true; the input reads as it did. -/
def seatExactSpec : ChangeSpec := { name := "seatExact", fn := fun _ => fun
  | [d1, d2] => { results := [.lit (.bool true)], args := [d1, d2] }
  | _ => none }
def seatExactRow : OpenClaim := { program := "ytngeclldoplihaa", sum := "c16b1ae94f2d092aa9756edee0808b5a27009f5bbc2fc71a161cf7350745e443", func := "hoistway/hoistwaylaw23.SeatExact", spec := "seatExact", unfollowed := true, recurses := true, apart := false }
def SeatExactSaid : Prop := seatExactRow.holds Try.pinned (OpenSpec.ofChange seatExactSpec)

/-- ITS FALSE NEIGHBOUR: 'it returns false'. Refute it at one input. -/
def seatExactWrong : ChangeSpec := { name := "seatExact", fn := fun _ => fun
  | [d1, d2] => { results := [.lit (.bool false)], args := [d1, d2] }
  | _ => none }
def SeatExactWrongFalsely : Prop := seatExactRow.holds Try.pinned (OpenSpec.ofChange seatExactWrong)

/-- 'hoistwaylaw23.SeatOne': WHATEVER THE INPUT: true; the input reads as it did. -/
def seatOneSpec : ChangeSpec := { name := "seatOne", fn := fun _ => fun
  | [d1, d2] => { results := [.lit (.bool true)], args := [d1, d2] }
  | _ => none }
def seatOneRow : OpenClaim := { program := "ytngeclldoplihaa", sum := "c16b1ae94f2d092aa9756edee0808b5a27009f5bbc2fc71a161cf7350745e443", func := "hoistway/hoistwaylaw23.SeatOne", spec := "seatOne", unfollowed := true, recurses := true, apart := false }
def SeatOneSaid : Prop := seatOneRow.holds Try.pinned (OpenSpec.ofChange seatOneSpec)

/-- ITS FALSE NEIGHBOUR: 'it returns false'. Refute it at one input. -/
def seatOneWrong : ChangeSpec := { name := "seatOne", fn := fun _ => fun
  | [d1, d2] => { results := [.lit (.bool false)], args := [d1, d2] }
  | _ => none }
def SeatOneWrongFalsely : Prop := seatOneRow.holds Try.pinned (OpenSpec.ofChange seatOneWrong)

/-- 'hoistwaylaw23.SeatStays': WHATEVER THE INPUT: true; the input reads as it did. -/
def seatStaysSpec : ChangeSpec := { name := "seatStays", fn := fun _ => fun
  | [d1, d2, d3, d4, d5] => { results := [.lit (.bool true)], args := [d1, d2, d3, d4, d5] }
  | _ => none }
def seatStaysRow : OpenClaim := { program := "ytngeclldoplihaa", sum := "c16b1ae94f2d092aa9756edee0808b5a27009f5bbc2fc71a161cf7350745e443", func := "hoistway/hoistwaylaw23.SeatStays", spec := "seatStays", unfollowed := true, recurses := true, apart := false }
def SeatStaysSaid : Prop := seatStaysRow.holds Try.pinned (OpenSpec.ofChange seatStaysSpec)

/-- ITS FALSE NEIGHBOUR: 'it returns false'. Refute it at one input. -/
def seatStaysWrong : ChangeSpec := { name := "seatStays", fn := fun _ => fun
  | [d1, d2, d3, d4, d5] => { results := [.lit (.bool false)], args := [d1, d2, d3, d4, d5] }
  | _ => none }
def SeatStaysWrongFalsely : Prop := seatStaysRow.holds Try.pinned (OpenSpec.ofChange seatStaysWrong)

/-- 'hoistwaylaw30.PostFronts': WHATEVER THE INPUT: true; the input reads as it did. -/
def postFrontsSpec : ChangeSpec := { name := "postFronts", fn := fun _ => fun
  | [d1, d2, d3] => { results := [.lit (.bool true)], args := [d1, d2, d3] }
  | _ => none }
def postFrontsRow : OpenClaim := { program := "ytngeclldoplihaa", sum := "c16b1ae94f2d092aa9756edee0808b5a27009f5bbc2fc71a161cf7350745e443", func := "hoistway/hoistwaylaw30.PostFronts", spec := "postFronts", unfollowed := true, recurses := true, apart := false }
def PostFrontsSaid : Prop := postFrontsRow.holds Try.pinned (OpenSpec.ofChange postFrontsSpec)

/-- ITS FALSE NEIGHBOUR: 'it returns false'. Refute it at one input. -/
def postFrontsWrong : ChangeSpec := { name := "postFronts", fn := fun _ => fun
  | [d1, d2, d3] => { results := [.lit (.bool false)], args := [d1, d2, d3] }
  | _ => none }
def PostFrontsWrongFalsely : Prop := postFrontsRow.holds Try.pinned (OpenSpec.ofChange postFrontsWrong)

/- THE SECOND FORM. 'bulk': how many values and letters a reading holds, each counted each time it is reached (what is shared counts as often as it is met; a slice's spare places count too). A statement '..UptoSaid' is the law's where the arguments, and the package variables that the reading takes, are together of bulk at most 1048576: NARROWER than '..Said'. Prove '..Said' where nothing that the law and all that it calls make is longer than what came in: it says more and counts as full. Else prove '..UptoSaid'. A law counts once. -/
mutual
def uptoBulk {H : Type} : DataW H → Nat
  | .lit (.string bytes) => bytes.length + 1
  | .lit _ => 1
  | .nil => 1
  | .ptr d => uptoBulk d + 1
  | .slice elems spare => uptoBulkAll elems + uptoBulkAll spare + 1
  | .agg parts => uptoBulkAll parts + 1
  | .iface _ d => uptoBulk d + 1
  | .map entries => uptoBulkEntries entries + 1
  | .held _ => 1
def uptoBulkAll {H : Type} : List (DataW H) → Nat
  | [] => 0
  | d :: r => uptoBulk d + uptoBulkAll r
def uptoBulkEntries {H : Type} : List (Lit × DataW H) → Nat
  | [] => 0
  | x :: r => uptoBulkEntry x + uptoBulkEntries r
def uptoBulkEntry {H : Type} : Lit × DataW H → Nat
  | (.string bytes, d) => bytes.length + uptoBulk d + 1
  | (_, d) => uptoBulk d + 1
 end
def uptoSmall : (H : Type) → List (DataW H) → Bool := fun _ ds => decide (uptoBulkAll ds ≤ 1048576)
def OpenSpec.upto (s : _root_.Go.ChangeSpec) : _root_.Go.OpenSpec := { _root_.Go.OpenSpec.ofChange s with cond := some uptoSmall }

/-- 'hoistwaylaw18.CostExact', WHERE WHAT IT READS IS OF BULK AT MOST 1048576: true; the input reads as it did. -/
def costExactUptoRow : OpenClaim := { program := "ytngeclldoplihaa", sum := "c16b1ae94f2d092aa9756edee0808b5a27009f5bbc2fc71a161cf7350745e443", func := "hoistway/hoistwaylaw18.CostExact", spec := "costExact", unfollowed := true, recurses := true, apart := false, narrowed := true }
def CostExactUptoSaid : Prop := costExactUptoRow.holds Try.pinned (OpenSpec.upto costExactSpec)

/-- 'hoistwaylaw18.CostTurned', WHERE WHAT IT READS IS OF BULK AT MOST 1048576: true; the input reads as it did. -/
def costTurnedUptoRow : OpenClaim := { program := "ytngeclldoplihaa", sum := "c16b1ae94f2d092aa9756edee0808b5a27009f5bbc2fc71a161cf7350745e443", func := "hoistway/hoistwaylaw18.CostTurned", spec := "costTurned", unfollowed := true, recurses := true, apart := false, narrowed := true }
def CostTurnedUptoSaid : Prop := costTurnedUptoRow.holds Try.pinned (OpenSpec.upto costTurnedSpec)

/-- 'hoistwaylaw17.StopsOn', WHERE WHAT IT READS IS OF BULK AT MOST 1048576: true; the input reads as it did. -/
def stopsOnUptoRow : OpenClaim := { program := "ytngeclldoplihaa", sum := "c16b1ae94f2d092aa9756edee0808b5a27009f5bbc2fc71a161cf7350745e443", func := "hoistway/hoistwaylaw17.StopsOn", spec := "stopsOn", unfollowed := true, recurses := true, apart := false, narrowed := true }
def StopsOnUptoSaid : Prop := stopsOnUptoRow.holds Try.pinned (OpenSpec.upto stopsOnSpec)

/-- 'hoistwaylaw17.StopsTurned', WHERE WHAT IT READS IS OF BULK AT MOST 1048576: true; the input reads as it did. -/
def stopsTurnedUptoRow : OpenClaim := { program := "ytngeclldoplihaa", sum := "c16b1ae94f2d092aa9756edee0808b5a27009f5bbc2fc71a161cf7350745e443", func := "hoistway/hoistwaylaw17.StopsTurned", spec := "stopsTurned", unfollowed := true, recurses := true, apart := false, narrowed := true }
def StopsTurnedUptoSaid : Prop := stopsTurnedUptoRow.holds Try.pinned (OpenSpec.upto stopsTurnedSpec)

/-- 'hoistwaylaw18.CostLeast', WHERE WHAT IT READS IS OF BULK AT MOST 1048576: true; the input reads as it did. -/
def costLeastUptoRow : OpenClaim := { program := "ytngeclldoplihaa", sum := "c16b1ae94f2d092aa9756edee0808b5a27009f5bbc2fc71a161cf7350745e443", func := "hoistway/hoistwaylaw18.CostLeast", spec := "costLeast", unfollowed := true, recurses := true, apart := false, narrowed := true }
def CostLeastUptoSaid : Prop := costLeastUptoRow.holds Try.pinned (OpenSpec.upto costLeastSpec)

/-- 'hoistwaylaw18.CostChosen', WHERE WHAT IT READS IS OF BULK AT MOST 1048576: true; the input reads as it did. -/
def costChosenUptoRow : OpenClaim := { program := "ytngeclldoplihaa", sum := "c16b1ae94f2d092aa9756edee0808b5a27009f5bbc2fc71a161cf7350745e443", func := "hoistway/hoistwaylaw18.CostChosen", spec := "costChosen", unfollowed := true, recurses := true, apart := false, narrowed := true }
def CostChosenUptoSaid : Prop := costChosenUptoRow.holds Try.pinned (OpenSpec.upto costChosenSpec)

/-- 'hoistwaylaw23.SeatExact', WHERE WHAT IT READS IS OF BULK AT MOST 1048576: true; the input reads as it did. -/
def seatExactUptoRow : OpenClaim := { program := "ytngeclldoplihaa", sum := "c16b1ae94f2d092aa9756edee0808b5a27009f5bbc2fc71a161cf7350745e443", func := "hoistway/hoistwaylaw23.SeatExact", spec := "seatExact", unfollowed := true, recurses := true, apart := false, narrowed := true }
def SeatExactUptoSaid : Prop := seatExactUptoRow.holds Try.pinned (OpenSpec.upto seatExactSpec)

/-- 'hoistwaylaw23.SeatOne', WHERE WHAT IT READS IS OF BULK AT MOST 1048576: true; the input reads as it did. -/
def seatOneUptoRow : OpenClaim := { program := "ytngeclldoplihaa", sum := "c16b1ae94f2d092aa9756edee0808b5a27009f5bbc2fc71a161cf7350745e443", func := "hoistway/hoistwaylaw23.SeatOne", spec := "seatOne", unfollowed := true, recurses := true, apart := false, narrowed := true }
def SeatOneUptoSaid : Prop := seatOneUptoRow.holds Try.pinned (OpenSpec.upto seatOneSpec)

/-- 'hoistwaylaw23.SeatStays', WHERE WHAT IT READS IS OF BULK AT MOST 1048576: true; the input reads as it did. -/
def seatStaysUptoRow : OpenClaim := { program := "ytngeclldoplihaa", sum := "c16b1ae94f2d092aa9756edee0808b5a27009f5bbc2fc71a161cf7350745e443", func := "hoistway/hoistwaylaw23.SeatStays", spec := "seatStays", unfollowed := true, recurses := true, apart := false, narrowed := true }
def SeatStaysUptoSaid : Prop := seatStaysUptoRow.holds Try.pinned (OpenSpec.upto seatStaysSpec)

/-- 'hoistwaylaw30.PostFronts', WHERE WHAT IT READS IS OF BULK AT MOST 1048576: true; the input reads as it did. -/
def postFrontsUptoRow : OpenClaim := { program := "ytngeclldoplihaa", sum := "c16b1ae94f2d092aa9756edee0808b5a27009f5bbc2fc71a161cf7350745e443", func := "hoistway/hoistwaylaw30.PostFronts", spec := "postFronts", unfollowed := true, recurses := true, apart := false, narrowed := true }
def PostFrontsUptoSaid : Prop := postFrontsUptoRow.holds Try.pinned (OpenSpec.upto postFrontsSpec)

end Rows
end Go.Proofs.Ytngeclldoplihaa
