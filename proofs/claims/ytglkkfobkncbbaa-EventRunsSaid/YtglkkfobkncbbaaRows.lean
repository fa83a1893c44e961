/-
  No cell of these rows narrows 'for every input' (looked for: loops, veiled, ifaces, maps, wideKeys, modest, calm, conditions, laid).
  DERIVED. THE GIVEN ROWS OF THIS SEAT. 5 by the template 'for every input the law returns true; each argument reads behind the call as it read before'; 0 by the template 'total and deterministic' (their statements: YtglkkfobkncbbaaTotals.lean).
  GIVEN WITH THE SEED: the statements are not yours to turn. If you find one false, say at which input.
  Laid BY PROGRAM, IN A SANDBOX (cutbox-rows.mjs): the forced cells as the released guide's own fill.sh prints them over the translation eef72135732e788b… (all of the seat's roots in one cut). By AI agents, Wed Nov 11 2026. No macro, syntax, notation, axiom, sorry.
-/
import Derived.Test.YtglkkfobkncbbaaChecked
import GoSem.Claim
import GoSem.ClaimJoined
import GoSem.ClaimMapViews
import Derived.JoinedTies
import Derived.KernelRfl
namespace Go.Proofs.Ytglkkfobkncbbaa
/- THE CELL 'sum', in the pinned program and in every row, IS THE sha256 OF THE DUMP (.gsa) THAT YtglkkfobkncbbaaProg.lean LOADS. Nothing in Lean hashes anything: it is a label: what it is worth is what the hold of that sum in a sandbox is worth. -/
noncomputable def Try.pinned : Pinned := { name := "ytglkkfobkncbbaa", sum := "eef72135732e788b8db1b6c85c483b0f598c0791fb3b632bf393afebac6ec32f", checked := Try.checked }
namespace Rows
def none {H : Type} : Left H := { results := [], args := [] }

/-- 'joysticklaw15.EventWaits': WHATEVER THE INPUT: true; the input reads as it did. -/
def eventWaitsSpec : ChangeSpec := { name := "eventWaits", fn := fun _ => fun
  | [d1, d2, d3] => { results := [.lit (.bool true)], args := [d1, d2, d3] }
  | _ => none }
def eventWaitsRow : OpenClaim := { program := "ytglkkfobkncbbaa", sum := "eef72135732e788b8db1b6c85c483b0f598c0791fb3b632bf393afebac6ec32f", func := "joystick/joysticklaw15.EventWaits", spec := "eventWaits", apart := false }
def EventWaitsSaid : Prop := eventWaitsRow.holds Try.pinned (OpenSpec.ofChange eventWaitsSpec)

/-- ITS FALSE NEIGHBOUR: 'it returns false'. Refute it at one input. -/
def eventWaitsWrong : ChangeSpec := { name := "eventWaits", fn := fun _ => fun
  | [d1, d2, d3] => { results := [.lit (.bool false)], args := [d1, d2, d3] }
  | _ => none }
def EventWaitsWrongFalsely : Prop := eventWaitsRow.holds Try.pinned (OpenSpec.ofChange eventWaitsWrong)

/-- 'joysticklaw15.EventCounts': WHATEVER THE INPUT: true; the input reads as it did. -/
def eventCountsSpec : ChangeSpec := { name := "eventCounts", fn := fun _ => fun
  | [d1, d2] => { results := [.lit (.bool true)], args := [d1, d2] }
  | _ => none }
def eventCountsRow : OpenClaim := { program := "ytglkkfobkncbbaa", sum := "eef72135732e788b8db1b6c85c483b0f598c0791fb3b632bf393afebac6ec32f", func := "joystick/joysticklaw15.EventCounts", spec := "eventCounts", apart := false }
def EventCountsSaid : Prop := eventCountsRow.holds Try.pinned (OpenSpec.ofChange eventCountsSpec)

/-- ITS FALSE NEIGHBOUR: 'it returns false'. Refute it at one input. -/
def eventCountsWrong : ChangeSpec := { name := "eventCounts", fn := fun _ => fun
  | [d1, d2] => { results := [.lit (.bool false)], args := [d1, d2] }
  | _ => none }
def EventCountsWrongFalsely : Prop := eventCountsRow.holds Try.pinned (OpenSpec.ofChange eventCountsWrong)

/-- 'joysticklaw15.EventPredicts': WHATEVER THE INPUT: true; the input reads as it did. -/
def eventPredictsSpec : ChangeSpec := { name := "eventPredicts", fn := fun _ => fun
  | [d1, d2, d3] => { results := [.lit (.bool true)], args := [d1, d2, d3] }
  | _ => none }
def eventPredictsRow : OpenClaim := { program := "ytglkkfobkncbbaa", sum := "eef72135732e788b8db1b6c85c483b0f598c0791fb3b632bf393afebac6ec32f", func := "joystick/joysticklaw15.EventPredicts", spec := "eventPredicts", apart := false }
def EventPredictsSaid : Prop := eventPredictsRow.holds Try.pinned (OpenSpec.ofChange eventPredictsSpec)

/-- ITS FALSE NEIGHBOUR: 'it returns false'. Refute it at one input. -/
def eventPredictsWrong : ChangeSpec := { name := "eventPredicts", fn := fun _ => fun
  | [d1, d2, d3] => { results := [.lit (.bool false)], args := [d1, d2, d3] }
  | _ => none }
def EventPredictsWrongFalsely : Prop := eventPredictsRow.holds Try.pinned (OpenSpec.ofChange eventPredictsWrong)

/-- 'joysticklaw15.EventNames': WHATEVER THE INPUT: true; the input reads as it did. -/
def eventNamesSpec : ChangeSpec := { name := "eventNames", fn := fun _ => fun
  | [] => { results := [.lit (.bool true)], args := [] }
  | _ => none }
def eventNamesRow : OpenClaim := { program := "ytglkkfobkncbbaa", sum := "eef72135732e788b8db1b6c85c483b0f598c0791fb3b632bf393afebac6ec32f", func := "joystick/joysticklaw15.EventNames", spec := "eventNames", apart := false }
def EventNamesSaid : Prop := eventNamesRow.holds Try.pinned (OpenSpec.ofChange eventNamesSpec)

/-- ITS FALSE NEIGHBOUR: 'it returns false'. Refute it at one input. -/
def eventNamesWrong : ChangeSpec := { name := "eventNames", fn := fun _ => fun
  | [] => { results := [.lit (.bool false)], args := [] }
  | _ => none }
def EventNamesWrongFalsely : Prop := eventNamesRow.holds Try.pinned (OpenSpec.ofChange eventNamesWrong)

/-- 'joysticklaw15.EventRuns': WHATEVER THE INPUT: true; the input reads as it did. -/
def eventRunsSpec : ChangeSpec := { name := "eventRuns", fn := fun _ => fun
  | [d1, d2, d3] => { results := [.lit (.bool true)], args := [d1, d2, d3] }
  | _ => none }
def eventRunsRow : OpenClaim := { program := "ytglkkfobkncbbaa", sum := "eef72135732e788b8db1b6c85c483b0f598c0791fb3b632bf393afebac6ec32f", func := "joystick/joysticklaw15.EventRuns", spec := "eventRuns", apart := false }
def EventRunsSaid : Prop := eventRunsRow.holds Try.pinned (OpenSpec.ofChange eventRunsSpec)

/-- ITS FALSE NEIGHBOUR: 'it returns false'. Refute it at one input. -/
def eventRunsWrong : ChangeSpec := { name := "eventRuns", fn := fun _ => fun
  | [d1, d2, d3] => { results := [.lit (.bool false)], args := [d1, d2, d3] }
  | _ => none }
def EventRunsWrongFalsely : Prop := eventRunsRow.holds Try.pinned (OpenSpec.ofChange eventRunsWrong)

/- THE SECOND FORM. 'bulk': how many values and letters a reading holds, each counted each time it is reached (what is shared counts as often as it is met; a slice's spare places count too). A statement '..UptoSaid' is the law's where the arguments, and the package variables that the reading takes, are together of bulk at most 1048576: NARROWER than '..Said'. Prove '..Said' where nothing that the law and all that it calls make is longer than what came in: it says more and counts as full. Else prove '..UptoSaid'. A law counts once. -/
mutual
def uptoBulk {H : Type} : DataW H → Nat
  | .lit (.string bytes) => bytes.length + 1
  | .lit _ => 1
  | .nil => 1
  | .ptr d => uptoBulk d + 1
  | .slice elems spare => uptoBulkAll elems + uptoBulkAll spare + 1
  | .agg parts => uptoBulkAll parts + 1
  | .iface _ d => uptoBulk d + 1
  | .map entries => uptoBulkEntries entries + 1
  | .held _ => 1
def uptoBulkAll {H : Type} : List (DataW H) → Nat
  | [] => 0
  | d :: r => uptoBulk d + uptoBulkAll r
def uptoBulkEntries {H : Type} : List (Lit × DataW H) → Nat
  | [] => 0
  | x :: r => uptoBulkEntry x + uptoBulkEntries r
def uptoBulkEntry {H : Type} : Lit × DataW H → Nat
  | (.string bytes, d) => bytes.length + uptoBulk d + 1
  | (_, d) => uptoBulk d + 1
 end
def uptoSmall : (H : Type) → List (DataW H) → Bool := fun _ ds => decide (uptoBulkAll ds ≤ 1048576)
def OpenSpec.upto (s : _root_.Go.ChangeSpec) : _root_.Go.OpenSpec := { _root_.Go.OpenSpec.ofChange s with cond := some uptoSmall }

/-- 'joysticklaw15.EventWaits', WHERE WHAT IT READS IS OF BULK AT MOST 1048576: true; the input reads as it did. -/
def eventWaitsUptoRow : OpenClaim := { program := "ytglkkfobkncbbaa", sum := "eef72135732e788b8db1b6c85c483b0f598c0791fb3b632bf393afebac6ec32f", func := "joystick/joysticklaw15.EventWaits", spec := "eventWaits", apart := false, narrowed := true }
def EventWaitsUptoSaid : Prop := eventWaitsUptoRow.holds Try.pinned (OpenSpec.upto eventWaitsSpec)

/-- 'joysticklaw15.EventCounts', WHERE WHAT IT READS IS OF BULK AT MOST 1048576: true; the input reads as it did. -/
def eventCountsUptoRow : OpenClaim := { program := "ytglkkfobkncbbaa", sum := "eef72135732e788b8db1b6c85c483b0f598c0791fb3b632bf393afebac6ec32f", func := "joystick/joysticklaw15.EventCounts", spec := "eventCounts", apart := false, narrowed := true }
def EventCountsUptoSaid : Prop := eventCountsUptoRow.holds Try.pinned (OpenSpec.upto eventCountsSpec)

/-- 'joysticklaw15.EventPredicts', WHERE WHAT IT READS IS OF BULK AT MOST 1048576: true; the input reads as it did. -/
def eventPredictsUptoRow : OpenClaim := { program := "ytglkkfobkncbbaa", sum := "eef72135732e788b8db1b6c85c483b0f598c0791fb3b632bf393afebac6ec32f", func := "joystick/joysticklaw15.EventPredicts", spec := "eventPredicts", apart := false, narrowed := true }
def EventPredictsUptoSaid : Prop := eventPredictsUptoRow.holds Try.pinned (OpenSpec.upto eventPredictsSpec)

/-- 'joysticklaw15.EventNames', WHERE WHAT IT READS IS OF BULK AT MOST 1048576: true; the input reads as it did. -/
def eventNamesUptoRow : OpenClaim := { program := "ytglkkfobkncbbaa", sum := "eef72135732e788b8db1b6c85c483b0f598c0791fb3b632bf393afebac6ec32f", func := "joystick/joysticklaw15.EventNames", spec := "eventNames", apart := false, narrowed := true }
def EventNamesUptoSaid : Prop := eventNamesUptoRow.holds Try.pinned (OpenSpec.upto eventNamesSpec)

/-- 'joysticklaw15.EventRuns', WHERE WHAT IT READS IS OF BULK AT MOST 1048576: true; the input reads as it did. -/
def eventRunsUptoRow : OpenClaim := { program := "ytglkkfobkncbbaa", sum := "eef72135732e788b8db1b6c85c483b0f598c0791fb3b632bf393afebac6ec32f", func := "joystick/joysticklaw15.EventRuns", spec := "eventRuns", apart := false, narrowed := true }
def EventRunsUptoSaid : Prop := eventRunsUptoRow.holds Try.pinned (OpenSpec.upto eventRunsSpec)

end Rows
end Go.Proofs.Ytglkkfobkncbbaa
