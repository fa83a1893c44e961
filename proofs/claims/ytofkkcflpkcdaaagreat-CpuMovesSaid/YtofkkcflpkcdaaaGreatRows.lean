/-
  No cell of these rows narrows 'for every input' (looked for: loops, veiled, ifaces, maps, wideKeys, modest, calm, conditions, laid).
  DERIVED. THE GIVEN ROWS OF THIS SEAT. 4 by the template 'for every input the law returns true; each argument reads behind the call as it read before'; 0 by the template 'total and deterministic' (their statements: YtofkkcflpkcdaaaGreatTotals.lean).
  GIVEN WITH THE SEED: the statements are not yours to turn. If you find one false, say at which input.
  Laid BY PROGRAM, IN A SANDBOX (cutbox-rows.mjs): the forced cells as the released guide's own fill.sh prints them over the translation e8c2101e75633f12… (all of the seat's roots in one cut). By AI agents, Wed Nov 11 2026. No macro, syntax, notation, axiom, sorry.
-/
import Derived.Test.YtofkkcflpkcdaaaGreatChecked
import GoSem.Claim
import GoSem.ClaimJoined
import GoSem.ClaimMapViews
import Derived.JoinedTies
import Derived.KernelRfl
namespace Go.Proofs.YtofkkcflpkcdaaaGreat
/- THE CELL 'sum', in the pinned program and in every row, IS THE sha256 OF THE DUMP (.gsa) THAT YtofkkcflpkcdaaaGreatProg.lean LOADS. Nothing in Lean hashes anything: it is a label: what it is worth is what the hold of that sum in a sandbox is worth. -/
noncomputable def Tryz.pinned : Pinned := { name := "ytofkkcflpkcdaaagreat", sum := "e8c2101e75633f12c5b6f48b8b1801f23a43b34ecd939bb1b3b71d53ce079382", checked := Tryz.checked }
namespace Rows
def none {H : Type} : Left H := { results := [], args := [] }

/-- 'joysticklaw12.CpuSteps': WHATEVER THE INPUT: true; the input reads as it did. -/
def cpuStepsSpec : ChangeSpec := { name := "cpuSteps", fn := fun _ => fun
  | [d1, d2, d3] => { results := [.lit (.bool true)], args := [d1, d2, d3] }
  | _ => none }
def cpuStepsRow : OpenClaim := { program := "ytofkkcflpkcdaaagreat", sum := "e8c2101e75633f12c5b6f48b8b1801f23a43b34ecd939bb1b3b71d53ce079382", func := "joystick/joysticklaw12.CpuSteps", spec := "cpuSteps", unfollowed := true, recurses := true, apart := false }
def CpuStepsSaid : Prop := cpuStepsRow.holds Tryz.pinned (OpenSpec.ofChange cpuStepsSpec)

/-- ITS FALSE NEIGHBOUR: 'it returns false'. Refute it at one input. -/
def cpuStepsWrong : ChangeSpec := { name := "cpuSteps", fn := fun _ => fun
  | [d1, d2, d3] => { results := [.lit (.bool false)], args := [d1, d2, d3] }
  | _ => none }
def CpuStepsWrongFalsely : Prop := cpuStepsRow.holds Tryz.pinned (OpenSpec.ofChange cpuStepsWrong)

/-- 'joysticklaw12.CpuMoves': WHATEVER THE INPUT: true; the input reads as it did. -/
def cpuMovesSpec : ChangeSpec := { name := "cpuMoves", fn := fun _ => fun
  | [d1, d2] => { results := [.lit (.bool true)], args := [d1, d2] }
  | _ => none }
def cpuMovesRow : OpenClaim := { program := "ytofkkcflpkcdaaagreat", sum := "e8c2101e75633f12c5b6f48b8b1801f23a43b34ecd939bb1b3b71d53ce079382", func := "joystick/joysticklaw12.CpuMoves", spec := "cpuMoves", unfollowed := true, recurses := true, apart := false }
def CpuMovesSaid : Prop := cpuMovesRow.holds Tryz.pinned (OpenSpec.ofChange cpuMovesSpec)

/-- ITS FALSE NEIGHBOUR: 'it returns false'. Refute it at one input. -/
def cpuMovesWrong : ChangeSpec := { name := "cpuMoves", fn := fun _ => fun
  | [d1, d2] => { results := [.lit (.bool false)], args := [d1, d2] }
  | _ => none }
def CpuMovesWrongFalsely : Prop := cpuMovesRow.holds Tryz.pinned (OpenSpec.ofChange cpuMovesWrong)

/-- 'joysticklaw12.CpuRuns': WHATEVER THE INPUT: true; the input reads as it did. -/
def cpuRunsSpec : ChangeSpec := { name := "cpuRuns", fn := fun _ => fun
  | [d1, d2, d3] => { results := [.lit (.bool true)], args := [d1, d2, d3] }
  | _ => none }
def cpuRunsRow : OpenClaim := { program := "ytofkkcflpkcdaaagreat", sum := "e8c2101e75633f12c5b6f48b8b1801f23a43b34ecd939bb1b3b71d53ce079382", func := "joystick/joysticklaw12.CpuRuns", spec := "cpuRuns", unfollowed := true, recurses := true, apart := false }
def CpuRunsSaid : Prop := cpuRunsRow.holds Tryz.pinned (OpenSpec.ofChange cpuRunsSpec)

/-- ITS FALSE NEIGHBOUR: 'it returns false'. Refute it at one input. -/
def cpuRunsWrong : ChangeSpec := { name := "cpuRuns", fn := fun _ => fun
  | [d1, d2, d3] => { results := [.lit (.bool false)], args := [d1, d2, d3] }
  | _ => none }
def CpuRunsWrongFalsely : Prop := cpuRunsRow.holds Tryz.pinned (OpenSpec.ofChange cpuRunsWrong)

/-- 'joysticklaw12.CpuInterrupts': WHATEVER THE INPUT: true; the input reads as it did. -/
def cpuInterruptsSpec : ChangeSpec := { name := "cpuInterrupts", fn := fun _ => fun
  | [d1, d2, d3] => { results := [.lit (.bool true)], args := [d1, d2, d3] }
  | _ => none }
def cpuInterruptsRow : OpenClaim := { program := "ytofkkcflpkcdaaagreat", sum := "e8c2101e75633f12c5b6f48b8b1801f23a43b34ecd939bb1b3b71d53ce079382", func := "joystick/joysticklaw12.CpuInterrupts", spec := "cpuInterrupts", unfollowed := true, recurses := true, apart := false }
def CpuInterruptsSaid : Prop := cpuInterruptsRow.holds Tryz.pinned (OpenSpec.ofChange cpuInterruptsSpec)

/-- ITS FALSE NEIGHBOUR: 'it returns false'. Refute it at one input. -/
def cpuInterruptsWrong : ChangeSpec := { name := "cpuInterrupts", fn := fun _ => fun
  | [d1, d2, d3] => { results := [.lit (.bool false)], args := [d1, d2, d3] }
  | _ => none }
def CpuInterruptsWrongFalsely : Prop := cpuInterruptsRow.holds Tryz.pinned (OpenSpec.ofChange cpuInterruptsWrong)

/- THE SECOND FORM. 'bulk': how many values and letters a reading holds, each counted each time it is reached (what is shared counts as often as it is met; a slice's spare places count too). A statement '..UptoSaid' is the law's where the arguments, and the package variables that the reading takes, are together of bulk at most 1048576: NARROWER than '..Said'. Prove '..Said' where nothing that the law and all that it calls make is longer than what came in: it says more and counts as full. Else prove '..UptoSaid'. A law counts once. -/
mutual
def uptoBulk {H : Type} : DataW H → Nat
  | .lit (.string bytes) => bytes.length + 1
  | .lit _ => 1
  | .nil => 1
  | .ptr d => uptoBulk d + 1
  | .slice elems spare => uptoBulkAll elems + uptoBulkAll spare + 1
  | .agg parts => uptoBulkAll parts + 1
  | .iface _ d => uptoBulk d + 1
  | .map entries => uptoBulkEntries entries + 1
  | .held _ => 1
def uptoBulkAll {H : Type} : List (DataW H) → Nat
  | [] => 0
  | d :: r => uptoBulk d + uptoBulkAll r
def uptoBulkEntries {H : Type} : List (Lit × DataW H) → Nat
  | [] => 0
  | x :: r => uptoBulkEntry x + uptoBulkEntries r
def uptoBulkEntry {H : Type} : Lit × DataW H → Nat
  | (.string bytes, d) => bytes.length + uptoBulk d + 1
  | (_, d) => uptoBulk d + 1
 end
def uptoSmall : (H : Type) → List (DataW H) → Bool := fun _ ds => decide (uptoBulkAll ds ≤ 1048576)
def OpenSpec.upto (s : _root_.Go.ChangeSpec) : _root_.Go.OpenSpec := { _root_.Go.OpenSpec.ofChange s with cond := some uptoSmall }

/-- 'joysticklaw12.CpuSteps', WHERE WHAT IT READS IS OF BULK AT MOST 1048576: true; the input reads as it did. -/
def cpuStepsUptoRow : OpenClaim := { program := "ytofkkcflpkcdaaagreat", sum := "e8c2101e75633f12c5b6f48b8b1801f23a43b34ecd939bb1b3b71d53ce079382", func := "joystick/joysticklaw12.CpuSteps", spec := "cpuSteps", unfollowed := true, recurses := true, apart := false, narrowed := true }
def CpuStepsUptoSaid : Prop := cpuStepsUptoRow.holds Tryz.pinned (OpenSpec.upto cpuStepsSpec)

/-- 'joysticklaw12.CpuMoves', WHERE WHAT IT READS IS OF BULK AT MOST 1048576: true; the input reads as it did. -/
def cpuMovesUptoRow : OpenClaim := { program := "ytofkkcflpkcdaaagreat", sum := "e8c2101e75633f12c5b6f48b8b1801f23a43b34ecd939bb1b3b71d53ce079382", func := "joystick/joysticklaw12.CpuMoves", spec := "cpuMoves", unfollowed := true, recurses := true, apart := false, narrowed := true }
def CpuMovesUptoSaid : Prop := cpuMovesUptoRow.holds Tryz.pinned (OpenSpec.upto cpuMovesSpec)

/-- 'joysticklaw12.CpuRuns', WHERE WHAT IT READS IS OF BULK AT MOST 1048576: true; the input reads as it did. -/
def cpuRunsUptoRow : OpenClaim := { program := "ytofkkcflpkcdaaagreat", sum := "e8c2101e75633f12c5b6f48b8b1801f23a43b34ecd939bb1b3b71d53ce079382", func := "joystick/joysticklaw12.CpuRuns", spec := "cpuRuns", unfollowed := true, recurses := true, apart := false, narrowed := true }
def CpuRunsUptoSaid : Prop := cpuRunsUptoRow.holds Tryz.pinned (OpenSpec.upto cpuRunsSpec)

/-- 'joysticklaw12.CpuInterrupts', WHERE WHAT IT READS IS OF BULK AT MOST 1048576: true; the input reads as it did. -/
def cpuInterruptsUptoRow : OpenClaim := { program := "ytofkkcflpkcdaaagreat", sum := "e8c2101e75633f12c5b6f48b8b1801f23a43b34ecd939bb1b3b71d53ce079382", func := "joystick/joysticklaw12.CpuInterrupts", spec := "cpuInterrupts", unfollowed := true, recurses := true, apart := false, narrowed := true }
def CpuInterruptsUptoSaid : Prop := cpuInterruptsUptoRow.holds Tryz.pinned (OpenSpec.upto cpuInterruptsSpec)

end Rows
end Go.Proofs.YtofkkcflpkcdaaaGreat
