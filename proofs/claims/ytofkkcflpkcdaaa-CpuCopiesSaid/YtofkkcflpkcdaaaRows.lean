/-
  No cell of these rows narrows 'for every input' (looked for: loops, veiled, ifaces, maps, wideKeys, modest, calm, conditions, laid).
  DERIVED. THE GIVEN ROWS OF THIS SEAT. 6 by the template 'for every input the law returns true; each argument reads behind the call as it read before'; 0 by the template 'total and deterministic' (their statements: YtofkkcflpkcdaaaTotals.lean).
  GIVEN WITH THE SEED: the statements are not yours to turn. If you find one false, say at which input.
  Laid BY PROGRAM, IN A SANDBOX (cutbox-rows.mjs): the forced cells as the released guide's own fill.sh prints them over the translation fc74ff00de52aaba… (all of the seat's roots in one cut). By AI agents, Wed Nov 11 2026. No macro, syntax, notation, axiom, sorry.
-/
import Derived.Test.YtofkkcflpkcdaaaChecked
import GoSem.Claim
import GoSem.ClaimJoined
import GoSem.ClaimMapViews
import Derived.JoinedTies
import Derived.KernelRfl
namespace Go.Proofs.Ytofkkcflpkcdaaa
/- THE CELL 'sum', in the pinned program and in every row, IS THE sha256 OF THE DUMP (.gsa) THAT YtofkkcflpkcdaaaProg.lean LOADS. Nothing in Lean hashes anything: it is a label: what it is worth is what the hold of that sum in a sandbox is worth. -/
noncomputable def Try.pinned : Pinned := { name := "ytofkkcflpkcdaaa", sum := "fc74ff00de52aaba1a8aa0a2a1d7b95ab0071a988171ed984f25ddaed1d513fb", checked := Try.checked }
namespace Rows
def none {H : Type} : Left H := { results := [], args := [] }

/-- 'joysticklaw12.CpuBack': WHATEVER THE INPUT: true; the input reads as it did. -/
def cpuBackSpec : ChangeSpec := { name := "cpuBack", fn := fun _ => fun
  | [d1, d2] => { results := [.lit (.bool true)], args := [d1, d2] }
  | _ => none }
def cpuBackRow : OpenClaim := { program := "ytofkkcflpkcdaaa", sum := "fc74ff00de52aaba1a8aa0a2a1d7b95ab0071a988171ed984f25ddaed1d513fb", func := "joystick/joysticklaw12.CpuBack", spec := "cpuBack", unfollowed := true, recurses := true, apart := false }
def CpuBackSaid : Prop := cpuBackRow.holds Try.pinned (OpenSpec.ofChange cpuBackSpec)

/-- ITS FALSE NEIGHBOUR: 'it returns false'. Refute it at one input. -/
def cpuBackWrong : ChangeSpec := { name := "cpuBack", fn := fun _ => fun
  | [d1, d2] => { results := [.lit (.bool false)], args := [d1, d2] }
  | _ => none }
def CpuBackWrongFalsely : Prop := cpuBackRow.holds Try.pinned (OpenSpec.ofChange cpuBackWrong)

/-- 'joysticklaw12.CpuCopies': WHATEVER THE INPUT: true; the input reads as it did. -/
def cpuCopiesSpec : ChangeSpec := { name := "cpuCopies", fn := fun _ => fun
  | [d1, d2, d3] => { results := [.lit (.bool true)], args := [d1, d2, d3] }
  | _ => none }
def cpuCopiesRow : OpenClaim := { program := "ytofkkcflpkcdaaa", sum := "fc74ff00de52aaba1a8aa0a2a1d7b95ab0071a988171ed984f25ddaed1d513fb", func := "joystick/joysticklaw12.CpuCopies", spec := "cpuCopies", unfollowed := true, recurses := true, apart := false }
def CpuCopiesSaid : Prop := cpuCopiesRow.holds Try.pinned (OpenSpec.ofChange cpuCopiesSpec)

/-- ITS FALSE NEIGHBOUR: 'it returns false'. Refute it at one input. -/
def cpuCopiesWrong : ChangeSpec := { name := "cpuCopies", fn := fun _ => fun
  | [d1, d2, d3] => { results := [.lit (.bool false)], args := [d1, d2, d3] }
  | _ => none }
def CpuCopiesWrongFalsely : Prop := cpuCopiesRow.holds Try.pinned (OpenSpec.ofChange cpuCopiesWrong)

/-- 'joysticklaw12.CpuCalls': WHATEVER THE INPUT: true; the input reads as it did. -/
def cpuCallsSpec : ChangeSpec := { name := "cpuCalls", fn := fun _ => fun
  | [d1, d2] => { results := [.lit (.bool true)], args := [d1, d2] }
  | _ => none }
def cpuCallsRow : OpenClaim := { program := "ytofkkcflpkcdaaa", sum := "fc74ff00de52aaba1a8aa0a2a1d7b95ab0071a988171ed984f25ddaed1d513fb", func := "joystick/joysticklaw12.CpuCalls", spec := "cpuCalls", unfollowed := true, recurses := true, apart := false }
def CpuCallsSaid : Prop := cpuCallsRow.holds Try.pinned (OpenSpec.ofChange cpuCallsSpec)

/-- ITS FALSE NEIGHBOUR: 'it returns false'. Refute it at one input. -/
def cpuCallsWrong : ChangeSpec := { name := "cpuCalls", fn := fun _ => fun
  | [d1, d2] => { results := [.lit (.bool false)], args := [d1, d2] }
  | _ => none }
def CpuCallsWrongFalsely : Prop := cpuCallsRow.holds Try.pinned (OpenSpec.ofChange cpuCallsWrong)

/-- 'joysticklaw12.CpuCounts': WHATEVER THE INPUT: true; the input reads as it did. -/
def cpuCountsSpec : ChangeSpec := { name := "cpuCounts", fn := fun _ => fun
  | [d1, d2] => { results := [.lit (.bool true)], args := [d1, d2] }
  | _ => none }
def cpuCountsRow : OpenClaim := { program := "ytofkkcflpkcdaaa", sum := "fc74ff00de52aaba1a8aa0a2a1d7b95ab0071a988171ed984f25ddaed1d513fb", func := "joystick/joysticklaw12.CpuCounts", spec := "cpuCounts", unfollowed := true, recurses := true, apart := false }
def CpuCountsSaid : Prop := cpuCountsRow.holds Try.pinned (OpenSpec.ofChange cpuCountsSpec)

/-- ITS FALSE NEIGHBOUR: 'it returns false'. Refute it at one input. -/
def cpuCountsWrong : ChangeSpec := { name := "cpuCounts", fn := fun _ => fun
  | [d1, d2] => { results := [.lit (.bool false)], args := [d1, d2] }
  | _ => none }
def CpuCountsWrongFalsely : Prop := cpuCountsRow.holds Try.pinned (OpenSpec.ofChange cpuCountsWrong)

/-- 'joysticklaw12.CpuNames': WHATEVER THE INPUT: true; the input reads as it did. -/
def cpuNamesSpec : ChangeSpec := { name := "cpuNames", fn := fun _ => fun
  | [] => { results := [.lit (.bool true)], args := [] }
  | _ => none }
def cpuNamesRow : OpenClaim := { program := "ytofkkcflpkcdaaa", sum := "fc74ff00de52aaba1a8aa0a2a1d7b95ab0071a988171ed984f25ddaed1d513fb", func := "joystick/joysticklaw12.CpuNames", spec := "cpuNames", unfollowed := true, recurses := true, apart := false }
def CpuNamesSaid : Prop := cpuNamesRow.holds Try.pinned (OpenSpec.ofChange cpuNamesSpec)

/-- ITS FALSE NEIGHBOUR: 'it returns false'. Refute it at one input. -/
def cpuNamesWrong : ChangeSpec := { name := "cpuNames", fn := fun _ => fun
  | [] => { results := [.lit (.bool false)], args := [] }
  | _ => none }
def CpuNamesWrongFalsely : Prop := cpuNamesRow.holds Try.pinned (OpenSpec.ofChange cpuNamesWrong)

/-- 'joysticklaw12.CpuPrefixes': WHATEVER THE INPUT: true; the input reads as it did. -/
def cpuPrefixesSpec : ChangeSpec := { name := "cpuPrefixes", fn := fun _ => fun
  | [d1, d2, d3] => { results := [.lit (.bool true)], args := [d1, d2, d3] }
  | _ => none }
def cpuPrefixesRow : OpenClaim := { program := "ytofkkcflpkcdaaa", sum := "fc74ff00de52aaba1a8aa0a2a1d7b95ab0071a988171ed984f25ddaed1d513fb", func := "joystick/joysticklaw12.CpuPrefixes", spec := "cpuPrefixes", unfollowed := true, recurses := true, apart := false }
def CpuPrefixesSaid : Prop := cpuPrefixesRow.holds Try.pinned (OpenSpec.ofChange cpuPrefixesSpec)

/-- ITS FALSE NEIGHBOUR: 'it returns false'. Refute it at one input. -/
def cpuPrefixesWrong : ChangeSpec := { name := "cpuPrefixes", fn := fun _ => fun
  | [d1, d2, d3] => { results := [.lit (.bool false)], args := [d1, d2, d3] }
  | _ => none }
def CpuPrefixesWrongFalsely : Prop := cpuPrefixesRow.holds Try.pinned (OpenSpec.ofChange cpuPrefixesWrong)

/- THE SECOND FORM. 'bulk': how many values and letters a reading holds, each counted each time it is reached (what is shared counts as often as it is met; a slice's spare places count too). A statement '..UptoSaid' is the law's where the arguments, and the package variables that the reading takes, are together of bulk at most 1048576: NARROWER than '..Said'. Prove '..Said' where nothing that the law and all that it calls make is longer than what came in: it says more and counts as full. Else prove '..UptoSaid'. A law counts once. -/
mutual
def uptoBulk {H : Type} : DataW H → Nat
  | .lit (.string bytes) => bytes.length + 1
  | .lit _ => 1
  | .nil => 1
  | .ptr d => uptoBulk d + 1
  | .slice elems spare => uptoBulkAll elems + uptoBulkAll spare + 1
  | .agg parts => uptoBulkAll parts + 1
  | .iface _ d => uptoBulk d + 1
  | .map entries => uptoBulkEntries entries + 1
  | .held _ => 1
def uptoBulkAll {H : Type} : List (DataW H) → Nat
  | [] => 0
  | d :: r => uptoBulk d + uptoBulkAll r
def uptoBulkEntries {H : Type} : List (Lit × DataW H) → Nat
  | [] => 0
  | x :: r => uptoBulkEntry x + uptoBulkEntries r
def uptoBulkEntry {H : Type} : Lit × DataW H → Nat
  | (.string bytes, d) => bytes.length + uptoBulk d + 1
  | (_, d) => uptoBulk d + 1
 end
def uptoSmall : (H : Type) → List (DataW H) → Bool := fun _ ds => decide (uptoBulkAll ds ≤ 1048576)
def OpenSpec.upto (s : _root_.Go.ChangeSpec) : _root_.Go.OpenSpec := { _root_.Go.OpenSpec.ofChange s with cond := some uptoSmall }

/-- 'joysticklaw12.CpuBack', WHERE WHAT IT READS IS OF BULK AT MOST 1048576: true; the input reads as it did. -/
def cpuBackUptoRow : OpenClaim := { program := "ytofkkcflpkcdaaa", sum := "fc74ff00de52aaba1a8aa0a2a1d7b95ab0071a988171ed984f25ddaed1d513fb", func := "joystick/joysticklaw12.CpuBack", spec := "cpuBack", unfollowed := true, recurses := true, apart := false, narrowed := true }
def CpuBackUptoSaid : Prop := cpuBackUptoRow.holds Try.pinned (OpenSpec.upto cpuBackSpec)

/-- 'joysticklaw12.CpuCopies', WHERE WHAT IT READS IS OF BULK AT MOST 1048576: true; the input reads as it did. -/
def cpuCopiesUptoRow : OpenClaim := { program := "ytofkkcflpkcdaaa", sum := "fc74ff00de52aaba1a8aa0a2a1d7b95ab0071a988171ed984f25ddaed1d513fb", func := "joystick/joysticklaw12.CpuCopies", spec := "cpuCopies", unfollowed := true, recurses := true, apart := false, narrowed := true }
def CpuCopiesUptoSaid : Prop := cpuCopiesUptoRow.holds Try.pinned (OpenSpec.upto cpuCopiesSpec)

/-- 'joysticklaw12.CpuCalls', WHERE WHAT IT READS IS OF BULK AT MOST 1048576: true; the input reads as it did. -/
def cpuCallsUptoRow : OpenClaim := { program := "ytofkkcflpkcdaaa", sum := "fc74ff00de52aaba1a8aa0a2a1d7b95ab0071a988171ed984f25ddaed1d513fb", func := "joystick/joysticklaw12.CpuCalls", spec := "cpuCalls", unfollowed := true, recurses := true, apart := false, narrowed := true }
def CpuCallsUptoSaid : Prop := cpuCallsUptoRow.holds Try.pinned (OpenSpec.upto cpuCallsSpec)

/-- 'joysticklaw12.CpuCounts', WHERE WHAT IT READS IS OF BULK AT MOST 1048576: true; the input reads as it did. -/
def cpuCountsUptoRow : OpenClaim := { program := "ytofkkcflpkcdaaa", sum := "fc74ff00de52aaba1a8aa0a2a1d7b95ab0071a988171ed984f25ddaed1d513fb", func := "joystick/joysticklaw12.CpuCounts", spec := "cpuCounts", unfollowed := true, recurses := true, apart := false, narrowed := true }
def CpuCountsUptoSaid : Prop := cpuCountsUptoRow.holds Try.pinned (OpenSpec.upto cpuCountsSpec)

/-- 'joysticklaw12.CpuNames', WHERE WHAT IT READS IS OF BULK AT MOST 1048576: true; the input reads as it did. -/
def cpuNamesUptoRow : OpenClaim := { program := "ytofkkcflpkcdaaa", sum := "fc74ff00de52aaba1a8aa0a2a1d7b95ab0071a988171ed984f25ddaed1d513fb", func := "joystick/joysticklaw12.CpuNames", spec := "cpuNames", unfollowed := true, recurses := true, apart := false, narrowed := true }
def CpuNamesUptoSaid : Prop := cpuNamesUptoRow.holds Try.pinned (OpenSpec.upto cpuNamesSpec)

/-- 'joysticklaw12.CpuPrefixes', WHERE WHAT IT READS IS OF BULK AT MOST 1048576: true; the input reads as it did. -/
def cpuPrefixesUptoRow : OpenClaim := { program := "ytofkkcflpkcdaaa", sum := "fc74ff00de52aaba1a8aa0a2a1d7b95ab0071a988171ed984f25ddaed1d513fb", func := "joystick/joysticklaw12.CpuPrefixes", spec := "cpuPrefixes", unfollowed := true, recurses := true, apart := false, narrowed := true }
def CpuPrefixesUptoSaid : Prop := cpuPrefixesUptoRow.holds Try.pinned (OpenSpec.upto cpuPrefixesSpec)

end Rows
end Go.Proofs.Ytofkkcflpkcdaaa
