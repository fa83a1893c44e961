/-
  No cell of these rows narrows 'for every input' (looked for: loops, veiled, ifaces, maps, wideKeys, modest, calm, conditions, laid).
  DERIVED. THE GIVEN ROWS OF THIS SEAT. 5 by the template 'for every input the law returns true; each argument reads behind the call as it read before'; 0 by the template 'total and deterministic' (their statements: YtpgjpdcnhbiejaaTotals.lean).
  GIVEN WITH THE SEED: the statements are not yours to turn. If you find one false, say at which input.
  Laid BY PROGRAM, IN A SANDBOX (cutbox-rows.mjs): the forced cells as the released guide's own fill.sh prints them over the translation b76faaafc59d6cf4… (all of the seat's roots in one cut). By AI agents, Wed Nov 11 2026. No macro, syntax, notation, axiom, sorry.
-/
import Derived.Test.YtpgjpdcnhbiejaaChecked
import GoSem.Claim
import GoSem.ClaimJoined
import GoSem.ClaimMapViews
import Derived.JoinedTies
import Derived.KernelRfl
namespace Go.Proofs.Ytpgjpdcnhbiejaa
/- THE CELL 'sum', in the pinned program and in every row, IS THE sha256 OF THE DUMP (.gsa) THAT YtpgjpdcnhbiejaaProg.lean LOADS. Nothing in Lean hashes anything: it is a label: what it is worth is what the hold of that sum in a sandbox is worth. -/
noncomputable def Try.pinned : Pinned := { name := "ytpgjpdcnhbiejaa", sum := "b76faaafc59d6cf4f791a20a22f163580d2324a799231e1d6d1b7974abf90d5c", checked := Try.checked }
namespace Rows
def none {H : Type} : Left H := { results := [], args := [] }

/-- 'joysticklaw19.LineNames': WHATEVER THE INPUT: true; the input reads as it did. -/
def lineNamesSpec : ChangeSpec := { name := "lineNames", fn := fun _ => fun
  | [] => { results := [.lit (.bool true)], args := [] }
  | _ => none }
def lineNamesRow : OpenClaim := { program := "ytpgjpdcnhbiejaa", sum := "b76faaafc59d6cf4f791a20a22f163580d2324a799231e1d6d1b7974abf90d5c", func := "joystick/joysticklaw19.LineNames", spec := "lineNames", apart := false }
def LineNamesSaid : Prop := lineNamesRow.holds Try.pinned (OpenSpec.ofChange lineNamesSpec)

/-- ITS FALSE NEIGHBOUR: 'it returns false'. Refute it at one input. -/
def lineNamesWrong : ChangeSpec := { name := "lineNames", fn := fun _ => fun
  | [] => { results := [.lit (.bool false)], args := [] }
  | _ => none }
def LineNamesWrongFalsely : Prop := lineNamesRow.holds Try.pinned (OpenSpec.ofChange lineNamesWrong)

/-- 'joysticklaw19.LineDraws': WHATEVER THE INPUT: true; the input reads as it did. -/
def lineDrawsSpec : ChangeSpec := { name := "lineDraws", fn := fun _ => fun
  | [d1, d2, d3] => { results := [.lit (.bool true)], args := [d1, d2, d3] }
  | _ => none }
def lineDrawsRow : OpenClaim := { program := "ytpgjpdcnhbiejaa", sum := "b76faaafc59d6cf4f791a20a22f163580d2324a799231e1d6d1b7974abf90d5c", func := "joystick/joysticklaw19.LineDraws", spec := "lineDraws", apart := false }
def LineDrawsSaid : Prop := lineDrawsRow.holds Try.pinned (OpenSpec.ofChange lineDrawsSpec)

/-- ITS FALSE NEIGHBOUR: 'it returns false'. Refute it at one input. -/
def lineDrawsWrong : ChangeSpec := { name := "lineDraws", fn := fun _ => fun
  | [d1, d2, d3] => { results := [.lit (.bool false)], args := [d1, d2, d3] }
  | _ => none }
def LineDrawsWrongFalsely : Prop := lineDrawsRow.holds Try.pinned (OpenSpec.ofChange lineDrawsWrong)

/-- 'joysticklaw19.LinePaints': WHATEVER THE INPUT: true; the input reads as it did. -/
def linePaintsSpec : ChangeSpec := { name := "linePaints", fn := fun _ => fun
  | [d1, d2] => { results := [.lit (.bool true)], args := [d1, d2] }
  | _ => none }
def linePaintsRow : OpenClaim := { program := "ytpgjpdcnhbiejaa", sum := "b76faaafc59d6cf4f791a20a22f163580d2324a799231e1d6d1b7974abf90d5c", func := "joystick/joysticklaw19.LinePaints", spec := "linePaints", apart := false }
def LinePaintsSaid : Prop := linePaintsRow.holds Try.pinned (OpenSpec.ofChange linePaintsSpec)

/-- ITS FALSE NEIGHBOUR: 'it returns false'. Refute it at one input. -/
def linePaintsWrong : ChangeSpec := { name := "linePaints", fn := fun _ => fun
  | [d1, d2] => { results := [.lit (.bool false)], args := [d1, d2] }
  | _ => none }
def LinePaintsWrongFalsely : Prop := linePaintsRow.holds Try.pinned (OpenSpec.ofChange linePaintsWrong)

/-- 'joysticklaw19.LineHides': WHATEVER THE INPUT: true; the input reads as it did. -/
def lineHidesSpec : ChangeSpec := { name := "lineHides", fn := fun _ => fun
  | [d1, d2, d3] => { results := [.lit (.bool true)], args := [d1, d2, d3] }
  | _ => none }
def lineHidesRow : OpenClaim := { program := "ytpgjpdcnhbiejaa", sum := "b76faaafc59d6cf4f791a20a22f163580d2324a799231e1d6d1b7974abf90d5c", func := "joystick/joysticklaw19.LineHides", spec := "lineHides", apart := false }
def LineHidesSaid : Prop := lineHidesRow.holds Try.pinned (OpenSpec.ofChange lineHidesSpec)

/-- ITS FALSE NEIGHBOUR: 'it returns false'. Refute it at one input. -/
def lineHidesWrong : ChangeSpec := { name := "lineHides", fn := fun _ => fun
  | [d1, d2, d3] => { results := [.lit (.bool false)], args := [d1, d2, d3] }
  | _ => none }
def LineHidesWrongFalsely : Prop := lineHidesRow.holds Try.pinned (OpenSpec.ofChange lineHidesWrong)

/-- 'joysticklaw19.LineOver': WHATEVER THE INPUT: true; the input reads as it did. -/
def lineOverSpec : ChangeSpec := { name := "lineOver", fn := fun _ => fun
  | [d1, d2, d3] => { results := [.lit (.bool true)], args := [d1, d2, d3] }
  | _ => none }
def lineOverRow : OpenClaim := { program := "ytpgjpdcnhbiejaa", sum := "b76faaafc59d6cf4f791a20a22f163580d2324a799231e1d6d1b7974abf90d5c", func := "joystick/joysticklaw19.LineOver", spec := "lineOver", apart := false }
def LineOverSaid : Prop := lineOverRow.holds Try.pinned (OpenSpec.ofChange lineOverSpec)

/-- ITS FALSE NEIGHBOUR: 'it returns false'. Refute it at one input. -/
def lineOverWrong : ChangeSpec := { name := "lineOver", fn := fun _ => fun
  | [d1, d2, d3] => { results := [.lit (.bool false)], args := [d1, d2, d3] }
  | _ => none }
def LineOverWrongFalsely : Prop := lineOverRow.holds Try.pinned (OpenSpec.ofChange lineOverWrong)

/- THE SECOND FORM. 'bulk': how many values and letters a reading holds, each counted each time it is reached (what is shared counts as often as it is met; a slice's spare places count too). A statement '..UptoSaid' is the law's where the arguments, and the package variables that the reading takes, are together of bulk at most 1048576: NARROWER than '..Said'. Prove '..Said' where nothing that the law and all that it calls make is longer than what came in: it says more and counts as full. Else prove '..UptoSaid'. A law counts once. -/
mutual
def uptoBulk {H : Type} : DataW H → Nat
  | .lit (.string bytes) => bytes.length + 1
  | .lit _ => 1
  | .nil => 1
  | .ptr d => uptoBulk d + 1
  | .slice elems spare => uptoBulkAll elems + uptoBulkAll spare + 1
  | .agg parts => uptoBulkAll parts + 1
  | .iface _ d => uptoBulk d + 1
  | .map entries => uptoBulkEntries entries + 1
  | .held _ => 1
def uptoBulkAll {H : Type} : List (DataW H) → Nat
  | [] => 0
  | d :: r => uptoBulk d + uptoBulkAll r
def uptoBulkEntries {H : Type} : List (Lit × DataW H) → Nat
  | [] => 0
  | x :: r => uptoBulkEntry x + uptoBulkEntries r
def uptoBulkEntry {H : Type} : Lit × DataW H → Nat
  | (.string bytes, d) => bytes.length + uptoBulk d + 1
  | (_, d) => uptoBulk d + 1
 end
def uptoSmall : (H : Type) → List (DataW H) → Bool := fun _ ds => decide (uptoBulkAll ds ≤ 1048576)
def OpenSpec.upto (s : _root_.Go.ChangeSpec) : _root_.Go.OpenSpec := { _root_.Go.OpenSpec.ofChange s with cond := some uptoSmall }

/-- 'joysticklaw19.LineNames', WHERE WHAT IT READS IS OF BULK AT MOST 1048576: true; the input reads as it did. -/
def lineNamesUptoRow : OpenClaim := { program := "ytpgjpdcnhbiejaa", sum := "b76faaafc59d6cf4f791a20a22f163580d2324a799231e1d6d1b7974abf90d5c", func := "joystick/joysticklaw19.LineNames", spec := "lineNames", apart := false, narrowed := true }
def LineNamesUptoSaid : Prop := lineNamesUptoRow.holds Try.pinned (OpenSpec.upto lineNamesSpec)

/-- 'joysticklaw19.LineDraws', WHERE WHAT IT READS IS OF BULK AT MOST 1048576: true; the input reads as it did. -/
def lineDrawsUptoRow : OpenClaim := { program := "ytpgjpdcnhbiejaa", sum := "b76faaafc59d6cf4f791a20a22f163580d2324a799231e1d6d1b7974abf90d5c", func := "joystick/joysticklaw19.LineDraws", spec := "lineDraws", apart := false, narrowed := true }
def LineDrawsUptoSaid : Prop := lineDrawsUptoRow.holds Try.pinned (OpenSpec.upto lineDrawsSpec)

/-- 'joysticklaw19.LinePaints', WHERE WHAT IT READS IS OF BULK AT MOST 1048576: true; the input reads as it did. -/
def linePaintsUptoRow : OpenClaim := { program := "ytpgjpdcnhbiejaa", sum := "b76faaafc59d6cf4f791a20a22f163580d2324a799231e1d6d1b7974abf90d5c", func := "joystick/joysticklaw19.LinePaints", spec := "linePaints", apart := false, narrowed := true }
def LinePaintsUptoSaid : Prop := linePaintsUptoRow.holds Try.pinned (OpenSpec.upto linePaintsSpec)

/-- 'joysticklaw19.LineHides', WHERE WHAT IT READS IS OF BULK AT MOST 1048576: true; the input reads as it did. -/
def lineHidesUptoRow : OpenClaim := { program := "ytpgjpdcnhbiejaa", sum := "b76faaafc59d6cf4f791a20a22f163580d2324a799231e1d6d1b7974abf90d5c", func := "joystick/joysticklaw19.LineHides", spec := "lineHides", apart := false, narrowed := true }
def LineHidesUptoSaid : Prop := lineHidesUptoRow.holds Try.pinned (OpenSpec.upto lineHidesSpec)

/-- 'joysticklaw19.LineOver', WHERE WHAT IT READS IS OF BULK AT MOST 1048576: true; the input reads as it did. -/
def lineOverUptoRow : OpenClaim := { program := "ytpgjpdcnhbiejaa", sum := "b76faaafc59d6cf4f791a20a22f163580d2324a799231e1d6d1b7974abf90d5c", func := "joystick/joysticklaw19.LineOver", spec := "lineOver", apart := false, narrowed := true }
def LineOverUptoSaid : Prop := lineOverUptoRow.holds Try.pinned (OpenSpec.upto lineOverSpec)

end Rows
end Go.Proofs.Ytpgjpdcnhbiejaa
