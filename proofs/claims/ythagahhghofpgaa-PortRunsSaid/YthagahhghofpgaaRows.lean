/-
  No cell of these rows narrows 'for every input' (looked for: loops, veiled, ifaces, maps, wideKeys, modest, calm, conditions, laid).
  DERIVED. THE GIVEN ROWS OF THIS SEAT. 5 by the template 'for every input the law returns true; each argument reads behind the call as it read before'; 0 by the template 'total and deterministic' (their statements: YthagahhghofpgaaTotals.lean).
  GIVEN WITH THE SEED: the statements are not yours to turn. If you find one false, say at which input.
  Laid BY PROGRAM, IN A SANDBOX (cutbox-rows.mjs): the forced cells as the released guide's own fill.sh prints them over the translation 2bccb39316278b05… (all of the seat's roots in one cut). By AI agents, Wed Nov 11 2026. No macro, syntax, notation, axiom, sorry.
-/
import Derived.Test.YthagahhghofpgaaChecked
import GoSem.Claim
import GoSem.ClaimJoined
import GoSem.ClaimMapViews
import Derived.JoinedTies
import Derived.KernelRfl
namespace Go.Proofs.Ythagahhghofpgaa
/- THE CELL 'sum', in the pinned program and in every row, IS THE sha256 OF THE DUMP (.gsa) THAT YthagahhghofpgaaProg.lean LOADS. Nothing in Lean hashes anything: it is a label: what it is worth is what the hold of that sum in a sandbox is worth. -/
noncomputable def Try.pinned : Pinned := { name := "ythagahhghofpgaa", sum := "2bccb39316278b0534dda721c0cca025098e63d6cd22fec57da9e8c1e92fb24c", checked := Try.checked }
namespace Rows
def none {H : Type} : Left H := { results := [], args := [] }

/-- 'joysticklaw13.PortColors': WHATEVER THE INPUT: true; the input reads as it did. -/
def portColorsSpec : ChangeSpec := { name := "portColors", fn := fun _ => fun
  | [d1, d2] => { results := [.lit (.bool true)], args := [d1, d2] }
  | _ => none }
def portColorsRow : OpenClaim := { program := "ythagahhghofpgaa", sum := "2bccb39316278b0534dda721c0cca025098e63d6cd22fec57da9e8c1e92fb24c", func := "joystick/joysticklaw13.PortColors", spec := "portColors", apart := false }
def PortColorsSaid : Prop := portColorsRow.holds Try.pinned (OpenSpec.ofChange portColorsSpec)

/-- ITS FALSE NEIGHBOUR: 'it returns false'. Refute it at one input. -/
def portColorsWrong : ChangeSpec := { name := "portColors", fn := fun _ => fun
  | [d1, d2] => { results := [.lit (.bool false)], args := [d1, d2] }
  | _ => none }
def PortColorsWrongFalsely : Prop := portColorsRow.holds Try.pinned (OpenSpec.ofChange portColorsWrong)

/-- 'joysticklaw13.PortTells': WHATEVER THE INPUT: true; the input reads as it did. -/
def portTellsSpec : ChangeSpec := { name := "portTells", fn := fun _ => fun
  | [d1, d2] => { results := [.lit (.bool true)], args := [d1, d2] }
  | _ => none }
def portTellsRow : OpenClaim := { program := "ythagahhghofpgaa", sum := "2bccb39316278b0534dda721c0cca025098e63d6cd22fec57da9e8c1e92fb24c", func := "joystick/joysticklaw13.PortTells", spec := "portTells", apart := false }
def PortTellsSaid : Prop := portTellsRow.holds Try.pinned (OpenSpec.ofChange portTellsSpec)

/-- ITS FALSE NEIGHBOUR: 'it returns false'. Refute it at one input. -/
def portTellsWrong : ChangeSpec := { name := "portTells", fn := fun _ => fun
  | [d1, d2] => { results := [.lit (.bool false)], args := [d1, d2] }
  | _ => none }
def PortTellsWrongFalsely : Prop := portTellsRow.holds Try.pinned (OpenSpec.ofChange portTellsWrong)

/-- 'joysticklaw13.PortNames': WHATEVER THE INPUT: true; the input reads as it did. -/
def portNamesSpec : ChangeSpec := { name := "portNames", fn := fun _ => fun
  | [] => { results := [.lit (.bool true)], args := [] }
  | _ => none }
def portNamesRow : OpenClaim := { program := "ythagahhghofpgaa", sum := "2bccb39316278b0534dda721c0cca025098e63d6cd22fec57da9e8c1e92fb24c", func := "joystick/joysticklaw13.PortNames", spec := "portNames", unfollowed := true, recurses := true, apart := false }
def PortNamesSaid : Prop := portNamesRow.holds Try.pinned (OpenSpec.ofChange portNamesSpec)

/-- ITS FALSE NEIGHBOUR: 'it returns false'. Refute it at one input. -/
def portNamesWrong : ChangeSpec := { name := "portNames", fn := fun _ => fun
  | [] => { results := [.lit (.bool false)], args := [] }
  | _ => none }
def PortNamesWrongFalsely : Prop := portNamesRow.holds Try.pinned (OpenSpec.ofChange portNamesWrong)

/-- 'joysticklaw13.PortRuns': WHATEVER THE INPUT: true; the input reads as it did. -/
def portRunsSpec : ChangeSpec := { name := "portRuns", fn := fun _ => fun
  | [d] => { results := [.lit (.bool true)], args := [d] }
  | _ => none }
def portRunsRow : OpenClaim := { program := "ythagahhghofpgaa", sum := "2bccb39316278b0534dda721c0cca025098e63d6cd22fec57da9e8c1e92fb24c", func := "joystick/joysticklaw13.PortRuns", spec := "portRuns", unfollowed := true, recurses := true, apart := false }
def PortRunsSaid : Prop := portRunsRow.holds Try.pinned (OpenSpec.ofChange portRunsSpec)

/-- ITS FALSE NEIGHBOUR: 'it returns false'. Refute it at one input. -/
def portRunsWrong : ChangeSpec := { name := "portRuns", fn := fun _ => fun
  | [d] => { results := [.lit (.bool false)], args := [d] }
  | _ => none }
def PortRunsWrongFalsely : Prop := portRunsRow.holds Try.pinned (OpenSpec.ofChange portRunsWrong)

/-- 'joysticklaw13.PortKeeps': WHATEVER THE INPUT: true; the input reads as it did. -/
def portKeepsSpec : ChangeSpec := { name := "portKeeps", fn := fun _ => fun
  | [d1, d2] => { results := [.lit (.bool true)], args := [d1, d2] }
  | _ => none }
def portKeepsRow : OpenClaim := { program := "ythagahhghofpgaa", sum := "2bccb39316278b0534dda721c0cca025098e63d6cd22fec57da9e8c1e92fb24c", func := "joystick/joysticklaw13.PortKeeps", spec := "portKeeps", unfollowed := true, recurses := true, apart := false }
def PortKeepsSaid : Prop := portKeepsRow.holds Try.pinned (OpenSpec.ofChange portKeepsSpec)

/-- ITS FALSE NEIGHBOUR: 'it returns false'. Refute it at one input. -/
def portKeepsWrong : ChangeSpec := { name := "portKeeps", fn := fun _ => fun
  | [d1, d2] => { results := [.lit (.bool false)], args := [d1, d2] }
  | _ => none }
def PortKeepsWrongFalsely : Prop := portKeepsRow.holds Try.pinned (OpenSpec.ofChange portKeepsWrong)

/- THE SECOND FORM. 'bulk': how many values and letters a reading holds, each counted each time it is reached (what is shared counts as often as it is met; a slice's spare places count too). A statement '..UptoSaid' is the law's where the arguments, and the package variables that the reading takes, are together of bulk at most 1048576: NARROWER than '..Said'. Prove '..Said' where nothing that the law and all that it calls make is longer than what came in: it says more and counts as full. Else prove '..UptoSaid'. A law counts once. -/
mutual
def uptoBulk {H : Type} : DataW H → Nat
  | .lit (.string bytes) => bytes.length + 1
  | .lit _ => 1
  | .nil => 1
  | .ptr d => uptoBulk d + 1
  | .slice elems spare => uptoBulkAll elems + uptoBulkAll spare + 1
  | .agg parts => uptoBulkAll parts + 1
  | .iface _ d => uptoBulk d + 1
  | .map entries => uptoBulkEntries entries + 1
  | .held _ => 1
def uptoBulkAll {H : Type} : List (DataW H) → Nat
  | [] => 0
  | d :: r => uptoBulk d + uptoBulkAll r
def uptoBulkEntries {H : Type} : List (Lit × DataW H) → Nat
  | [] => 0
  | x :: r => uptoBulkEntry x + uptoBulkEntries r
def uptoBulkEntry {H : Type} : Lit × DataW H → Nat
  | (.string bytes, d) => bytes.length + uptoBulk d + 1
  | (_, d) => uptoBulk d + 1
 end
def uptoSmall : (H : Type) → List (DataW H) → Bool := fun _ ds => decide (uptoBulkAll ds ≤ 1048576)
def OpenSpec.upto (s : _root_.Go.ChangeSpec) : _root_.Go.OpenSpec := { _root_.Go.OpenSpec.ofChange s with cond := some uptoSmall }

/-- 'joysticklaw13.PortColors', WHERE WHAT IT READS IS OF BULK AT MOST 1048576: true; the input reads as it did. -/
def portColorsUptoRow : OpenClaim := { program := "ythagahhghofpgaa", sum := "2bccb39316278b0534dda721c0cca025098e63d6cd22fec57da9e8c1e92fb24c", func := "joystick/joysticklaw13.PortColors", spec := "portColors", apart := false, narrowed := true }
def PortColorsUptoSaid : Prop := portColorsUptoRow.holds Try.pinned (OpenSpec.upto portColorsSpec)

/-- 'joysticklaw13.PortTells', WHERE WHAT IT READS IS OF BULK AT MOST 1048576: true; the input reads as it did. -/
def portTellsUptoRow : OpenClaim := { program := "ythagahhghofpgaa", sum := "2bccb39316278b0534dda721c0cca025098e63d6cd22fec57da9e8c1e92fb24c", func := "joystick/joysticklaw13.PortTells", spec := "portTells", apart := false, narrowed := true }
def PortTellsUptoSaid : Prop := portTellsUptoRow.holds Try.pinned (OpenSpec.upto portTellsSpec)

/-- 'joysticklaw13.PortNames', WHERE WHAT IT READS IS OF BULK AT MOST 1048576: true; the input reads as it did. -/
def portNamesUptoRow : OpenClaim := { program := "ythagahhghofpgaa", sum := "2bccb39316278b0534dda721c0cca025098e63d6cd22fec57da9e8c1e92fb24c", func := "joystick/joysticklaw13.PortNames", spec := "portNames", unfollowed := true, recurses := true, apart := false, narrowed := true }
def PortNamesUptoSaid : Prop := portNamesUptoRow.holds Try.pinned (OpenSpec.upto portNamesSpec)

/-- 'joysticklaw13.PortRuns', WHERE WHAT IT READS IS OF BULK AT MOST 1048576: true; the input reads as it did. -/
def portRunsUptoRow : OpenClaim := { program := "ythagahhghofpgaa", sum := "2bccb39316278b0534dda721c0cca025098e63d6cd22fec57da9e8c1e92fb24c", func := "joystick/joysticklaw13.PortRuns", spec := "portRuns", unfollowed := true, recurses := true, apart := false, narrowed := true }
def PortRunsUptoSaid : Prop := portRunsUptoRow.holds Try.pinned (OpenSpec.upto portRunsSpec)

/-- 'joysticklaw13.PortKeeps', WHERE WHAT IT READS IS OF BULK AT MOST 1048576: true; the input reads as it did. -/
def portKeepsUptoRow : OpenClaim := { program := "ythagahhghofpgaa", sum := "2bccb39316278b0534dda721c0cca025098e63d6cd22fec57da9e8c1e92fb24c", func := "joystick/joysticklaw13.PortKeeps", spec := "portKeeps", unfollowed := true, recurses := true, apart := false, narrowed := true }
def PortKeepsUptoSaid : Prop := portKeepsUptoRow.holds Try.pinned (OpenSpec.upto portKeepsSpec)

end Rows
end Go.Proofs.Ythagahhghofpgaa
