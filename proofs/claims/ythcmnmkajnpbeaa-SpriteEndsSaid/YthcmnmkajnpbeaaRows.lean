/-
  No cell of these rows narrows 'for every input' (looked for: loops, veiled, ifaces, maps, wideKeys, modest, calm, conditions, laid).
  DERIVED. THE GIVEN ROWS OF THIS SEAT. 5 by the template 'for every input the law returns true; each argument reads behind the call as it read before'; 0 by the template 'total and deterministic' (their statements: YthcmnmkajnpbeaaTotals.lean).
  GIVEN WITH THE SEED: the statements are not yours to turn. If you find one false, say at which input.
  Laid BY PROGRAM, IN A SANDBOX (cutbox-rows.mjs): the forced cells as the released guide's own fill.sh prints them over the translation 9904feafb3f0c257… (all of the seat's roots in one cut). By AI agents, Wed Nov 11 2026. No macro, syntax, notation, axiom, sorry.
-/
import Derived.Test.YthcmnmkajnpbeaaChecked
import GoSem.Claim
import GoSem.ClaimJoined
import GoSem.ClaimMapViews
import Derived.JoinedTies
import Derived.KernelRfl
namespace Go.Proofs.Ythcmnmkajnpbeaa
/- THE CELL 'sum', in the pinned program and in every row, IS THE sha256 OF THE DUMP (.gsa) THAT YthcmnmkajnpbeaaProg.lean LOADS. Nothing in Lean hashes anything: it is a label: what it is worth is what the hold of that sum in a sandbox is worth. -/
noncomputable def Try.pinned : Pinned := { name := "ythcmnmkajnpbeaa", sum := "9904feafb3f0c257a0a2dcb7c2645e43af7029e915f640361ed6bb28d886300f", checked := Try.checked }
namespace Rows
def none {H : Type} : Left H := { results := [], args := [] }

/-- 'joysticklaw18.SpriteNames': WHATEVER THE INPUT: true; the input reads as it did. -/
def spriteNamesSpec : ChangeSpec := { name := "spriteNames", fn := fun _ => fun
  | [] => { results := [.lit (.bool true)], args := [] }
  | _ => none }
def spriteNamesRow : OpenClaim := { program := "ythcmnmkajnpbeaa", sum := "9904feafb3f0c257a0a2dcb7c2645e43af7029e915f640361ed6bb28d886300f", func := "joystick/joysticklaw18.SpriteNames", spec := "spriteNames", apart := false }
def SpriteNamesSaid : Prop := spriteNamesRow.holds Try.pinned (OpenSpec.ofChange spriteNamesSpec)

/-- ITS FALSE NEIGHBOUR: 'it returns false'. Refute it at one input. -/
def spriteNamesWrong : ChangeSpec := { name := "spriteNames", fn := fun _ => fun
  | [] => { results := [.lit (.bool false)], args := [] }
  | _ => none }
def SpriteNamesWrongFalsely : Prop := spriteNamesRow.holds Try.pinned (OpenSpec.ofChange spriteNamesWrong)

/-- 'joysticklaw18.SpriteOn': WHATEVER THE INPUT: true; the input reads as it did. -/
def spriteOnSpec : ChangeSpec := { name := "spriteOn", fn := fun _ => fun
  | [d1, d2, d3] => { results := [.lit (.bool true)], args := [d1, d2, d3] }
  | _ => none }
def spriteOnRow : OpenClaim := { program := "ythcmnmkajnpbeaa", sum := "9904feafb3f0c257a0a2dcb7c2645e43af7029e915f640361ed6bb28d886300f", func := "joystick/joysticklaw18.SpriteOn", spec := "spriteOn", apart := false }
def SpriteOnSaid : Prop := spriteOnRow.holds Try.pinned (OpenSpec.ofChange spriteOnSpec)

/-- ITS FALSE NEIGHBOUR: 'it returns false'. Refute it at one input. -/
def spriteOnWrong : ChangeSpec := { name := "spriteOn", fn := fun _ => fun
  | [d1, d2, d3] => { results := [.lit (.bool false)], args := [d1, d2, d3] }
  | _ => none }
def SpriteOnWrongFalsely : Prop := spriteOnRow.holds Try.pinned (OpenSpec.ofChange spriteOnWrong)

/-- 'joysticklaw18.SpriteMoves': WHATEVER THE INPUT: true; the input reads as it did. -/
def spriteMovesSpec : ChangeSpec := { name := "spriteMoves", fn := fun _ => fun
  | [d1, d2, d3] => { results := [.lit (.bool true)], args := [d1, d2, d3] }
  | _ => none }
def spriteMovesRow : OpenClaim := { program := "ythcmnmkajnpbeaa", sum := "9904feafb3f0c257a0a2dcb7c2645e43af7029e915f640361ed6bb28d886300f", func := "joystick/joysticklaw18.SpriteMoves", spec := "spriteMoves", apart := false }
def SpriteMovesSaid : Prop := spriteMovesRow.holds Try.pinned (OpenSpec.ofChange spriteMovesSpec)

/-- ITS FALSE NEIGHBOUR: 'it returns false'. Refute it at one input. -/
def spriteMovesWrong : ChangeSpec := { name := "spriteMoves", fn := fun _ => fun
  | [d1, d2, d3] => { results := [.lit (.bool false)], args := [d1, d2, d3] }
  | _ => none }
def SpriteMovesWrongFalsely : Prop := spriteMovesRow.holds Try.pinned (OpenSpec.ofChange spriteMovesWrong)

/-- 'joysticklaw18.SpriteFirst': WHATEVER THE INPUT: true; the input reads as it did. -/
def spriteFirstSpec : ChangeSpec := { name := "spriteFirst", fn := fun _ => fun
  | [d1, d2, d3] => { results := [.lit (.bool true)], args := [d1, d2, d3] }
  | _ => none }
def spriteFirstRow : OpenClaim := { program := "ythcmnmkajnpbeaa", sum := "9904feafb3f0c257a0a2dcb7c2645e43af7029e915f640361ed6bb28d886300f", func := "joystick/joysticklaw18.SpriteFirst", spec := "spriteFirst", apart := false }
def SpriteFirstSaid : Prop := spriteFirstRow.holds Try.pinned (OpenSpec.ofChange spriteFirstSpec)

/-- ITS FALSE NEIGHBOUR: 'it returns false'. Refute it at one input. -/
def spriteFirstWrong : ChangeSpec := { name := "spriteFirst", fn := fun _ => fun
  | [d1, d2, d3] => { results := [.lit (.bool false)], args := [d1, d2, d3] }
  | _ => none }
def SpriteFirstWrongFalsely : Prop := spriteFirstRow.holds Try.pinned (OpenSpec.ofChange spriteFirstWrong)

/-- 'joysticklaw18.SpriteEnds': WHATEVER THE INPUT: true; the input reads as it did. -/
def spriteEndsSpec : ChangeSpec := { name := "spriteEnds", fn := fun _ => fun
  | [d1, d2, d3] => { results := [.lit (.bool true)], args := [d1, d2, d3] }
  | _ => none }
def spriteEndsRow : OpenClaim := { program := "ythcmnmkajnpbeaa", sum := "9904feafb3f0c257a0a2dcb7c2645e43af7029e915f640361ed6bb28d886300f", func := "joystick/joysticklaw18.SpriteEnds", spec := "spriteEnds", apart := false }
def SpriteEndsSaid : Prop := spriteEndsRow.holds Try.pinned (OpenSpec.ofChange spriteEndsSpec)

/-- ITS FALSE NEIGHBOUR: 'it returns false'. Refute it at one input. -/
def spriteEndsWrong : ChangeSpec := { name := "spriteEnds", fn := fun _ => fun
  | [d1, d2, d3] => { results := [.lit (.bool false)], args := [d1, d2, d3] }
  | _ => none }
def SpriteEndsWrongFalsely : Prop := spriteEndsRow.holds Try.pinned (OpenSpec.ofChange spriteEndsWrong)

/- THE SECOND FORM. 'bulk': how many values and letters a reading holds, each counted each time it is reached (what is shared counts as often as it is met; a slice's spare places count too). A statement '..UptoSaid' is the law's where the arguments, and the package variables that the reading takes, are together of bulk at most 1048576: NARROWER than '..Said'. Prove '..Said' where nothing that the law and all that it calls make is longer than what came in: it says more and counts as full. Else prove '..UptoSaid'. A law counts once. -/
mutual
def uptoBulk {H : Type} : DataW H → Nat
  | .lit (.string bytes) => bytes.length + 1
  | .lit _ => 1
  | .nil => 1
  | .ptr d => uptoBulk d + 1
  | .slice elems spare => uptoBulkAll elems + uptoBulkAll spare + 1
  | .agg parts => uptoBulkAll parts + 1
  | .iface _ d => uptoBulk d + 1
  | .map entries => uptoBulkEntries entries + 1
  | .held _ => 1
def uptoBulkAll {H : Type} : List (DataW H) → Nat
  | [] => 0
  | d :: r => uptoBulk d + uptoBulkAll r
def uptoBulkEntries {H : Type} : List (Lit × DataW H) → Nat
  | [] => 0
  | x :: r => uptoBulkEntry x + uptoBulkEntries r
def uptoBulkEntry {H : Type} : Lit × DataW H → Nat
  | (.string bytes, d) => bytes.length + uptoBulk d + 1
  | (_, d) => uptoBulk d + 1
 end
def uptoSmall : (H : Type) → List (DataW H) → Bool := fun _ ds => decide (uptoBulkAll ds ≤ 1048576)
def OpenSpec.upto (s : _root_.Go.ChangeSpec) : _root_.Go.OpenSpec := { _root_.Go.OpenSpec.ofChange s with cond := some uptoSmall }

/-- 'joysticklaw18.SpriteNames', WHERE WHAT IT READS IS OF BULK AT MOST 1048576: true; the input reads as it did. -/
def spriteNamesUptoRow : OpenClaim := { program := "ythcmnmkajnpbeaa", sum := "9904feafb3f0c257a0a2dcb7c2645e43af7029e915f640361ed6bb28d886300f", func := "joystick/joysticklaw18.SpriteNames", spec := "spriteNames", apart := false, narrowed := true }
def SpriteNamesUptoSaid : Prop := spriteNamesUptoRow.holds Try.pinned (OpenSpec.upto spriteNamesSpec)

/-- 'joysticklaw18.SpriteOn', WHERE WHAT IT READS IS OF BULK AT MOST 1048576: true; the input reads as it did. -/
def spriteOnUptoRow : OpenClaim := { program := "ythcmnmkajnpbeaa", sum := "9904feafb3f0c257a0a2dcb7c2645e43af7029e915f640361ed6bb28d886300f", func := "joystick/joysticklaw18.SpriteOn", spec := "spriteOn", apart := false, narrowed := true }
def SpriteOnUptoSaid : Prop := spriteOnUptoRow.holds Try.pinned (OpenSpec.upto spriteOnSpec)

/-- 'joysticklaw18.SpriteMoves', WHERE WHAT IT READS IS OF BULK AT MOST 1048576: true; the input reads as it did. -/
def spriteMovesUptoRow : OpenClaim := { program := "ythcmnmkajnpbeaa", sum := "9904feafb3f0c257a0a2dcb7c2645e43af7029e915f640361ed6bb28d886300f", func := "joystick/joysticklaw18.SpriteMoves", spec := "spriteMoves", apart := false, narrowed := true }
def SpriteMovesUptoSaid : Prop := spriteMovesUptoRow.holds Try.pinned (OpenSpec.upto spriteMovesSpec)

/-- 'joysticklaw18.SpriteFirst', WHERE WHAT IT READS IS OF BULK AT MOST 1048576: true; the input reads as it did. -/
def spriteFirstUptoRow : OpenClaim := { program := "ythcmnmkajnpbeaa", sum := "9904feafb3f0c257a0a2dcb7c2645e43af7029e915f640361ed6bb28d886300f", func := "joystick/joysticklaw18.SpriteFirst", spec := "spriteFirst", apart := false, narrowed := true }
def SpriteFirstUptoSaid : Prop := spriteFirstUptoRow.holds Try.pinned (OpenSpec.upto spriteFirstSpec)

/-- 'joysticklaw18.SpriteEnds', WHERE WHAT IT READS IS OF BULK AT MOST 1048576: true; the input reads as it did. -/
def spriteEndsUptoRow : OpenClaim := { program := "ythcmnmkajnpbeaa", sum := "9904feafb3f0c257a0a2dcb7c2645e43af7029e915f640361ed6bb28d886300f", func := "joystick/joysticklaw18.SpriteEnds", spec := "spriteEnds", apart := false, narrowed := true }
def SpriteEndsUptoSaid : Prop := spriteEndsUptoRow.holds Try.pinned (OpenSpec.upto spriteEndsSpec)

end Rows
end Go.Proofs.Ythcmnmkajnpbeaa
