/-
  No cell of these rows narrows 'for every input' (looked for: loops, veiled, ifaces, maps, wideKeys, modest, calm, conditions, laid).
  DERIVED. THE GIVEN ROWS OF THIS SEAT. 5 by the template 'for every input the law returns true; each argument reads behind the call as it read before'; 0 by the template 'total and deterministic' (their statements: YtkeboecppefiiaaTotals.lean).
  GIVEN WITH THE SEED: the statements are not yours to turn. If you find one false, say at which input.
  Laid BY PROGRAM, IN A SANDBOX (cutbox-rows.mjs): the forced cells as the released guide's own fill.sh prints them over the translation 65de9792ba444593… (all of the seat's roots in one cut). By AI agents, Wed Nov 11 2026. No macro, syntax, notation, axiom, sorry.
-/
import Derived.Test.YtkeboecppefiiaaChecked
import GoSem.Claim
import GoSem.ClaimJoined
import GoSem.ClaimMapViews
import Derived.JoinedTies
import Derived.KernelRfl
namespace Go.Proofs.Ytkeboecppefiiaa
/- THE CELL 'sum', in the pinned program and in every row, IS THE sha256 OF THE DUMP (.gsa) THAT YtkeboecppefiiaaProg.lean LOADS. Nothing in Lean hashes anything: it is a label: what it is worth is what the hold of that sum in a sandbox is worth. -/
noncomputable def Try.pinned : Pinned := { name := "ytkeboecppefiiaa", sum := "65de9792ba44459314752244035403415fcd3291c8afa69fbab57d601bccb4ac", checked := Try.checked }
namespace Rows
def none {H : Type} : Left H := { results := [], args := [] }

/-- 'joysticklaw20.VdpTells': WHATEVER THE INPUT: true; the input reads as it did. -/
def vdpTellsSpec : ChangeSpec := { name := "vdpTells", fn := fun _ => fun
  | [d1, d2, d3] => { results := [.lit (.bool true)], args := [d1, d2, d3] }
  | _ => none }
def vdpTellsRow : OpenClaim := { program := "ytkeboecppefiiaa", sum := "65de9792ba44459314752244035403415fcd3291c8afa69fbab57d601bccb4ac", func := "joystick/joysticklaw20.VdpTells", spec := "vdpTells", apart := false }
def VdpTellsSaid : Prop := vdpTellsRow.holds Try.pinned (OpenSpec.ofChange vdpTellsSpec)

/-- ITS FALSE NEIGHBOUR: 'it returns false'. Refute it at one input. -/
def vdpTellsWrong : ChangeSpec := { name := "vdpTells", fn := fun _ => fun
  | [d1, d2, d3] => { results := [.lit (.bool false)], args := [d1, d2, d3] }
  | _ => none }
def VdpTellsWrongFalsely : Prop := vdpTellsRow.holds Try.pinned (OpenSpec.ofChange vdpTellsWrong)

/-- 'joysticklaw20.VdpSplits': WHATEVER THE INPUT: true; the input reads as it did. -/
def vdpSplitsSpec : ChangeSpec := { name := "vdpSplits", fn := fun _ => fun
  | [d1, d2, d3] => { results := [.lit (.bool true)], args := [d1, d2, d3] }
  | _ => none }
def vdpSplitsRow : OpenClaim := { program := "ytkeboecppefiiaa", sum := "65de9792ba44459314752244035403415fcd3291c8afa69fbab57d601bccb4ac", func := "joystick/joysticklaw20.VdpSplits", spec := "vdpSplits", apart := false }
def VdpSplitsSaid : Prop := vdpSplitsRow.holds Try.pinned (OpenSpec.ofChange vdpSplitsSpec)

/-- ITS FALSE NEIGHBOUR: 'it returns false'. Refute it at one input. -/
def vdpSplitsWrong : ChangeSpec := { name := "vdpSplits", fn := fun _ => fun
  | [d1, d2, d3] => { results := [.lit (.bool false)], args := [d1, d2, d3] }
  | _ => none }
def VdpSplitsWrongFalsely : Prop := vdpSplitsRow.holds Try.pinned (OpenSpec.ofChange vdpSplitsWrong)

/-- 'joysticklaw20.VdpNames': WHATEVER THE INPUT: true; the input reads as it did. -/
def vdpNamesSpec : ChangeSpec := { name := "vdpNames", fn := fun _ => fun
  | [] => { results := [.lit (.bool true)], args := [] }
  | _ => none }
def vdpNamesRow : OpenClaim := { program := "ytkeboecppefiiaa", sum := "65de9792ba44459314752244035403415fcd3291c8afa69fbab57d601bccb4ac", func := "joystick/joysticklaw20.VdpNames", spec := "vdpNames", unfollowed := true, recurses := true, apart := false }
def VdpNamesSaid : Prop := vdpNamesRow.holds Try.pinned (OpenSpec.ofChange vdpNamesSpec)

/-- ITS FALSE NEIGHBOUR: 'it returns false'. Refute it at one input. -/
def vdpNamesWrong : ChangeSpec := { name := "vdpNames", fn := fun _ => fun
  | [] => { results := [.lit (.bool false)], args := [] }
  | _ => none }
def VdpNamesWrongFalsely : Prop := vdpNamesRow.holds Try.pinned (OpenSpec.ofChange vdpNamesWrong)

/-- 'joysticklaw20.VdpPredicts': WHATEVER THE INPUT: true; the input reads as it did. -/
def vdpPredictsSpec : ChangeSpec := { name := "vdpPredicts", fn := fun _ => fun
  | [d1, d2, d3] => { results := [.lit (.bool true)], args := [d1, d2, d3] }
  | _ => none }
def vdpPredictsRow : OpenClaim := { program := "ytkeboecppefiiaa", sum := "65de9792ba44459314752244035403415fcd3291c8afa69fbab57d601bccb4ac", func := "joystick/joysticklaw20.VdpPredicts", spec := "vdpPredicts", apart := false }
def VdpPredictsSaid : Prop := vdpPredictsRow.holds Try.pinned (OpenSpec.ofChange vdpPredictsSpec)

/-- ITS FALSE NEIGHBOUR: 'it returns false'. Refute it at one input. -/
def vdpPredictsWrong : ChangeSpec := { name := "vdpPredicts", fn := fun _ => fun
  | [d1, d2, d3] => { results := [.lit (.bool false)], args := [d1, d2, d3] }
  | _ => none }
def VdpPredictsWrongFalsely : Prop := vdpPredictsRow.holds Try.pinned (OpenSpec.ofChange vdpPredictsWrong)

/-- 'joysticklaw20.VdpBack': WHATEVER THE INPUT: true; the input reads as it did. -/
def vdpBackSpec : ChangeSpec := { name := "vdpBack", fn := fun _ => fun
  | [d1, d2, d3] => { results := [.lit (.bool true)], args := [d1, d2, d3] }
  | _ => none }
def vdpBackRow : OpenClaim := { program := "ytkeboecppefiiaa", sum := "65de9792ba44459314752244035403415fcd3291c8afa69fbab57d601bccb4ac", func := "joystick/joysticklaw20.VdpBack", spec := "vdpBack", unfollowed := true, recurses := true, apart := false }
def VdpBackSaid : Prop := vdpBackRow.holds Try.pinned (OpenSpec.ofChange vdpBackSpec)

/-- ITS FALSE NEIGHBOUR: 'it returns false'. Refute it at one input. -/
def vdpBackWrong : ChangeSpec := { name := "vdpBack", fn := fun _ => fun
  | [d1, d2, d3] => { results := [.lit (.bool false)], args := [d1, d2, d3] }
  | _ => none }
def VdpBackWrongFalsely : Prop := vdpBackRow.holds Try.pinned (OpenSpec.ofChange vdpBackWrong)

/- THE SECOND FORM. 'bulk': how many values and letters a reading holds, each counted each time it is reached (what is shared counts as often as it is met; a slice's spare places count too). A statement '..UptoSaid' is the law's where the arguments, and the package variables that the reading takes, are together of bulk at most 1048576: NARROWER than '..Said'. Prove '..Said' where nothing that the law and all that it calls make is longer than what came in: it says more and counts as full. Else prove '..UptoSaid'. A law counts once. -/
mutual
def uptoBulk {H : Type} : DataW H → Nat
  | .lit (.string bytes) => bytes.length + 1
  | .lit _ => 1
  | .nil => 1
  | .ptr d => uptoBulk d + 1
  | .slice elems spare => uptoBulkAll elems + uptoBulkAll spare + 1
  | .agg parts => uptoBulkAll parts + 1
  | .iface _ d => uptoBulk d + 1
  | .map entries => uptoBulkEntries entries + 1
  | .held _ => 1
def uptoBulkAll {H : Type} : List (DataW H) → Nat
  | [] => 0
  | d :: r => uptoBulk d + uptoBulkAll r
def uptoBulkEntries {H : Type} : List (Lit × DataW H) → Nat
  | [] => 0
  | x :: r => uptoBulkEntry x + uptoBulkEntries r
def uptoBulkEntry {H : Type} : Lit × DataW H → Nat
  | (.string bytes, d) => bytes.length + uptoBulk d + 1
  | (_, d) => uptoBulk d + 1
 end
def uptoSmall : (H : Type) → List (DataW H) → Bool := fun _ ds => decide (uptoBulkAll ds ≤ 1048576)
def OpenSpec.upto (s : _root_.Go.ChangeSpec) : _root_.Go.OpenSpec := { _root_.Go.OpenSpec.ofChange s with cond := some uptoSmall }

/-- 'joysticklaw20.VdpTells', WHERE WHAT IT READS IS OF BULK AT MOST 1048576: true; the input reads as it did. -/
def vdpTellsUptoRow : OpenClaim := { program := "ytkeboecppefiiaa", sum := "65de9792ba44459314752244035403415fcd3291c8afa69fbab57d601bccb4ac", func := "joystick/joysticklaw20.VdpTells", spec := "vdpTells", apart := false, narrowed := true }
def VdpTellsUptoSaid : Prop := vdpTellsUptoRow.holds Try.pinned (OpenSpec.upto vdpTellsSpec)

/-- 'joysticklaw20.VdpSplits', WHERE WHAT IT READS IS OF BULK AT MOST 1048576: true; the input reads as it did. -/
def vdpSplitsUptoRow : OpenClaim := { program := "ytkeboecppefiiaa", sum := "65de9792ba44459314752244035403415fcd3291c8afa69fbab57d601bccb4ac", func := "joystick/joysticklaw20.VdpSplits", spec := "vdpSplits", apart := false, narrowed := true }
def VdpSplitsUptoSaid : Prop := vdpSplitsUptoRow.holds Try.pinned (OpenSpec.upto vdpSplitsSpec)

/-- 'joysticklaw20.VdpNames', WHERE WHAT IT READS IS OF BULK AT MOST 1048576: true; the input reads as it did. -/
def vdpNamesUptoRow : OpenClaim := { program := "ytkeboecppefiiaa", sum := "65de9792ba44459314752244035403415fcd3291c8afa69fbab57d601bccb4ac", func := "joystick/joysticklaw20.VdpNames", spec := "vdpNames", unfollowed := true, recurses := true, apart := false, narrowed := true }
def VdpNamesUptoSaid : Prop := vdpNamesUptoRow.holds Try.pinned (OpenSpec.upto vdpNamesSpec)

/-- 'joysticklaw20.VdpPredicts', WHERE WHAT IT READS IS OF BULK AT MOST 1048576: true; the input reads as it did. -/
def vdpPredictsUptoRow : OpenClaim := { program := "ytkeboecppefiiaa", sum := "65de9792ba44459314752244035403415fcd3291c8afa69fbab57d601bccb4ac", func := "joystick/joysticklaw20.VdpPredicts", spec := "vdpPredicts", apart := false, narrowed := true }
def VdpPredictsUptoSaid : Prop := vdpPredictsUptoRow.holds Try.pinned (OpenSpec.upto vdpPredictsSpec)

/-- 'joysticklaw20.VdpBack', WHERE WHAT IT READS IS OF BULK AT MOST 1048576: true; the input reads as it did. -/
def vdpBackUptoRow : OpenClaim := { program := "ytkeboecppefiiaa", sum := "65de9792ba44459314752244035403415fcd3291c8afa69fbab57d601bccb4ac", func := "joystick/joysticklaw20.VdpBack", spec := "vdpBack", unfollowed := true, recurses := true, apart := false, narrowed := true }
def VdpBackUptoSaid : Prop := vdpBackUptoRow.holds Try.pinned (OpenSpec.upto vdpBackSpec)

end Rows
end Go.Proofs.Ytkeboecppefiiaa
