/-
  No cell of these rows narrows 'for every input' (looked for: loops, veiled, ifaces, maps, wideKeys, modest, calm, conditions, laid).
  DERIVED. THE GIVEN ROWS OF THIS SEAT. 6 by the template 'for every input the law returns true; each argument reads behind the call as it read before'; 0 by the template 'total and deterministic' (their statements: YtgmlfmfpebbbeaaTotals.lean).
  GIVEN WITH THE SEED: the statements are not yours to turn. If you find one false, say at which input.
  Laid BY PROGRAM, IN A SANDBOX (cutbox-rows.mjs): the forced cells as the released guide's own fill.sh prints them over the translation 8bfc36cfdea0399e… (all of the seat's roots in one cut). By AI agents, Wed Nov 11 2026. No macro, syntax, notation, axiom, sorry.
-/
import Derived.Test.YtgmlfmfpebbbeaaChecked
import GoSem.Claim
import GoSem.ClaimJoined
import GoSem.ClaimMapViews
import Derived.JoinedTies
import Derived.KernelRfl
namespace Go.Proofs.Ytgmlfmfpebbbeaa
/- THE CELL 'sum', in the pinned program and in every row, IS THE sha256 OF THE DUMP (.gsa) THAT YtgmlfmfpebbbeaaProg.lean LOADS. Nothing in Lean hashes anything: it is a label: what it is worth is what the hold of that sum in a sandbox is worth. -/
noncomputable def Try.pinned : Pinned := { name := "ytgmlfmfpebbbeaa", sum := "8bfc36cfdea0399e299ade1b1d5da8fbb8434baf277af0f1627fed66f457cfe4", checked := Try.checked }
namespace Rows
def none {H : Type} : Left H := { results := [], args := [] }

/-- 'joysticklaw02.BusSees': WHATEVER THE INPUT: true; the input reads as it did. -/
def busSeesSpec : ChangeSpec := { name := "busSees", fn := fun _ => fun
  | [d1, d2, d3] => { results := [.lit (.bool true)], args := [d1, d2, d3] }
  | _ => none }
def busSeesRow : OpenClaim := { program := "ytgmlfmfpebbbeaa", sum := "8bfc36cfdea0399e299ade1b1d5da8fbb8434baf277af0f1627fed66f457cfe4", func := "joystick/joysticklaw02.BusSees", spec := "busSees", apart := false }
def BusSeesSaid : Prop := busSeesRow.holds Try.pinned (OpenSpec.ofChange busSeesSpec)

/-- ITS FALSE NEIGHBOUR: 'it returns false'. Refute it at one input. -/
def busSeesWrong : ChangeSpec := { name := "busSees", fn := fun _ => fun
  | [d1, d2, d3] => { results := [.lit (.bool false)], args := [d1, d2, d3] }
  | _ => none }
def BusSeesWrongFalsely : Prop := busSeesRow.holds Try.pinned (OpenSpec.ofChange busSeesWrong)

/-- 'joysticklaw02.BusPapers': WHATEVER THE INPUT: true; the input reads as it did. -/
def busPapersSpec : ChangeSpec := { name := "busPapers", fn := fun _ => fun
  | [d1, d2, d3] => { results := [.lit (.bool true)], args := [d1, d2, d3] }
  | _ => none }
def busPapersRow : OpenClaim := { program := "ytgmlfmfpebbbeaa", sum := "8bfc36cfdea0399e299ade1b1d5da8fbb8434baf277af0f1627fed66f457cfe4", func := "joystick/joysticklaw02.BusPapers", spec := "busPapers", apart := false }
def BusPapersSaid : Prop := busPapersRow.holds Try.pinned (OpenSpec.ofChange busPapersSpec)

/-- ITS FALSE NEIGHBOUR: 'it returns false'. Refute it at one input. -/
def busPapersWrong : ChangeSpec := { name := "busPapers", fn := fun _ => fun
  | [d1, d2, d3] => { results := [.lit (.bool false)], args := [d1, d2, d3] }
  | _ => none }
def BusPapersWrongFalsely : Prop := busPapersRow.holds Try.pinned (OpenSpec.ofChange busPapersWrong)

/-- 'joysticklaw02.BusShows': WHATEVER THE INPUT: true; the input reads as it did. -/
def busShowsSpec : ChangeSpec := { name := "busShows", fn := fun _ => fun
  | [d1, d2, d3] => { results := [.lit (.bool true)], args := [d1, d2, d3] }
  | _ => none }
def busShowsRow : OpenClaim := { program := "ytgmlfmfpebbbeaa", sum := "8bfc36cfdea0399e299ade1b1d5da8fbb8434baf277af0f1627fed66f457cfe4", func := "joystick/joysticklaw02.BusShows", spec := "busShows", apart := false }
def BusShowsSaid : Prop := busShowsRow.holds Try.pinned (OpenSpec.ofChange busShowsSpec)

/-- ITS FALSE NEIGHBOUR: 'it returns false'. Refute it at one input. -/
def busShowsWrong : ChangeSpec := { name := "busShows", fn := fun _ => fun
  | [d1, d2, d3] => { results := [.lit (.bool false)], args := [d1, d2, d3] }
  | _ => none }
def BusShowsWrongFalsely : Prop := busShowsRow.holds Try.pinned (OpenSpec.ofChange busShowsWrong)

/-- 'joysticklaw02.BusNames': WHATEVER THE INPUT: true; the input reads as it did. -/
def busNamesSpec : ChangeSpec := { name := "busNames", fn := fun _ => fun
  | [] => { results := [.lit (.bool true)], args := [] }
  | _ => none }
def busNamesRow : OpenClaim := { program := "ytgmlfmfpebbbeaa", sum := "8bfc36cfdea0399e299ade1b1d5da8fbb8434baf277af0f1627fed66f457cfe4", func := "joystick/joysticklaw02.BusNames", spec := "busNames", apart := false }
def BusNamesSaid : Prop := busNamesRow.holds Try.pinned (OpenSpec.ofChange busNamesSpec)

/-- ITS FALSE NEIGHBOUR: 'it returns false'. Refute it at one input. -/
def busNamesWrong : ChangeSpec := { name := "busNames", fn := fun _ => fun
  | [] => { results := [.lit (.bool false)], args := [] }
  | _ => none }
def BusNamesWrongFalsely : Prop := busNamesRow.holds Try.pinned (OpenSpec.ofChange busNamesWrong)

/-- 'joysticklaw02.BusRuns': WHATEVER THE INPUT: true; the input reads as it did. -/
def busRunsSpec : ChangeSpec := { name := "busRuns", fn := fun _ => fun
  | [d1, d2] => { results := [.lit (.bool true)], args := [d1, d2] }
  | _ => none }
def busRunsRow : OpenClaim := { program := "ytgmlfmfpebbbeaa", sum := "8bfc36cfdea0399e299ade1b1d5da8fbb8434baf277af0f1627fed66f457cfe4", func := "joystick/joysticklaw02.BusRuns", spec := "busRuns", apart := false }
def BusRunsSaid : Prop := busRunsRow.holds Try.pinned (OpenSpec.ofChange busRunsSpec)

/-- ITS FALSE NEIGHBOUR: 'it returns false'. Refute it at one input. -/
def busRunsWrong : ChangeSpec := { name := "busRuns", fn := fun _ => fun
  | [d1, d2] => { results := [.lit (.bool false)], args := [d1, d2] }
  | _ => none }
def BusRunsWrongFalsely : Prop := busRunsRow.holds Try.pinned (OpenSpec.ofChange busRunsWrong)

/-- 'joysticklaw02.BusKeeps': WHATEVER THE INPUT: true; the input reads as it did. -/
def busKeepsSpec : ChangeSpec := { name := "busKeeps", fn := fun _ => fun
  | [d1, d2, d3] => { results := [.lit (.bool true)], args := [d1, d2, d3] }
  | _ => none }
def busKeepsRow : OpenClaim := { program := "ytgmlfmfpebbbeaa", sum := "8bfc36cfdea0399e299ade1b1d5da8fbb8434baf277af0f1627fed66f457cfe4", func := "joystick/joysticklaw02.BusKeeps", spec := "busKeeps", apart := false }
def BusKeepsSaid : Prop := busKeepsRow.holds Try.pinned (OpenSpec.ofChange busKeepsSpec)

/-- ITS FALSE NEIGHBOUR: 'it returns false'. Refute it at one input. -/
def busKeepsWrong : ChangeSpec := { name := "busKeeps", fn := fun _ => fun
  | [d1, d2, d3] => { results := [.lit (.bool false)], args := [d1, d2, d3] }
  | _ => none }
def BusKeepsWrongFalsely : Prop := busKeepsRow.holds Try.pinned (OpenSpec.ofChange busKeepsWrong)

/- THE SECOND FORM. 'bulk': how many values and letters a reading holds, each counted each time it is reached (what is shared counts as often as it is met; a slice's spare places count too). A statement '..UptoSaid' is the law's where the arguments, and the package variables that the reading takes, are together of bulk at most 1048576: NARROWER than '..Said'. Prove '..Said' where nothing that the law and all that it calls make is longer than what came in: it says more and counts as full. Else prove '..UptoSaid'. A law counts once. -/
mutual
def uptoBulk {H : Type} : DataW H → Nat
  | .lit (.string bytes) => bytes.length + 1
  | .lit _ => 1
  | .nil => 1
  | .ptr d => uptoBulk d + 1
  | .slice elems spare => uptoBulkAll elems + uptoBulkAll spare + 1
  | .agg parts => uptoBulkAll parts + 1
  | .iface _ d => uptoBulk d + 1
  | .map entries => uptoBulkEntries entries + 1
  | .held _ => 1
def uptoBulkAll {H : Type} : List (DataW H) → Nat
  | [] => 0
  | d :: r => uptoBulk d + uptoBulkAll r
def uptoBulkEntries {H : Type} : List (Lit × DataW H) → Nat
  | [] => 0
  | x :: r => uptoBulkEntry x + uptoBulkEntries r
def uptoBulkEntry {H : Type} : Lit × DataW H → Nat
  | (.string bytes, d) => bytes.length + uptoBulk d + 1
  | (_, d) => uptoBulk d + 1
 end
def uptoSmall : (H : Type) → List (DataW H) → Bool := fun _ ds => decide (uptoBulkAll ds ≤ 1048576)
def OpenSpec.upto (s : _root_.Go.ChangeSpec) : _root_.Go.OpenSpec := { _root_.Go.OpenSpec.ofChange s with cond := some uptoSmall }

/-- 'joysticklaw02.BusSees', WHERE WHAT IT READS IS OF BULK AT MOST 1048576: true; the input reads as it did. -/
def busSeesUptoRow : OpenClaim := { program := "ytgmlfmfpebbbeaa", sum := "8bfc36cfdea0399e299ade1b1d5da8fbb8434baf277af0f1627fed66f457cfe4", func := "joystick/joysticklaw02.BusSees", spec := "busSees", apart := false, narrowed := true }
def BusSeesUptoSaid : Prop := busSeesUptoRow.holds Try.pinned (OpenSpec.upto busSeesSpec)

/-- 'joysticklaw02.BusPapers', WHERE WHAT IT READS IS OF BULK AT MOST 1048576: true; the input reads as it did. -/
def busPapersUptoRow : OpenClaim := { program := "ytgmlfmfpebbbeaa", sum := "8bfc36cfdea0399e299ade1b1d5da8fbb8434baf277af0f1627fed66f457cfe4", func := "joystick/joysticklaw02.BusPapers", spec := "busPapers", apart := false, narrowed := true }
def BusPapersUptoSaid : Prop := busPapersUptoRow.holds Try.pinned (OpenSpec.upto busPapersSpec)

/-- 'joysticklaw02.BusShows', WHERE WHAT IT READS IS OF BULK AT MOST 1048576: true; the input reads as it did. -/
def busShowsUptoRow : OpenClaim := { program := "ytgmlfmfpebbbeaa", sum := "8bfc36cfdea0399e299ade1b1d5da8fbb8434baf277af0f1627fed66f457cfe4", func := "joystick/joysticklaw02.BusShows", spec := "busShows", apart := false, narrowed := true }
def BusShowsUptoSaid : Prop := busShowsUptoRow.holds Try.pinned (OpenSpec.upto busShowsSpec)

/-- 'joysticklaw02.BusNames', WHERE WHAT IT READS IS OF BULK AT MOST 1048576: true; the input reads as it did. -/
def busNamesUptoRow : OpenClaim := { program := "ytgmlfmfpebbbeaa", sum := "8bfc36cfdea0399e299ade1b1d5da8fbb8434baf277af0f1627fed66f457cfe4", func := "joystick/joysticklaw02.BusNames", spec := "busNames", apart := false, narrowed := true }
def BusNamesUptoSaid : Prop := busNamesUptoRow.holds Try.pinned (OpenSpec.upto busNamesSpec)

/-- 'joysticklaw02.BusRuns', WHERE WHAT IT READS IS OF BULK AT MOST 1048576: true; the input reads as it did. -/
def busRunsUptoRow : OpenClaim := { program := "ytgmlfmfpebbbeaa", sum := "8bfc36cfdea0399e299ade1b1d5da8fbb8434baf277af0f1627fed66f457cfe4", func := "joystick/joysticklaw02.BusRuns", spec := "busRuns", apart := false, narrowed := true }
def BusRunsUptoSaid : Prop := busRunsUptoRow.holds Try.pinned (OpenSpec.upto busRunsSpec)

/-- 'joysticklaw02.BusKeeps', WHERE WHAT IT READS IS OF BULK AT MOST 1048576: true; the input reads as it did. -/
def busKeepsUptoRow : OpenClaim := { program := "ytgmlfmfpebbbeaa", sum := "8bfc36cfdea0399e299ade1b1d5da8fbb8434baf277af0f1627fed66f457cfe4", func := "joystick/joysticklaw02.BusKeeps", spec := "busKeeps", apart := false, narrowed := true }
def BusKeepsUptoSaid : Prop := busKeepsUptoRow.holds Try.pinned (OpenSpec.upto busKeepsSpec)

end Rows
end Go.Proofs.Ytgmlfmfpebbbeaa
