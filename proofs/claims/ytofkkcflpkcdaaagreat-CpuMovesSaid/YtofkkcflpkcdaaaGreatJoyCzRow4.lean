/- The law CpuMoves comes to true of whatever input, and leaves all that it finds as it was. No condition. -/
import Derived.Test.YtofkkcflpkcdaaaGreatRows
import Derived.Test.YtofkkcflpkcdaaaGreatJoyX4
import Derived.Test.YtofkkcflpkcdaaaGreatJoyW1
import Derived.WalkKit
import Derived.ProofKit
import Derived.OpenShut
import Derived.ChangeOld
import Derived.Below
import Derived.SizedLaws
import Derived.Carry
namespace Go.Proofs.YtofkkcflpkcdaaaGreat.cpuMoves
open Go.ChangeShapes Go.WideShapes Go.ChangeAt Go.RowKit Go.Ab
set_option linter.unusedVariables false
set_option linter.unnecessarySimpa false
theorem own : ownKnob Tryz.prog.godebug = none := by kernel_rfl
theorem laid : laidOutB Tryz.prog = true := by kernel_rfl
def sh : List AK := [Joy.shR, Joy.shBs]
theorem shape : Tryz.f4.params.toList.map (argT Tryz.prog) = sh.map some := by kernel_rfl
theorem readable : (Tryz.f4.params.toList.all fun t => Tryz.prog.readableRec t && decide (t < Tryz.prog.types.size)) = true := by kernel_rfl
theorem three : Tryz.f4.params.toList.length = 2 := by kernel_rfl
set_option maxRecDepth 100000 in
theorem lifted (os : Os) (started : os.Started) (H : Type) (enc : TypeId × Value → H) :
    ReturnsInHanded {} Tryz.checked os 4 .any (Rows.cpuMovesSpec.pre6 enc Tryz.prog Tryz.f4 Rows.cpuMovesRow.domain false) (Rows.cpuMovesSpec.post enc Tryz.prog Tryz.f4 false true false false) := by
  refine returnsInHanded_of_change_sized (C := Tryz.checked) own started (by kernel_rfl) Tryz.func4
    (ChangeSpec.witness6 (enc := enc) (C := Tryz.checked) false ⟨#[], #[.agg #[.int .u8 0, .int .u8 0, .int .u8 0, .int .u8 0, .int .u8 0, .int .u8 0, .int .u8 0, .int .u8 0, .int .u8 0, .int .u8 0, .int .u8 0, .int .u8 0, .int .u8 0, .int .u8 0, .int .u8 0, .int .u8 0, .int .u16 0, .int .u16 0, .int .u16 0, .int .u16 0, .int .u16 0, .int .u8 0, .int .u8 0, .int .u8 0, .int .u8 0, .bool false, .bool false, .bool false, .bool false], .slice none 0 0], []⟩ 8 (by kernel_rfl) (by kernel_rfl) (by kernel_rfl) (by kernel_rfl)) ?_
  intro W base args ds gs before hval0 hW hcnd hsz0 _
  have hval : ∀ (j : Nat) t v, Tryz.f4.params[j]? = some t → args[j]? = some v → Value.okWide Tryz.prog W .any base t v := hval0
  have hW' := hW
  obtain ⟨p, q, hA0, hV, rfl, hfz, hnd⟩ := hW
  have hA : DataW.TrodAll enc Tryz.prog W 0 (fun _ => true) true Tryz.f4.params.toList args.toList ds p := hA0
  obtain ⟨rfl, rfl⟩ := trodVars_none hV
  have hlt := DataW.TrodAll.lt hA
  have hlen := trodAll_len hA
  rw [three] at hlen
  refine (law_calls_args Tryz.func4 (by decide +kernel) (by decide +kernel) shape (Joy.moves_all) hA (fun j t v ht hv => hval j t v (by simpa using ht) (by simpa using hv))).mono fun e W' ⟨he, bel⟩ => ?_
  subst he
  have hA2 := below_all laid bel readable hA hlt
  match ds, hlen with
  | [d0, d1], _ => exact ⟨_, rfl, _, _, _, [], _, [], hW', trodAll_mk1 (shut_bool Tryz.underlying4 _), hA2, rfl, bel.frame _, fun h => by cases h⟩
theorem over : Rows.cpuMovesRow.holds Tryz.pinned (OpenSpec.ofChange Rows.cpuMovesSpec) :=
  OpenClaim.holds_of_wide 4 Tryz.f4 rfl rfl rfl rfl rfl rfl rfl ⟨rfl, rfl, rfl, rfl, rfl⟩ rfl rfl rfl rfl rfl (by kernel_rfl) Tryz.func4 (by kernel_rfl)
    (of_decide_eq_true (by kernel_rfl)) (by unfold Func.isWrapper; first | (rw [if_pos (by decide +kernel)]; kernel_rfl) | (rw [if_neg (by decide +kernel)]; exact ⟨rfl, rfl⟩))
    (fun os started H enc _ => lifted os started H enc)
theorem proved : Rows.CpuMovesSaid := over
#print axioms proved
end Go.Proofs.YtofkkcflpkcdaaaGreat.cpuMoves
namespace Go.Proofs.YtofkkcflpkcdaaaGreat
/-- The row, under a short name, for the claim. -/
theorem cpuMoves_holds : Rows.CpuMovesSaid := cpuMoves.proved
end Go.Proofs.YtofkkcflpkcdaaaGreat
