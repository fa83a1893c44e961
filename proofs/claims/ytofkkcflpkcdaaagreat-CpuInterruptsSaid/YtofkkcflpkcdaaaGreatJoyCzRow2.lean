/- The law CpuInterrupts comes to true of whatever input, and leaves all that it finds as it was. No condition. -/
import Derived.Test.YtofkkcflpkcdaaaGreatRows
import Derived.Test.YtofkkcflpkcdaaaGreatJoyX4
import Derived.Test.YtofkkcflpkcdaaaGreatJoyW1
import Derived.WalkKit
import Derived.ProofKit
import Derived.OpenShut
import Derived.ChangeOld
import Derived.Below
import Derived.SizedLaws
import Derived.Carry
namespace Go.Proofs.YtofkkcflpkcdaaaGreat.cpuInterrupts
open Go.ChangeShapes Go.WideShapes Go.ChangeAt Go.RowKit Go.Ab
set_option linter.unusedVariables false
set_option linter.unnecessarySimpa false
theorem own : ownKnob Tryz.prog.godebug = none := by kernel_rfl
theorem laid : laidOutB Tryz.prog = true := by kernel_rfl
def sh : List AK := [Joy.shR, .one (.k .bool), .one (.k .bool)]
theorem shape : Tryz.f6.params.toList.map (argT Tryz.prog) = sh.map some := by kernel_rfl
theorem readable : (Tryz.f6.params.toList.all fun t => Tryz.prog.readableRec t && decide (t < Tryz.prog.types.size)) = true := by kernel_rfl
theorem three : Tryz.f6.params.toList.length = 3 := by kernel_rfl
set_option maxRecDepth 100000 in
theorem lifted (os : Os) (started : os.Started) (H : Type) (enc : TypeId × Value → H) :
    ReturnsInHanded {} Tryz.checked os 6 .any (Rows.cpuInterruptsSpec.pre6 enc Tryz.prog Tryz.f6 Rows.cpuInterruptsRow.domain false) (Rows.cpuInterruptsSpec.post enc Tryz.prog Tryz.f6 false true false false) := by
  refine returnsInHanded_of_change_sized (C := Tryz.checked) own started (by kernel_rfl) Tryz.func6
    (ChangeSpec.witness6 (enc := enc) (C := Tryz.checked) false ⟨#[], #[.agg #[.int .u8 0, .int .u8 0, .int .u8 0, .int .u8 0, .int .u8 0, .int .u8 0, .int .u8 0, .int .u8 0, .int .u8 0, .int .u8 0, .int .u8 0, .int .u8 0, .int .u8 0, .int .u8 0, .int .u8 0, .int .u8 0, .int .u16 0, .int .u16 0, .int .u16 0, .int .u16 0, .int .u16 0, .int .u8 0, .int .u8 0, .int .u8 0, .int .u8 0, .bool false, .bool false, .bool false, .bool false], .bool false, .bool false], []⟩ 8 (by kernel_rfl) (by kernel_rfl) (by kernel_rfl) (by kernel_rfl)) ?_
  intro W base args ds gs before hval0 hW hcnd hsz0 _
  have hval : ∀ (j : Nat) t v, Tryz.f6.params[j]? = some t → args[j]? = some v → Value.okWide Tryz.prog W .any base t v := hval0
  have hW' := hW
  obtain ⟨p, q, hA0, hV, rfl, hfz, hnd⟩ := hW
  have hA : DataW.TrodAll enc Tryz.prog W 0 (fun _ => true) true Tryz.f6.params.toList args.toList ds p := hA0
  obtain ⟨rfl, rfl⟩ := trodVars_none hV
  have hlt := DataW.TrodAll.lt hA
  have hlen := trodAll_len hA
  rw [three] at hlen
  refine (law_calls_args Tryz.func6 (by decide +kernel) (by decide +kernel) shape (Joy.interrupts_all) hA (fun j t v ht hv => hval j t v (by simpa using ht) (by simpa using hv))).mono fun e W' ⟨he, bel⟩ => ?_
  subst he
  have hA2 := below_all laid bel readable hA hlt
  match ds, hlen with
  | [d0, d1, d2], _ => exact ⟨_, rfl, _, _, _, [], _, [], hW', trodAll_mk1 (shut_bool Tryz.underlying4 _), hA2, rfl, bel.frame _, fun h => by cases h⟩
theorem over : Rows.cpuInterruptsRow.holds Tryz.pinned (OpenSpec.ofChange Rows.cpuInterruptsSpec) :=
  OpenClaim.holds_of_wide 6 Tryz.f6 rfl rfl rfl rfl rfl rfl rfl ⟨rfl, rfl, rfl, rfl, rfl⟩ rfl rfl rfl rfl rfl (by kernel_rfl) Tryz.func6 (by kernel_rfl)
    (of_decide_eq_true (by kernel_rfl)) (by unfold Func.isWrapper; first | (rw [if_pos (by decide +kernel)]; kernel_rfl) | (rw [if_neg (by decide +kernel)]; exact ⟨rfl, rfl⟩))
    (fun os started H enc _ => lifted os started H enc)
theorem proved : Rows.CpuInterruptsSaid := over
#print axioms proved
end Go.Proofs.YtofkkcflpkcdaaaGreat.cpuInterrupts
namespace Go.Proofs.YtofkkcflpkcdaaaGreat
/-- The row, under a short name, for the claim. -/
theorem cpuInterrupts_holds : Rows.CpuInterruptsSaid := cpuInterrupts.proved
end Go.Proofs.YtofkkcflpkcdaaaGreat
