/- The law CpuCopies comes to true of whatever input, and leaves all that it finds as it was. No condition. -/
import Derived.Test.YtofkkcflpkcdaaaRows
import Derived.Test.YtofkkcflpkcdaaaJoyX6
import Derived.Test.YtofkkcflpkcdaaaJoyW3
import Derived.WalkKit
import Derived.ProofKit
import Derived.OpenShut
import Derived.ChangeOld
import Derived.Below
import Derived.SizedLaws
import Derived.Carry
namespace Go.Proofs.Ytofkkcflpkcdaaa.cpuCopies
open Go.ChangeShapes Go.WideShapes Go.ChangeAt Go.RowKit Go.Ab
set_option linter.unusedVariables false
set_option linter.unnecessarySimpa false
theorem own : ownKnob Try.prog.godebug = none := by kernel_rfl
theorem laid : laidOutB Try.prog = true := by kernel_rfl
def sh : List AK := [.one (.k (.int .u16)), .one (.k (.int .u16)), .one (.k (.int .i64))]
theorem shape : Try.f4.params.toList.map (argT Try.prog) = sh.map some := by kernel_rfl
theorem readable : (Try.f4.params.toList.all fun t => Try.prog.readableRec t && decide (t < Try.prog.types.size)) = true := by kernel_rfl
theorem three : Try.f4.params.toList.length = 3 := by kernel_rfl
set_option maxRecDepth 100000 in
theorem lifted (os : Os) (started : os.Started) (H : Type) (enc : TypeId × Value → H) :
    ReturnsInHanded {} Try.checked os 4 .any (Rows.cpuCopiesSpec.pre6 enc Try.prog Try.f4 Rows.cpuCopiesRow.domain false) (Rows.cpuCopiesSpec.post enc Try.prog Try.f4 false true false false) := by
  refine returnsInHanded_of_change_sized (C := Try.checked) own started (by kernel_rfl) Try.func4
    (ChangeSpec.witness6 (enc := enc) (C := Try.checked) false ⟨#[], #[.int .u16 0, .int .u16 0, .int .i64 0], []⟩ 8 (by kernel_rfl) (by kernel_rfl) (by kernel_rfl) (by kernel_rfl)) ?_
  intro W base args ds gs before hval0 hW hcnd hsz0 _
  have hval : ∀ (j : Nat) t v, Try.f4.params[j]? = some t → args[j]? = some v → Value.okWide Try.prog W .any base t v := hval0
  have hW' := hW
  obtain ⟨p, q, hA0, hV, rfl, hfz, hnd⟩ := hW
  have hA : DataW.TrodAll enc Try.prog W 0 (fun _ => true) true Try.f4.params.toList args.toList ds p := hA0
  obtain ⟨rfl, rfl⟩ := trodVars_none hV
  have hlt := DataW.TrodAll.lt hA
  have hlen := trodAll_len hA
  rw [three] at hlen
  refine (law_calls_args Try.func4 (by decide +kernel) (by decide +kernel) shape (Joy.copies_all) hA (fun j t v ht hv => hval j t v (by simpa using ht) (by simpa using hv))).mono fun e W' ⟨he, bel⟩ => ?_
  subst he
  have hA2 := below_all laid bel readable hA hlt
  match ds, hlen with
  | [d0, d1, d2], _ => exact ⟨_, rfl, _, _, _, [], _, [], hW', trodAll_mk1 (shut_bool Try.underlying4 _), hA2, rfl, bel.frame _, fun h => by cases h⟩
theorem over : Rows.cpuCopiesRow.holds Try.pinned (OpenSpec.ofChange Rows.cpuCopiesSpec) :=
  OpenClaim.holds_of_wide 4 Try.f4 rfl rfl rfl rfl rfl rfl rfl ⟨rfl, rfl, rfl, rfl, rfl⟩ rfl rfl rfl rfl rfl (by kernel_rfl) Try.func4 (by kernel_rfl)
    (of_decide_eq_true (by kernel_rfl)) (by unfold Func.isWrapper; first | (rw [if_pos (by decide +kernel)]; kernel_rfl) | (rw [if_neg (by decide +kernel)]; exact ⟨rfl, rfl⟩))
    (fun os started H enc _ => lifted os started H enc)
theorem proved : Rows.CpuCopiesSaid := over
#print axioms proved
end Go.Proofs.Ytofkkcflpkcdaaa.cpuCopies
namespace Go.Proofs.Ytofkkcflpkcdaaa
/-- The row, under a short name, for the claim. -/
theorem cpuCopies_holds : Rows.CpuCopiesSaid := cpuCopies.proved
end Go.Proofs.Ytofkkcflpkcdaaa
