import Derived.Test.YtglkkfobkncbbaaJoyAbSimp
import Derived.Test.YtglkkfobkncbbaaProg
import Derived.KernelRfl
namespace Go.Proofs.Joy
open Go.Ab Go.Proofs
@[go_sem] theorem F.ty5 : tyA Try.prog 5 = some (false, 1) := by kernel_rfl
@[go_sem] theorem F.ty4 : tyA Try.prog 4 = some (false, 1) := by kernel_rfl
@[go_sem] theorem F.ty23 : tyA Try.prog 23 = some (true, 5) := by kernel_rfl
@[go_sem] theorem F.fld23_4 : fldT Try.prog 23 4 = some (4, false, 1) := by kernel_rfl
@[go_sem] theorem F.fld23_3 : fldT Try.prog 23 3 = some (3, false, 1) := by kernel_rfl
@[go_sem] theorem F.fld23_0 : fldT Try.prog 23 0 = some (0, false, 1) := by kernel_rfl
@[go_sem] theorem F.fld23_2 : fldT Try.prog 23 2 = some (2, false, 1) := by kernel_rfl
@[go_sem] theorem F.fld23_1 : fldT Try.prog 23 1 = some (1, false, 1) := by kernel_rfl
@[go_sem] theorem F.ix35 : ixT Try.prog 35 = some (none, false, 1) := by kernel_rfl
@[go_sem] theorem F.ix31 : ixT Try.prog 31 = some (some 3, false, 1) := by kernel_rfl
@[go_sem] theorem F.zero23 : zeroT Try.prog 23 = some ([.u8 0#8, .bo false, .bo false, .bo false, .bo false]) := by kernel_rfl
@[go_sem] theorem F.eq23 : eqT Try.prog 23 = some ([.int .u8, .bool, .bool, .bool, .bool]) := by kernel_rfl
@[go_sem] theorem F.kind23 : kindT Try.prog 23 = none := by kernel_rfl
@[go_sem] theorem F.kind4 : kindT Try.prog 4 = some .bool := by kernel_rfl
@[go_sem] theorem F.kind5 : kindT Try.prog 5 = none := by kernel_rfl
@[go_sem] theorem F.kind3 : kindT Try.prog 3 = none := by kernel_rfl
@[go_sem] theorem F.conv5_3 : convT Try.prog 5 3 = some (.int .i64) := by kernel_rfl
@[go_sem] theorem F.len35 : lenT Try.prog 35 = some .slice := by kernel_rfl
@[go_sem] theorem F.bld23 : bldT Try.prog 23 = true := by kernel_rfl
@[go_sem] theorem F.pl23_1 : plT Try.prog 23 1 = some (1, 1) := by kernel_rfl
@[go_sem] theorem F.pl23_2 : plT Try.prog 23 2 = some (2, 1) := by kernel_rfl
@[go_sem] theorem F.pl23_3 : plT Try.prog 23 3 = some (3, 1) := by kernel_rfl
@[go_sem] theorem F.pl23_0 : plT Try.prog 23 0 = some (0, 1) := by kernel_rfl
/-- joystick/joysticklaw15.EventWaits -/
@[go_sem] def dr3 : Nat → Draw
  | 1 => ⟨[0, 1, 3, 3, 3, 31, 3, 3, 3, 511, 1023, 2047, 4095], [(0, []), (1, []), (2, []), (3, []), (4, []), (6, []), (7, []), (8, []), (5, [6]), (9, []), (10, []), (11, []), (12, [])], []⟩
  | _ => {}
/-- joystick/joysticklaw15.EventRuns -/
@[go_sem] def dr7 : Nat → Draw
  | 27 => ⟨[0, 0, 3, 7, 15, 15, 15, 79, 255, 15, 15, 15, 2063, 8191, 16383, 32767], [(0, []), (1, []), (2, []), (3, []), (4, []), (5, []), (6, []), (7, []), (9, []), (10, []), (11, []), (12, []), (8, [9]), (13, []), (14, []), (15, [])], []⟩
  | _ => {}
/-- joystick/event.Status -/
@[go_sem] def dr12 : Nat → Draw
  | 1 => ⟨[0, 1, 3, 7, 0, 16, 55, 127, 0, 256, 887, 2047, 4095], [(0, []), (1, []), (4, []), (5, []), (8, []), (9, []), (2, [5, 9]), (3, []), (6, [9]), (7, []), (10, []), (11, []), (12, [])], []⟩
  | 2 => ⟨[0, 0, 2, 6, 1, 31], [(0, []), (1, []), (2, []), (3, []), (4, []), (5, [])], []⟩
  | _ => {}
def dr0 : Nat → Draw := fun _ => {}
end Go.Proofs.Joy
