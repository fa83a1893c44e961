/- Parts of the proof: contracts of the seat's functions. -/
import Derived.Test.YthagahhghofpgaaJoyW2
import Derived.Test.YthagahhghofpgaaProg
import Derived.KernelRfl
import Derived.Test.YthagahhghofpgaaJoyW3
namespace Go.Proofs.Joy
open Go.Ab Go.Proofs
@[go_sem] theorem F.ty56 : tyA Try.prog 56 = some (true, 5) := by kernel_rfl
@[go_sem] theorem F.ty54 : tyA Try.prog 54 = some (false, 1) := by kernel_rfl
@[go_sem] theorem F.ty22 : tyA Try.prog 22 = some (false, 1) := by kernel_rfl
@[go_sem] theorem F.ty35 : tyA Try.prog 35 = some (true, 11) := by kernel_rfl
@[go_sem] theorem F.ty4 : tyA Try.prog 4 = some (false, 1) := by kernel_rfl
@[go_sem] theorem F.ty3 : tyA Try.prog 3 = some (false, 1) := by kernel_rfl
@[go_sem] theorem F.ty41 : tyA Try.prog 41 = some (true, 3) := by kernel_rfl
@[go_sem] theorem F.ty5 : tyA Try.prog 5 = some (false, 1) := by kernel_rfl
@[go_sem] theorem F.fld45_6 : fldT Try.prog 45 6 = some (6, false, 1) := by kernel_rfl
@[go_sem] theorem F.fld45_4 : fldT Try.prog 45 4 = some (4, false, 1) := by kernel_rfl
@[go_sem] theorem F.fld45_3 : fldT Try.prog 45 3 = some (3, false, 1) := by kernel_rfl
@[go_sem] theorem F.fld45_5 : fldT Try.prog 45 5 = some (5, false, 1) := by kernel_rfl
@[go_sem] theorem F.fld56_3 : fldT Try.prog 56 3 = some (3, false, 1) := by kernel_rfl
@[go_sem] theorem F.fld58_0 : fldT Try.prog 58 0 = some (0, true, 16384) := by kernel_rfl
@[go_sem] theorem F.fld58_1 : fldT Try.prog 58 1 = some (16384, true, 32) := by kernel_rfl
@[go_sem] theorem F.fld58_2 : fldT Try.prog 58 2 = some (16416, true, 11) := by kernel_rfl
@[go_sem] theorem F.fld56_1 : fldT Try.prog 56 1 = some (1, false, 1) := by kernel_rfl
@[go_sem] theorem F.fld56_0 : fldT Try.prog 56 0 = some (0, false, 1) := by kernel_rfl
@[go_sem] theorem F.fld56_2 : fldT Try.prog 56 2 = some (2, false, 1) := by kernel_rfl
@[go_sem] theorem F.fld56_4 : fldT Try.prog 56 4 = some (4, false, 1) := by kernel_rfl
@[go_sem] theorem F.fld58_3 : fldT Try.prog 58 3 = some (16427, true, 5) := by kernel_rfl
@[go_sem] theorem F.fld45_1 : fldT Try.prog 45 1 = some (1, false, 1) := by kernel_rfl
@[go_sem] theorem F.fld45_0 : fldT Try.prog 45 0 = some (0, false, 1) := by kernel_rfl
@[go_sem] theorem F.fld45_2 : fldT Try.prog 45 2 = some (2, false, 1) := by kernel_rfl
@[go_sem] theorem F.fld41_1 : fldT Try.prog 41 1 = some (1, false, 1) := by kernel_rfl
@[go_sem] theorem F.fld45_7 : fldT Try.prog 45 7 = some (7, false, 1) := by kernel_rfl
@[go_sem] theorem F.fld41_2 : fldT Try.prog 41 2 = some (2, false, 1) := by kernel_rfl
@[go_sem] theorem F.fld41_0 : fldT Try.prog 41 0 = some (0, false, 1) := by kernel_rfl
@[go_sem] theorem F.ix64 : ixT Try.prog 64 = some (none, false, 1) := by kernel_rfl
@[go_sem] theorem F.ix52 : ixT Try.prog 52 = some (some 16384, false, 1) := by kernel_rfl
@[go_sem] theorem F.ix53 : ixT Try.prog 53 = some (some 32, false, 1) := by kernel_rfl
@[go_sem] theorem F.ix35 : ixT Try.prog 35 = some (some 11, false, 1) := by kernel_rfl
@[go_sem] theorem F.ix37 : ixT Try.prog 37 = some (none, true, 3) := by kernel_rfl
@[go_sem] theorem F.ix22 : ixT Try.prog 22 = some (none, false, 1) := by kernel_rfl
@[go_sem] theorem F.zero5 : zeroT Try.prog 5 = some ([.u8 0#8]) := by kernel_rfl
@[go_sem] theorem F.zero22 : zeroT Try.prog 22 = some ([.sn]) := by kernel_rfl
@[go_sem] theorem F.zero45 : zeroT Try.prog 45 = some ([.sn, .sn, .sn, .i64 0, .i64 0, .i64 0, .i64 0, .bo false]) := by kernel_rfl
@[go_sem] theorem F.zero56 : zeroT Try.prog 56 = some ([.u16 0#16, .u8 0#8, .u8 0#8, .u8 0#8, .bo false]) := by kernel_rfl
set_option maxRecDepth 1000000 in
@[go_sem] theorem F.zero58 : zeroT Try.prog 58 = some (List.replicate 16427 (.u8 0#8) ++ [.u16 0#16, .u8 0#8, .u8 0#8, .u8 0#8, .bo false]) := by kernel_rfl
@[go_sem] theorem F.zero41 : zeroT Try.prog 41 = some ([.i64 0, .i64 0, .u8 0#8]) := by kernel_rfl
@[go_sem] theorem F.zero35 : zeroT Try.prog 35 = some ([.u8 0#8, .u8 0#8, .u8 0#8, .u8 0#8, .u8 0#8, .u8 0#8, .u8 0#8, .u8 0#8, .u8 0#8, .u8 0#8, .u8 0#8]) := by kernel_rfl
@[go_sem] theorem F.el64 : elT Try.prog 64 = some (22, 1, 24) := by kernel_rfl
@[go_sem] theorem F.el22 : elT Try.prog 22 = some (5, 1, 1) := by kernel_rfl
@[go_sem] theorem F.eq35 : eqT Try.prog 35 = some ([.int .u8, .int .u8, .int .u8, .int .u8, .int .u8, .int .u8, .int .u8, .int .u8, .int .u8, .int .u8, .int .u8]) := by kernel_rfl
@[go_sem] theorem F.kind22 : kindT Try.prog 22 = some .slice := by kernel_rfl
@[go_sem] theorem F.kind24 : kindT Try.prog 24 = some .ptr := by kernel_rfl
@[go_sem] theorem F.kind35 : kindT Try.prog 35 = none := by kernel_rfl
@[go_sem] theorem F.kind32 : kindT Try.prog 32 = none := by kernel_rfl
@[go_sem] theorem F.kind3 : kindT Try.prog 3 = none := by kernel_rfl
@[go_sem] theorem F.kind9 : kindT Try.prog 9 = none := by kernel_rfl
@[go_sem] theorem F.kind5 : kindT Try.prog 5 = none := by kernel_rfl
@[go_sem] theorem F.conv54_5 : convT Try.prog 54 5 = some (.int .u8) := by kernel_rfl
@[go_sem] theorem F.conv5_54 : convT Try.prog 5 54 = some (.int .u16) := by kernel_rfl
@[go_sem] theorem F.conv3_5 : convT Try.prog 3 5 = some (.int .u8) := by kernel_rfl
@[go_sem] theorem F.conv22_9 : convT Try.prog 22 9 = some .b2s := by kernel_rfl
@[go_sem] theorem F.conv5_3 : convT Try.prog 5 3 = some (.int .i64) := by kernel_rfl
@[go_sem] theorem F.nif9 : notIface Try.prog 9 = true := by kernel_rfl
@[go_sem] theorem F.len64 : lenT Try.prog 64 = some .slice := by kernel_rfl
@[go_sem] theorem F.len37 : lenT Try.prog 37 = some .slice := by kernel_rfl
@[go_sem] theorem F.len22 : lenT Try.prog 22 = some .slice := by kernel_rfl
@[go_sem] theorem F.nint3 : notIntT Try.prog 3 = false := by kernel_rfl
@[go_sem] theorem F.int3 : intT Try.prog 3 = true := by kernel_rfl
@[go_sem] theorem F.nint22 : notIntT Try.prog 22 = true := by kernel_rfl
@[go_sem] theorem F.app22 : appT Try.prog 22 = some ⟨5, 1, 1, [.u8 0#8]⟩ := by kernel_rfl
@[go_sem] theorem F.bld45 : bldT Try.prog 45 = true := by kernel_rfl
@[go_sem] theorem F.bld56 : bldT Try.prog 56 = true := by kernel_rfl
@[go_sem] theorem F.bld58 : bldT Try.prog 58 = true := by kernel_rfl
@[go_sem] theorem F.bld35 : bldT Try.prog 35 = true := by kernel_rfl
@[go_sem] theorem F.pl45_2 : plT Try.prog 45 2 = some (2, 1) := by kernel_rfl
@[go_sem] theorem F.pl45_1 : plT Try.prog 45 1 = some (1, 1) := by kernel_rfl
@[go_sem] theorem F.pl45_0 : plT Try.prog 45 0 = some (0, 1) := by kernel_rfl
@[go_sem] theorem F.pl56_3 : plT Try.prog 56 3 = some (3, 1) := by kernel_rfl
@[go_sem] theorem F.pl56_4 : plT Try.prog 56 4 = some (4, 1) := by kernel_rfl
@[go_sem] theorem F.pl56_2 : plT Try.prog 56 2 = some (2, 1) := by kernel_rfl
@[go_sem] theorem F.pl56_1 : plT Try.prog 56 1 = some (1, 1) := by kernel_rfl
@[go_sem] theorem F.pl56_0 : plT Try.prog 56 0 = some (0, 1) := by kernel_rfl
-- joystick/joysticklaw13.PortColors
@[go_sem] def tr3_20 : DT := .op 0 (.fork 1 [] (.fork 2 [] (.fork 3 [] (.fork 4 [] (.op 5 (.op 6 (.done))) (.stop)) (.stop)) (.fork 3 [] (.fork 2 [] (.fork 4 [] (.op 5 (.op 6 (.done))) (.stop)) (.fork 4 [] (.fork 2 [] (.op 5 (.op 6 (.done))) (.stop)) (.stop))) (.stop))) (.fork 3 [] (.fork 1 [] (.fork 2 [] (.fork 4 [] (.op 5 (.op 6 (.done))) (.stop)) (.fork 4 [] (.fork 2 [] (.op 5 (.op 6 (.done))) (.stop)) (.stop))) (.fork 4 [] (.fork 1 [] (.fork 2 [] (.op 5 (.op 6 (.done))) (.stop)) (.stop)) (.stop))) (.stop)))
def td3_20 : Draw := ⟨[0, 1, 3, 0, 8, 31, 63], [], []⟩
@[go_sem] def dr3 : Nat → Draw
  | 20 => ⟨[0, 1, 3, 0, 8, 31, 63], [(0, []), (1, []), (2, []), (3, []), (4, []), (5, []), (6, [])], [(3, 56)]⟩
  | _ => {}
-- joystick/joysticklaw13.PortRuns
@[go_sem] def tr6_33 : DT := .op 0 (.op 2 (.op 3 (.op 4 (.op 5 (.fork 1 [5] (.fork 6 [] (.op 7 (.op 8 (.op 9 (.op 10 (.op 12 (.op 13 (.op 14 (.fork 11 [14] (.op 15 (.op 16 (.done))) (.stop))))))))) (.stop)) (.fork 6 [] (.fork 1 [5] (.op 7 (.op 8 (.op 9 (.op 10 (.op 12 (.op 13 (.op 14 (.fork 11 [14] (.op 15 (.op 16 (.done))) (.stop))))))))) (.stop)) (.stop)))))))
def td6_33 : Draw := ⟨[0, 1, 0, 4, 12, 28, 60, 127, 255, 511, 511, 2047, 511, 4607, 12799, 32767, 65535], [], []⟩
@[go_sem] def tr6_36 : DT := .op 0 (.op 3 (.fork 1 [] (.fork 2 [] (.fork 4 [] (.fork 5 [] (.op 6 (.op 7 (.op 8 (.op 11 (.op 12 (.op 13 (.op 14 (.fork 9 [14] (.fork 10 [14] (.fork 15 [] (.op 16 (.op 17 (.op 18 (.op 19 (.op 22 (.op 23 (.op 24 (.op 25 (.fork 20 [25] (.fork 21 [25] (.fork 26 [] (.op 27 (.op 28 (.op 29 (.done)))) (.stop)) (.fork 26 [] (.fork 21 [25] (.op 27 (.op 28 (.op 29 (.done)))) (.stop)) (.stop))) (.fork 26 [] (.fork 20 [25] (.fork 21 [25] (.op 27 (.op 28 (.op 29 (.done)))) (.stop)) (.stop)) (.stop))))))))))) (.stop)) (.fork 15 [] (.fork 10 [14] (.op 16 (.op 17 (.op 18 (.op 19 (.op 22 (.op 23 (.op 24 (.op 25 (.fork 20 [25] (.fork 21 [25] (.fork 26 [] (.op 27 (.op 28 (.op 29 (.done)))) (.stop)) (.fork 26 [] (.fork 21 [25] (.op 27 (.op 28 (.op 29 (.done)))) (.stop)) (.stop))) (.fork 26 [] (.fork 20 [25] (.fork 21 [25] (.op 27 (.op 28 (.op 29 (.done)))) (.stop)) (.stop)) (.stop))))))))))) (.stop)) (.stop))) (.fork 15 [] (.fork 9 [14] (.fork 10 [14] (.op 16 (.op 17 (.op 18 (.op 19 (.op 22 (.op 23 (.op 24 (.op 25 (.fork 20 [25] (.fork 21 [25] (.fork 26 [] (.op 27 (.op 28 (.op 29 (.done)))) (.stop)) (.fork 26 [] (.fork 21 [25] (.op 27 (.op 28 (.op 29 (.done)))) (.stop)) (.stop))) (.fork 26 [] (.fork 20 [25] (.fork 21 [25] (.op 27 (.op 28 (.op 29 (.done)))) (.stop)) (.stop)) (.stop))))))))))) (.stop)) (.stop)) (.stop)))))))))) (.stop)) (.stop)) (.fork 4 [] (.fork 2 [] (.fork 5 [] (.op 6 (.op 7 (.op 8 (.op 11 (.op 12 (.op 13 (.op 14 (.fork 9 [14] (.fork 10 [14] (.fork 15 [] (.op 16 (.op 17 (.op 18 (.op 19 (.op 22 (.op 23 (.op 24 (.op 25 (.fork 20 [25] (.fork 21 [25] (.fork 26 [] (.op 27 (.op 28 (.op 29 (.done)))) (.stop)) (.fork 26 [] (.fork 21 [25] (.op 27 (.op 28 (.op 29 (.done)))) (.stop)) (.stop))) (.fork 26 [] (.fork 20 [25] (.fork 21 [25] (.op 27 (.op 28 (.op 29 (.done)))) (.stop)) (.stop)) (.stop))))))))))) (.stop)) (.fork 15 [] (.fork 10 [14] (.op 16 (.op 17 (.op 18 (.op 19 (.op 22 (.op 23 (.op 24 (.op 25 (.fork 20 [25] (.fork 21 [25] (.fork 26 [] (.op 27 (.op 28 (.op 29 (.done)))) (.stop)) (.fork 26 [] (.fork 21 [25] (.op 27 (.op 28 (.op 29 (.done)))) (.stop)) (.stop))) (.fork 26 [] (.fork 20 [25] (.fork 21 [25] (.op 27 (.op 28 (.op 29 (.done)))) (.stop)) (.stop)) (.stop))))))))))) (.stop)) (.stop))) (.fork 15 [] (.fork 9 [14] (.fork 10 [14] (.op 16 (.op 17 (.op 18 (.op 19 (.op 22 (.op 23 (.op 24 (.op 25 (.fork 20 [25] (.fork 21 [25] (.fork 26 [] (.op 27 (.op 28 (.op 29 (.done)))) (.stop)) (.fork 26 [] (.fork 21 [25] (.op 27 (.op 28 (.op 29 (.done)))) (.stop)) (.stop))) (.fork 26 [] (.fork 20 [25] (.fork 21 [25] (.op 27 (.op 28 (.op 29 (.done)))) (.stop)) (.stop)) (.stop))))))))))) (.stop)) (.stop)) (.stop)))))))))) (.stop)) (.fork 5 [] (.fork 2 [] (.op 6 (.op 7 (.op 8 (.op 11 (.op 12 (.op 13 (.op 14 (.fork 9 [14] (.fork 10 [14] (.fork 15 [] (.op 16 (.op 17 (.op 18 (.op 19 (.op 22 (.op 23 (.op 24 (.op 25 (.fork 20 [25] (.fork 21 [25] (.fork 26 [] (.op 27 (.op 28 (.op 29 (.done)))) (.stop)) (.fork 26 [] (.fork 21 [25] (.op 27 (.op 28 (.op 29 (.done)))) (.stop)) (.stop))) (.fork 26 [] (.fork 20 [25] (.fork 21 [25] (.op 27 (.op 28 (.op 29 (.done)))) (.stop)) (.stop)) (.stop))))))))))) (.stop)) (.fork 15 [] (.fork 10 [14] (.op 16 (.op 17 (.op 18 (.op 19 (.op 22 (.op 23 (.op 24 (.op 25 (.fork 20 [25] (.fork 21 [25] (.fork 26 [] (.op 27 (.op 28 (.op 29 (.done)))) (.stop)) (.fork 26 [] (.fork 21 [25] (.op 27 (.op 28 (.op 29 (.done)))) (.stop)) (.stop))) (.fork 26 [] (.fork 20 [25] (.fork 21 [25] (.op 27 (.op 28 (.op 29 (.done)))) (.stop)) (.stop)) (.stop))))))))))) (.stop)) (.stop))) (.fork 15 [] (.fork 9 [14] (.fork 10 [14] (.op 16 (.op 17 (.op 18 (.op 19 (.op 22 (.op 23 (.op 24 (.op 25 (.fork 20 [25] (.fork 21 [25] (.fork 26 [] (.op 27 (.op 28 (.op 29 (.done)))) (.stop)) (.fork 26 [] (.fork 21 [25] (.op 27 (.op 28 (.op 29 (.done)))) (.stop)) (.stop))) (.fork 26 [] (.fork 20 [25] (.fork 21 [25] (.op 27 (.op 28 (.op 29 (.done)))) (.stop)) (.stop)) (.stop))))))))))) (.stop)) (.stop)) (.stop)))))))))) (.stop)) (.stop))) (.stop))) (.stop)))
def td6_36 : Draw := ⟨[0, 1, 3, 0, 11, 27, 63, 127, 255, 511, 1023, 255, 2303, 6399, 14591, 30975, 65535, 131071, 262143, 524287, 1048575, 2097151, 524287, 4718591, 13107199, 29884415, 63438847, 134217727, 268435455, 536870911], [], []⟩
@[go_sem] def dr6 : Nat → Draw
  | 33 => ⟨[0, 1, 0, 4, 12, 28, 60, 127, 255, 511, 511, 2047, 511, 4607, 12799, 32767, 65535], [(0, []), (1, []), (2, []), (3, []), (4, []), (5, []), (6, []), (7, []), (8, []), (9, []), (10, []), (12, []), (13, []), (14, []), (11, [14]), (15, []), (16, [])], []⟩
  | 36 => ⟨[0, 1, 3, 0, 11, 27, 63, 127, 255, 511, 1023, 255, 2303, 6399, 14591, 30975, 65535, 131071, 262143, 524287, 1048575, 2097151, 524287, 4718591, 13107199, 29884415, 63438847, 134217727, 268435455, 536870911], [(0, []), (3, []), (1, []), (2, []), (4, []), (5, []), (6, []), (7, []), (8, []), (11, []), (12, []), (13, []), (14, []), (15, []), (9, [14]), (10, []), (16, []), (17, []), (18, []), (19, []), (22, []), (23, []), (24, []), (25, []), (26, []), (20, [25]), (21, []), (27, []), (28, []), (29, [])], []⟩
  | _ => {}
-- joystick/joysticklaw13.PortKeeps
@[go_sem] def tr7_18 : DT := .op 0 (.op 1 (.fork 2 [] (.fork 3 [] (.op 4 (.op 5 (.op 6 (.op 9 (.fork 7 [] (.fork 8 [] (.fork 10 [] (.fork 11 [] (.op 12 (.op 13 (.done))) (.stop)) (.stop)) (.fork 10 [] (.fork 8 [] (.fork 11 [] (.op 12 (.op 13 (.done))) (.stop)) (.fork 11 [] (.fork 8 [] (.op 12 (.op 13 (.done))) (.stop)) (.stop))) (.stop))) (.stop)))))) (.stop)) (.stop)))
def td7_18 : Draw := ⟨[0, 0, 2, 7, 15, 31, 63, 127, 255, 63, 767, 1791, 4095, 8191], [], []⟩
@[go_sem] def dr7 : Nat → Draw
  | 18 => ⟨[0, 0, 2, 7, 15, 31, 63, 127, 255, 63, 767, 1791, 4095, 8191], [(0, []), (1, []), (2, []), (3, []), (4, []), (5, []), (6, []), (9, []), (7, []), (8, []), (10, []), (11, []), (12, []), (13, [])], []⟩
  | 24 => ⟨[0, 1, 0, 7, 15, 31, 63, 31, 255, 511, 1023, 2047], [(0, []), (2, []), (1, [2]), (3, []), (4, []), (5, []), (7, []), (6, []), (8, []), (9, []), (10, []), (11, [])], []⟩
  | _ => {}
-- (*joystick/port.Port).Control
@[go_sem] def dr10 : Nat → Draw
  | 12 => ⟨[0, 0, 0, 4, 12, 28, 60, 1, 129, 511, 1023], [(0, []), (1, []), (2, []), (3, []), (4, []), (5, []), (6, []), (7, []), (8, []), (9, []), (10, [])], []⟩
  | _ => {}
-- (*joystick/port.Port).Write
@[go_sem] def dr11 : Nat → Draw
  | 2 => ⟨[0, 0, 2, 6, 14, 30, 62, 0, 128, 1, 513, 2047, 4095], [(0, []), (1, []), (2, []), (3, []), (4, []), (5, []), (6, []), (7, []), (8, []), (9, []), (10, []), (11, []), (12, [])], []⟩
  | 3 => ⟨[0, 0, 2, 6, 14, 30, 0, 1, 129, 511, 1023], [(0, []), (1, []), (2, []), (3, []), (4, []), (5, []), (6, []), (7, []), (8, []), (9, []), (10, [])], []⟩
  | _ => {}
-- (*joystick/port.Port).Dump
@[go_sem] def tr15_4 : DT := .op 0 (.op 1 (.op 2 (.op 3 (.op 4 (.op 5 (.op 6 (.op 7 (.op 8 (.op 9 (.op 10 (.op 11 (.op 14 (.op 15 (.op 16 (.op 17 (.op 18 (.op 19 (.op 20 (.op 21 (.op 22 (.op 23 (.op 24 (.op 25 (.op 26 (.op 27 (.op 28 (.op 29 (.op 30 (.op 31 (.op 32 (.op 33 (.op 34 (.op 35 (.op 36 (.op 37 (.op 38 (.op 39 (.op 40 (.op 41 (.op 42 (.fork 12 [42, 36, 31, 24, 18] (.fork 13 [42, 36, 31, 24, 18] (.fork 43 [] (.fork 44 [] (.op 45 (.done)) (.stop)) (.stop)) (.fork 43 [] (.fork 13 [42, 36, 31, 24, 18] (.fork 44 [] (.op 45 (.done)) (.stop)) (.stop)) (.stop))) (.fork 43 [] (.fork 12 [42, 36, 31, 24, 18] (.fork 13 [42, 36, 31, 24, 18] (.fork 44 [] (.op 45 (.done)) (.stop)) (.stop)) (.stop)) (.stop)))))))))))))))))))))))))))))))))))))))))))
def td15_4 : Draw := ⟨[0, 1, 3, 7, 0, 16, 48, 112, 0, 256, 768, 1792, 4095, 8191, 0, 16384, 49152, 114688, 245760, 507904, 0, 1048576, 3145728, 7340032, 15728640, 32505856, 66060288, 0, 134217728, 402653184, 939524096, 2013265920, 0, 4294967296, 12884901888, 30064771072, 64424509440, 0, 0, 274877906944, 824633720832, 1924145348608, 4123168604160, 8796093005824, 17592186044415, 35184372088831], [], []⟩
@[go_sem] def dr15 : Nat → Draw
  | 4 => ⟨[0, 1, 3, 7, 0, 16, 48, 112, 0, 256, 768, 1792, 4095, 8191, 0, 16384, 49152, 114688, 245760, 507904, 0, 1048576, 3145728, 7340032, 15728640, 32505856, 66060288, 0, 134217728, 402653184, 939524096, 2013265920, 0, 4294967296, 12884901888, 30064771072, 64424509440, 0, 0, 274877906944, 824633720832, 1924145348608, 4123168604160, 8796093005824, 17592186044415, 35184372088831], [(0, []), (1, []), (2, []), (3, []), (4, []), (5, []), (6, []), (7, []), (8, []), (9, []), (10, []), (11, []), (14, []), (15, []), (16, []), (17, []), (18, []), (19, []), (20, []), (21, []), (22, []), (23, []), (24, []), (25, []), (26, []), (27, []), (28, []), (29, []), (30, []), (31, []), (32, []), (33, []), (34, []), (35, []), (36, []), (37, []), (38, []), (39, []), (40, []), (41, []), (42, []), (12, [18, 24, 31, 36, 42]), (13, [18, 24, 31, 36, 42]), (43, []), (44, []), (45, [])], []⟩
  | _ => {}
-- (*joystick/port.Port).Load
@[go_sem] def tr16_10 : DT := .op 0 (.op 1 (.op 2 (.op 3 (.op 4 (.fork 5 [] (.fork 6 [] (.done) (.stop)) (.stop))))))
def td16_10 : Draw := ⟨[0, 1, 3, 7, 0, 16, 63], [], []⟩
@[go_sem] def dr16 : Nat → Draw
  | 10 => ⟨[0, 1, 3, 7, 0, 16, 63], [(0, []), (1, []), (2, []), (3, []), (4, []), (5, []), (6, [])], []⟩
  | 11 => ⟨[0, 0, 2, 6, 14, 0, 32, 96, 224, 480, 1022, 0, 2048, 6144, 0, 16384, 49152, 0, 131072, 393216, 917504, 0, 2097152, 6291456, 16777214, 33554431, 67108863, 134217727], [(0, []), (1, []), (2, []), (3, []), (4, []), (5, []), (6, []), (7, []), (8, []), (9, []), (10, []), (11, []), (12, []), (13, []), (14, []), (15, []), (16, []), (17, []), (18, []), (19, []), (20, []), (21, []), (22, []), (23, []), (24, []), (25, []), (26, []), (27, [])], []⟩
  | _ => {}
-- joystick/joystickref13.New
@[go_sem] def dr19 : Nat → Draw
  | 1 => ⟨[0, 0, 0, 7, 15, 31], [(0, []), (1, []), (2, []), (3, []), (4, []), (5, [])], [(0, 1), (1, 2), (2, 3)]⟩
  | _ => {}
-- joystick/joystickref13.Control
@[go_sem] def dr20 : Nat → Draw
  | 8 => ⟨[0, 0, 2, 6, 14, 0, 32, 96, 224, 510, 1022, 2046, 4095, 8191, 16383], [(0, []), (1, []), (2, []), (3, []), (4, []), (5, []), (6, []), (7, []), (8, []), (9, []), (10, []), (11, []), (12, []), (13, []), (14, [])], []⟩
  | 11 => ⟨[0, 1, 3, 7, 0, 16, 0, 64, 192, 448, 960, 2047, 4095], [(0, []), (1, []), (2, []), (3, []), (4, []), (5, []), (6, []), (7, []), (8, []), (9, []), (10, []), (11, []), (12, [])], []⟩
  | _ => {}
-- joystick/joystickref13.Write
@[go_sem] def dr21 : Nat → Draw
  | 2 => ⟨[0, 1, 3, 7, 0, 16, 48, 112, 240, 0, 512, 2047, 4095], [(0, []), (1, []), (2, []), (3, []), (4, []), (5, []), (6, []), (7, []), (8, []), (9, []), (10, []), (11, []), (12, [])], []⟩
  | 3 => ⟨[0, 1, 3, 7, 0, 16, 48, 112, 0, 511, 1023], [(0, []), (1, []), (2, []), (3, []), (4, []), (5, []), (6, []), (7, []), (8, []), (9, []), (10, [])], []⟩
  | _ => {}
-- joystick/joystickref13.Read
@[go_sem] def dr22 : Nat → Draw
  | 3 => ⟨[0, 0, 2, 6, 14, 0, 32, 96, 224, 510, 1022, 2046, 4095, 8191, 16383], [(0, []), (1, []), (2, []), (3, []), (4, []), (5, []), (6, []), (7, []), (8, []), (9, []), (10, []), (11, []), (12, []), (13, []), (14, [])], []⟩
  | _ => {}
-- joystick/joystickref13.Dump
@[go_sem] def dr24 : Nat → Draw
  | 1 => ⟨[0, 0, 2, 6, 14, 31, 0, 64, 192, 448, 1023, 0, 2048, 6144, 14336, 32767, 65535], [(1, []), (2, []), (3, []), (4, []), (6, []), (7, []), (8, []), (9, []), (11, []), (12, []), (13, []), (14, []), (0, [4, 9, 14]), (5, [9, 14]), (10, [14]), (15, []), (16, [])], []⟩
  | 5 => ⟨[0, 0, 2, 6, 14, 30, 62, 0, 128, 384, 896, 1920, 3968, 0, 8192, 24576, 57344, 122880, 0, 262144, 786432, 1835008, 3932160, 0, 0, 16777216, 50331648, 117440512, 251658240, 536870910, 1073741823, 2147483647], [(0, []), (1, []), (2, []), (3, []), (4, []), (5, []), (6, []), (7, []), (8, []), (9, []), (10, []), (11, []), (12, []), (13, []), (14, []), (15, []), (16, []), (17, []), (18, []), (19, []), (20, []), (21, []), (22, []), (23, []), (24, []), (25, []), (26, []), (27, []), (28, []), (29, []), (30, []), (31, [])], []⟩
  | _ => {}
-- joystick/joystickref13.Load
@[go_sem] def dr25 : Nat → Draw
  | 16 => ⟨[0, 0, 2, 6, 14, 0, 32, 96, 224, 480, 1022, 2047, 4095, 8191], [(0, []), (1, []), (2, []), (3, []), (4, []), (5, []), (6, []), (7, []), (8, []), (9, []), (10, []), (11, []), (12, []), (13, [])], []⟩
  | _ => {}
-- (*joystick/port.Port).fill
@[go_sem] def dr27 : Nat → Draw
  | 0 => ⟨[0, 0, 0, 4, 12, 28, 60, 2, 130, 510, 1022, 2047, 4095, 8191, 16383], [(0, []), (1, []), (2, []), (3, []), (4, []), (5, []), (6, []), (7, []), (8, []), (9, []), (10, []), (11, []), (12, []), (13, []), (14, [])], []⟩
  | _ => {}
def dr0 : Nat → Draw := fun _ => {}
end Go.Proofs.Joy
namespace Go.Proofs.Joy
open Go.Ab

theorem getD_app_l {α : Type} {a b : List α} {i : Nat} {d : α} (h : i < a.length) : (a ++ b).getD i d = a.getD i d := by
  simp [List.getD_eq_getElem?_getD, List.getElem?_append_left h]
theorem getD_app_r {α : Type} {a b : List α} {i : Nat} {d : α} (h : a.length ≤ i) : (a ++ b).getD i d = b.getD (i - a.length) d := by
  simp [List.getD_eq_getElem?_getD, List.getElem?_append_right h]
theorem getD_map_u8' {bs : List (BitVec 8)} {i : Nat} (h : i < bs.length) : (bs.map AV.u8).getD i .junk = .u8 (bs.getD i 0#8) := by
  simp [List.getD_eq_getElem?_getD, h]

/-- A picture chip's memory, and how it is reached. -/
structure PortS where
  vram : List (BitVec 8)
  cram : List (BitVec 8)
  regs : List (BitVec 8)
  addr : BitVec 16
  code : BitVec 8
  low : BitVec 8
  buf : BitVec 8
  sec : Bool

structure PortS.ok (p : PortS) : Prop where
  vram : p.vram.length = 16384
  cram : p.cram.length = 32
  regs : p.regs.length = 11
  addr : p.addr.toNat < 16384

/-- Its rows have their lengths. -/
structure PortS.lens (p : PortS) : Prop where
  vram : p.vram.length = 16384
  cram : p.cram.length = 32
  regs : p.regs.length = 11
theorem PortS.ok.lens {p : PortS} (h : p.ok) : p.lens := ⟨h.vram, h.cram, h.regs⟩
@[go_sem] theorem PortS.lens_mk (a b c : List (BitVec 8)) (d : BitVec 16) (e f g : BitVec 8) (s : Bool) : (PortS.mk a b c d e f g s).lens = (a.length = 16384 ∧ b.length = 32 ∧ c.length = 11) :=
  propext ⟨fun h => ⟨h.1, h.2, h.3⟩, fun h => ⟨h.1, h.2.1, h.2.2⟩⟩
def PortS.kc (p : PortS) : List AV := [.u16 p.addr, .u8 p.code, .u8 p.low, .u8 p.buf, .bo p.sec]
def PortS.cells (p : PortS) : List AV := p.vram.map AV.u8 ++ (p.cram.map .u8 ++ (p.regs.map AV.u8 ++ p.kc))

def onS (p : PortS) : PortS := { p with addr := (p.addr + 1#16) &&& 16383#16 }
def fillS (p : PortS) : PortS := onS { p with buf := p.vram.getD p.addr.toNat 0#8 }
def controlS (p : PortS) (v : BitVec 8) : PortS :=
  if p.sec = false then { p with sec := true, low := v, addr := p.addr &&& 16128#16 ||| v.setWidth 16 }
  else
    let q := { p with sec := false, code := v >>> 6, addr := (v &&& 63#8).setWidth 16 <<< 8 ||| p.low.setWidth 16 }
    if v >>> 6 = 0#8 then fillS q else if v >>> 6 = 2#8 then (if (v &&& 15#8).toNat < 11 then { q with regs := p.regs.set (v &&& 15#8).toNat p.low } else q) else q
def forgetS (p : PortS) : PortS := { p with sec := false }
def writeS (p : PortS) (v : BitVec 8) : PortS :=
  onS (if p.code = 3#8 then { p with sec := false, cram := p.cram.set (p.addr % 32#16).toNat (v &&& 63#8), buf := v } else { p with sec := false, vram := p.vram.set p.addr.toNat v, buf := v })
def readS (p : PortS) : PortS := fillS { p with sec := false }
def newS : PortS := ⟨List.replicate 16384 0#8, List.replicate 32 0#8, List.replicate 11 0#8, 0#16, 0#8, 0#8, 0#8, false⟩

theorem newS_ok : newS.ok := ⟨List.length_replicate, List.length_replicate, List.length_replicate, by decide⟩

theorem and_16383 (x : BitVec 16) : (x &&& 16383#16).toNat < 16384 := by
  rw [BitVec.toNat_and]; exact Nat.lt_of_le_of_lt Nat.and_le_right (by decide)
theorem onS_ok {p : PortS} (hv : p.vram.length = 16384) (hc : p.cram.length = 32) (hr : p.regs.length = 11) : (onS p).ok := ⟨hv, hc, hr, and_16383 _⟩
theorem first_addr (a : BitVec 16) (v : BitVec 8) : (a &&& 16128#16 ||| v.setWidth 16).toNat < 16384 := by
  rw [BitVec.toNat_or]
  refine Nat.or_lt_two_pow (n := 14) ?_ ?_
  · rw [BitVec.toNat_and]; exact Nat.lt_of_le_of_lt Nat.and_le_right (by decide)
  · rw [BitVec.toNat_setWidth, Nat.mod_eq_of_lt (by omega)]; omega
theorem low6 (v : BitVec 8) : (v &&& 63#8).toNat < 64 := by
  rw [BitVec.toNat_and]; exact Nat.lt_of_le_of_lt Nat.and_le_right (by decide)
theorem second_addr (v low : BitVec 8) : ((v &&& 63#8).setWidth 16 <<< 8 ||| low.setWidth 16).toNat = (v &&& 63#8).toNat * 256 + low.toNat := by
  have h1 := low6 v
  have h2 := low.isLt
  rw [BitVec.toNat_or, BitVec.toNat_shiftLeft, BitVec.toNat_setWidth, BitVec.toNat_setWidth, Nat.mod_eq_of_lt (show (v &&& 63#8).toNat < 2 ^ 16 by omega), Nat.mod_eq_of_lt (show low.toNat < 2 ^ 16 by omega), Nat.shiftLeft_eq, Nat.mod_eq_of_lt (by omega)]
  rw [← Nat.shiftLeft_eq, ← Nat.shiftLeft_add_eq_or_of_lt (by omega), Nat.shiftLeft_eq]
theorem second_addr_lt (v low : BitVec 8) : ((v &&& 63#8).setWidth 16 <<< 8 ||| low.setWidth 16).toNat < 16384 := by
  rw [second_addr]; have := low6 v; have := low.isLt; omega

theorem PortS.ok.fill {p : PortS} (hv : p.vram.length = 16384) (hc : p.cram.length = 32) (hr : p.regs.length = 11) : (fillS p).ok := onS_ok hv hc hr
theorem PortS.ok.control {p : PortS} (h : p.ok) (v : BitVec 8) : (controlS p v).ok := by
  unfold controlS
  split
  · exact ⟨h.vram, h.cram, h.regs, first_addr _ _⟩
  · dsimp only
    split
    · exact onS_ok h.vram h.cram h.regs
    · split
      · split
        · exact ⟨h.vram, h.cram, by simp [h.regs], second_addr_lt _ _⟩
        · exact ⟨h.vram, h.cram, h.regs, second_addr_lt _ _⟩
      · exact ⟨h.vram, h.cram, h.regs, second_addr_lt _ _⟩
theorem PortS.ok.forget {p : PortS} (h : p.ok) : (forgetS p).ok := ⟨h.vram, h.cram, h.regs, h.addr⟩
theorem PortS.ok.write {p : PortS} (h : p.ok) (v : BitVec 8) : (writeS p v).ok := by
  unfold writeS
  split
  · exact onS_ok h.vram (by simp [h.cram]) h.regs
  · exact onS_ok (by simp [h.vram]) h.cram h.regs
theorem PortS.ok.read {p : PortS} (h : p.ok) : (readS p).ok := onS_ok h.vram h.cram h.regs

/-! ### Its cells -/
section
variable {p : PortS} (h : p.lens)
include h
theorem PortS.len : p.cells.length = 16432 := by simp [PortS.cells, PortS.kc, h.vram, h.cram, h.regs]
theorem PortS.get_vram {i : Nat} (hi : i < 16384) : p.cells.getD i .junk = .u8 (p.vram.getD i 0#8) := by
  unfold PortS.cells
  rw [getD_app_l (by simp [h.vram, hi])]
  exact getD_map_u8' (by rw [h.vram]; exact hi)
theorem PortS.tail (i : Nat) : p.cells.getD (16384 + i) .junk = (p.cram.map AV.u8 ++ (p.regs.map AV.u8 ++ p.kc)).getD i .junk := by
  unfold PortS.cells
  rw [getD_app_r (by simp [h.vram])]
  simp [h.vram]
theorem PortS.get_cram {i : Nat} (hi : i < 32) : p.cells.getD (16384 + i) .junk = .u8 (p.cram.getD i 0#8) := by
  rw [PortS.tail h, getD_app_l (by simp [h.cram, hi])]
  exact getD_map_u8' (by rw [h.cram]; exact hi)
theorem PortS.tail2 (i : Nat) : p.cells.getD (16416 + i) .junk = (p.regs.map AV.u8 ++ p.kc).getD i .junk := by
  rw [show 16416 + i = 16384 + (32 + i) by omega, PortS.tail h, getD_app_r (by simp [h.cram])]
  simp [h.cram]
theorem PortS.get_regs {i : Nat} (hi : i < 11) : p.cells.getD (16416 + i) .junk = .u8 (p.regs.getD i 0#8) := by
  rw [PortS.tail2 h, getD_app_l (by simp [h.regs, hi])]
  exact getD_map_u8' (by rw [h.regs]; exact hi)
theorem PortS.tail3 (i : Nat) : p.cells.getD (16427 + i) .junk = p.kc.getD i .junk := by
  rw [show 16427 + i = 16416 + (11 + i) by omega, PortS.tail2 h, getD_app_r (by simp [h.regs])]
  simp [h.regs]
theorem PortS.get_addr : p.cells.getD 16427 .junk = .u16 p.addr := PortS.tail3 h 0
theorem PortS.get_code : p.cells.getD 16428 .junk = .u8 p.code := PortS.tail3 h 1
theorem PortS.get_low : p.cells.getD 16429 .junk = .u8 p.low := PortS.tail3 h 2
theorem PortS.get_buf : p.cells.getD 16430 .junk = .u8 p.buf := PortS.tail3 h 3
theorem PortS.get_sec : p.cells.getD 16431 .junk = .bo p.sec := PortS.tail3 h 4
theorem PortS.get_allregs : (p.cells.drop 16416).take 11 = p.regs.map .u8 := by
  unfold PortS.cells
  rw [List.drop_append, List.drop_of_length_le (by simp [h.vram]), List.nil_append, List.drop_append, List.drop_of_length_le (by simp [h.vram, h.cram]), List.nil_append]
  simp [h.vram, h.cram, h.regs, List.take_append]
theorem PortS.get_allvram : p.cells.take 16384 = p.vram.map .u8 := by
  unfold PortS.cells
  rw [List.take_append, List.take_of_length_le (by simp [h.vram])]
  simp [h.vram]
theorem PortS.get_allcram : (p.cells.drop 16384).take 32 = p.cram.map .u8 := by
  unfold PortS.cells
  rw [List.drop_append, List.drop_of_length_le (by simp [h.vram]), List.nil_append]
  simp [h.vram, h.cram, List.take_append]
theorem PortS.set_vram {i : Nat} (hi : i < 16384) (v : BitVec 8) : p.cells.set i (.u8 v) = ({ p with vram := p.vram.set i v } : PortS).cells := by
  unfold PortS.cells
  rw [List.set_append_left _ _ (by simp [h.vram, hi]), List.map_set]
  rfl
theorem PortS.set_tail (i : Nat) (x : AV) : p.cells.set (16384 + i) x = p.vram.map AV.u8 ++ (p.cram.map AV.u8 ++ (p.regs.map AV.u8 ++ p.kc)).set i x := by
  unfold PortS.cells
  rw [List.set_append_right _ _ (by simp [h.vram])]
  simp [h.vram]
theorem PortS.set_cram {i : Nat} (hi : i < 32) (v : BitVec 8) : p.cells.set (16384 + i) (.u8 v) = ({ p with cram := p.cram.set i v } : PortS).cells := by
  rw [PortS.set_tail h, List.set_append_left _ _ (by simp [h.cram, hi]), ← List.map_set]
  rfl
theorem PortS.set_tail2 (i : Nat) (x : AV) : p.cells.set (16416 + i) x = p.vram.map AV.u8 ++ (p.cram.map AV.u8 ++ (p.regs.map AV.u8 ++ p.kc).set i x) := by
  rw [show 16416 + i = 16384 + (32 + i) by omega, PortS.set_tail h, List.set_append_right _ _ (by simp [h.cram])]
  simp [h.cram]
theorem PortS.set_regs {i : Nat} (hi : i < 11) (v : BitVec 8) : p.cells.set (16416 + i) (.u8 v) = ({ p with regs := p.regs.set i v } : PortS).cells := by
  rw [PortS.set_tail2 h, List.set_append_left _ _ (by simp [h.regs, hi]), ← List.map_set]
  rfl
theorem PortS.set_tail3 (i : Nat) (x : AV) : p.cells.set (16427 + i) x = p.vram.map AV.u8 ++ (p.cram.map AV.u8 ++ (p.regs.map AV.u8 ++ p.kc.set i x)) := by
  rw [show 16427 + i = 16416 + (11 + i) by omega, PortS.set_tail2 h, List.set_append_right _ _ (by simp [h.regs])]
  simp [h.regs]
theorem PortS.set_addr (x : BitVec 16) : p.cells.set 16427 (.u16 x) = ({ p with addr := x } : PortS).cells := PortS.set_tail3 h 0 _
theorem PortS.set_code (x : BitVec 8) : p.cells.set 16428 (.u8 x) = ({ p with code := x } : PortS).cells := PortS.set_tail3 h 1 _
theorem PortS.set_low (x : BitVec 8) : p.cells.set 16429 (.u8 x) = ({ p with low := x } : PortS).cells := PortS.set_tail3 h 2 _
theorem PortS.set_buf (x : BitVec 8) : p.cells.set 16430 (.u8 x) = ({ p with buf := x } : PortS).cells := PortS.set_tail3 h 3 _
theorem PortS.set_sec (x : Bool) : p.cells.set 16431 (.bo x) = ({ p with sec := x } : PortS).cells := PortS.set_tail3 h 4 _
end
theorem splice_app_l {α : Type} {a b vs : List α} {off : Nat} (h : off + vs.length ≤ a.length) : splice (a ++ b) off vs = splice a off vs ++ b := by
  unfold splice
  rw [List.take_append_of_le_length (by omega), List.drop_append_of_le_length (by omega), List.append_assoc, List.append_assoc, List.append_assoc]
theorem splice_app_r {α : Type} {a b vs : List α} {off : Nat} : splice (a ++ b) (a.length + off) vs = a ++ splice b off vs := by
  unfold splice
  rw [List.take_length_add_append, Nat.add_assoc, List.drop_length_add_append, List.append_assoc, List.append_assoc, List.append_assoc]
theorem splice_whole {α : Type} {l vs : List α} (h : vs.length = l.length) : splice l 0 vs = vs := by simp [splice, h]
theorem PortS.splice_vram {p : PortS} (h : p.lens) {xs : List (BitVec 8)} (hx : xs.length = 16384) : splice p.cells 0 (xs.map .u8) = ({ p with vram := xs } : PortS).cells := by
  unfold PortS.cells
  rw [splice_app_l (by simp [h.vram, hx]), splice_whole (by simp [h.vram, hx])]
  rfl
theorem PortS.splice_cram {p : PortS} (h : p.lens) {xs : List (BitVec 8)} (hx : xs.length = 32) : splice p.cells 16384 (xs.map .u8) = ({ p with cram := xs } : PortS).cells := by
  unfold PortS.cells
  have e : (16384 : Nat) = (p.vram.map AV.u8).length + 0 := by simp [h.vram]
  rw [e, splice_app_r, splice_app_l (by simp [h.cram, hx]), splice_whole (by simp [h.cram, hx])]
  rfl
theorem PortS.splice_regs {p : PortS} (h : p.lens) {xs : List (BitVec 8)} (hx : xs.length = 11) : splice p.cells 16416 (xs.map .u8) = ({ p with regs := xs } : PortS).cells := by
  unfold PortS.cells
  have e : (16416 : Nat) = (p.vram.map AV.u8).length + ((p.cram.map AV.u8).length + 0) := by simp [h.vram, h.cram]
  rw [e, splice_app_r, splice_app_r, splice_app_l (by simp [h.regs, hx]), splice_whole (by simp [h.regs, hx])]
  rfl
theorem PortS.splice_kept {p : PortS} (h : p.lens) (a : BitVec 16) (c l b : BitVec 8) (s : Bool) : splice p.cells 16427 [.u16 a, .u8 c, .u8 l, .u8 b, .bo s] = ({ p with addr := a, code := c, low := l, buf := b, sec := s } : PortS).cells := by
  unfold PortS.cells
  have e : (16427 : Nat) = (p.vram.map AV.u8).length + ((p.cram.map AV.u8).length + ((p.regs.map AV.u8).length + 0)) := by simp [h.vram, h.cram, h.regs]
  rw [e, splice_app_r, splice_app_r, splice_app_r, splice_whole (by simp [PortS.kc])]
  rfl
theorem PortS.cells_ok (p : PortS) (n : Nat) : ∀ v ∈ p.cells, v.ok n = true := by
  intro v hv
  simp only [PortS.cells, PortS.kc, List.mem_append, List.mem_map, List.mem_cons, List.not_mem_nil, or_false] at hv
  rcases hv with ⟨_, _, rfl⟩ | ⟨_, _, rfl⟩ | ⟨_, _, rfl⟩ | rfl | rfl | rfl | rfl | rfl <;> rfl
attribute [go_sem] PortS.len PortS.get_addr PortS.get_code PortS.get_low PortS.get_buf PortS.get_sec PortS.get_allregs PortS.get_allvram PortS.get_allcram PortS.set_addr PortS.set_code PortS.set_low PortS.set_buf PortS.set_sec List.length_set
end Go.Proofs.Joy
namespace Go.Proofs.Joy
open Go.Ab Go.Proofs

set_option maxHeartbeats 1000000
set_option maxRecDepth 20000

theorem Fin.put {n0 : Nat} {v : AV} {H H0 : Heap} {n b : Nat} {blk : Blk} {K : AV → Heap → Nat → Prop} (wf : H0.wf n0) (hb : b < n0) (hc : ∀ v ∈ blk.cells, v.ok n0 = true) (h : K v (H0.upd b (some blk)) n0)
    (hd : ∀ i, i < n0 → H i = (H0.upd b (some blk)) i) (hv : v.ok n0 = true) : Fin n0 v H n K := Fin.back (Heap.wf_set wf hb hc) h hd hv

theorem splice_all {α : Type} {l vs : List α} (h : vs.length = l.length) : splice l 0 vs = vs := by
  simp [splice, h]

def portB (p : PortS) : Blk := ⟨p.cells, 58, false⟩

theorem on_ok (b : Nat) (p : PortS) (hp : p.lens) (H : Heap) (n : Nat) (K : AV → Heap → Nat → Prop) (hb : H b = some (portB p)) (h : K (.tu []) (H.upd b (some (portB (onS p)))) n) :
    ACalls Try.prog 28 [.pt b 0] H n K := by
  refine ACalls.of_ev dr0 Try.func28 rfl (by decide +kernel) (by decide +kernel) (show 1 ≤ 13 by decide) (by simp) fun wf => ?_
  simp only [go_sem, Try.f28]
  simp only [go_sem, hb, portB, hp]
  exact Fin.put wf (wf b _ hb).1 (PortS.cells_ok _ _) h (fun _ _ => rfl) rfl

theorem fill_ok (b : Nat) (p : PortS) (hp : p.lens) (ha : p.addr.toNat < 16384) (H : Heap) (n : Nat) (K : AV → Heap → Nat → Prop) (hb : H b = some (portB p)) (h : K (.tu []) (H.upd b (some (portB (fillS p)))) n) :
    ACalls Try.prog 27 [.pt b 0] H n K := by
  refine ACalls.of_ev dr27 Try.func27 rfl (by decide +kernel) (by decide +kernel) (show 1 ≤ 18 by decide) (by simp) fun wf => ?_
  simp only [go_sem, Try.f27]
  have hg := PortS.get_vram hp ha
  have ha' : p.addr.toNat < 16432 := by omega
  have ha2 : (p.addr.toNat : Int) < 16384 := by omega
  simp only [go_sem, hb, portB, hp, hg, ha', ha2, hp.vram, hp.cram, hp.regs]
  refine on_ok b { p with buf := p.vram.getD p.addr.toNat 0#8 } ⟨hp.vram, hp.cram, hp.regs⟩ _ _ _ (by simp only [go_sem, portB]) ?_
  simp only [go_sem, hb, portB]
  exact Fin.put wf (wf b _ hb).1 (PortS.cells_ok _ _) h (fun _ _ => rfl) rfl

theorem forget_ok (b : Nat) (p : PortS) (hp : p.lens) (H : Heap) (n : Nat) (K : AV → Heap → Nat → Prop) (hb : H b = some (portB p)) (h : K (.tu []) (H.upd b (some (portB (forgetS p)))) n) :
    ACalls Try.prog 23 [.pt b 0] H n K := by
  refine ACalls.of_ev dr0 Try.func23 rfl (by decide +kernel) (by decide +kernel) (show 1 ≤ 6 by decide) (by simp) fun wf => ?_
  simp only [go_sem, Try.f23]
  simp only [go_sem, hb, portB, hp]
  exact Fin.put wf (wf b _ hb).1 (PortS.cells_ok _ _) h (fun _ _ => rfl) rfl

theorem control_ok (b : Nat) (p : PortS) (hp : p.lens) (v : BitVec 8) (H : Heap) (n : Nat) (K : AV → Heap → Nat → Prop) (hb : H b = some (portB p)) (h : K (.tu []) (H.upd b (some (portB (controlS p v)))) n) :
    ACalls Try.prog 10 [.pt b 0, .u8 v] H n K := by
  refine ACalls.of_ev dr10 Try.func10 rfl (by decide +kernel) (by decide +kernel) (show 2 ≤ 85 by decide) (by simp) fun wf => ?_
  have hbn := (wf b _ hb).1
  cases hs : p.sec
  · simp only [go_sem, Try.f10, hb, portB, hp, hs, hp.vram, hp.cram, hp.regs]
    refine Fin.put wf hbn (PortS.cells_ok _ _) h (fun _ _ => ?_) rfl
    simp only [controlS, hs, portB, if_true]
  · simp only [go_sem, Try.f10, hb, portB, hp, hs, hp.vram, hp.cram, hp.regs]
    have e1 := second_addr_lt v p.low
    refine ⟨fun h1 => ?_, fun h1 => ⟨fun h2 => ⟨fun h3 => ?_, fun h3 => ?_⟩, fun h2 => ?_⟩⟩
    all_goals simp only [beq_iff_eq, beq_eq_false_iff_ne, ne_eq] at h1
    · refine fill_ok b { p with sec := false, code := v >>> 6, addr := (v &&& 63#8).setWidth 16 <<< 8 ||| p.low.setWidth 16 } ⟨hp.vram, hp.cram, hp.regs⟩ e1 _ _ _ (by simp only [go_sem, portB]) ?_
      simp only [go_sem, hb, portB]
      refine Fin.put wf hbn (PortS.cells_ok _ _) h (fun _ _ => ?_) rfl
      simp only [controlS, hs, portB, Bool.true_eq_false, if_false]
      rw [if_pos h1]
    · simp only [beq_iff_eq] at h2
      have h3' : (v &&& 15#8).toNat < 11 := by omega
      refine ⟨h3, by omega, ?_⟩
      rw [PortS.set_regs (by exact ⟨hp.vram, hp.cram, hp.regs⟩) h3']
      refine Fin.put wf hbn (PortS.cells_ok _ _) h (fun _ _ => ?_) rfl
      simp only [controlS, hs, portB, Bool.true_eq_false, if_false]
      rw [if_neg h1, if_pos h2, if_pos h3']
    · simp only [beq_iff_eq] at h2
      have h3' : ¬ (v &&& 15#8).toNat < 11 := by omega
      refine Fin.put wf hbn (PortS.cells_ok _ _) h (fun _ _ => ?_) rfl
      simp only [controlS, hs, portB, Bool.true_eq_false, if_false]
      rw [if_neg h1, if_pos h2, if_neg h3']
    · simp only [beq_eq_false_iff_ne, ne_eq] at h2
      refine Fin.put wf hbn (PortS.cells_ok _ _) h (fun _ _ => ?_) rfl
      simp only [controlS, hs, portB, Bool.true_eq_false, if_false]
      rw [if_neg h1, if_neg h2]

theorem write_ok (b : Nat) (p : PortS) (hp : p.lens) (ha : p.addr.toNat < 16384) (v : BitVec 8) (H : Heap) (n : Nat) (K : AV → Heap → Nat → Prop) (hb : H b = some (portB p)) (h : K (.tu []) (H.upd b (some (portB (writeS p v)))) n) :
    ACalls Try.prog 11 [.pt b 0, .u8 v] H n K := by
  refine ACalls.of_ev dr11 Try.func11 rfl (by decide +kernel) (by decide +kernel) (show 2 ≤ 41 by decide) (by simp) fun wf => ?_
  simp only [go_sem, Try.f11]
  have hbn := (wf b _ hb).1
  refine forget_ok b p hp _ _ _ (by simp only [go_sem, hb]) ?_
  simp only [go_sem, hb, portB, forgetS, hp.vram, hp.cram, hp.regs]
  have hm : (p.addr % 32#16).toNat < 32 := by rw [BitVec.toNat_umod]; exact Nat.mod_lt _ (by decide)
  refine ⟨fun h1 => ⟨by omega, by omega, ?_⟩, fun h1 => ⟨by omega, by omega, ?_⟩⟩
  · simp only [beq_iff_eq] at h1
    rw [PortS.set_cram (by exact ⟨hp.vram, hp.cram, hp.regs⟩) hm]
    simp only [go_sem, hp.vram, hp.cram, hp.regs]
    refine on_ok b { p with sec := false, cram := p.cram.set (p.addr % 32#16).toNat (v &&& 63#8), buf := v } ⟨hp.vram, by simp [hp.cram], hp.regs⟩ _ _ _ (by simp only [go_sem, portB]) ?_
    simp only [go_sem, hb, portB]
    refine Fin.put wf hbn (PortS.cells_ok _ _) h (fun _ _ => ?_) rfl
    simp only [writeS, portB]
    rw [if_pos h1]
  · simp only [beq_eq_false_iff_ne, ne_eq] at h1
    rw [PortS.set_vram (by exact ⟨hp.vram, hp.cram, hp.regs⟩) ha]
    simp only [go_sem, hp.vram, hp.cram, hp.regs]
    refine on_ok b { p with sec := false, vram := p.vram.set p.addr.toNat v, buf := v } ⟨by simp [hp.vram], hp.cram, hp.regs⟩ _ _ _ (by simp only [go_sem, portB]) ?_
    simp only [go_sem, hb, portB]
    refine Fin.put wf hbn (PortS.cells_ok _ _) h (fun _ _ => ?_) rfl
    simp only [writeS, portB]
    rw [if_neg h1]

theorem read_ok (b : Nat) (p : PortS) (hp : p.lens) (ha : p.addr.toNat < 16384) (H : Heap) (n : Nat) (K : AV → Heap → Nat → Prop) (hb : H b = some (portB p)) (h : K (.u8 p.buf) (H.upd b (some (portB (readS p)))) n) :
    ACalls Try.prog 14 [.pt b 0] H n K := by
  refine ACalls.of_ev dr0 Try.func14 rfl (by decide +kernel) (by decide +kernel) (show 1 ≤ 14 by decide) (by simp) fun wf => ?_
  simp only [go_sem, Try.f14]
  have hbn := (wf b _ hb).1
  refine forget_ok b p hp _ _ _ (by simp only [go_sem, hb]) ?_
  simp only [go_sem, hb, portB, forgetS, hp.vram, hp.cram, hp.regs]
  refine fill_ok b { p with sec := false } ⟨hp.vram, hp.cram, hp.regs⟩ ha _ _ _ (by simp only [go_sem, portB]) ?_
  simp only [go_sem, hb, portB]
  exact Fin.put wf hbn (PortS.cells_ok _ _) h (fun _ _ => rfl) rfl

theorem reg_ok (b : Nat) (p : PortS) (hp : p.lens) (i : Int) (H : Heap) (n : Nat) (K : AV → Heap → Nat → Prop) (hb : H b = some (portB p)) (h : K (.u8 (if 0 ≤ i ∧ i < 11 then p.regs.getD i.toNat 0#8 else 0#8)) H n) :
    ACalls Try.prog 17 [.pt b 0, .i64 i] H n K := by
  refine ACalls.of_ev dr0 Try.func17 rfl (by decide +kernel) (by decide +kernel) (show 2 ≤ 17 by decide) (by simp) fun wf => ?_
  simp only [go_sem, Try.f17]
  have hbn := (wf b _ hb).1
  simp only [go_sem, hb, portB, hp, hp.vram, hp.cram, hp.regs]
  refine ⟨fun h1 => ⟨fun h2 => ?_, fun h2 => ⟨by omega, by omega, by omega, ?_⟩⟩, fun h1 => ?_⟩
  · rw [if_neg (by omega)] at h; exact Fin.back wf h (fun _ _ => rfl) rfl
  · rw [if_pos (by omega)] at h
    rw [PortS.get_regs hp (by omega)]
    exact ⟨by simp, Fin.back wf h (fun _ _ => rfl) rfl⟩
  · rw [if_neg (by omega)] at h; exact Fin.back wf h (fun _ _ => rfl) rfl

theorem regs_ok (b : Nat) (p : PortS) (hp : p.lens) (H : Heap) (n : Nat) (K : AV → Heap → Nat → Prop) (hb : H b = some (portB p)) (h : K (.ag (p.regs.map .u8)) H n) :
    ACalls Try.prog 18 [.pt b 0] H n K := by
  refine ACalls.of_ev dr0 Try.func18 rfl (by decide +kernel) (by decide +kernel) (show 1 ≤ 7 by decide) (by simp) fun wf => ?_
  simp only [go_sem, Try.f18]
  have hbn := (wf b _ hb).1
  simp only [go_sem, hbn, hb, portB, hp, hp.regs, List.length_map]
  rw [splice_all (by simp [hp.regs])]
  refine ⟨by simp [hp.regs], ?_⟩
  rw [List.take_of_length_le (by simp [hp.regs])]
  exact Fin.back wf h (fun i hi => by simp only [go_sem, hi]) (by rw [AV.ok, AV.oks_eq]; simp [AV.ok, AV.one])

theorem new_ok (H : Heap) (n : Nat) (K : AV → Heap → Nat → Prop) (h : K (.pt n 0) (H.upd n (some (portB newS))) (n + 1)) :
    ACalls Try.prog 9 [] H n K := by
  refine ACalls.of_ev dr0 Try.func9 rfl (by decide +kernel) (by decide +kernel) (show 0 ≤ 3 by decide) (by simp) fun wf => ?_
  simp only [go_sem, Try.f9]
  have e : newS.cells = List.replicate 16427 (AV.u8 0#8) ++ [AV.u16 0#16, AV.u8 0#8, AV.u8 0#8, AV.u8 0#8, AV.bo false] := by
    unfold PortS.cells PortS.kc newS
    simp only [List.map_replicate, ← List.append_assoc, List.replicate_append_replicate]
  rw [← e]
  exact Fin.keep h
end Go.Proofs.Joy
namespace Go.Proofs.Joy
open Go.Ab Go.Proofs

set_option maxHeartbeats 1000000
set_option maxRecDepth 20000

theorem clone_ok (v : AV) (bs : List (BitVec 8)) (H : Heap) (n : Nat) (K : AV → Heap → Nat → Prop) (hv : bytesIn H v bs) (hl : 0 < bs.length) (hm : bs.length ≤ 4294967296)
    (h : K (.su n 0 bs.length 1) (H.upd n (some ⟨bs.map .u8, 5, false⟩)) (n + 1)) : ACalls Try.prog 29 [v] H n K := by
  rcases hv with ⟨_, rfl⟩ | ⟨su, b, o, c, blk, rfl, h0, h1, h2, h3⟩
  · simp at hl
  cases su
  · simp only [go_sem]
    refine ACalls.of_ev dr0 Try.func29 rfl (by decide +kernel) (by decide +kernel) (show 1 ≤ 8 by decide) (by simp) fun wf => ?_
    simp only [go_sem, Try.f29]
    have hbn := (wf b _ h1).1
    have hp : ¬ bs.length ≤ 0 := by omega
    simp only [go_sem, h1, h2, h3, hbn, hp, hl, List.length_map]
    refine ⟨Nat.zero_le _, hm, ?_⟩
    exact Fin.one (n + 1) wf h (by omega) (by simp only [go_sem]) (fun i hi => by simp only [go_sem, hi]) map_u8_ok (by simp [AV.ren]) (by simp [AV.ok])
  · simp only [go_sem]
    refine ACalls.of_ev dr0 Try.func29 rfl (by decide +kernel) (by decide +kernel) (show 1 ≤ 8 by decide) (by simp) fun wf => ?_
    simp only [go_sem, Try.f29]
    have hbn := (wf b _ h1).1
    have hp : ¬ bs.length ≤ 0 := by omega
    simp only [go_sem, h1, h2, h3, hbn, hp, hl, List.length_map]
    refine ⟨Nat.zero_le _, hm, ?_⟩
    exact Fin.one (n + 1) wf h (by omega) (by simp only [go_sem]) (fun i hi => by simp only [go_sem, hi]) map_u8_ok (by simp [AV.ren]) (by simp [AV.ok])

theorem vram_ok (b : Nat) (p : PortS) (hp : p.lens) (H : Heap) (n : Nat) (K : AV → Heap → Nat → Prop) (hb : H b = some (portB p)) (h : K (.su n 0 16384 1) (H.upd n (some ⟨p.vram.map .u8, 5, false⟩)) (n + 1)) :
    ACalls Try.prog 13 [.pt b 0] H n K := by
  refine ACalls.of_ev dr0 Try.func13 rfl (by decide +kernel) (by decide +kernel) (show 1 ≤ 8 by decide) (by simp) fun wf => ?_
  simp only [go_sem, Try.f13]
  have hbn := (wf b _ hb).1
  refine clone_ok _ p.vram _ _ _ (.sl (blk := portB p) (by simp only [go_sem, hb]) hp.vram.symm (Nat.le_refl _) (by simp only [portB, hp.vram, List.drop_zero, PortS.get_allvram hp]) (by simp only [portB, PortS.len hp, hp.vram]; omega)) (by rw [hp.vram]; omega) (by rw [hp.vram]; omega) ?_
  simp only [go_sem, hp.vram]
  exact Fin.keep h

theorem cram_ok (b : Nat) (p : PortS) (hp : p.lens) (H : Heap) (n : Nat) (K : AV → Heap → Nat → Prop) (hb : H b = some (portB p)) (h : K (.su n 0 32 1) (H.upd n (some ⟨p.cram.map .u8, 5, false⟩)) (n + 1)) :
    ACalls Try.prog 12 [.pt b 0] H n K := by
  refine ACalls.of_ev dr0 Try.func12 rfl (by decide +kernel) (by decide +kernel) (show 1 ≤ 8 by decide) (by simp) fun wf => ?_
  simp only [go_sem, Try.f12]
  have hbn := (wf b _ hb).1
  refine clone_ok _ p.cram _ _ _ (.sl (blk := portB p) (by simp only [go_sem, hb]) hp.cram.symm (Nat.le_refl _) (by simp only [portB, hp.cram, PortS.get_allcram hp]) (by simp only [portB, PortS.len hp, hp.cram]; omega)) (by rw [hp.cram]; omega) (by rw [hp.cram]; omega) ?_
  simp only [go_sem, hp.cram]
  exact Fin.keep h

theorem grow_ok (size : Nat) (H : Heap) (n : Nat) (K : AV → Heap → Nat → Prop) (hl : 0 < size) (hm : size ≤ 4294967296)
    (h : K (.su n 0 0 1) (H.upd n (some ⟨(List.replicate size 0#8).map .u8, 5, false⟩)) (n + 1)) : ACalls Try.prog 34 [.sn, .i64 size] H n K := by
  refine ACalls.of_ev dr0 Try.func34 rfl (by decide +kernel) (by decide +kernel) (show 2 ≤ 27 by decide) (by simp) fun wf => ?_
  simp only [go_sem, Try.f34]
  have w1 : wrap64 ((size : Int) - 0) = size := by rw [wrap_id _ (by omega) (by omega)]; omega
  have hl' : (0 : Int) < size := by omega
  have hm' : (size : Int) ≤ 4294967296 := by omega
  refine ⟨fun h => absurd h (by omega), fun _ => ?_⟩
  simp only [go_sem, w1, hl', hm']
  rw [rep_u8]
  exact ⟨Nat.zero_le _, Fin.keep h⟩

structure CC where
  i : Nat
structure CQ where
  i : Nat
  q : Nat

theorem wf_none {H : Heap} {n i : Nat} (wf : H.wf n) (hi : n ≤ i) : H i = none := by
  cases h : H i with
  | none => rfl
  | some b => have := (wf i b h).1; omega

theorem concat_ok (bx cap : Nat) (ro : Bool) (el : TypeId) (vs : List AV) (bss : List (List (BitVec 8))) (H : Heap) (n : Nat) (K : AV → Heap → Nat → Prop) (hx : H bx = some ⟨vs, el, ro⟩) (hlen : vs.length = bss.length)
    (hv : ∀ i, i < vs.length → bytesIn H (vs.getD i .junk) (bss.getD i [])) (hpos : 0 < bss.flatten.length) (hmax : bss.flatten.length ≤ 4294967296) (hk : bss.length ≤ 1000)
    (h : K (.su n 0 bss.flatten.length 1) (H.upd n (some ⟨bss.flatten.map .u8, 5, false⟩)) (n + 1)) : ACalls Try.prog 30 [.sl bx 0 vs.length cap] H n K := by
  refine ACalls.of_awp Try.func30 rfl (by decide +kernel) (show 1 ≤ 36 by decide) (by simp) fun wf => ?_
  have hbn := (wf bx _ hx).1
  have hvok : ∀ i, i < vs.length → (vs.getD i .junk).ok n = true := fun i hi => by
    rw [List.getD_eq_getElem?_getD, List.getElem?_eq_getElem hi]
    exact (wf bx _ hx).2 _ (List.getElem_mem hi)
  have hsum : ∀ i, ((bss.take (i + 1)).flatten).length = ((bss.take i).flatten).length + (bss.getD i []).length := fun i => by
    rcases Nat.lt_or_ge i bss.length with hi | hi
    · rw [List.take_succ_eq_append_getElem hi, List.flatten_append, List.length_append, List.getD_eq_getElem?_getD, List.getElem?_eq_getElem hi]
      simp
    · rw [List.take_of_length_le (by omega), List.take_of_length_le hi]
      simp [List.getD_eq_getElem?_getD, hi]
  have hle : ∀ i, ((bss.take i).flatten).length ≤ bss.flatten.length := fun i => by
    have : bss.flatten = (bss.take i).flatten ++ (bss.drop i).flatten := by rw [← List.flatten_append, List.take_append_drop]
    rw [this]; simp
  refine awp_step dr0 (by decide +kernel) ?_
  simp only [go_sem, Try.f30]
  refine awp_step dr0 (by decide +kernel) ?_
  simp only [go_sem]
  refine awp_seq (awp_step dr0 (by decide +kernel) ?_)
  simp only [go_sem]
  refine awp_block ?_
  refine awp_loopF (S := CC) (fun s => [(0, .sl bx 0 vs.length cap), (3, .i64 ((bss.take s.i).flatten.length : Nat)), (9, .sl bx 0 vs.length cap), (10, .i64 vs.length), (11, .i64 s.i)]) (fun _ => H) (fun _ => n) (fun s => s.i ≤ vs.length) (fun s => vs.length - s.i)
    (fun s _ => ⟨wf, Env.okAt_of2 (by simp [AV.ok, hbn])⟩) ?_ ⟨0⟩ (Nat.zero_le _) (Env.le_cons rfl (Env.le_cons rfl (Env.le_cons rfl (Env.le_cons rfl (Env.le_cons rfl (Env.le_nil _)))))) (fun _ _ => rfl) rfl
  · rintro ⟨i⟩ hi
    simp only at hi ⊢
    refine awp_step dr0 (by decide +kernel) ?_
    simp only [go_sem]
    refine awp_step dr0 (by decide +kernel) ?_
    simp only [go_sem]
    refine ⟨fun hlt => ?_, fun hlt => ?_⟩
    · have hlt' : i < vs.length := by omega
      have hvi := hv i hlt'
      have hs := hsum i
      have hl1 := hle (i + 1)
      have w1 : wrap64 (((bss.take i).flatten.length : Nat) + ((bss.getD i []).length : Nat) : Int) = ((bss.take (i + 1)).flatten.length : Nat) := by rw [wrap_id _ (by omega) (by omega), hs]; omega
      have w2 : wrap64 ((i : Int) + 1) = ((i + 1 : Nat) : Int) := by rw [wrap_id _ (by omega) (by omega)]; omega
      have hn0 : ¬ (((bss.take (i + 1)).flatten.length : Nat) : Int) < 0 := by omega
      refine awp_ev dr0 (by decide +kernel) ?_
      simp only [go_sem, hx, hlt, hlt', lenB_bytes hvi, w1, w2, hn0, false_implies, true_and]
      refine Ends.mk ⟨i + 1⟩ ⟨by simp only; omega, by simp only; omega⟩ (Env.le_cons rfl (Env.le_cons rfl (Env.le_cons rfl (Env.le_cons rfl (Env.le_cons rfl (Env.le_nil _)))))) (fun _ _ => rfl) (Nat.le_refl _) (Nat.le_refl _)
    · have hie : i = bss.length := by omega
      subst hie
      rw [List.take_length]
      refine awp_step dr0 (by decide +kernel) ?_
      simp only [go_sem]
      refine grow_ok _ _ _ _ hpos hmax ?_
      simp only [go_sem]
      refine awp_seq (awp_step dr0 (by decide +kernel) ?_)
      simp only [go_sem]
      refine awp_block ?_
      refine awp_loopF (S := CQ) (fun s => [(6, .su s.q 0 ((bss.take s.i).flatten.length) 1), (25, .sl bx 0 vs.length cap), (26, .i64 vs.length), (27, .i64 s.i)])
        (fun s => H.upd s.q (some ⟨(if s.i = 0 then List.replicate bss.flatten.length 0#8 else (bss.take s.i).flatten).map .u8, 5, false⟩)) (fun s => s.q + 1) (fun s => s.i ≤ vs.length ∧ n ≤ s.q) (fun s => vs.length - s.i)
        (fun s hs => ⟨Heap.wf_upd (Heap.wf_mono wf hs.2) map_u8_ok, Env.okAt_of2 (by simp [AV.ok]; omega)⟩) ?_ ⟨0, n⟩ ⟨Nat.zero_le _, Nat.le_refl _⟩ (Env.le_cons rfl (Env.le_cons rfl (Env.le_cons rfl (Env.le_cons rfl (Env.le_nil _))))) (fun _ _ => rfl) rfl
      · rintro ⟨i, q⟩ ⟨hi, hq⟩
        simp only at hi hq ⊢
        refine awp_step dr0 (by decide +kernel) ?_
        simp only [go_sem]
        refine awp_step dr0 (by decide +kernel) ?_
        simp only [go_sem]
        refine ⟨fun hlt => ?_, fun hlt => ?_⟩
        · have hlt' : i < vs.length := by omega
          have hbq : bx < q := by omega
          have hvi := hv i hlt'
          have hvi2 : bytesIn (H.upd q (some ⟨(if i = 0 then List.replicate bss.flatten.length 0#8 else (bss.take i).flatten).map .u8, 5, false⟩)) (vs.getD i .junk) (bss.getD i []) := hvi.mono (hvok i hlt') (fun k hk => Heap.upd_ne _ _ (by omega))
          have hs := hsum i
          have hl0 := hle i
          have hl1 := hle (i + 1)
          have w2 : wrap64 ((i : Int) + 1) = ((i + 1 : Nat) : Int) := by rw [wrap_id _ (by omega) (by omega)]; omega
          refine awp_ev dr0 (by decide +kernel) ?_
          simp only [go_sem, hx, hbq, hlt, hlt', appX_bytes hvi2, srcK_bytes hvi2, w2, true_and]
          refine ⟨?_, by omega, ?_⟩
          · rw [List.length_map]; split
            · rw [List.length_replicate]; exact hl0
            · exact Nat.le_refl _
          have hcells : List.take (bss.take i).flatten.length (List.map AV.u8 (if i = 0 then List.replicate bss.flatten.length 0#8 else (bss.take i).flatten)) ++ List.map AV.u8 (bss.getD i []) = ((bss.take (i + 1)).flatten).map AV.u8 := by
            have e1 : (bss.take (i + 1)).flatten = (bss.take i).flatten ++ bss.getD i [] := by
              rw [List.take_succ_eq_append_getElem (by omega), List.flatten_append, List.getD_eq_getElem?_getD, List.getElem?_eq_getElem (by omega)]; simp
            rw [e1, List.map_append]
            congr 1
            split
            · rename_i h0; subst h0; simp
            · rw [List.take_of_length_le (by rw [List.length_map]; exact Nat.le_refl _)]
          rw [hcells, ← hs]
          refine Ends.mk ⟨i + 1, q + 1⟩ ⟨by simp only; omega, by simp only; omega, by simp only; omega⟩ (Env.le_cons rfl (Env.le_cons rfl (Env.le_cons rfl (Env.le_cons rfl (Env.le_nil _))))) ?_ (by simp only; omega) (Nat.le_refl _)
          intro k hk
          simp only [Nat.add_eq_zero_iff, Nat.succ_ne_self, and_false, if_false]
          obtain hk | rfl | rfl : k < q ∨ k = q ∨ k = q + 1 := by simp only at hk; omega
          · simp only [go_sem, hk]
          · simp only [go_sem]; rw [wf_none wf hq]
          · simp only [go_sem]
        · have hie2 : i = bss.length := by omega
          subst hie2
          have hb0 : bss.length ≠ 0 := by rintro h0; rw [List.length_eq_zero_iff.1 h0] at hpos; simp at hpos
          rw [List.take_length, if_neg hb0]
          refine awp_ev dr0 (by decide +kernel) ?_
          simp only [go_sem]
          exact Fin.one q wf h hq (by simp only [go_sem]) (fun k hk => by rw [Heap.upd_ne _ _ (by omega)]) map_u8_ok (by simp [AV.ren]) (by simp [AV.ok])
end Go.Proofs.Joy
namespace Go.Proofs.Joy
open Go.Ab Go.Proofs

set_option maxHeartbeats 1000000
set_option maxRecDepth 20000

def idxS (p : BitVec 8 → Bool) (bs : List (BitVec 8)) : Int := match bs.findIdx? p with
  | some i => i
  | none => -1
theorem idxS_nonneg (p : BitVec 8 → Bool) (bs : List (BitVec 8)) : decide (0 ≤ idxS p bs) = bs.any p := by
  unfold idxS
  cases h : bs.findIdx? p with
  | none =>
    rw [List.findIdx?_eq_none_iff] at h
    symm; simpa [List.any_eq_false] using h
  | some i =>
    have : (bs.findIdx? p).isSome = true := by rw [h]; rfl
    rw [List.findIdx?_isSome] at this
    rw [this]; simp

theorem index_ok (v : AV) (bs : List (BitVec 8)) (f : Nat) (p : BitVec 8 → Bool) (H : Heap) (n : Nat) (K : AV → Heap → Nat → Prop) (hv : bytesIn H v bs) (hm : bs.length ≤ 4294967296)
    (hf : ∀ (x : BitVec 8) (H : Heap) (n : Nat) (K : AV → Heap → Nat → Prop), K (.bo (p x)) H n → ACalls Try.prog f [.u8 x] H n K) (h : K (.i64 (idxS p bs)) H n) : ACalls Try.prog 35 [v, .fn f []] H n K := by
  refine ACalls.of_awp Try.func35 rfl (by decide +kernel) (show 2 ≤ 19 by decide) (by simp [hv.ne]) fun wf => ?_
  have hlen := lenB_bytes hv
  have hvok : v.ok n = true := by
    rcases hv with ⟨rfl, rfl⟩ | ⟨su, b, o, c, blk, rfl, h0, h1, h2, h3⟩
    · rfl
    · exact vw_ok (wf b _ h1).1
  have hlb : ∀ K, lenB (some .slice) v K = K (.i64 bs.length) := lenB_bytes hv
  refine awp_step dr0 (by decide +kernel) ?_
  simp only [go_sem, Try.f35]
  refine awp_seq (awp_step dr0 (by decide +kernel) ?_)
  simp only [go_sem, hlb]
  refine awp_block ?_
  refine awp_loopF (S := CC) (fun s => [(0, v), (1, .fn f []), (7, .i64 bs.length), (8, .i64 s.i)]) (fun _ => H) (fun _ => n) (fun s => s.i ≤ bs.length ∧ (bs.take s.i).any p = false) (fun s => bs.length - s.i)
    (fun s _ => ⟨wf, Env.okAt_of2 (by simp [AV.ok, AV.oks, hvok])⟩) ?_ ⟨0⟩ ⟨Nat.zero_le _, by simp⟩ (Env.le_cons rfl (Env.le_cons rfl (Env.le_cons rfl (Env.le_cons rfl (Env.le_nil _))))) (fun _ _ => rfl) rfl
  rintro ⟨i⟩ ⟨hi, hno⟩
  simp only at hi hno ⊢
  refine awp_step dr0 (by decide +kernel) ?_
  simp only [go_sem]
  refine awp_step dr0 (by decide +kernel) ?_
  simp only [go_sem]
  refine ⟨fun hlt => ?_, fun hlt => ?_⟩
  · have hlt' : i < bs.length := by omega
    have w2 : wrap64 ((i : Int) + 1) = ((i + 1 : Nat) : Int) := by rw [wrap_id _ (by omega) (by omega)]; omega
    have hget : bs.take (i + 1) = bs.take i ++ [bs.getD i 0#8] := by
      rw [List.take_succ_eq_append_getElem hlt', List.getD_eq_getElem?_getD, List.getElem?_eq_getElem hlt']; rfl
    refine awp_ev dr0 (by decide +kernel) ?_
    simp only [go_sem]
    rcases hv with ⟨rfl, rfl⟩ | ⟨su, b, o, c, blk, rfl, h0, h1, h2, h3⟩
    · simp at hlt'
    refine ixB_vw hlt' ?_
    obtain ⟨q1, q2⟩ := cells_at h2 h3 hlt'
    simp only [go_sem, h1, q1, q2, true_and]
    refine hf _ _ _ _ ?_
    simp only [go_sem]
    refine ⟨fun hp => ?_, fun hp => ?_⟩
    · refine Fin.back wf ?_ (fun _ _ => rfl) rfl
      have : idxS p bs = i := by
        unfold idxS
        have : bs.findIdx? p = some i := by
          rw [List.findIdx?_eq_some_iff_getElem]
          refine ⟨hlt', by simpa [List.getD_eq_getElem?_getD, hlt'] using hp, fun j hj => ?_⟩
          rw [List.any_eq_false] at hno
          exact hno _ (List.mem_take_iff_getElem.2 ⟨j, by omega, rfl⟩)
        rw [this]
      rw [this] at h
      exact h
    · simp only [w2]
      exact Ends.mk ⟨i + 1⟩ ⟨by simp only; omega, by simp only; omega, by simp only [hget, List.any_append, hno]; simpa using hp⟩ (Env.le_cons rfl (Env.le_cons rfl (Env.le_cons rfl (Env.le_cons rfl (Env.le_nil _))))) (fun _ _ => rfl) (Nat.le_refl _) (Nat.le_refl _)
  · have hie : i = bs.length := by omega
    subst hie
    rw [List.take_length] at hno
    refine awp_ev dr0 (by decide +kernel) ?_
    simp only [go_sem]
    refine Fin.back wf ?_ (fun _ _ => rfl) rfl
    have : idxS p bs = -1 := by
      unfold idxS
      have : bs.findIdx? p = none := by rw [List.findIdx?_eq_none_iff]; simpa [List.any_eq_false] using hno
      rw [this]
    rw [this] at h
    exact h

theorem contains_ok (v : AV) (bs : List (BitVec 8)) (f : Nat) (p : BitVec 8 → Bool) (H : Heap) (n : Nat) (K : AV → Heap → Nat → Prop) (hv : bytesIn H v bs) (hm : bs.length ≤ 4294967296)
    (hf : ∀ (x : BitVec 8) (H : Heap) (n : Nat) (K : AV → Heap → Nat → Prop), K (.bo (p x)) H n → ACalls Try.prog f [.u8 x] H n K) (h : K (.bo (bs.any p)) H n) : ACalls Try.prog 31 [v, .fn f []] H n K := by
  refine ACalls.of_ev dr0 Try.func31 rfl (by decide +kernel) (by decide +kernel) (show 2 ≤ 9 by decide) (by simp [hv.ne]) fun wf => ?_
  simp only [go_sem, Try.f31]
  refine index_ok v bs f p _ _ _ hv hm hf ?_
  simp only [go_sem, idxS_nonneg]
  exact Fin.back wf h (fun _ _ => rfl) rfl

theorem load1_ok (x : BitVec 8) (H : Heap) (n : Nat) (K : AV → Heap → Nat → Prop) (h : K (.bo (decide (63#8 < x))) H n) : ACalls Try.prog 32 [.u8 x] H n K := by
  refine ACalls.of_ev dr0 Try.func32 rfl (by decide +kernel) (by decide +kernel) (show 1 ≤ 5 by decide) (by simp) fun wf => ?_
  simp only [go_sem, Try.f32]
  exact Fin.back wf h (fun _ _ => rfl) rfl

def portFits (d : List (BitVec 8)) : Bool := d.length == 16433 && !((d.drop 16384).take 32).any (fun c => decide (63#8 < c)) && !decide (63#8 < d.getD 16428 0#8) && !decide (3#8 < d.getD 16429 0#8) && !decide (1#8 < d.getD 16431 0#8)
def portOf (d : List (BitVec 8)) : PortS :=
  ⟨d.take 16384, (d.drop 16384).take 32, (d.drop 16416).take 11, (d.getD 16427 0#8).setWidth 16 ||| (d.getD 16428 0#8).setWidth 16 <<< 8, d.getD 16429 0#8, d.getD 16430 0#8, d.getD 16432 0#8, d.getD 16431 0#8 == 1#8⟩

theorem load_ok (b : Nat) (p : PortS) (hp : p.lens) (v : AV) (d : List (BitVec 8)) (H : Heap) (n : Nat) (K : AV → Heap → Nat → Prop) (hb : H b = some (portB p)) (hv0 : bytesIn (H.upd b none) v d) (hm : d.length ≤ 4294967296)
    (h : K (.i64 (if portFits d then 0 else 131)) (if portFits d then H.upd b (some (portB (portOf d))) else H) n) : ACalls Try.prog 16 [.pt b 0, v] H n K := by
  refine ACalls.of_awp Try.func16 rfl (by decide +kernel) (show 2 ≤ 82 by decide) (by simp [hv0.ne]) fun wf => ?_
  have hbn := (wf b _ hb).1
  have hlb : ∀ K, lenB (some .slice) v K = K (.i64 d.length) := lenB_bytes hv0
  refine awp_step dr16 (by decide +kernel) ?_
  simp only [go_sem, Try.f16]
  by_cases hlen : d.length = 16433
  rotate_left
  · have hne : ((d.length : Int) != 16433) = true := by rw [bne_iff_ne]; omega
    have hf : portFits d = false := by unfold portFits; simp [hlen]
    rw [hf] at h
    refine awp_step dr16 (by decide +kernel) ?_
    simp only [go_sem, hlb, hne]
    exact Fin.back wf h (fun _ _ => rfl) rfl
  have hne : ((d.length : Int) != 16433) = false := by rw [hlen]; rfl
  refine awp_step dr16 (by decide +kernel) ?_
  simp only [go_sem, hlb, hne]
  rcases hv0 with ⟨rfl, rfl⟩ | ⟨su, b2, o, c, blk, rfl, h0, h1, h2, h3⟩
  · simp at hlen
  have hne2 : b2 ≠ b := by
    rintro rfl
    rw [Heap.upd_same] at h1
    cases h1
  rw [Heap.upd_ne _ _ hne2] at h1
  refine awp_step dr16 (by decide +kernel) ?_
  simp only [go_sem]
  have hix : ixT Try.prog 22 = some (none, false, 1) := by simp only [go_sem]
  refine slB_vw hix h1 (by omega) h0 16384 16416 rfl (by omega) (by omega) ?_
  simp only [go_sem]
  refine awp_step dr16 (by decide +kernel) ?_
  simp only [go_sem]
  refine slB_vw hix h1 (by omega) h0 16427 16433 (by rw [hlen]) (by omega) (by omega) ?_
  simp only [go_sem]
  refine awp_step dr16 (by decide +kernel) ?_
  simp only [go_sem]
  have hcut : bytesIn H (vw su b2 (o + 16384) 32 (c - 16384)) ((d.drop 16384).take 32) := bytesIn.cut h1 rfl h0 h2 h3 (lo := 16384) (hi := 16416) (by omega) (by omega)
  refine contains_ok _ _ _ (fun x => decide (63#8 < x)) _ _ _ hcut (by simp; omega) (fun x H n K h => load1_ok x H n K h) ?_
  simp only [go_sem]
  have at6 : ∀ i, i < 6 → o + (16427 + i) < blk.cells.length ∧ blk.cells.getD (o + (16427 + i)) .junk = .u8 (d.getD (16427 + i) 0#8) := fun i hi => cells_at h2 h3 (by omega)
  obtain ⟨g0, e0⟩ := at6 0 (by omega)
  obtain ⟨g1, e1⟩ := at6 1 (by omega)
  obtain ⟨g2, e2⟩ := at6 2 (by omega)
  obtain ⟨g3, e3⟩ := at6 3 (by omega)
  obtain ⟨g4, e4⟩ := at6 4 (by omega)
  obtain ⟨g5, e5⟩ := at6 5 (by omega)
  simp only [Nat.reduceAdd, Nat.add_zero] at g0 g1 g2 g3 g4 g5 e0 e1 e2 e3 e4 e5
  refine awp_seqF (S := Unit) (fun _ => [(0, .pt b 0), (1, vw su b2 o d.length c), (5, vw su b2 (o + 16384) 32 (c - 16384)), (6, vw su b2 (o + 16427) 6 (c - 16427))]) (fun _ => H) (fun _ => n) (fun _ => portFits d = true)
    (fun _ _ => ⟨wf, Env.okAt_of2 (by simp [AV.ok, hbn, vw_ok (wf b2 _ h1).1])⟩) ?_ ?_
  · refine awp_ev dr0 (by decide +kernel) ?_
    simp only [go_sem, h1, g1, g2, g4, e1, e2, e4]
    have pf : portFits d = (!(((d.drop 16384).take 32).any fun x => decide (63#8 < x)) && !decide (63#8 < d.getD 16428 0#8) && !decide (3#8 < d.getD 16429 0#8) && !decide (1#8 < d.getD 16431 0#8)) := by
      unfold portFits; simp [hlen]
    have bad : portFits d = false → Fin n (.i64 131) H n K := fun hf => by
      rw [hf] at h; exact Fin.back wf h (fun _ _ => rfl) rfl
    refine ⟨fun a1 => ⟨fun a2 => ⟨fun a3 => ⟨fun a4 => ?_, fun a4 => ?_⟩, fun a3 => ?_⟩, fun a2 => ?_⟩, fun a1 => ?_⟩
    · exact bad (by rw [pf]; simp only [a4, decide_true, Bool.not_true, Bool.and_false, Bool.false_and])
    · exact Ends.mk () (by rw [pf]; simp only [a1, a2, a3, a4]; rfl) (Env.le_cons rfl (Env.le_cons rfl (Env.le_cons rfl (Env.le_cons rfl (Env.le_nil _))))) (fun _ _ => rfl) (Nat.le_refl _) (Nat.le_refl _)
    · exact bad (by rw [pf]; simp only [a3, decide_true, Bool.not_true, Bool.and_false, Bool.false_and])
    · exact bad (by rw [pf]; simp only [a2, decide_true, Bool.not_true, Bool.and_false, Bool.false_and])
    · exact bad (by rw [pf, a1]; rfl)
  rintro - hfits
  rw [hfits] at h
  simp only [if_true] at h
  have hbv : bytesIn H (vw su b2 o d.length c) d := .vw h1 rfl h0 h2 h3
  have hm1 : min d.length 16384 = 16384 := by omega
  refine awp_step dr16 (by decide +kernel) ?_
  simp only [go_sem, hb, portB, hp, srcK_bytes hbv, hm1]
  rw [← List.map_take, PortS.splice_vram (xs := d.take 16384) hp (by simp; omega)]
  have hp1 : ({ p with vram := d.take 16384 } : PortS).lens := ⟨by simp; omega, hp.cram, hp.regs⟩
  have hcutA : ∀ X : Option Blk, bytesIn (H.upd b X) (vw su b2 (o + 16384) 32 (c - 16384)) ((d.drop 16384).take 32) := fun X => bytesIn.cut (by rw [Heap.upd_ne _ _ hne2]; exact h1) rfl h0 h2 h3 (lo := 16384) (hi := 16416) (by omega) (by omega)
  have hm2 : ((d.drop 16384).take 32).length = 32 := by simp; omega
  have hdropA : ∀ X : Option Blk, bytesIn (H.upd b X) (vw su b2 (o + 16416) 17 (c - 16416)) ((d.drop 16416).take 17) := fun X => bytesIn.cut (by rw [Heap.upd_ne _ _ hne2]; exact h1) rfl h0 h2 h3 (lo := 16416) (hi := 16433) (by omega) (by omega)
  have hm3 : ((d.drop 16416).take 17).length = 17 := by simp; omega
  refine awp_step dr16 (by decide +kernel) ?_
  simp only [go_sem, hb, portB, hp1, srcK_bytes (hcutA _), hm2, Nat.min_self]
  rw [PortS.splice_cram hp1 hm2]
  have hp2 : ({ p with vram := d.take 16384, cram := (d.drop 16384).take 32 } : PortS).lens := ⟨by simp; omega, hm2, hp.regs⟩
  refine awp_seq (awp_tree td16_10 tr16_10 (by decide +kernel) (by decide +kernel) ?_)
  simp only [go_sem, hb, portB, hp2, hm3]
  refine slB_vw hix (by rw [Heap.upd_ne _ _ hne2]; exact h1) (by omega) h0 16416 16433 (by simp only [hlen]) (by omega) (by omega) ?_
  simp only [go_sem, srcK_bytes (hdropA _), hm3, hp2]
  rw [← List.map_take, PortS.splice_regs hp2 (xs := ((d.drop 16416).take 17).take 11) (by simp; omega), List.take_take]
  simp only [Nat.min_eq_left (show 11 ≤ 17 by decide)]
  have hup : ∀ X : Option Blk, (H.upd b X) b2 = some blk := fun X => by rw [Heap.upd_ne _ _ hne2]; exact h1
  have hp3 : ({ p with vram := d.take 16384, cram := (d.drop 16384).take 32, regs := (d.drop 16416).take 11 } : PortS).lens := ⟨by simp; omega, hm2, by simp; omega⟩
  refine awp_step dr16 (by decide +kernel) ?_
  simp only [go_sem, hb, portB, hp3, hup, g0, g1, g2, g3, g4, g5, e0, e1, e2, e3, e4, e5]
  rw [PortS.splice_kept hp3]
  refine awp_ev dr0 (by decide +kernel) ?_
  simp only [go_sem]
  exact Fin.put wf hbn (PortS.cells_ok _ _) h (fun _ _ => rfl) rfl
end Go.Proofs.Joy
namespace Go.Proofs.Joy
open Go.Ab Go.Proofs

set_option maxHeartbeats 1000000
set_option maxRecDepth 20000

def dumpL (p : PortS) : List (BitVec 8) := p.vram ++ (p.cram ++ (p.regs ++ [p.addr.setWidth 8, (p.addr >>> 8).setWidth 8, p.code, p.low, if p.sec then 1#8 else 0#8, p.buf]))

theorem dump_ok (b : Nat) (p : PortS) (hp : p.lens) (H : Heap) (n : Nat) (K : AV → Heap → Nat → Prop) (hb : H b = some (portB p))
    (h : K (.su n 0 16433 1) (H.upd n (some ⟨(dumpL p).map .u8, 5, false⟩)) (n + 1)) : ACalls Try.prog 15 [.pt b 0] H n K := by
  refine ACalls.of_awp Try.func15 rfl (by decide +kernel) (show 1 ≤ 54 by decide) (by simp) fun wf => ?_
  have hbn := (wf b _ hb).1
  refine awp_step dr15 (by decide +kernel) ?_
  simp only [go_sem, Try.f15]
  refine awp_step dr15 (by decide +kernel) ?_
  simp only [go_sem]
  refine awp_step dr15 (by decide +kernel) ?_
  simp only [go_sem, hb, portB, hp]
  have hl1 : (p.vram ++ (p.cram ++ p.regs)).length = 16427 := by simp [hp.vram, hp.cram, hp.regs]
  have key : ∀ (H' : Heap) (n' : Nat) (el : TypeId) (c : Nat) (ro : Bool) (K : AV → Heap → Nat → Prop) (bx : Nat), n ≤ n' → (∀ i, i < n → H' i = H i) → H' bx = some ⟨[.sl b 0 16384 16384, .sl b 16384 32 32, .sl b 16416 11 11], el, ro⟩ →
      K (.su n' 0 16427 1) (H'.upd n' (some ⟨(p.vram ++ (p.cram ++ p.regs)).map .u8, 5, false⟩)) (n' + 1) → ACalls Try.prog 30 [.sl bx 0 3 c] H' n' K := by
    intro H' n' el c ro K bx hn hag hbx hk
    have e : [p.vram, p.cram, p.regs].flatten = p.vram ++ (p.cram ++ p.regs) := by simp
    have hb' : H' b = some (portB p) := by rw [hag b hbn]; exact hb
    refine concat_ok bx c ro el _ [p.vram, p.cram, p.regs] H' n' K hbx rfl ?_ (by rw [e, hl1]; decide) (by rw [e, hl1]; decide) (by simp) (by rw [e, hl1]; exact hk)
    intro i hi
    obtain rfl | rfl | rfl : i = 0 ∨ i = 1 ∨ i = 2 := by simp at hi; omega
    · show bytesIn H' (.sl b 0 16384 16384) p.vram
      exact .sl (blk := portB p) hb' hp.vram.symm (Nat.le_refl _) (by simp only [portB, hp.vram, List.drop_zero, PortS.get_allvram hp]) (by simp only [portB, PortS.len hp, hp.vram]; omega)
    · show bytesIn H' (.sl b 16384 32 32) p.cram
      exact .sl (blk := portB p) hb' hp.cram.symm (Nat.le_refl _) (by simp only [portB, hp.cram, PortS.get_allcram hp]) (by simp only [portB, PortS.len hp, hp.cram]; omega)
    · show bytesIn H' (.sl b 16416 11 11) p.regs
      exact .sl (blk := portB p) hb' hp.regs.symm (Nat.le_refl _) (by simp only [portB, hp.regs, PortS.get_allregs hp]) (by simp only [portB, PortS.len hp, hp.regs]; omega)
  have hc : ∀ s, (if p.sec then 1#8 else 0#8) = s → List.take 16427 (List.map AV.u8 (p.vram ++ (p.cram ++ p.regs))) ++ [AV.u8 (BitVec.setWidth 8 p.addr), AV.u8 (BitVec.setWidth 8 (p.addr >>> 8)), AV.u8 p.code, AV.u8 p.low, AV.u8 s, AV.u8 p.buf] = (dumpL p).map .u8 := by
    rintro s rfl
    rw [List.take_of_length_le (by rw [List.length_map, hl1]; exact Nat.le_refl _)]
    simp only [dumpL, List.map_append, List.map_cons, List.map_nil, List.append_assoc]
  cases hs : p.sec
  · refine ⟨nofun, fun _ => ?_⟩
    refine awp_seq (awp_tree td15_4 tr15_4 (by decide +kernel) (by decide +kernel) ?_)
    simp only [go_sem, hb, portB, hp, hbn]
    refine ⟨⟨?_, ?_⟩, ?_⟩
    all_goals
      refine key _ _ 22 3 false _ _ (by omega) (fun i hi => by simp only [go_sem, hi]) (by simp only [go_sem]) ?_
      simp only [go_sem, hb, portB, hp, hbn]
      refine ⟨by rw [List.length_map, hl1]; exact Nat.le_refl _, ?_⟩
      rw [hc _ (by rw [hs]; rfl)]
      refine awp_ev dr0 (by decide +kernel) ?_
      simp only [go_sem]
      exact Fin.one (n + 3) wf h (by omega) (by simp only [go_sem]) (fun i hi => by simp only [go_sem, hi]) map_u8_ok (by simp [AV.ren]) (by simp [AV.ok])
  · refine ⟨fun _ => ?_, nofun⟩
    refine awp_seq (awp_tree td15_4 tr15_4 (by decide +kernel) (by decide +kernel) ?_)
    simp only [go_sem, hb, portB, hp, hbn]
    refine ⟨⟨?_, ?_⟩, ?_⟩
    all_goals
      refine key _ _ 22 3 false _ _ (by omega) (fun i hi => by simp only [go_sem, hi]) (by simp only [go_sem]) ?_
      simp only [go_sem, hb, portB, hp, hbn]
      refine ⟨by rw [List.length_map, hl1]; exact Nat.le_refl _, ?_⟩
      rw [hc _ (by rw [hs]; rfl)]
      refine awp_ev dr0 (by decide +kernel) ?_
      simp only [go_sem]
      exact Fin.one (n + 3) wf h (by omega) (by simp only [go_sem]) (fun i hi => by simp only [go_sem, hi]) map_u8_ok (by simp [AV.ren]) (by simp [AV.ok])
end Go.Proofs.Joy
namespace Go.Proofs.Joy
open Go.Ab Go.Proofs

set_option maxHeartbeats 1000000
set_option maxRecDepth 20000

theorem alive_regs (p : PortS) (h : p.sec = false) (h' : p.regs.length = 11) : (controlS (controlS p 5#8) 129#8).regs.getD 1 0#8 = 5#8 := by
  have : (controlS (controlS p 5#8) 129#8).regs = p.regs.set 1 5#8 := by simp [controlS, h]
  rw [this]; simp [List.getD_eq_getElem?_getD, h']

theorem alive_ok (H : Heap) (n : Nat) (K : AV → Heap → Nat → Prop) (h : K (.bo true) H n) : ACalls Try.prog 8 [] H n K := by
  refine ACalls.of_ev dr0 Try.func8 rfl (by decide +kernel) (by decide +kernel) (show 0 ≤ 24 by decide) (by simp) fun wf => ?_
  simp only [go_sem, Try.f8]
  have h0 := newS_ok
  have h1 := h0.control 5#8
  have h2 := h1.control 129#8
  have hr := alive_regs newS rfl h0.regs
  refine new_ok _ _ _ ?_
  simp only [go_sem]
  refine control_ok n newS h0.lens _ _ _ _ (by simp only [go_sem]) ?_
  simp only [go_sem]
  refine control_ok n _ h1.lens _ _ _ _ (by simp only [go_sem]) ?_
  simp only [go_sem]
  refine reg_ok n _ h2.lens _ _ _ _ (by simp only [go_sem]) ?_
  rw [if_pos (by decide), show Int.toNat 1 = 1 from rfl, hr]
  simp only [go_sem]
  refine vram_ok n _ h2.lens _ _ _ (by simp only [go_sem]) ?_
  simp only [go_sem]
  refine cram_ok n _ h2.lens _ _ _ (by simp only [go_sem]) ?_
  simp only [go_sem]
  exact Fin.back wf h (fun i hi => by simp only [go_sem, hi]) rfl

theorem names_walk (H : Heap) (n : Nat) (K : AV → Heap → Nat → Prop) (h : K (.bo true) H n) : ACalls Try.prog 5 [] H n K := by
  refine ACalls.of_ev dr0 Try.func5 rfl (by decide +kernel) (by decide +kernel) (show 0 ≤ 32 by decide) (by simp) fun wf => ?_
  simp only [go_sem, Try.f5]
  have h0 := newS_ok
  refine alive_ok _ _ _ ?_
  simp only [go_sem]
  refine new_ok _ _ _ ?_
  simp only [go_sem]
  refine dump_ok n _ h0.lens _ _ _ (by simp only [go_sem]) ?_
  simp only [go_sem]
  refine load_ok n newS h0.lens .sn [] _ _ _ (by simp only [go_sem]) (.inl ⟨rfl, rfl⟩) (by decide) ?_
  rw [show portFits [] = false from rfl]
  simp only [go_sem]
  refine reg_ok n _ h0.lens _ _ _ _ (by simp only [go_sem]) ?_
  rw [if_neg (by decide)]
  simp only [go_sem]
  refine reg_ok n _ h0.lens _ _ _ _ (by simp only [go_sem]) ?_
  rw [if_neg (by decide)]
  simp only [go_sem]
  refine regs_ok n _ h0.lens _ _ _ (by simp only [go_sem]) ?_
  simp only [go_sem]
  have e : newS.regs.map AV.u8 = [.u8 0#8, .u8 0#8, .u8 0#8, .u8 0#8, .u8 0#8, .u8 0#8, .u8 0#8, .u8 0#8, .u8 0#8, .u8 0#8, .u8 0#8] := rfl
  rw [e]
  refine ⟨by decide +kernel, ?_⟩
  refine Fin.back (v := .bo true) wf h (fun i hi => by simp only [go_sem, hi]) rfl

def CI (at_ : BitVec 8) (b : List (BitVec 8)) (k : Nat) (p : PortS) : Prop :=
  p.lens ∧ p.code = 3#8 ∧ p.addr.toNat = at_.toNat + k ∧ p.vram = List.replicate 16384 0#8 ∧ ∀ j, j < k → p.cram.getD ((at_.toNat + j) % 32) 0#8 = b.getD j 0#8 &&& 63#8

theorem CI.start (at_ : BitVec 8) (b : List (BitVec 8)) : CI at_ b 0 (controlS (controlS newS at_) 192#8) := by
  have e : controlS (controlS newS at_) 192#8 = { newS with low := at_, code := 3#8, addr := at_.setWidth 16 } := by
    have : ∀ p : PortS, p.sec = false → controlS (controlS p at_) 192#8 = { p with low := at_, code := 3#8, addr := at_.setWidth 16 } := fun p hp => by
      simp [controlS, hp]
    rw [this newS rfl]
  rw [e]
  refine ⟨⟨newS_ok.vram, newS_ok.cram, newS_ok.regs⟩, rfl, ?_, rfl, fun j hj => absurd hj (Nat.not_lt_zero _)⟩
  simp only [BitVec.toNat_setWidth]
  have := at_.isLt
  omega
theorem CI.step {at_ : BitVec 8} {b : List (BitVec 8)} {k : Nat} {p : PortS} (h : CI at_ b k p) (hk : k < 32) : CI at_ b (k + 1) (writeS p (b.getD k 0#8)) := by
  obtain ⟨h1, h2, h3, h4, h5⟩ := h
  have hat := at_.isLt
  unfold writeS
  rw [if_pos h2]
  have ham : (p.addr % 32#16).toNat = (at_.toNat + k) % 32 := by rw [BitVec.toNat_umod, h3]; rfl
  refine ⟨⟨h1.vram, by simp [onS, h1.cram], h1.regs⟩, h2, ?_, h4, fun j hj => ?_⟩
  · simp only [onS, BitVec.toNat_and, BitVec.toNat_add, h3]
    rw [show (16383#16).toNat = 2 ^ 14 - 1 from rfl, Nat.and_two_pow_sub_one_eq_mod]
    simp only [BitVec.toNat_ofNat]; omega
  · simp only [onS, ham]
    rw [List.getD_eq_getElem?_getD, List.getElem?_set]
    have hlt : (at_.toNat + k) % 32 < p.cram.length := by rw [h1.cram]; exact Nat.mod_lt _ (by decide)
    by_cases hjk : j = k
    · subst hjk
      rw [if_pos rfl, if_pos hlt]; rfl
    · rw [if_neg (by omega), ← List.getD_eq_getElem?_getD]
      exact h5 j (by omega)

structure LS where
  i : Nat
  p : PortS

theorem colors_walk (at_ : BitVec 8) (z : Bool) (bb cap : Nat) (bs : List (BitVec 8)) (el : TypeId) (ro : Bool) (H : Heap) (n : Nat) (K : AV → Heap → Nat → Prop) (hb : z = false ∨ 0 < bs.length → H bb = some ⟨bs.map .u8, el, ro⟩) (hm : bs.length ≤ maxLen)
    (h : K (.bo true) H n) : ACalls Try.prog 3 [.u8 at_, slz z bb bs.length cap] H n K := by
  refine ACalls.of_awp Try.func3 rfl (by decide +kernel) (show 2 ≤ 59 by decide) (by simp [slz_ne]) fun wf => ?_
  have hvok : (slz z bb bs.length cap).ok n = true := slz_ok' (fun hl => (wf bb _ (hb (.inr hl))).1) z cap fun hz => (wf bb _ (hb (.inl hz))).1
  have h0 := newS_ok
  have h1 := h0.control at_
  have h2 := h1.control 192#8
  refine awp_step dr3 (by decide +kernel) ?_
  simp only [go_sem, Try.f3]
  refine awp_step dr3 (by decide +kernel) ?_
  simp only [go_sem]
  refine alive_ok _ _ _ ?_
  simp only [go_sem]
  refine awp_step dr3 (by decide +kernel) ?_
  simp only [go_sem]
  refine ⟨fun hl => Fin.back wf h (fun _ _ => rfl) rfl, fun hl => ?_⟩
  refine awp_step dr3 (by decide +kernel) ?_
  simp only [go_sem]
  refine new_ok _ _ _ ?_
  simp only [go_sem]
  refine awp_step dr3 (by decide +kernel) ?_
  simp only [go_sem]
  refine control_ok n newS h0.lens _ _ _ _ (by simp only [go_sem]) ?_
  simp only [go_sem]
  refine awp_step dr3 (by decide +kernel) ?_
  simp only [go_sem]
  refine control_ok n _ h1.lens _ _ _ _ (by simp only [go_sem]) ?_
  simp only [go_sem]
  refine awp_seq (awp_step dr0 (by decide +kernel) ?_)
  simp only [go_sem]
  refine awp_block ?_
  have hb1 : ∀ i : Nat, i < bs.length → bb < n ∧ H bb = some ⟨bs.map .u8, el, ro⟩ := fun i hi => ⟨(wf bb _ (hb (.inr (by omega)))).1, hb (.inr (by omega))⟩
  have hget : ∀ i, i < bs.length → (bs.map AV.u8).getD i .junk = .u8 (bs.getD i 0#8) := fun i hi => getD_map_u8' hi
  refine awp_loopF (S := LS) (fun s => [(0, .u8 at_), (1, slz z bb bs.length cap), (5, .pt n 0), (22, slz z bb bs.length cap), (23, .i64 bs.length), (24, .i64 s.i)]) (fun s => H.upd n (some (portB s.p))) (fun _ => n + 1)
    (fun s => s.i ≤ bs.length ∧ CI at_ bs s.i s.p) (fun s => bs.length - s.i)
    (fun s _ => ⟨Heap.wf_upd wf (PortS.cells_ok _ _), Env.okAt_of2 (by simp [AV.ok, AV.ok_mono (Nat.le_succ n) _ hvok])⟩) ?_ ⟨0, _⟩ ⟨Nat.zero_le _, CI.start at_ bs⟩ (Env.le_cons rfl (Env.le_cons rfl (Env.le_cons rfl (Env.le_cons rfl (Env.le_cons rfl (Env.le_cons rfl (Env.le_nil _))))))) (fun _ _ => rfl) rfl
  rintro ⟨i, p⟩ ⟨hi, hI⟩
  simp only at hi hI ⊢
  have hp := hI.1
  refine awp_step dr0 (by decide +kernel) ?_
  simp only [go_sem]
  refine awp_step dr0 (by decide +kernel) ?_
  simp only [go_sem]
  refine ⟨fun hlt => ?_, fun hlt => ?_⟩
  · have hlt' : i < bs.length := by omega
    have w2 : wrap64 ((i : Int) + 1) = ((i + 1 : Nat) : Int) := by rw [wrap_id _ (by omega) (by omega)]; omega
    obtain ⟨hbb, hbl⟩ := hb1 i hlt'
    refine awp_ev dr0 (by decide +kernel) ?_
    simp only [go_sem, slz_pos (z := z) (b := bb) (c := cap) (show 0 < bs.length by omega), hbb, hbl, hlt, hlt', List.length_map, hget i hlt']
    refine write_ok n p hp (by rw [hI.2.2.1]; have := at_.isLt; omega) _ _ _ _ (by simp only [go_sem]) ?_
    simp only [go_sem, w2]
    exact Ends.mk ⟨i + 1, _⟩ ⟨by simp only; omega, by simp only; omega, hI.step (by omega)⟩ (Env.le_cons rfl (Env.le_cons rfl (Env.le_cons rfl (Env.le_cons rfl (Env.le_cons rfl (Env.le_cons rfl (Env.le_nil _))))))) (fun _ _ => rfl) (Nat.le_refl _) (Nat.le_refl _)
  have hie : i = bs.length := by omega
  subst hie
  refine awp_step dr0 (by decide +kernel) ?_
  simp only [go_sem]
  refine cram_ok n p hp _ _ _ (by simp only [go_sem]) ?_
  simp only [go_sem]
  refine awp_seq (awp_step dr0 (by decide +kernel) ?_)
  simp only [go_sem]
  refine awp_block ?_
  refine awp_loopF (S := CC) (fun s => [(0, .u8 at_), (5, .pt n 0), (8, .su (n + 1) 0 32 1), (34, slz z bb bs.length cap), (35, .i64 bs.length), (36, .i64 s.i)]) (fun s => (H.upd n (some (portB p))).upd (n + 1) (some ⟨p.cram.map .u8, 5, false⟩)) (fun _ => n + 2)
    (fun s => s.i ≤ bs.length) (fun s => bs.length - s.i)
    (fun s _ => ⟨Heap.wf_upd (Heap.wf_upd wf (PortS.cells_ok _ _)) map_u8_ok, Env.okAt_of2 (by simp [AV.ok, AV.ok_mono (show n ≤ n + 2 by omega) _ hvok])⟩) ?_ ⟨0⟩ (Nat.zero_le _) (Env.le_cons rfl (Env.le_cons rfl (Env.le_cons rfl (Env.le_cons rfl (Env.le_cons rfl (Env.le_cons rfl (Env.le_nil _))))))) (fun _ _ => rfl) rfl
  rintro ⟨i⟩ hi2
  simp only at hi2 ⊢
  refine awp_step dr0 (by decide +kernel) ?_
  simp only [go_sem]
  refine awp_step dr0 (by decide +kernel) ?_
  simp only [go_sem]
  refine ⟨fun hlt => ?_, fun hlt => ?_⟩
  · have hlt' : i < bs.length := by omega
    have w2 : wrap64 ((i : Int) + 1) = ((i + 1 : Nat) : Int) := by rw [wrap_id _ (by omega) (by omega)]; omega
    obtain ⟨hbb, hbl⟩ := hb1 i hlt'
    have hbb1 : bb < n + 1 := by omega
    have hat := at_.isLt
    have w3 : (wrap64 ((at_.toNat : Int) + (i : Int))).tmod 32 = (((at_.toNat + i) % 32 : Nat) : Int) := by
      rw [wrap_id _ (by omega) (by omega), Int.tmod_eq_emod_of_nonneg (by omega)]; omega
    have hlt32 : (at_.toNat + i) % 32 < 32 := Nat.mod_lt _ (by decide)
    have hlt32' : (((at_.toNat + i) % 32 : Nat) : Int) < 32 := by omega
    have hnn : (0 : Int) ≤ (((at_.toNat + i) % 32 : Nat) : Int) := by omega
    have hc := hI.2.2.2.2 i hlt'
    have hgc : (p.cram.map AV.u8).getD ((at_.toNat + i) % 32) .junk = .u8 (bs.getD i 0#8 &&& 63#8) := by rw [getD_map_u8' (by rw [hp.cram]; exact hlt32), hc]
    refine awp_ev dr0 (by decide +kernel) ?_
    simp only [go_sem, slz_pos (z := z) (b := bb) (c := cap) (show 0 < bs.length by omega), hbb, hbb1, hbl, hlt, hlt', List.length_map, hget i hlt', hp.cram, w3, hnn, hlt32, hlt32', hgc, bne_self_eq_false, w2]
    exact Ends.mk ⟨i + 1⟩ ⟨by simp only; omega, by simp only; omega⟩ (Env.le_cons rfl (Env.le_cons rfl (Env.le_cons rfl (Env.le_cons rfl (Env.le_cons rfl (Env.le_cons rfl (Env.le_nil _))))))) (fun _ _ => rfl) (Nat.le_refl _) (Nat.le_refl _)
  refine awp_seq (awp_tree td3_20 tr3_20 (by decide +kernel) (by decide +kernel) ?_)
  obtain ⟨zs, hzs⟩ : ∃ zs, zs = List.replicate 16384 0#8 := ⟨_, rfl⟩
  have hzl : zs.length = 16384 := by rw [hzs]; exact List.length_replicate
  have hZ : repCells 16384 [AV.u8 0#8] = zs.map .u8 := by rw [hzs]; exact rep_u8 _ _
  have hv : p.vram = zs := by rw [hzs]; exact hI.2.2.2.1
  simp only [go_sem, hZ, hzl, List.length_map]
  refine ⟨?_, ?_, ?_⟩
  all_goals
    refine vram_ok n p hp _ _ _ (by simp only [go_sem]) ?_
    simp only [go_sem, hv, hZ, hzl, List.length_map, beq_self_eq_true]
    repeat' apply And.intro
    all_goals
      refine awp_ev dr0 (by decide +kernel) ?_
      simp only [go_sem]
      exact Fin.back wf h (fun i hi => by simp only [go_sem, hi]) rfl
end Go.Proofs.Joy
namespace Go.Proofs.Joy
open Go.Ab Go.Proofs

set_option maxHeartbeats 1000000
set_option maxRecDepth 20000

theorem hi1 : ∀ q : Fin 64, (64#8 ||| BitVec.ofNat 8 q.val) >>> 6 = 1#8 ∧ ((64#8 ||| BitVec.ofNat 8 q.val) &&& 63#8).toNat = q.val := by decide
theorem hi0 : ∀ q : Fin 64, (BitVec.ofNat 8 q.val) >>> 6 = 0#8 ∧ ((BitVec.ofNat 8 q.val) &&& 63#8).toNat = q.val := by decide

def TI (a : Nat) (b : List (BitVec 8)) (k : Nat) (p : PortS) : Prop :=
  p.lens ∧ p.code = 1#8 ∧ p.sec = false ∧ p.addr.toNat = (a + k) % 16384 ∧ ∀ j, j < k → p.vram.getD ((a + j) % 16384) 0#8 = b.getD j 0#8
def RI (a : Nat) (w : List (BitVec 8)) (k : Nat) (p : PortS) : Prop :=
  p.lens ∧ p.vram = w ∧ p.addr.toNat = (a + k + 1) % 16384 ∧ p.buf = w.getD ((a + k) % 16384) 0#8

theorem on_addr (x : BitVec 16) (k : Nat) (h : x.toNat = k % 16384) : ((x + 1#16) &&& 16383#16).toNat = (k + 1) % 16384 := by
  simp only [BitVec.toNat_and, BitVec.toNat_add, h]
  rw [show (16383#16).toNat = 2 ^ 14 - 1 from rfl, Nat.and_two_pow_sub_one_eq_mod]
  simp only [BitVec.toNat_ofNat]; omega

theorem TI.start (a : Nat) (ha : a < 16384) (b : List (BitVec 8)) : TI a b 0 (controlS (controlS newS (BitVec.ofNat 8 a)) (64#8 ||| BitVec.ofNat 8 (a / 256))) := by
  have hq := hi1 ⟨a / 256, by omega⟩
  simp only at hq
  have hl := newS_ok.lens
  have e : ∀ p : PortS, p.sec = false → controlS (controlS p (BitVec.ofNat 8 a)) (64#8 ||| BitVec.ofNat 8 (a / 256)) = { p with low := BitVec.ofNat 8 a, code := 1#8, addr := ((64#8 ||| BitVec.ofNat 8 (a / 256)) &&& 63#8).setWidth 16 <<< 8 ||| (BitVec.ofNat 8 a).setWidth 16 } := fun p hp => by
    simp [controlS, hp, hq.1]
  rw [e newS rfl]
  refine ⟨⟨hl.vram, hl.cram, hl.regs⟩, rfl, rfl, ?_, fun j hj => absurd hj (Nat.not_lt_zero _)⟩
  rw [second_addr, hq.2]
  simp only [BitVec.toNat_ofNat]; omega
theorem TI.step {a : Nat} {b : List (BitVec 8)} {k : Nat} {p : PortS} (h : TI a b k p) (hk : k < 16384) : TI a b (k + 1) (writeS p (b.getD k 0#8)) := by
  obtain ⟨h1, h2, hs, h3, h5⟩ := h
  unfold writeS
  rw [if_neg (by rw [h2]; decide)]
  refine ⟨⟨by simp [onS, h1.vram], h1.cram, h1.regs⟩, h2, rfl, on_addr _ _ h3, fun j hj => ?_⟩
  simp only [onS, h3]
  rw [List.getD_eq_getElem?_getD, List.getElem?_set]
  have hlt : (a + k) % 16384 < p.vram.length := by rw [h1.vram]; exact Nat.mod_lt _ (by decide)
  by_cases hjk : j = k
  · subst hjk
    rw [if_pos rfl, if_pos hlt]; rfl
  · rw [if_neg (by omega), ← List.getD_eq_getElem?_getD]
    exact h5 j (by omega)
theorem RI.start {a : Nat} (ha : a < 16384) {p : PortS} (h : p.lens) (hs : p.sec = false) : RI a p.vram 0 (controlS (controlS p (BitVec.ofNat 8 a)) (BitVec.ofNat 8 (a / 256))) := by
  have hq := hi0 ⟨a / 256, by omega⟩
  simp only at hq
  have e : controlS (controlS p (BitVec.ofNat 8 a)) (BitVec.ofNat 8 (a / 256)) = fillS { p with low := BitVec.ofNat 8 a, code := 0#8, sec := false, addr := ((BitVec.ofNat 8 (a / 256)) &&& 63#8).setWidth 16 <<< 8 ||| (BitVec.ofNat 8 a).setWidth 16 } := by
    simp [controlS, hs, hq.1]
  rw [e]
  have ad : (((BitVec.ofNat 8 (a / 256)) &&& 63#8).setWidth 16 <<< 8 ||| (BitVec.ofNat 8 a).setWidth 16).toNat = (a + 0) % 16384 := by
    rw [second_addr, hq.2]
    simp only [BitVec.toNat_ofNat]; omega
  refine ⟨⟨h.vram, h.cram, h.regs⟩, rfl, on_addr _ _ ad, ?_⟩
  simp only [fillS, onS, ad]
theorem RI.step {a : Nat} {w : List (BitVec 8)} {k : Nat} {p : PortS} (h : RI a w k p) : RI a w (k + 1) (readS p) := by
  obtain ⟨h1, h2, h3, h4⟩ := h
  refine ⟨⟨h1.vram, h1.cram, h1.regs⟩, h2, ?_, ?_⟩
  · simp only [readS, fillS, onS]; exact on_addr _ _ h3
  · simp only [readS, fillS, onS, h3, h2]; rfl

theorem tells_walk (at_ : Int) (har : -9223372036854775808 ≤ at_ ∧ at_ ≤ 9223372036854775807) (z : Bool) (bb cap : Nat) (bs : List (BitVec 8)) (el : TypeId) (ro : Bool) (H : Heap) (n : Nat) (K : AV → Heap → Nat → Prop) (hb : z = false ∨ 0 < bs.length → H bb = some ⟨bs.map .u8, el, ro⟩) (hm : bs.length ≤ maxLen)
    (h : K (.bo true) H n) : ACalls Try.prog 4 [.i64 at_, slz z bb bs.length cap] H n K := by
  refine ACalls.of_awp Try.func4 rfl (by decide +kernel) (show 2 ≤ 79 by decide) (by simp [slz_ne]) fun wf => ?_
  have hvok : (slz z bb bs.length cap).ok n = true := slz_ok' (fun hl => (wf bb _ (hb (.inr hl))).1) z cap fun hz => (wf bb _ (hb (.inl hz))).1
  have h0 := newS_ok
  refine awp_step dr0 (by decide +kernel) ?_
  simp only [go_sem, Try.f4]
  refine awp_step dr0 (by decide +kernel) ?_
  simp only [go_sem]
  refine alive_ok _ _ _ ?_
  simp only [go_sem]
  refine awp_seqF (S := Unit) (fun _ => [(0, .i64 at_), (1, slz z bb bs.length cap)]) (fun _ => H) (fun _ => n) (fun _ => 0 ≤ at_ ∧ at_ ≤ 16383 ∧ bs.length ≤ 400)
    (fun _ _ => ⟨wf, Env.okAt_of2 (by simp [AV.ok, hvok])⟩) ?_ ?_
  · refine awp_ev dr0 (by decide +kernel) ?_
    simp only [go_sem]
    exact ⟨fun a1 => ⟨fun a2 => ⟨fun _ => Fin.back wf h (fun _ _ => rfl) rfl, fun a3 => Ends.mk () ⟨by omega, by omega, by omega⟩ (Env.le_cons rfl (Env.le_cons rfl (Env.le_nil _))) (fun _ _ => rfl) (Nat.le_refl _) (Nat.le_refl _)⟩,
      fun _ => Fin.back wf h (fun _ _ => rfl) rfl⟩, fun _ => Fin.back wf h (fun _ _ => rfl) rfl⟩
  rintro - ⟨ha1, ha2, hbl⟩
  obtain ⟨a, rfl⟩ := Int.eq_ofNat_of_zero_le ha1
  have hd : (a : Int) / 2 ^ 8 = ((a / 256 : Nat) : Int) := by rw [show (2 : Int) ^ 8 = 256 by decide]; omega
  have ha : a < 16384 := by omega
  have h1 := h0.control (BitVec.ofNat 8 a)
  refine awp_step dr0 (by decide +kernel) ?_
  simp only [go_sem]
  refine new_ok _ _ _ ?_
  simp only [go_sem]
  refine awp_step dr0 (by decide +kernel) ?_
  simp only [go_sem, BitVec.ofInt_natCast]
  refine control_ok n newS h0.lens _ _ _ _ (by simp only [go_sem]) ?_
  simp only [go_sem]
  refine awp_step dr0 (by decide +kernel) ?_
  simp only [go_sem, hd, BitVec.ofInt_natCast]
  refine control_ok n _ h1.lens _ _ _ _ (by simp only [go_sem]) ?_
  simp only [go_sem]
  refine awp_seq (awp_step dr0 (by decide +kernel) ?_)
  simp only [go_sem]
  refine awp_block ?_
  have hb1 : ∀ i : Nat, i < bs.length → bb < n ∧ H bb = some ⟨bs.map .u8, el, ro⟩ := fun i hi => ⟨(wf bb _ (hb (.inr (by omega)))).1, hb (.inr (by omega))⟩
  have hget : ∀ i, i < bs.length → (bs.map AV.u8).getD i .junk = .u8 (bs.getD i 0#8) := fun i hi => getD_map_u8' hi
  refine awp_loopF (S := LS) (fun s => [(0, .i64 (a : Int)), (1, slz z bb bs.length cap), (5, .pt n 0), (35, slz z bb bs.length cap), (36, .i64 bs.length), (37, .i64 s.i)]) (fun s => H.upd n (some (portB s.p))) (fun _ => n + 1)
    (fun s => s.i ≤ bs.length ∧ TI a bs s.i s.p) (fun s => bs.length - s.i)
    (fun s _ => ⟨Heap.wf_upd wf (PortS.cells_ok _ _), Env.okAt_of2 (by simp [AV.ok, AV.ok_mono (Nat.le_succ n) _ hvok])⟩) ?_ ⟨0, _⟩ ⟨Nat.zero_le _, TI.start a ha bs⟩ (Env.le_cons rfl (Env.le_cons rfl (Env.le_cons rfl (Env.le_cons rfl (Env.le_cons rfl (Env.le_cons rfl (Env.le_nil _))))))) (fun _ _ => rfl) rfl
  rintro ⟨i, p⟩ ⟨hi, hI⟩
  simp only at hi hI ⊢
  have hp := hI.1
  have hpa : p.addr.toNat < 16384 := by rw [hI.2.2.2.1]; exact Nat.mod_lt _ (by decide)
  refine awp_step dr0 (by decide +kernel) ?_
  simp only [go_sem]
  refine awp_step dr0 (by decide +kernel) ?_
  simp only [go_sem]
  refine ⟨fun hlt => ?_, fun hlt => ?_⟩
  · have hlt' : i < bs.length := by omega
    have w2 : wrap64 ((i : Int) + 1) = ((i + 1 : Nat) : Int) := by rw [wrap_id _ (by omega) (by omega)]; omega
    obtain ⟨hbb, hbl⟩ := hb1 i hlt'
    refine awp_ev dr0 (by decide +kernel) ?_
    simp only [go_sem, slz_pos (z := z) (b := bb) (c := cap) (show 0 < bs.length by omega), hbb, hbl, hlt, hlt', List.length_map, hget i hlt']
    refine write_ok n p hp hpa _ _ _ _ (by simp only [go_sem]) ?_
    simp only [go_sem, w2]
    exact Ends.mk ⟨i + 1, _⟩ ⟨by simp only; omega, by simp only; omega, hI.step (by omega)⟩ (Env.le_cons rfl (Env.le_cons rfl (Env.le_cons rfl (Env.le_cons rfl (Env.le_cons rfl (Env.le_cons rfl (Env.le_nil _))))))) (fun _ _ => rfl) (Nat.le_refl _) (Nat.le_refl _)
  have hie : i = bs.length := by omega
  subst hie
  have hpo : p.ok := ⟨hp.vram, hp.cram, hp.regs, hpa⟩
  have h3 := hpo.control (BitVec.ofNat 8 a)
  have h4 := h3.control (BitVec.ofNat 8 (a / 256))
  have hR := RI.start ha hp hI.2.2.1
  refine awp_step dr0 (by decide +kernel) ?_
  simp only [go_sem, BitVec.ofInt_natCast]
  refine control_ok n p hp _ _ _ _ (by simp only [go_sem]) ?_
  simp only [go_sem]
  refine awp_step dr0 (by decide +kernel) ?_
  simp only [go_sem, hd, BitVec.ofInt_natCast]
  refine control_ok n _ h3.lens _ _ _ _ (by simp only [go_sem]) ?_
  simp only [go_sem]
  refine awp_step dr0 (by decide +kernel) ?_
  simp only [go_sem]
  refine vram_ok n _ h4.lens _ _ _ (by simp only [go_sem]) ?_
  simp only [go_sem]
  have hw : (controlS (controlS p (BitVec.ofNat 8 a)) (BitVec.ofNat 8 (a / 256))).vram = p.vram := hR.2.1
  rw [hw]
  refine awp_seq (awp_step dr0 (by decide +kernel) ?_)
  simp only [go_sem]
  refine awp_block ?_
  refine awp_loopF (S := LS) (fun s => [(0, .i64 (a : Int)), (5, .pt n 0), (8, .su (n + 1) 0 16384 1), (56, slz z bb bs.length cap), (57, .i64 bs.length), (58, .i64 s.i)]) (fun s => (H.upd n (some (portB s.p))).upd (n + 1) (some ⟨p.vram.map .u8, 5, false⟩)) (fun _ => n + 2)
    (fun s => s.i ≤ bs.length ∧ RI a p.vram s.i s.p) (fun s => bs.length - s.i)
    (fun s _ => ⟨Heap.wf_upd (Heap.wf_upd wf (PortS.cells_ok _ _)) map_u8_ok, Env.okAt_of2 (by simp [AV.ok, AV.ok_mono (show n ≤ n + 2 by omega) _ hvok])⟩) ?_ ⟨0, _⟩ ⟨Nat.zero_le _, hR⟩ (Env.le_cons rfl (Env.le_cons rfl (Env.le_cons rfl (Env.le_cons rfl (Env.le_cons rfl (Env.le_cons rfl (Env.le_nil _))))))) (fun _ _ => rfl) rfl
  rintro ⟨i, q⟩ ⟨hi2, hQ⟩
  simp only at hi2 hQ ⊢
  refine awp_step dr0 (by decide +kernel) ?_
  simp only [go_sem]
  refine awp_step dr0 (by decide +kernel) ?_
  simp only [go_sem]
  refine ⟨fun hlt => ?_, fun hlt => ?_⟩
  · have hlt' : i < bs.length := by omega
    have w2 : wrap64 ((i : Int) + 1) = ((i + 1 : Nat) : Int) := by rw [wrap_id _ (by omega) (by omega)]; omega
    obtain ⟨hbb, hbl⟩ := hb1 i hlt'
    have hbb1 : bb < n + 1 := by omega
    have w3 : (wrap64 ((a : Int) + (i : Int))).tmod 16384 = (((a + i) % 16384 : Nat) : Int) := by
      rw [wrap_id _ (by omega) (by omega), Int.tmod_eq_emod_of_nonneg (by omega)]; omega
    have hlt32 : (a + i) % 16384 < 16384 := Nat.mod_lt _ (by decide)
    have hlt32' : (((a + i) % 16384 : Nat) : Int) < 16384 := by omega
    have hnn : (0 : Int) ≤ (((a + i) % 16384 : Nat) : Int) := by omega
    have hc := hI.2.2.2.2 i hlt'
    have hgc : (p.vram.map AV.u8).getD ((a + i) % 16384) .junk = .u8 (bs.getD i 0#8) := by rw [getD_map_u8' (by rw [hp.vram]; exact hlt32), hc]
    have hbuf : q.buf = bs.getD i 0#8 := by rw [hQ.2.2.2]; exact hc
    refine awp_ev dr0 (by decide +kernel) ?_
    simp only [go_sem, slz_pos (z := z) (b := bb) (c := cap) (show 0 < bs.length by omega), hbb, hbb1, hbl, hlt, hlt', List.length_map, hget i hlt']
    refine read_ok n q hQ.1 (by rw [hQ.2.2.1]; exact Nat.mod_lt _ (by decide)) _ _ _ (by simp only [go_sem]) ?_
    simp only [go_sem, hbuf, bne_self_eq_false, hp.vram, List.length_map, w3, hnn, hlt32, hlt32', hgc, w2]
    refine Ends.mk ⟨i + 1, readS q⟩ ⟨by simp only; omega, by simp only; omega, hQ.step⟩ (Env.le_cons rfl (Env.le_cons rfl (Env.le_cons rfl (Env.le_cons rfl (Env.le_cons rfl (Env.le_cons rfl (Env.le_nil _))))))) (fun k hk => ?_) (Nat.le_refl _) (Nat.le_refl _)
    obtain hk | rfl | rfl : k < n ∨ k = n ∨ k = n + 1 := by omega
    all_goals simp only [go_sem, *]
  refine awp_ev dr0 (by decide +kernel) ?_
  simp only [go_sem]
  exact Fin.back wf h (fun i hi => by simp only [go_sem, hi]) rfl
end Go.Proofs.Joy
namespace Go.Proofs.Joy
open Go.Ab Go.Proofs

set_option maxHeartbeats 1000000
set_option maxRecDepth 20000

structure RQ where
  b : Nat
  v : Nat
  c : Nat
  r : Nat

structure RQ.ok (q : RQ) : Prop where
  bv : q.b ≠ q.v
  bc : q.b ≠ q.c
  br : q.b ≠ q.r
  vc : q.v ≠ q.c
  vr : q.v ≠ q.r
  cr : q.c ≠ q.r

def byB (l : List (BitVec 8)) : Blk := ⟨l.map .u8, 5, false⟩
def refC (q : RQ) (p : PortS) : List AV := [.sl q.v 0 16384 16384, .sl q.c 0 32 32, .sl q.r 0 11 11, .i64 p.addr.toNat, .i64 p.code.toNat, .i64 p.low.toNat, .i64 p.buf.toNat, .bo p.sec]
def refB (q : RQ) (p : PortS) : Blk := ⟨refC q p, 45, false⟩
structure refH (H : Heap) (q : RQ) (p : PortS) : Prop where
  b : H q.b = some (refB q p)
  v : H q.v = some (byB p.vram)
  c : H q.c = some (byB p.cram)
  r : H q.r = some (byB p.regs)
def refPut (H : Heap) (q : RQ) (p : PortS) : Heap := (((H.upd q.b (some (refB q p))).upd q.v (some (byB p.vram))).upd q.c (some (byB p.cram))).upd q.r (some (byB p.regs))

theorem Heap.upd_comm (H : Heap) {a b : Nat} (x y : Option Blk) (h : a ≠ b) : (H.upd a x).upd b y = (H.upd b y).upd a x := by
  funext i
  by_cases h1 : i = b
  · subst h1; rw [Heap.upd_same, Heap.upd_ne _ _ (Ne.symm h), Heap.upd_same]
  · rw [Heap.upd_ne _ _ h1]
    by_cases h2 : i = a
    · subst h2; rw [Heap.upd_same, Heap.upd_same]
    · rw [Heap.upd_ne _ _ h2, Heap.upd_ne _ _ h2, Heap.upd_ne _ _ h1]
theorem refPut_ne (H : Heap) (q : RQ) (p : PortS) {i : Nat} (h1 : i ≠ q.b) (h2 : i ≠ q.v) (h3 : i ≠ q.c) (h4 : i ≠ q.r) : refPut H q p i = H i := by
  unfold refPut; rw [Heap.upd_ne _ _ h4, Heap.upd_ne _ _ h3, Heap.upd_ne _ _ h2, Heap.upd_ne _ _ h1]
theorem refPut_h (H : Heap) {q : RQ} (hq : q.ok) (p : PortS) : refH (refPut H q p) q p := by
  unfold refPut
  refine ⟨?_, ?_, ?_, ?_⟩
  · rw [Heap.upd_ne _ _ hq.br, Heap.upd_ne _ _ hq.bc, Heap.upd_ne _ _ hq.bv, Heap.upd_same]
  · rw [Heap.upd_ne _ _ hq.vr, Heap.upd_ne _ _ hq.vc, Heap.upd_same]
  · rw [Heap.upd_ne _ _ hq.cr, Heap.upd_same]
  · rw [Heap.upd_same]
theorem refB_ok {q : RQ} {n : Nat} (hv : q.v < n) (hc : q.c < n) (hr : q.r < n) (p : PortS) : ∀ v ∈ (refB q p).cells, v.ok n = true := by
  simp [refB, refC, AV.ok, hv, hc, hr]
theorem refPut_wf {H : Heap} {n : Nat} {q : RQ} (wf : H.wf n) (hb : q.b < n) (hv : q.v < n) (hc : q.c < n) (hr : q.r < n) (p : PortS) : (refPut H q p).wf n :=
  Heap.wf_set (Heap.wf_set (Heap.wf_set (Heap.wf_set wf hb (refB_ok hv hc hr p)) hv map_u8_ok) hc map_u8_ok) hr map_u8_ok
/-- A heap that bears it, and for the rest is H. -/
theorem refPut_eq {H H' : Heap} {n : Nat} {q : RQ} {p : PortS} (h : refH H' q p) (hf : ∀ i, i < n → i ≠ q.b → i ≠ q.v → i ≠ q.c → i ≠ q.r → H' i = H i) (i : Nat) (hi : i < n) : H' i = refPut H q p i := by
  unfold refPut
  by_cases h4 : i = q.r
  · subst h4; rw [Heap.upd_same, h.r]
  rw [Heap.upd_ne _ _ h4]
  by_cases h3 : i = q.c
  · subst h3; rw [Heap.upd_same, h.c]
  rw [Heap.upd_ne _ _ h3]
  by_cases h2 : i = q.v
  · subst h2; rw [Heap.upd_same, h.v]
  rw [Heap.upd_ne _ _ h2]
  by_cases h1 : i = q.b
  · subst h1; rw [Heap.upd_same, h.b]
  rw [Heap.upd_ne _ _ h1]
  exact hf i hi h1 h2 h3 h4

theorem u8_div64 (v : BitVec 8) : v / 64#8 = v >>> 6 := by revert v; decide +kernel
theorem u8_mod64 (v : BitVec 8) : v % 64#8 = v &&& 63#8 := by revert v; decide +kernel
theorem u8_mod16 (v : BitVec 8) : v % 16#8 = v &&& 15#8 := by revert v; decide +kernel

theorem on_int (p : PortS) (ha : p.addr.toNat < 16384) : (wrap64 ((p.addr.toNat : Int) + 1)).tmod 16384 = ((onS p).addr.toNat : Nat) := by
  rw [wrap_id _ (by omega) (by omega), Int.tmod_eq_emod_of_nonneg (by omega)]
  have := on_addr p.addr p.addr.toNat (Nat.mod_eq_of_lt ha).symm
  simp only [onS, this]; omega
theorem onS_lt (p : PortS) : (onS p).addr.toNat < 16384 := and_16383 _

theorem ron_ok (q : RQ) (p : PortS) (ha : p.addr.toNat < 16384) (H : Heap) (n : Nat) (K : AV → Heap → Nat → Prop) (hb : H q.b = some (refB q p)) (h : K (.tu []) (H.upd q.b (some (refB q (onS p)))) n) :
    ACalls Try.prog 33 [.pt q.b 0] H n K := by
  refine ACalls.of_ev dr0 Try.func33 rfl (by decide +kernel) (by decide +kernel) (show 1 ≤ 11 by decide) (by simp) fun wf => ?_
  simp only [go_sem, Try.f33]
  have hbn := wf q.b _ hb
  simp only [go_sem, hb, refB, refC, on_int p ha]
  exact Fin.put wf hbn.1 (by have := hbn.2; simp only [refB, refC] at this ⊢; simpa [AV.ok] using this) h (fun _ _ => rfl) rfl

theorem rnew_ok (H : Heap) (n : Nat) (K : AV → Heap → Nat → Prop) (h : K (.pt (n + 3) 0) (refPut H ⟨n + 3, n, n + 1, n + 2⟩ newS) (n + 4)) :
    ACalls Try.prog 19 [] H n K := by
  refine ACalls.of_ev dr19 Try.func19 rfl (by decide +kernel) (by decide +kernel) (show 0 ≤ 6 by decide) (by simp) fun wf => ?_
  simp only [go_sem, Try.f19]
  have e1 : byB newS.vram = ⟨repCells 16384 [AV.u8 0#8], 5, false⟩ := by rw [rep_u8]; rfl
  have e2 : byB newS.cram = ⟨repCells 32 [AV.u8 0#8], 5, false⟩ := by rw [rep_u8]; rfl
  refine Fin.keep ?_
  rw [← e1, ← e2]
  have e : ∀ (A B C D : Option Blk), (((H.upd n A).upd (n + 1) B).upd (n + 2) C).upd (n + 3) D = (((H.upd (n + 3) D).upd n A).upd (n + 1) B).upd (n + 2) C := fun A B C D => by
    rw [Heap.upd_comm _ _ _ (show n + 2 ≠ n + 3 by omega), Heap.upd_comm _ _ _ (show n + 1 ≠ n + 3 by omega), Heap.upd_comm _ _ _ (show n ≠ n + 3 by omega)]
  rw [e]
  exact h

theorem hi_and (a : Nat) (ha : a < 16384) : a &&& 16128 = a / 256 * 256 := by
  have h1 : a &&& 16128 = ((a >>> 8) &&& 63) <<< 8 := by
    apply Nat.eq_of_testBit_eq
    intro i
    rw [show (16128 : Nat) = 63 <<< 8 from rfl]
    simp only [Nat.testBit_and, Nat.testBit_shiftLeft, Nat.testBit_shiftRight]
    by_cases h : 8 ≤ i
    · simp only [h, decide_true, Bool.true_and]
      rw [show 8 + (i - 8) = i by omega]
    · simp [h]
  rw [h1, Nat.shiftLeft_eq, show (63 : Nat) = 2 ^ 6 - 1 from rfl, Nat.and_two_pow_sub_one_eq_mod, Nat.shiftRight_eq_div_pow]
  have : a / 2 ^ 8 < 64 := by omega
  rw [Nat.mod_eq_of_lt (by omega)]
theorem first_int (a : BitVec 16) (ha : a.toNat < 16384) (v : BitVec 8) : wrap64 (wrap64 (wrap64 (((a.toNat : Int)).tdiv 256) * 256) + v.toNat) = ((a &&& 16128#16 ||| v.setWidth 16).toNat : Nat) := by
  have h1 := hi_and a.toNat ha
  have hv := v.isLt
  have e : (a &&& 16128#16 ||| v.setWidth 16).toNat = a.toNat / 256 * 256 + v.toNat := by
    rw [BitVec.toNat_or, BitVec.toNat_and, BitVec.toNat_setWidth, Nat.mod_eq_of_lt (show v.toNat < 2 ^ 16 by omega), show (16128#16).toNat = 16128 from rfl, h1]
    rw [show a.toNat / 256 * 256 = (a.toNat / 256) <<< 8 by rw [Nat.shiftLeft_eq], ← Nat.shiftLeft_add_eq_or_of_lt (by omega)]
  rw [e, Int.tdiv_eq_ediv_of_nonneg (by omega), wrap_id (_ / _) (by omega) (by omega), wrap_id (_ * _) (by omega) (by omega), wrap_id _ (by omega) (by omega)]
  omega
theorem second_int (v low : BitVec 8) : wrap64 (wrap64 (((v &&& 63#8).toNat : Int) * 256) + low.toNat) = (((v &&& 63#8).setWidth 16 <<< 8 ||| low.setWidth 16).toNat : Nat) := by
  have h1 := low6 v
  have h2 := low.isLt
  rw [second_addr, wrap_id (_ * _) (by omega) (by omega), wrap_id _ (by omega) (by omega)]
  omega

section
variable {H : Heap} {q : RQ} {p : PortS}
theorem refH.upd (h : refH H q p) (hq : q.ok) (p' : PortS) (h1 : p'.vram = p.vram) (h2 : p'.cram = p.cram) (h3 : p'.regs = p.regs) : refH (H.upd q.b (some (refB q p'))) q p' :=
  ⟨Heap.upd_same _ _ _, by rw [Heap.upd_ne _ _ hq.bv.symm, h.v, h1], by rw [Heap.upd_ne _ _ hq.bc.symm, h.c, h2], by rw [Heap.upd_ne _ _ hq.br.symm, h.r, h3]⟩
theorem refH.out (h : refH H q p) {b : Nat} (h1 : b ≠ q.b) (h2 : b ≠ q.v) (h3 : b ≠ q.c) (h4 : b ≠ q.r) (x : Option Blk) : refH (H.upd b x) q p :=
  ⟨by rw [Heap.upd_ne _ _ h1.symm, h.b], by rw [Heap.upd_ne _ _ h2.symm, h.v], by rw [Heap.upd_ne _ _ h3.symm, h.c], by rw [Heap.upd_ne _ _ h4.symm, h.r]⟩
theorem refH.mono {H' : Heap} {n : Nat} (h : refH H q p) (h1 : q.b < n) (h2 : q.v < n) (h3 : q.c < n) (h4 : q.r < n) (he : ∀ i, i < n → H' i = H i) : refH H' q p :=
  ⟨by rw [he _ h1, h.b], by rw [he _ h2, h.v], by rw [he _ h3, h.c], by rw [he _ h4, h.r]⟩
end

theorem rcontrol_ok (q : RQ) (hq : q.ok) (p : PortS) (hp : p.ok) (v : BitVec 8) (H : Heap) (n : Nat) (K : AV → Heap → Nat → Prop) (hh : refH H q p) (h : K (.tu []) (refPut H q (controlS p v)) n) :
    ACalls Try.prog 20 [.pt q.b 0, .u8 v] H n K := by
  refine ACalls.of_ev dr20 Try.func20 rfl (by decide +kernel) (by decide +kernel) (show 2 ≤ 93 by decide) (by simp) fun wf => ?_
  have hb := hh.b
  have hv := hh.v
  have hr := hh.r
  have hbn := (wf q.b _ hb).1
  have hvn := (wf q.v _ hv).1
  have hcn := (wf q.c _ hh.c).1
  have hrn := (wf q.r _ hh.r).1
  have hal := hp.addr
  have fin : ∀ (H1 : Heap) p', controlS p v = p' → refH H1 q p' → (∀ i, i < n → i ≠ q.b → i ≠ q.v → i ≠ q.c → i ≠ q.r → H1 i = H i) → Fin n (.tu []) H1 n K := fun H1 p' he hr hf => by
    rw [he] at h
    exact Fin.back (refPut_wf wf hbn hvn hcn hrn p') h (fun i hi => refPut_eq hr hf i hi) rfl
  have fin1 : ∀ p', controlS p v = p' → p'.vram = p.vram → p'.cram = p.cram → p'.regs = p.regs → Fin n (.tu []) (H.upd q.b (some (refB q p'))) n K := fun p' he h1 h2 h3 =>
    fin _ p' he (hh.upd hq p' h1 h2 h3) (fun i hi hb _ _ _ => Heap.upd_ne _ _ hb)
  cases hs : p.sec
  · simp only [go_sem, Try.f20, hb, refB, refC, hs, first_int _ hal]
    exact fin1 { p with sec := true, low := v, addr := p.addr &&& 16128#16 ||| v.setWidth 16 } (by simp [controlS, hs]) rfl rfl rfl
  · have q64 : (((v >>> 6).toNat : Int) == 0) = (v >>> 6 == 0#8) := by
      rw [Bool.eq_iff_iff, beq_iff_eq, beq_iff_eq, ← BitVec.toNat_inj, show (0#8).toNat = 0 from rfl]; omega
    have q642 : (((v >>> 6).toNat : Int) == 2) = (v >>> 6 == 2#8) := by
      rw [Bool.eq_iff_iff, beq_iff_eq, beq_iff_eq, ← BitVec.toNat_inj, show (2#8).toNat = 2 from rfl]; omega
    have e1 := second_addr_lt v p.low
    have hnn : (0 : Int) ≤ (((v &&& 63#8).setWidth 16 <<< 8 ||| p.low.setWidth 16).toNat : Nat) := by omega
    have hl1 : ((((v &&& 63#8).setWidth 16 <<< 8 ||| p.low.setWidth 16).toNat : Nat) : Int) < 16384 := by omega
    have hupv : ∀ x, H.upd q.b x q.v = some (byB p.vram) := fun x => by rw [Heap.upd_ne _ _ hq.bv.symm, hv]
    have hupr : ∀ x, H.upd q.b x q.r = some (byB p.regs) := fun x => by rw [Heap.upd_ne _ _ hq.br.symm, hr]
    have hgv : (p.vram.map AV.u8).getD (((v &&& 63#8).setWidth 16 <<< 8 ||| p.low.setWidth 16).toNat) .junk = .u8 (p.vram.getD (((v &&& 63#8).setWidth 16 <<< 8 ||| p.low.setWidth 16).toNat) 0#8) := getD_map_u8' (by rw [hp.vram]; exact e1)
    simp only [go_sem, Try.f20, hb, refB, refC, hs, u8_div64, u8_mod64, u8_mod16, second_int, q64, q642, hnn, hl1, hupv, hupr, byB, List.length_map, hp.vram, hp.regs, hgv, e1]
    have cs : ∀ P', (let q := { p with sec := false, code := v >>> 6, addr := (v &&& 63#8).setWidth 16 <<< 8 ||| p.low.setWidth 16 }
      if v >>> 6 = 0#8 then fillS q else if v >>> 6 = 2#8 then (if (v &&& 15#8).toNat < 11 then { q with regs := p.regs.set (v &&& 15#8).toNat p.low } else q) else q) = P' → controlS p v = P' := fun P' h => by
      rw [← h, controlS, hs]; rfl
    refine ⟨fun h1 => ?_, fun h1 => ⟨fun h2 => ⟨fun h3 => ⟨?_, ?_, ?_⟩, fun h3 => ?_⟩, fun h2 => ?_⟩⟩
    · refine ron_ok q { p with sec := false, code := v >>> 6, addr := (v &&& 63#8).setWidth 16 <<< 8 ||| p.low.setWidth 16, buf := p.vram.getD (((v &&& 63#8).setWidth 16 <<< 8 ||| p.low.setWidth 16).toNat) 0#8 } e1 _ _ _ (by simp only [go_sem, refB, refC]) ?_
      simp only [beq_iff_eq] at h1
      have h2 : (v >>> 6 == 2#8) = false := by rw [h1]; rfl
      simp only [go_sem, refB, refC, onS, q642, h2]
      exact fin1 (fillS { p with sec := false, code := v >>> 6, addr := (v &&& 63#8).setWidth 16 <<< 8 ||| p.low.setWidth 16 }) (cs _ (if_pos h1)) rfl rfl rfl
    all_goals simp only [beq_eq_false_iff_ne, ne_eq] at h1
    · have h3' : (v &&& 15#8).toNat < 11 := BitVec.lt_def.1 h3
      omega
    · have h3' : (v &&& 15#8).toNat < 11 := BitVec.lt_def.1 h3
      omega
    · simp only [beq_iff_eq] at h2
      have h3' : (v &&& 15#8).toNat < 11 := BitVec.lt_def.1 h3
      refine fin _ { p with sec := false, code := v >>> 6, addr := (v &&& 63#8).setWidth 16 <<< 8 ||| p.low.setWidth 16, regs := p.regs.set (v &&& 15#8).toNat p.low } (cs _ ?_) ?_ ?_
      · simp only [if_neg h1, if_pos h2, if_pos h3']
      · refine ⟨?_, ?_, ?_, ?_⟩
        · rw [Heap.upd_ne _ _ hq.br, Heap.upd_same]; rfl
        · rw [Heap.upd_ne _ _ hq.vr, Heap.upd_ne _ _ hq.bv.symm, hv]
        · rw [Heap.upd_ne _ _ hq.cr, Heap.upd_ne _ _ hq.bc.symm, hh.c]
        · rw [Heap.upd_same, byB, List.map_set, BitVec.ofInt_natCast, BitVec.ofNat_toNat, BitVec.setWidth_eq]
      · intro i hi n1 n2 n3 n4
        rw [Heap.upd_ne _ _ n4, Heap.upd_ne _ _ n1]
    · simp only [beq_iff_eq] at h2
      have h3' : ¬ (v &&& 15#8).toNat < 11 := fun hh => h3 (BitVec.lt_def.2 (by simpa using hh))
      exact fin1 { p with sec := false, code := v >>> 6, addr := (v &&& 63#8).setWidth 16 <<< 8 ||| p.low.setWidth 16 } (cs _ (by simp only [if_neg h1, if_pos h2, if_neg h3'])) rfl rfl rfl
    · simp only [beq_eq_false_iff_ne, ne_eq] at h2
      exact fin1 { p with sec := false, code := v >>> 6, addr := (v &&& 63#8).setWidth 16 <<< 8 ||| p.low.setWidth 16 } (cs _ (by simp only [if_neg h1, if_neg h2])) rfl rfl rfl

theorem rwrite_ok (q : RQ) (hq : q.ok) (p : PortS) (hp : p.ok) (v : BitVec 8) (H : Heap) (n : Nat) (K : AV → Heap → Nat → Prop) (hh : refH H q p) (h : K (.tu []) (refPut H q (writeS p v)) n) :
    ACalls Try.prog 21 [.pt q.b 0, .u8 v] H n K := by
  refine ACalls.of_ev dr21 Try.func21 rfl (by decide +kernel) (by decide +kernel) (show 2 ≤ 41 by decide) (by simp) fun wf => ?_
  have hb := hh.b
  have hv := hh.v
  have hc := hh.c
  have hbn := (wf q.b _ hb).1
  have hvn := (wf q.v _ hv).1
  have hcn := (wf q.c _ hh.c).1
  have hrn := (wf q.r _ hh.r).1
  have hal := hp.addr
  have fin : ∀ (H1 : Heap) p', writeS p v = p' → refH H1 q p' → (∀ i, i < n → i ≠ q.b → i ≠ q.v → i ≠ q.c → i ≠ q.r → H1 i = H i) → Fin n (.tu []) H1 n K := fun H1 p' he hr hf => by
    rw [he] at h
    exact Fin.back (refPut_wf wf hbn hvn hcn hrn p') h (fun i hi => refPut_eq hr hf i hi) rfl
  have c3 : ((p.code.toNat : Int) == 3) = (p.code == 3#8) := by
    rw [Bool.eq_iff_iff, beq_iff_eq, beq_iff_eq, ← BitVec.toNat_inj, show (3#8).toNat = 3 from rfl]; omega
  have am : ((p.addr.toNat : Int)).tmod 32 = ((p.addr % 32#16).toNat : Nat) := by
    rw [Int.tmod_eq_emod_of_nonneg (by omega), BitVec.toNat_umod, show (32#16).toNat = 32 from rfl]; omega
  have aml : (p.addr % 32#16).toNat < 32 := by rw [BitVec.toNat_umod]; exact Nat.mod_lt _ (by decide)
  have aml' : (((p.addr % 32#16).toNat : Nat) : Int) < 32 := by omega
  have hal' : ((p.addr.toNat : Nat) : Int) < 16384 := by omega
  have nn1 : (0 : Int) ≤ ((p.addr % 32#16).toNat : Nat) := by omega
  have nn2 : (0 : Int) ≤ (p.addr.toNat : Nat) := by omega
  have hupv : ∀ x, H.upd q.b x q.v = some (byB p.vram) := fun x => by rw [Heap.upd_ne _ _ hq.bv.symm, hv]
  have hupc : ∀ x, H.upd q.b x q.c = some (byB p.cram) := fun x => by rw [Heap.upd_ne _ _ hq.bc.symm, hc]
  have hub1 : ∀ x y, (H.upd q.b x).upd q.c y q.b = x := fun x y => by rw [Heap.upd_ne _ _ hq.bc, Heap.upd_same]
  have hub2 : ∀ x y, (H.upd q.b x).upd q.v y q.b = x := fun x y => by rw [Heap.upd_ne _ _ hq.bv, Heap.upd_same]
  simp only [go_sem, Try.f21, hb, refB, refC, c3, am, u8_mod64, hupv, hupc, hub1, hub2, aml, aml', nn1, nn2, hal, hal', hp.vram, hp.cram, byB, List.length_map]
  refine ⟨fun h1 => ⟨by omega, ?_⟩, fun h1 => ⟨by omega, ?_⟩⟩
  · simp only [beq_iff_eq] at h1
    refine ron_ok q { p with sec := false, cram := p.cram.set (p.addr % 32#16).toNat (v &&& 63#8), buf := v } hal _ _ _ (by rw [Heap.upd_same]; rfl) ?_
    simp only [go_sem, refB, refC]
    refine fin _ _ (by rw [writeS, if_pos h1]) ⟨?_, ?_, ?_, ?_⟩ (fun i hi n1 n2 n3 n4 => ?_)
    · rw [Heap.upd_same]; rfl
    · rw [Heap.upd_ne _ _ hq.bv.symm, Heap.upd_ne _ _ hq.vc, Heap.upd_ne _ _ hq.bv.symm, hv]; rfl
    · rw [Heap.upd_ne _ _ hq.bc.symm, Heap.upd_same, byB]; simp only [onS, List.map_set]
    · rw [Heap.upd_ne _ _ hq.br.symm, Heap.upd_ne _ _ hq.cr.symm, Heap.upd_ne _ _ hq.br.symm, hh.r]; rfl
    · rw [Heap.upd_ne _ _ n1, Heap.upd_ne _ _ n3, Heap.upd_ne _ _ n1]
  · simp only [beq_eq_false_iff_ne, ne_eq] at h1
    refine ron_ok q { p with sec := false, vram := p.vram.set p.addr.toNat v, buf := v } hal _ _ _ (by rw [Heap.upd_same]; rfl) ?_
    simp only [go_sem, refB, refC]
    refine fin _ _ (by rw [writeS, if_neg h1]) ⟨?_, ?_, ?_, ?_⟩ (fun i hi n1 n2 n3 n4 => ?_)
    · rw [Heap.upd_same]; rfl
    · rw [Heap.upd_ne _ _ hq.bv.symm, Heap.upd_same, byB]; simp only [onS, List.map_set]
    · rw [Heap.upd_ne _ _ hq.bc.symm, Heap.upd_ne _ _ hq.vc.symm, Heap.upd_ne _ _ hq.bc.symm, hc]; rfl
    · rw [Heap.upd_ne _ _ hq.br.symm, Heap.upd_ne _ _ hq.vr.symm, Heap.upd_ne _ _ hq.br.symm, hh.r]; rfl
    · rw [Heap.upd_ne _ _ n1, Heap.upd_ne _ _ n2, Heap.upd_ne _ _ n1]

theorem rread_ok (q : RQ) (hq : q.ok) (p : PortS) (hp : p.ok) (H : Heap) (n : Nat) (K : AV → Heap → Nat → Prop) (hh : refH H q p) (h : K (.u8 p.buf) (refPut H q (readS p)) n) :
    ACalls Try.prog 22 [.pt q.b 0] H n K := by
  refine ACalls.of_ev dr22 Try.func22 rfl (by decide +kernel) (by decide +kernel) (show 1 ≤ 29 by decide) (by simp) fun wf => ?_
  have hb := hh.b
  have hv := hh.v
  have hc := hh.c
  have hbn := (wf q.b _ hb).1
  have hvn := (wf q.v _ hv).1
  have hcn := (wf q.c _ hh.c).1
  have hrn := (wf q.r _ hh.r).1
  have hal := hp.addr
  have hal' : ((p.addr.toNat : Nat) : Int) < 16384 := by omega
  have nn2 : (0 : Int) ≤ (p.addr.toNat : Nat) := by omega
  have hupv : ∀ x, H.upd q.b x q.v = some (byB p.vram) := fun x => by rw [Heap.upd_ne _ _ hq.bv.symm, hv]
  have hgv : (p.vram.map AV.u8).getD p.addr.toNat .junk = .u8 (p.vram.getD p.addr.toNat 0#8) := getD_map_u8' (by rw [hp.vram]; exact hal)
  simp only [go_sem, Try.f22, hb, refB, refC, hupv, nn2, hal, hal', hp.vram, byB, List.length_map, hgv]
  refine ron_ok q { p with sec := false, buf := p.vram.getD p.addr.toNat 0#8 } hal _ _ _ (by rw [Heap.upd_same]; rfl) ?_
  simp only [go_sem, refB, refC]
  rw [BitVec.ofInt_natCast, BitVec.ofNat_toNat, BitVec.setWidth_eq]
  refine Fin.back (refPut_wf wf hbn hvn hcn hrn _) h (fun i hi => refPut_eq (hh.upd hq (readS p) rfl rfl rfl) (fun i hi n1 _ _ _ => by rw [Heap.upd_ne _ _ n1]) i hi) rfl
end Go.Proofs.Joy
namespace Go.Proofs.Joy
open Go.Ab Go.Proofs

set_option maxHeartbeats 1000000
set_option maxRecDepth 20000

theorem addr_lo (a : BitVec 16) (ha : a.toNat < 16384) : BitVec.ofInt 8 (((a.toNat : Nat) : Int).tmod 256) = a.setWidth 8 := by
  apply BitVec.eq_of_toNat_eq
  rw [Int.tmod_eq_emod_of_nonneg (by omega), show ((a.toNat : Nat) : Int) % 256 = ((a.toNat % 256 : Nat) : Int) by omega, BitVec.ofInt_natCast]
  simp
theorem addr_hi (a : BitVec 16) (ha : a.toNat < 16384) : BitVec.ofInt 8 (wrap64 (((a.toNat : Nat) : Int).tdiv 256)) = (a >>> 8).setWidth 8 := by
  apply BitVec.eq_of_toNat_eq
  rw [Int.tdiv_eq_ediv_of_nonneg (by omega), wrap_id _ (by omega) (by omega), show ((a.toNat : Nat) : Int) / 256 = ((a.toNat / 256 : Nat) : Int) by omega, BitVec.ofInt_natCast]
  simp [Nat.shiftRight_eq_div_pow]
theorem ofInt_u8 (x : BitVec 8) : BitVec.ofInt 8 ((x.toNat : Nat) : Int) = x := by rw [BitVec.ofInt_natCast, BitVec.ofNat_toNat, BitVec.setWidth_eq]

theorem rdump_ok (q : RQ) (p : PortS) (hp : p.ok) (H : Heap) (n : Nat) (K : AV → Heap → Nat → Prop) (hh : refH H q p) (h : K (.su n 0 16433 1) (H.upd n (some (byB (dumpL p)))) (n + 1)) :
    ACalls Try.prog 24 [.pt q.b 0] H n K := by
  refine ACalls.of_awp Try.func24 rfl (by decide +kernel) (show 1 ≤ 56 by decide) (by simp) fun wf => ?_
  have hb := hh.b
  have hv := hh.v
  have hc := hh.c
  have hr := hh.r
  have hbn := (wf q.b _ hb).1
  have hvn := (wf q.v _ hv).1
  have hcn := (wf q.c _ hh.c).1
  have hrn := (wf q.r _ hh.r).1
  have hal := hp.addr
  have hl1 : (p.vram ++ (p.cram ++ p.regs)).length = 16427 := by simp [hp.vram, hp.cram, hp.regs]
  have hl2 : (p.vram ++ p.cram).length = 16416 := by simp [hp.vram, hp.cram]
  refine awp_step dr24 (by decide +kernel) ?_
  simp only [go_sem, Try.f24]
  refine awp_step dr24 (by decide +kernel) ?_
  simp only [go_sem, hb, hv, hc, hr, hbn, hvn, hcn, hrn, refB, refC, byB, hp.vram, hp.cram, hp.regs, List.length_map]
  refine ⟨Nat.zero_le _, by rw [← List.map_append, List.length_map, hl2]; exact Nat.le_refl _, ?_⟩
  have hc0 : List.take 16416 (List.map AV.u8 p.vram ++ List.map AV.u8 p.cram) ++ List.map AV.u8 p.regs = (p.vram ++ (p.cram ++ p.regs)).map .u8 := by
    rw [← List.map_append, take_map_all hl2, ← List.map_append, List.append_assoc]
  have hfin : ∀ (s : BitVec 8), (if p.sec then 1#8 else 0#8) = s → (p.vram ++ (p.cram ++ p.regs)).map AV.u8 ++ [AV.u8 (BitVec.setWidth 8 p.addr), AV.u8 (BitVec.setWidth 8 (p.addr >>> 8)), AV.u8 p.code, AV.u8 p.low, AV.u8 s, AV.u8 p.buf] = (dumpL p).map .u8 := by
    rintro s rfl
    simp only [dumpL, List.map_append, List.map_cons, List.map_nil, List.append_assoc]
  rw [hc0]
  refine awp_step dr24 (by decide +kernel) ?_
  simp only [go_sem]
  cases hs : p.sec
  · refine awp_ev dr24 (by decide +kernel) ?_
    simp only [go_sem, hb, hbn, refB, refC, hs, addr_lo _ hal, addr_hi _ hal, ofInt_u8, hl1, List.length_map, hfin 0#8 (by rw [hs]; rfl)]
    exact Fin.one (n + 5) wf h (by omega) (by simp only [go_sem, byB]) (fun i hi => by simp only [go_sem, hi]) map_u8_ok (by simp [AV.ren]) (by simp [AV.ok])
  · refine awp_ev dr24 (by decide +kernel) ?_
    simp only [go_sem, hb, hbn, refB, refC, hs, addr_lo _ hal, addr_hi _ hal, ofInt_u8, hl1, List.length_map, hfin 1#8 (by rw [hs]; rfl)]
    exact Fin.one (n + 5) wf h (by omega) (by simp only [go_sem, byB]) (fun i hi => by simp only [go_sem, hi]) map_u8_ok (by simp [AV.ren]) (by simp [AV.ok])
end Go.Proofs.Joy
namespace Go.Proofs.Joy
open Go.Ab Go.Proofs

set_option maxHeartbeats 1000000
set_option maxRecDepth 20000

section
variable {H : Heap} {q : RQ} {p : PortS}
theorem refH.updv (h : refH H q p) (hq : q.ok) (l : List (BitVec 8)) : refH (H.upd q.v (some (byB l))) q { p with vram := l } :=
  ⟨by rw [Heap.upd_ne _ _ hq.bv, h.b]; rfl, Heap.upd_same _ _ _, by rw [Heap.upd_ne _ _ hq.vc.symm, h.c], by rw [Heap.upd_ne _ _ hq.vr.symm, h.r]⟩
theorem refH.updc (h : refH H q p) (hq : q.ok) (l : List (BitVec 8)) : refH (H.upd q.c (some (byB l))) q { p with cram := l } :=
  ⟨by rw [Heap.upd_ne _ _ hq.bc, h.b]; rfl, by rw [Heap.upd_ne _ _ hq.vc, h.v], Heap.upd_same _ _ _, by rw [Heap.upd_ne _ _ hq.cr.symm, h.r]⟩
theorem refH.updr (h : refH H q p) (hq : q.ok) (l : List (BitVec 8)) : refH (H.upd q.r (some (byB l))) q { p with regs := l } :=
  ⟨by rw [Heap.upd_ne _ _ hq.br, h.b]; rfl, by rw [Heap.upd_ne _ _ hq.vr, h.v], by rw [Heap.upd_ne _ _ hq.cr, h.c], Heap.upd_same _ _ _⟩
end

/-- How far it has been read. -/
structure LI (d : List (BitVec 8)) (i : Nat) (p : PortS) : Prop where
  lens : p.lens
  rest : p = { newS with vram := p.vram, cram := p.cram, regs := p.regs }
  v : ∀ j, j < i → j < 16384 → p.vram.getD j 0#8 = d.getD j 0#8
  c : ∀ j, 16384 + j < i → j < 32 → p.cram.getD j 0#8 = d.getD (16384 + j) 0#8 ∧ ¬ 63#8 < d.getD (16384 + j) 0#8
  r : ∀ j, 16416 + j < i → j < 11 → p.regs.getD j 0#8 = d.getD (16416 + j) 0#8

theorem getD_set' {l : List (BitVec 8)} {i j : Nat} {x d : BitVec 8} (h : i < l.length) : (l.set i x).getD j d = if i = j then x else l.getD j d := by
  rw [List.getD_eq_getElem?_getD, List.getElem?_set]
  split
  · rename_i e; subst e; simp [h]
  · rw [List.getD_eq_getElem?_getD]

theorem LI.stepv {d : List (BitVec 8)} {i : Nat} {p : PortS} (h : LI d i p) (hi : i < 16384) : LI d (i + 1) { p with vram := p.vram.set i (d.getD i 0#8) } := by
  refine ⟨⟨by simp [h.lens.vram], h.lens.cram, h.lens.regs⟩, ?_, fun j h1 h2 => ?_, fun j h1 h2 => by omega, fun j h1 h2 => by omega⟩
  · have := h.rest; rw [this]
  · simp only; rw [getD_set' (by rw [h.lens.vram]; exact hi)]
    split
    · rename_i e; rw [e]
    · exact h.v j (by omega) h2
theorem LI.stepc {d : List (BitVec 8)} {i : Nat} {p : PortS} (h : LI d i p) (h1 : ¬ i < 16384) (hi : i < 16416) (hx : ¬ 63#8 < d.getD i 0#8) : LI d (i + 1) { p with cram := p.cram.set (i - 16384) (d.getD i 0#8) } := by
  refine ⟨⟨h.lens.vram, by simp [h.lens.cram], h.lens.regs⟩, ?_, fun j h1 h2 => h.v j (by omega) h2, fun j h1 h2 => ?_, fun j h1 h2 => by omega⟩
  · have := h.rest; rw [this]
  · simp only; rw [getD_set' (by rw [h.lens.cram]; omega)]
    split
    · rename_i e; rw [show 16384 + j = i by omega]; exact ⟨rfl, hx⟩
    · exact h.c j (by omega) h2
theorem LI.stepr {d : List (BitVec 8)} {i : Nat} {p : PortS} (h : LI d i p) (h1 : ¬ i < 16416) (hi : i < 16427) : LI d (i + 1) { p with regs := p.regs.set (i - 16416) (d.getD i 0#8) } := by
  refine ⟨⟨h.lens.vram, h.lens.cram, by simp [h.lens.regs]⟩, ?_, fun j h1 h2 => h.v j (by omega) h2, fun j h1 h2 => h.c j (by omega) h2, fun j h1 h2 => ?_⟩
  · have := h.rest; rw [this]
  · simp only; rw [getD_set' (by rw [h.lens.regs]; omega)]
    split
    · rename_i e; rw [show 16416 + j = i by omega]
    · exact h.r j (by omega) h2
theorem LI.stepn {d : List (BitVec 8)} {i : Nat} {p : PortS} (h : LI d i p) (h1 : ¬ i < 16427) : LI d (i + 1) p :=
  ⟨h.lens, h.rest, fun j _ h2 => h.v j (by omega) h2, fun j _ h2 => h.c j (by omega) h2, fun j _ h2 => h.r j (by omega) h2⟩

theorem slice_eq {l d : List (BitVec 8)} {o k : Nat} (hl : l.length = k) (hd : o + k ≤ d.length) (h : ∀ j, j < k → l.getD j 0#8 = d.getD (o + j) 0#8) : l = (d.drop o).take k := by
  apply List.ext_getElem?
  intro j
  by_cases hj : j < k
  · have := h j hj
    rw [List.getD_eq_getElem?_getD, List.getD_eq_getElem?_getD] at this
    rw [List.getElem?_take, if_pos hj, List.getElem?_drop]
    rw [List.getElem?_eq_getElem (by omega), List.getElem?_eq_getElem (by omega)] at this ⊢
    simpa using this
  · rw [List.getElem?_eq_none (by omega), List.getElem?_eq_none (by simp; omega)]

theorem LI.done {d : List (BitVec 8)} {p : PortS} (h : LI d 16433 p) (hd : d.length = 16433) :
    p = { newS with vram := d.take 16384, cram := (d.drop 16384).take 32, regs := (d.drop 16416).take 11 } ∧ ((d.drop 16384).take 32).any (fun c => decide (63#8 < c)) = false := by
  have e1 : p.vram = (d.drop 0).take 16384 := slice_eq h.lens.vram (by omega) fun j hj => by rw [Nat.zero_add]; exact h.v j (by omega) hj
  have e2 : p.cram = (d.drop 16384).take 32 := slice_eq h.lens.cram (by omega) fun j hj => (h.c j (by omega) hj).1
  have e3 : p.regs = (d.drop 16416).take 11 := slice_eq h.lens.regs (by omega) fun j hj => h.r j (by omega) hj
  rw [List.drop_zero] at e1
  refine ⟨by rw [h.rest, e1, e2, e3], ?_⟩
  rw [List.any_eq_false]
  intro x hx
  obtain ⟨j, hj, rfl⟩ := List.mem_iff_getElem.1 hx
  have hj' : j < 32 := by simp at hj; omega
  have := (h.c j (by omega) hj').2
  rw [List.getD_eq_getElem?_getD, List.getElem?_eq_getElem (by omega)] at this
  simpa using this

theorem any_slice {d : List (BitVec 8)} {o k j : Nat} {f : BitVec 8 → Bool} (hj : j < k) (hd : o + j < d.length) (hf : f (d.getD (o + j) 0#8) = true) : ((d.drop o).take k).any f = true := by
  rw [List.any_eq_true]
  refine ⟨d.getD (o + j) 0#8, ?_, hf⟩
  rw [List.mem_iff_getElem]
  refine ⟨j, by simp; omega, ?_⟩
  rw [List.getElem_take, List.getElem_drop, List.getD_eq_getElem?_getD, List.getElem?_eq_getElem hd]
  rfl

theorem rload_ok (v : AV) (d : List (BitVec 8)) (H : Heap) (n : Nat) (K : AV → Heap → Nat → Prop) (hv : bytesIn H v d) (hm : d.length ≤ 4294967296)
    (h : if portFits d then K (.tu [.pt (n + 3) 0, .i64 0]) (refPut H ⟨n + 3, n, n + 1, n + 2⟩ (portOf d)) (n + 4) else K (.tu [.pn, .i64 131]) H n) : ACalls Try.prog 25 [v] H n K := by
  refine ACalls.of_awp Try.func25 rfl (by decide +kernel) (show 1 ≤ 113 by decide) (by simp [hv.ne]) fun wf => ?_
  have hlb : ∀ K, lenB (some .slice) v K = K (.i64 d.length) := lenB_bytes hv
  refine awp_step dr25 (by decide +kernel) ?_
  simp only [go_sem, Try.f25]
  by_cases hlen : d.length = 16433
  rotate_left
  · have hne : ((d.length : Int) != 16433) = true := by rw [bne_iff_ne]; omega
    have hf : portFits d = false := by unfold portFits; simp [hlen]
    rw [hf] at h
    refine awp_step dr25 (by decide +kernel) ?_
    simp only [go_sem, hlb, hne]
    exact Fin.back wf h (fun _ _ => rfl) rfl
  have hne : ((d.length : Int) != 16433) = false := by rw [hlen]; rfl
  refine awp_step dr25 (by decide +kernel) ?_
  simp only [go_sem, hlb, hne]
  refine awp_step dr25 (by decide +kernel) ?_
  simp only [go_sem]
  refine rnew_ok _ _ _ ?_
  simp only [go_sem]
  have hq : (⟨n + 3, n, n + 1, n + 2⟩ : RQ).ok := ⟨by simp, by simp, by simp, by simp, by simp, by simp⟩
  rcases hv with ⟨rfl, rfl⟩ | ⟨su, b2, o, c, blk, rfl, h0, h1, h2, h3⟩
  · simp at hlen
  have hb2 := (wf b2 _ h1).1
  refine awp_seq (awp_step dr0 (by decide +kernel) ?_)
  simp only [go_sem, hlb]
  refine awp_block ?_
  have bad : portFits d = false → ∀ H1, (∀ i, i < n → H1 i = H i) → Fin n (.tu [.pn, .i64 131]) H1 (n + 4) K := fun hf H1 hh => by
    rw [hf] at h; exact Fin.back wf h hh rfl
  have hout : ∀ (p : PortS) i, i < n → refPut H ⟨n + 3, n, n + 1, n + 2⟩ p i = H i := fun p i hi => refPut_ne _ _ _ (by simp only; omega) (by simp only; omega) (by simp only; omega) (by simp only; omega)
  refine awp_loopF (S := LS) (fun s => [(0, vw su b2 o d.length c), (4, .pt (n + 3) 0), (11, vw su b2 o d.length c), (12, .i64 d.length), (13, .i64 s.i)]) (fun s => refPut H ⟨n + 3, n, n + 1, n + 2⟩ s.p) (fun _ => n + 4)
    (fun s => s.i ≤ d.length ∧ LI d s.i s.p) (fun s => d.length - s.i)
    (fun s _ => ⟨refPut_wf (Heap.wf_mono wf (by omega)) (by simp only; omega) (by simp only; omega) (by simp only; omega) (by simp only; omega) _, Env.okAt_of2 (by simp [AV.ok, vw_ok (show b2 < n + 4 by omega)])⟩) ?_ ⟨0, newS⟩
    ⟨Nat.zero_le _, newS_ok.lens, rfl, fun j h => absurd h (Nat.not_lt_zero _), fun j h => absurd h (Nat.not_lt_zero _), fun j h => absurd h (Nat.not_lt_zero _)⟩
    (Env.le_cons rfl (Env.le_cons rfl (Env.le_cons rfl (Env.le_cons rfl (Env.le_cons rfl (Env.le_nil _)))))) (fun _ _ => rfl) rfl
  rintro ⟨i, p⟩ ⟨hi, hI⟩
  simp only at hi hI ⊢
  have hh := refPut_h H hq p
  have hB : refPut H ⟨n + 3, n, n + 1, n + 2⟩ p (n + 3) = _ := hh.b
  have hV : refPut H ⟨n + 3, n, n + 1, n + 2⟩ p n = _ := hh.v
  have hC : refPut H ⟨n + 3, n, n + 1, n + 2⟩ p (n + 1) = _ := hh.c
  have hR : refPut H ⟨n + 3, n, n + 1, n + 2⟩ p (n + 2) = _ := hh.r
  refine awp_step dr0 (by decide +kernel) ?_
  simp only [go_sem]
  refine awp_step dr0 (by decide +kernel) ?_
  simp only [go_sem]
  refine ⟨fun hlt => ?_, fun hlt => ?_⟩
  · have hlt' : i < d.length := by omega
    have w2 : wrap64 ((i : Int) + 1) = ((i + 1 : Nat) : Int) := by rw [wrap_id _ (by omega) (by omega)]; omega
    obtain ⟨q1, q2⟩ := cells_at h2 h3 hlt'
    have hb2' : refPut H ⟨n + 3, n, n + 1, n + 2⟩ p b2 = some blk := by rw [hout p b2 hb2]; exact h1
    refine awp_ev dr0 (by decide +kernel) ?_
    simp only [go_sem, hb2', q1, q2, hlt, hlt', w2, hB, hV, hC, hR, refB, refC, byB]
    have put : ∀ (H1 : Heap) (p' : PortS), refH H1 ⟨n + 3, n, n + 1, n + 2⟩ p' → (∀ k, k < n → H1 k = H k) → ∀ k, k < n + 4 → H1 k = refPut H ⟨n + 3, n, n + 1, n + 2⟩ p' k := fun H1 p' hr hf k hk =>
      refPut_eq (n := n + 4) hr (fun k hk n1 n2 n3 n4 => hf k (by simp only at n1 n2 n3 n4; omega)) k hk
    refine ⟨fun a1 => ⟨a1, by rw [List.length_map, hI.lens.vram]; omega, ?_⟩, fun a1 => ⟨fun a2 => ⟨fun a3 => ?_, fun a3 => ?_⟩, fun a2 => ⟨fun a3 => ?_, fun a3 => ?_⟩⟩⟩
    · refine Ends.mk ⟨i + 1, { p with vram := p.vram.set i (d.getD i 0#8) }⟩ ⟨by simp only; omega, by simp only; omega, hI.stepv (by omega)⟩ (Env.le_cons rfl (Env.le_cons rfl (Env.le_cons rfl (Env.le_cons rfl (Env.le_cons rfl (Env.le_nil _)))))) (put _ _ ?_ ?_) (Nat.le_refl _) (Nat.le_refl _)
      · rw [← List.map_set]; exact hh.updv hq _
      · intro k hk; rw [Heap.upd_ne _ _ (by omega)]; exact hout p k hk
    · refine bad ?_ _ (hout p)
      have : ((d.drop 16384).take 32).any (fun c => decide (63#8 < c)) = true := any_slice (j := i - 16384) (by omega) (by omega) (by rw [show 16384 + (i - 16384) = i by omega]; exact decide_eq_true a3)
      unfold portFits; rw [this]; simp
    · have w3 : wrap64 ((i : Int) - 16384) = ((i - 16384 : Nat) : Int) := by rw [wrap_id _ (by omega) (by omega)]; omega
      rw [w3]
      refine ⟨by omega, by omega, by rw [List.length_map, hI.lens.cram]; omega, ?_⟩
      refine Ends.mk ⟨i + 1, { p with cram := p.cram.set (i - 16384) (d.getD i 0#8) }⟩ ⟨by simp only; omega, by simp only; omega, hI.stepc (by omega) (by omega) a3⟩ (Env.le_cons rfl (Env.le_cons rfl (Env.le_cons rfl (Env.le_cons rfl (Env.le_cons rfl (Env.le_nil _)))))) (put _ _ ?_ ?_) (Nat.le_refl _) (Nat.le_refl _)
      · rw [Int.toNat_natCast, ← List.map_set]; exact hh.updc hq _
      · intro k hk; rw [Heap.upd_ne _ _ (by omega)]; exact hout p k hk
    · have w3 : wrap64 ((i : Int) - 16416) = ((i - 16416 : Nat) : Int) := by rw [wrap_id _ (by omega) (by omega)]; omega
      rw [w3]
      refine ⟨by omega, by omega, by rw [List.length_map, hI.lens.regs]; omega, ?_⟩
      refine Ends.mk ⟨i + 1, { p with regs := p.regs.set (i - 16416) (d.getD i 0#8) }⟩ ⟨by simp only; omega, by simp only; omega, hI.stepr (by omega) (by omega)⟩ (Env.le_cons rfl (Env.le_cons rfl (Env.le_cons rfl (Env.le_cons rfl (Env.le_cons rfl (Env.le_nil _)))))) (put _ _ ?_ ?_) (Nat.le_refl _) (Nat.le_refl _)
      · rw [Int.toNat_natCast, ← List.map_set]; exact hh.updr hq _
      · intro k hk; rw [Heap.upd_ne _ _ (by omega)]; exact hout p k hk
    · exact Ends.mk ⟨i + 1, p⟩ ⟨by simp only; omega, by simp only; omega, hI.stepn (by omega)⟩ (Env.le_cons rfl (Env.le_cons rfl (Env.le_cons rfl (Env.le_cons rfl (Env.le_cons rfl (Env.le_nil _)))))) (fun _ _ => rfl) (Nat.le_refl _) (Nat.le_refl _)
  have hie : i = 16433 := by omega
  subst hie
  obtain ⟨hpe, hany⟩ := hI.done hlen
  have at6 : ∀ i, i < 6 → o + (16427 + i) < blk.cells.length ∧ blk.cells.getD (o + (16427 + i)) .junk = .u8 (d.getD (16427 + i) 0#8) := fun i hi => cells_at h2 h3 (by omega)
  obtain ⟨g0, e0⟩ := at6 0 (by omega)
  obtain ⟨g1, e1⟩ := at6 1 (by omega)
  obtain ⟨g2, e2⟩ := at6 2 (by omega)
  obtain ⟨g3, e3⟩ := at6 3 (by omega)
  obtain ⟨g4, e4⟩ := at6 4 (by omega)
  obtain ⟨g5, e5⟩ := at6 5 (by omega)
  simp only [Nat.reduceAdd, Nat.add_zero] at g0 g1 g2 g3 g4 g5 e0 e1 e2 e3 e4 e5
  have hb2' : refPut H ⟨n + 3, n, n + 1, n + 2⟩ p b2 = some blk := by rw [hout p b2 hb2]; exact h1
  have hb3 : b2 < n + 3 := by omega
  have l1 : (16427 : Nat) < d.length := by omega
  have l2 : (16428 : Nat) < d.length := by omega
  have l3 : (16429 : Nat) < d.length := by omega
  have l4 : (16430 : Nat) < d.length := by omega
  have l5 : (16431 : Nat) < d.length := by omega
  have l6 : (16432 : Nat) < d.length := by omega
  refine awp_ev dr25 (by decide +kernel) ?_
  simp only [go_sem, hb2', hB, hb3, refB, refC, hlen, g0, g1, g2, g3, g4, g5, e0, e1, e2, e3, e4, e5]
  have w4 : wrap64 (((d.getD 16427 0#8).toNat : Int) + wrap64 (256 * ((d.getD 16428 0#8).toNat : Int))) = (((portOf d).addr.toNat : Nat) : Int) := by
    have x1 := (d.getD 16427 0#8).isLt
    have x2 := (d.getD 16428 0#8).isLt
    have e : (portOf d).addr.toNat = (d.getD 16428 0#8).toNat * 256 + (d.getD 16427 0#8).toNat := by
      show ((d.getD 16427 0#8).setWidth 16 ||| (d.getD 16428 0#8).setWidth 16 <<< 8).toNat = _
      rw [BitVec.or_comm, BitVec.toNat_or, BitVec.toNat_shiftLeft, BitVec.toNat_setWidth, BitVec.toNat_setWidth, Nat.mod_eq_of_lt (show (d.getD 16428 0#8).toNat < 2 ^ 16 by omega), Nat.mod_eq_of_lt (show (d.getD 16427 0#8).toNat < 2 ^ 16 by omega), Nat.shiftLeft_eq, Nat.mod_eq_of_lt (by omega)]
      rw [← Nat.shiftLeft_eq, ← Nat.shiftLeft_add_eq_or_of_lt (by omega), Nat.shiftLeft_eq]
    rw [e, wrap_id (_ * _) (by omega) (by omega), wrap_id _ (by omega) (by omega)]; omega
  have a28 : (16383 < (portOf d).addr.toNat) ↔ 63#8 < d.getD 16428 0#8 := by
    have x1 := (d.getD 16427 0#8).isLt
    have x2 := (d.getD 16428 0#8).isLt
    rw [wrap_id (256 * _) (by omega) (by omega), wrap_id _ (by omega) (by omega)] at w4
    rw [BitVec.lt_def, show (63#8).toNat = 63 from rfl]; omega
  have pf : portFits d = (!decide (63#8 < d.getD 16428 0#8) && !decide (3#8 < d.getD 16429 0#8) && !decide (1#8 < d.getD 16431 0#8)) := by
    unfold portFits; rw [hany, hlen]; rfl
  have gone : ∀ X, ∀ k, k < n → ((refPut H ⟨n + 3, n, n + 1, n + 2⟩ p).upd (n + 3) X) k = H k := fun X k hk => by rw [Heap.upd_ne _ _ (by omega)]; exact hout p k hk
  rw [w4]
  refine ⟨fun a1 => ⟨fun a2 => ⟨fun a3 => ?_, fun a3 => ?_⟩, fun a2 => ?_⟩, fun a1 => ?_⟩
  · exact bad (by rw [pf, decide_eq_true a3]; simp) _ (gone _)
  · have hf : portFits d = true := by
      have b1 : ¬ 63#8 < d.getD 16428 0#8 := fun hx => a1 (by have := a28.2 hx; omega)
      have b2 : ¬ 3#8 < d.getD 16429 0#8 := fun hx => a2 (by rw [BitVec.lt_def] at hx; have : (3#8).toNat = 3 := rfl; omega)
      rw [pf, decide_eq_false b1, decide_eq_false b2, decide_eq_false a3]; rfl
    rw [hf, if_pos rfl] at h
    have hr := hh.upd hq (portOf d) (by rw [hpe]; rfl) (by rw [hpe]; rfl) (by rw [hpe]; rfl)
    refine Fin.less (Heap.le_on (n := n + 4) (refPut_wf (q := ⟨n + 3, n, n + 1, n + 2⟩) (Heap.wf_mono wf (show n ≤ n + 4 by omega)) (by simp) (by simp) (by simp) (by simp) (portOf d)) (fun k hk => ?_)) h
    exact refPut_eq (n := n + 4) hr (fun k hk n1 n2 n3 n4 => gone _ k (by simp only at n1 n2 n3 n4; omega)) k hk
  · exact bad (by rw [pf, decide_eq_true (show 3#8 < d.getD 16429 0#8 by rw [BitVec.lt_def]; have : (3#8).toNat = 3 := rfl; omega)]; simp) _ (gone _)
  · exact bad (by rw [pf, decide_eq_true (a28.1 (by omega))]; simp) _ (gone _)
end Go.Proofs.Joy
namespace Go.Proofs.Joy
open Go.Ab Go.Proofs

set_option maxHeartbeats 1000000
set_option maxRecDepth 20000

/-- Something done. -/
structure PAct where
  kind : Int
  place : Int
  v : BitVec 8
def encA (a : PAct) : List AV := [.i64 a.kind, .i64 a.place, .u8 a.v]
theorem encA_len (a : PAct) : (encA a).length = 3 := rfl

structure PortS.good (p : PortS) : Prop where
  ok : p.ok
  code : p.code.toNat < 4
  cram : ∀ j, j < 32 → (p.cram.getD j 0#8).toNat < 64

theorem newS_good : newS.good := ⟨newS_ok, by decide, fun j hj => by
  show ((List.replicate 32 0#8).getD j 0#8).toNat < 64
  rw [List.getD_eq_getElem?_getD, List.getElem?_replicate, if_pos hj]; decide⟩
theorem PortS.good.control {p : PortS} (h : p.good) (v : BitVec 8) : (controlS p v).good := by
  refine ⟨h.ok.control v, ?_, ?_⟩
  · have hc := h.code
    have hv : (v >>> 6).toNat < 4 := by simp; have := v.isLt; omega
    unfold controlS
    split
    · exact hc
    · dsimp only
      split
      · exact hv
      · split
        · split
          · exact hv
          · exact hv
        · exact hv
  · have hc := h.cram
    unfold controlS
    split
    · exact hc
    · dsimp only
      split
      · exact hc
      · split
        · split
          · exact hc
          · exact hc
        · exact hc
theorem PortS.good.forget {p : PortS} (h : p.good) : (forgetS p).good := ⟨h.ok.forget, h.code, h.cram⟩
theorem PortS.good.write {p : PortS} (h : p.good) (v : BitVec 8) : (writeS p v).good := by
  refine ⟨h.ok.write v, ?_, ?_⟩
  · unfold writeS; split
    · exact h.code
    · exact h.code
  · unfold writeS; split
    · intro j hj
      simp only [onS]
      rw [getD_set' (by rw [h.ok.cram, BitVec.toNat_umod]; exact Nat.mod_lt _ (by decide))]
      split
      · exact low6 v
      · exact h.cram j hj
    · exact h.cram
theorem PortS.good.read {p : PortS} (h : p.good) : (readS p).good := ⟨h.ok.read, h.code, h.cram⟩

theorem dumpL_len {p : PortS} (h : p.lens) : (dumpL p).length = 16433 := by
  simp [dumpL, h.vram, h.cram, h.regs]
theorem dumpL_take {p : PortS} (h : p.lens) : (dumpL p).take 16384 = p.vram := by
  rw [dumpL, List.take_append_of_le_length (by rw [h.vram]; exact Nat.le_refl _), List.take_of_length_le (by rw [h.vram]; exact Nat.le_refl _)]
theorem dumpL_drop {p : PortS} (h : p.lens) : (dumpL p).drop 16384 = p.cram ++ (p.regs ++ [p.addr.setWidth 8, (p.addr >>> 8).setWidth 8, p.code, p.low, if p.sec then 1#8 else 0#8, p.buf]) := by
  rw [dumpL]; exact List.drop_left' h.vram
theorem dumpL_drop2 {p : PortS} (h : p.lens) : (dumpL p).drop 16416 = p.regs ++ [p.addr.setWidth 8, (p.addr >>> 8).setWidth 8, p.code, p.low, if p.sec then 1#8 else 0#8, p.buf] := by
  rw [show 16416 = 16384 + 32 by rfl, ← List.drop_drop, dumpL_drop h]; exact List.drop_left' h.cram
theorem dumpL_drop3 {p : PortS} (h : p.lens) : (dumpL p).drop 16427 = [p.addr.setWidth 8, (p.addr >>> 8).setWidth 8, p.code, p.low, if p.sec then 1#8 else 0#8, p.buf] := by
  rw [show 16427 = 16416 + 11 by rfl, ← List.drop_drop, dumpL_drop2 h]; exact List.drop_left' h.regs
theorem dumpL_get {p : PortS} (h : p.lens) (k : Nat) : (dumpL p).getD (16427 + k) 0#8 = ([p.addr.setWidth 8, (p.addr >>> 8).setWidth 8, p.code, p.low, if p.sec then 1#8 else 0#8, p.buf] : List (BitVec 8)).getD k 0#8 := by
  rw [← dumpL_drop3 h, List.getD_eq_getElem?_getD, List.getD_eq_getElem?_getD, List.getElem?_drop]

theorem addr_back (a : BitVec 16) : (a.setWidth 8).setWidth 16 ||| ((a >>> 8).setWidth 8).setWidth 16 <<< 8 = a := by
  apply BitVec.eq_of_toNat_eq
  have := a.isLt
  rw [BitVec.or_comm, BitVec.toNat_or, BitVec.toNat_shiftLeft]
  simp only [BitVec.toNat_setWidth, BitVec.toNat_ushiftRight, Nat.shiftRight_eq_div_pow]
  rw [Nat.mod_eq_of_lt (show a.toNat / 2 ^ 8 % 2 ^ 8 < 2 ^ 16 by omega), Nat.mod_eq_of_lt (show a.toNat % 2 ^ 8 < 2 ^ 16 by omega), Nat.shiftLeft_eq, Nat.mod_eq_of_lt (by omega)]
  rw [← Nat.shiftLeft_eq, ← Nat.shiftLeft_add_eq_or_of_lt (by omega), Nat.shiftLeft_eq]
  omega

theorem portOf_dump {p : PortS} (h : p.lens) : portOf (dumpL p) = p := by
  unfold portOf
  have g := fun k => dumpL_get h k
  rw [dumpL_take h, dumpL_drop h, dumpL_drop2 h]
  rw [show (dumpL p).getD 16427 0#8 = _ from g 0, show (dumpL p).getD 16428 0#8 = _ from g 1, show (dumpL p).getD 16429 0#8 = _ from g 2, show (dumpL p).getD 16430 0#8 = _ from g 3, show (dumpL p).getD 16431 0#8 = _ from g 4, show (dumpL p).getD 16432 0#8 = _ from g 5]
  rw [List.take_left' h.cram, List.take_left' h.regs]
  simp only [List.getD_cons_zero, List.getD_cons_succ, addr_back]
  cases p with
  | mk a b c d e f g s => cases s <;> rfl
theorem portFits_dump {p : PortS} (h : p.good) : portFits (dumpL p) = true := by
  have hl := h.ok.lens
  have g := fun k => dumpL_get hl k
  unfold portFits
  rw [dumpL_drop hl, List.take_left' hl.cram, dumpL_len hl]
  rw [show (dumpL p).getD 16428 0#8 = _ from g 1, show (dumpL p).getD 16429 0#8 = _ from g 2, show (dumpL p).getD 16431 0#8 = _ from g 4]
  simp only [List.getD_cons_zero, List.getD_cons_succ]
  have a1 : p.cram.any (fun c => decide (63#8 < c)) = false := by
    rw [List.any_eq_false]
    intro x hx
    obtain ⟨j, hj, rfl⟩ := List.mem_iff_getElem.1 hx
    have := h.cram j (by rw [hl.cram] at hj; exact hj)
    rw [List.getD_eq_getElem?_getD, List.getElem?_eq_getElem hj] at this
    simp only [Option.getD_some] at this
    simp only [BitVec.lt_def, decide_eq_true_eq, show (63#8).toNat = 63 from rfl]; omega
  have a2 : ¬ 63#8 < (p.addr >>> 8).setWidth 8 := by
    rw [BitVec.lt_def]; simp [Nat.shiftRight_eq_div_pow]; have := h.ok.addr; omega
  have a3 : ¬ 3#8 < p.code := by rw [BitVec.lt_def, show (3#8).toNat = 3 from rfl]; have := h.code; omega
  have a4 : ¬ 1#8 < (if p.sec then 1#8 else 0#8) := by cases p.sec <;> decide
  rw [a1, decide_eq_false a2, decide_eq_false a3, decide_eq_false a4]
  rfl

def actS (p : PortS) (a : PAct) : PortS := if a.kind = 0 then controlS p a.v else if a.kind = 1 then writeS p a.v else if a.kind = 2 then readS p else p
theorem PortS.good.act {p : PortS} (h : p.good) (a : PAct) : (actS p a).good := by
  unfold actS
  split
  · exact h.control _
  · split
    · exact h.write _
    · split
      · exact h.read
      · exact h
def runS (acts : List PAct) : PortS := acts.foldl actS newS
theorem foldl_good (acts : List PAct) : ∀ (p : PortS), p.good → (acts.foldl actS p).good := by
  induction acts with
  | nil => exact fun p h => h
  | cons a l ih => exact fun p h => ih _ (h.act a)
theorem runS_good (acts : List PAct) : (runS acts).good := foldl_good _ _ newS_good
theorem runS_succ (acts : List PAct) (i : Nat) (a : PAct) (h : acts[i]? = some a) : runS (acts.take (i + 1)) = actS (runS (acts.take i)) a := by
  have hi := (List.getElem?_eq_some_iff.1 h)
  obtain ⟨hi, rfl⟩ := hi
  rw [List.take_succ_eq_append_getElem hi, runS, List.foldl_append]; rfl
end Go.Proofs.Joy
namespace Go.Proofs.Joy
open Go.Ab Go.Proofs

set_option maxHeartbeats 1000000
set_option maxRecDepth 20000

theorem refPut2 (H : Heap) {q : RQ} (hq : q.ok) (p p' : PortS) : refPut (refPut H q p) q p' = refPut H q p' := by
  funext i
  by_cases h4 : i = q.r
  · subst h4; rw [(refPut_h _ hq _).r, (refPut_h _ hq _).r]
  by_cases h3 : i = q.c
  · subst h3; rw [(refPut_h _ hq _).c, (refPut_h _ hq _).c]
  by_cases h2 : i = q.v
  · subst h2; rw [(refPut_h _ hq _).v, (refPut_h _ hq _).v]
  by_cases h1 : i = q.b
  · subst h1; rw [(refPut_h _ hq _).b, (refPut_h _ hq _).b]
  rw [refPut_ne _ _ _ h1 h2 h3 h4, refPut_ne _ _ _ h1 h2 h3 h4, refPut_ne _ _ _ h1 h2 h3 h4]

/-- The elements of a slice of acts. -/
theorem acts_at {acts : List PAct} {i : Nat} (hi : i < acts.length) : ((acts.flatMap encA).drop (i * 3)).take 3 = encA acts[i] ∧ i * 3 + 3 ≤ (acts.flatMap encA).length := by
  refine ⟨flatMap_slice encA_len (List.getElem?_eq_getElem hi), ?_⟩
  rw [flatMap_length encA_len]; omega

theorem read_of_acts (z : Bool) (bb cap : Nat) (acts : List PAct) (el : TypeId) (ro : Bool) (H : Heap) (n : Nat) (K : AV → Heap → Nat → Prop) (hb : z = false ∨ 0 < acts.length → H bb = some ⟨acts.flatMap encA, el, ro⟩) (hm : acts.length ≤ 1000)
    (h : K (.u8 (runS acts).buf) H n) : ACalls Try.prog 26 [slz z bb acts.length cap] H n K := by
  refine ACalls.of_awp Try.func26 rfl (by decide +kernel) (show 1 ≤ 34 by decide) (by simp [slz_ne]) fun wf => ?_
  have hvok : (slz z bb acts.length cap).ok n = true := slz_ok' (fun hl => (wf bb _ (hb (.inr hl))).1) z cap fun hz => (wf bb _ (hb (.inl hz))).1
  refine awp_step dr0 (by decide +kernel) ?_
  simp only [go_sem, Try.f26]
  refine awp_step dr0 (by decide +kernel) ?_
  simp only [go_sem]
  refine rnew_ok _ _ _ ?_
  simp only [go_sem]
  refine awp_seq (awp_step dr0 (by decide +kernel) ?_)
  simp only [go_sem]
  refine awp_block ?_
  have hq : (⟨n + 3, n, n + 1, n + 2⟩ : RQ).ok := ⟨by simp, by simp, by simp, by simp, by simp, by simp⟩
  have hout : ∀ (p : PortS) i, i < n → refPut H ⟨n + 3, n, n + 1, n + 2⟩ p i = H i := fun p i hi => refPut_ne _ _ _ (by simp only; omega) (by simp only; omega) (by simp only; omega) (by simp only; omega)
  refine awp_loopF (S := CC) (fun s => [(0, slz z bb acts.length cap), (3, .pt (n + 3) 0), (7, slz z bb acts.length cap), (8, .i64 acts.length), (9, .i64 s.i)]) (fun s => refPut H ⟨n + 3, n, n + 1, n + 2⟩ (runS (acts.take s.i))) (fun _ => n + 4)
    (fun s => s.i ≤ acts.length) (fun s => acts.length - s.i)
    (fun s _ => ⟨refPut_wf (Heap.wf_mono wf (by omega)) (by simp) (by simp) (by simp) (by simp) _, Env.okAt_of2 (by simp [AV.ok, AV.ok_mono (show n ≤ n + 4 by omega) _ hvok])⟩) ?_ ⟨0⟩
    (Nat.zero_le _) (Env.le_cons rfl (Env.le_cons rfl (Env.le_cons rfl (Env.le_cons rfl (Env.le_cons rfl (Env.le_nil _)))))) (fun _ _ => rfl) rfl
  rintro ⟨i⟩ hi
  simp only at hi ⊢
  refine awp_step dr0 (by decide +kernel) ?_
  simp only [go_sem]
  refine awp_step dr0 (by decide +kernel) ?_
  simp only [go_sem]
  have hg := runS_good (acts.take i)
  have hh := refPut_h H hq (runS (acts.take i))
  refine ⟨fun hlt => ?_, fun hlt => ?_⟩
  · have hlt' : i < acts.length := by omega
    have w2 : wrap64 ((i : Int) + 1) = ((i + 1 : Nat) : Int) := by rw [wrap_id _ (by omega) (by omega)]; omega
    have hbb := (wf bb _ (hb (.inr (by omega)))).1
    have hbl := hb (.inr (by omega))
    obtain ⟨s1, s2⟩ := acts_at hlt'
    have hb2 : refPut H ⟨n + 3, n, n + 1, n + 2⟩ (runS (acts.take i)) bb = some ⟨acts.flatMap encA, el, ro⟩ := by rw [hout _ _ hbb]; exact hbl
    have hnext := runS_succ acts i _ (List.getElem?_eq_getElem hlt')
    generalize acts[i] = a at s1 hnext
    obtain ⟨k, at_, v⟩ := a
    refine awp_ev dr0 (by decide +kernel) ?_
    simp only [go_sem, slz_pos (z := z) (b := bb) (c := cap) (show 0 < acts.length by omega), hb2, s1, s2, hlt, hlt', encA, w2]
    have put : ∀ (H1 : Heap) (p' : PortS), refH H1 ⟨n + 3, n, n + 1, n + 2⟩ p' → (∀ k, k < n → H1 k = H k) → runS (acts.take (i + 1)) = p' → ∀ k, k < n + 4 → H1 k = refPut H ⟨n + 3, n, n + 1, n + 2⟩ (runS (acts.take (i + 1))) k := fun H1 p' hr hf he k hk => by
      rw [he]; exact refPut_eq (n := n + 4) hr (fun k hk n1 n2 n3 n4 => hf k (by simp only at n1 n2 n3 n4; omega)) k hk
    have hx : ∀ X, refH ((refPut H ⟨n + 3, n, n + 1, n + 2⟩ (runS (acts.take i))).upd (n + 4) X) ⟨n + 3, n, n + 1, n + 2⟩ (runS (acts.take i)) := fun X => hh.out (by simp) (by simp) (by simp) (by simp) X
    have hf : ∀ X k, k < n → ((refPut H ⟨n + 3, n, n + 1, n + 2⟩ (runS (acts.take i))).upd (n + 4) X) k = H k := fun X k hk => by rw [Heap.upd_ne _ _ (by omega)]; exact hout _ k hk
    have hf2 : ∀ X p' k, k < n → refPut ((refPut H ⟨n + 3, n, n + 1, n + 2⟩ (runS (acts.take i))).upd (n + 4) X) ⟨n + 3, n, n + 1, n + 2⟩ p' k = H k := fun X p' k hk => by
      rw [refPut_ne _ _ _ (by simp only; omega) (by simp only; omega) (by simp only; omega) (by simp only; omega)]; exact hf X k hk
    refine ⟨fun a1 => ?_, fun a1 => ⟨fun a2 => ?_, fun a2 => ⟨fun a3 => ?_, fun a3 => ?_⟩⟩⟩
    all_goals simp only [beq_iff_eq, beq_eq_false_iff_ne, ne_eq] at *
    · refine rcontrol_ok ⟨n + 3, n, n + 1, n + 2⟩ hq _ hg.ok v _ _ _ (hx _) ?_
      simp only [go_sem, w2]
      exact Ends.mk ⟨i + 1⟩ ⟨by simp only; omega, by simp only; omega⟩ (Env.le_cons rfl (Env.le_cons rfl (Env.le_cons rfl (Env.le_cons rfl (Env.le_cons rfl (Env.le_nil _)))))) (put _ _ (refPut_h _ hq _) (hf2 _ _) (by rw [hnext]; simp [actS, a1])) (by omega) (by omega)
    · refine rwrite_ok ⟨n + 3, n, n + 1, n + 2⟩ hq _ hg.ok v _ _ _ (hx _) ?_
      simp only [go_sem, w2]
      exact Ends.mk ⟨i + 1⟩ ⟨by simp only; omega, by simp only; omega⟩ (Env.le_cons rfl (Env.le_cons rfl (Env.le_cons rfl (Env.le_cons rfl (Env.le_cons rfl (Env.le_nil _)))))) (put _ _ (refPut_h _ hq _) (hf2 _ _) (by rw [hnext]; simp [actS, a1, a2])) (by omega) (by omega)
    · refine rread_ok ⟨n + 3, n, n + 1, n + 2⟩ hq _ hg.ok _ _ _ (hx _) ?_
      simp only [go_sem, w2]
      exact Ends.mk ⟨i + 1⟩ ⟨by simp only; omega, by simp only; omega⟩ (Env.le_cons rfl (Env.le_cons rfl (Env.le_cons rfl (Env.le_cons rfl (Env.le_cons rfl (Env.le_nil _)))))) (put _ _ (refPut_h _ hq _) (hf2 _ _) (by rw [hnext]; simp [actS, a1, a2, a3])) (by omega) (by omega)
    · exact Ends.mk ⟨i + 1⟩ ⟨by simp only; omega, by simp only; omega⟩ (Env.le_cons rfl (Env.le_cons rfl (Env.le_cons rfl (Env.le_cons rfl (Env.le_cons rfl (Env.le_nil _)))))) (put _ _ (hx _) (hf _) (by rw [hnext]; simp [actS, a1, a2, a3])) (by omega) (by omega)
  have hie : i = acts.length := by omega
  subst hie
  rw [List.take_length] at hg hh
  rw [List.take_length]
  refine awp_ev dr0 (by decide +kernel) ?_
  simp only [go_sem]
  refine rread_ok ⟨n + 3, n, n + 1, n + 2⟩ hq _ hg.ok _ _ _ hh ?_
  simp only [go_sem]
  refine Fin.back wf h (fun k hk => ?_) rfl
  rw [refPut2 _ hq]; exact hout _ k hk
end Go.Proofs.Joy
namespace Go.Proofs.Joy
open Go.Ab Go.Proofs

set_option maxHeartbeats 1000000
set_option maxRecDepth 20000

theorem keeps_regs (p : PortS) (x : BitVec 8) : (controlS (controlS (forgetS p) x) (139#8 + x % 5#8)).regs = p.regs := by
  have h1 : ∀ x : BitVec 8, (139#8 + x % 5#8) >>> 6 = 2#8 ∧ ¬ ((139#8 + x % 5#8) &&& 15#8).toNat < 11 := by decide +kernel
  obtain ⟨a, b⟩ := h1 x
  have e : controlS (forgetS p) x = { forgetS p with sec := true, low := x, addr := (forgetS p).addr &&& 16128#16 ||| x.setWidth 16 } := if_pos rfl
  rw [e]
  generalize 139#8 + x % 5#8 = y at a b
  unfold controlS
  simp only [Bool.true_eq_false, if_false]
  rw [a, if_neg (by decide), if_pos rfl, if_neg b]
  rfl

theorem keeps_walk (x : BitVec 8) (z : Bool) (bb cap : Nat) (acts : List PAct) (el : TypeId) (ro : Bool) (H : Heap) (n : Nat) (K : AV → Heap → Nat → Prop) (hb : z = false ∨ 0 < acts.length → H bb = some ⟨acts.flatMap encA, el, ro⟩) (hm : acts.length ≤ maxLen)
    (h : K (.bo true) H n) : ACalls Try.prog 7 [slz z bb acts.length cap, .u8 x] H n K := by
  refine ACalls.of_awp Try.func7 rfl (by decide +kernel) (show 2 ≤ 79 by decide) (by simp [slz_ne]) fun wf => ?_
  have hvok : (slz z bb acts.length cap).ok n = true := slz_ok' (fun hl => (wf bb _ (hb (.inr hl))).1) z cap fun hz => (wf bb _ (hb (.inl hz))).1
  refine awp_step dr7 (by decide +kernel) ?_
  simp only [go_sem, Try.f7]
  refine awp_step dr7 (by decide +kernel) ?_
  simp only [go_sem]
  refine alive_ok _ _ _ ?_
  simp only [go_sem]
  refine awp_step dr7 (by decide +kernel) ?_
  simp only [go_sem]
  refine ⟨fun hl => Fin.back wf h (fun _ _ => rfl) rfl, fun hl => ?_⟩
  refine awp_step dr7 (by decide +kernel) ?_
  simp only [go_sem]
  refine new_ok _ _ _ ?_
  simp only [go_sem]
  refine awp_seq (awp_step dr0 (by decide +kernel) ?_)
  simp only [go_sem]
  refine awp_block ?_
  refine awp_loopF (S := CC) (fun s => [(0, slz z bb acts.length cap), (1, .u8 x), (5, .pt n 0), (16, slz z bb acts.length cap), (17, .i64 acts.length), (18, .i64 s.i)]) (fun s => H.upd n (some (portB (runS (acts.take s.i))))) (fun _ => n + 1)
    (fun s => s.i ≤ acts.length) (fun s => acts.length - s.i)
    (fun s _ => ⟨Heap.wf_upd wf (PortS.cells_ok _ _), Env.okAt_of2 (by simp [AV.ok, AV.ok_mono (show n ≤ n + 1 by omega) _ hvok])⟩) ?_ ⟨0⟩
    (Nat.zero_le _) (Env.le_cons rfl (Env.le_cons rfl (Env.le_cons rfl (Env.le_cons rfl (Env.le_cons rfl (Env.le_cons rfl (Env.le_nil _))))))) (fun _ _ => rfl) rfl
  rintro ⟨i⟩ hi
  simp only at hi ⊢
  refine awp_step dr0 (by decide +kernel) ?_
  simp only [go_sem]
  refine awp_step dr0 (by decide +kernel) ?_
  simp only [go_sem]
  have hg := runS_good (acts.take i)
  refine ⟨fun hlt => ?_, fun hlt => ?_⟩
  · have hlt' : i < acts.length := by omega
    have w2 : wrap64 ((i : Int) + 1) = ((i + 1 : Nat) : Int) := by rw [wrap_id _ (by omega) (by omega)]; omega
    have hbb := (wf bb _ (hb (.inr (by omega)))).1
    have hbl := hb (.inr (by omega))
    obtain ⟨s1, s2⟩ := acts_at hlt'
    have hnext := runS_succ acts i _ (List.getElem?_eq_getElem hlt')
    generalize acts[i] = a at s1 hnext
    obtain ⟨k, at_, v⟩ := a
    generalize hp : runS (acts.take i) = p at hg hnext
    refine awp_ev dr0 (by decide +kernel) ?_
    simp only [go_sem, slz_pos (z := z) (b := bb) (c := cap) (show 0 < acts.length by omega), hbl, hbb, s1, s2, hlt, hlt', encA, w2]
    refine ⟨fun a1 => ?_, fun a1 => ⟨fun a2 => ?_, fun a2 => ⟨fun a3 => ?_, fun a3 => ?_⟩⟩⟩
    all_goals simp only [beq_iff_eq, beq_eq_false_iff_ne, ne_eq] at *
    · refine control_ok n p hg.ok.lens v _ _ _ (by simp only [go_sem]) ?_
      simp only [go_sem, w2]
      refine Ends.mk ⟨i + 1⟩ ⟨by simp only; omega, by simp only; omega⟩ (Env.le_cons rfl (Env.le_cons rfl (Env.le_cons rfl (Env.le_cons rfl (Env.le_cons rfl (Env.le_cons rfl (Env.le_nil _))))))) (fun k hk => ?_) (by omega) (by omega)
      simp only [hnext, actS, a1, if_true]
      obtain hk | rfl : k < n ∨ k = n := by omega
      all_goals simp only [go_sem, *]
    · refine write_ok n p hg.ok.lens hg.ok.addr v _ _ _ (by simp only [go_sem]) ?_
      simp only [go_sem, w2]
      refine Ends.mk ⟨i + 1⟩ ⟨by simp only; omega, by simp only; omega⟩ (Env.le_cons rfl (Env.le_cons rfl (Env.le_cons rfl (Env.le_cons rfl (Env.le_cons rfl (Env.le_cons rfl (Env.le_nil _))))))) (fun k hk => ?_) (by omega) (by omega)
      simp only [hnext, actS, a1, a2, if_true, if_false]
      obtain hk | rfl : k < n ∨ k = n := by omega
      all_goals simp only [go_sem, *]
    · refine read_ok n p hg.ok.lens hg.ok.addr _ _ _ (by simp only [go_sem]) ?_
      simp only [go_sem, w2]
      refine Ends.mk ⟨i + 1⟩ ⟨by simp only; omega, by simp only; omega⟩ (Env.le_cons rfl (Env.le_cons rfl (Env.le_cons rfl (Env.le_cons rfl (Env.le_cons rfl (Env.le_cons rfl (Env.le_nil _))))))) (fun k hk => ?_) (by omega) (by omega)
      simp only [hnext, actS, a1, a2, a3, if_true, if_false]
      obtain hk | rfl : k < n ∨ k = n := by omega
      all_goals simp only [go_sem, *]
    · refine Ends.mk ⟨i + 1⟩ ⟨by simp only; omega, by simp only; omega⟩ (Env.le_cons rfl (Env.le_cons rfl (Env.le_cons rfl (Env.le_cons rfl (Env.le_cons rfl (Env.le_cons rfl (Env.le_nil _))))))) (fun k hk => ?_) (by omega) (by omega)
      simp only [hnext, actS, a1, a2, a3, if_true, if_false]
      obtain hk | rfl : k < n ∨ k = n := by omega
      all_goals simp only [go_sem, *]
  have hie : i = acts.length := by omega
  subst hie
  rw [List.take_length] at hg
  rw [List.take_length]
  generalize hp : runS acts = p at *
  have hpl := hg.ok.lens
  refine awp_step dr7 (by decide +kernel) ?_
  simp only [go_sem]
  refine new_ok _ _ _ ?_
  simp only [go_sem]
  have hdl := dumpL_len hpl
  refine awp_seqF (S := Unit) (fun _ => [(0, slz z bb acts.length cap), (1, .u8 x), (5, .pt n 0), (8, .pt (n + 1) 0)]) (fun _ => (H.upd n (some (portB p))).upd (n + 1) (some (portB p))) (fun _ => n + 2) (fun _ => True)
    (fun _ _ => ⟨Heap.wf_upd (Heap.wf_upd wf (PortS.cells_ok _ _)) (PortS.cells_ok _ _), Env.okAt_of2 (by simp [AV.ok, AV.ok_mono (show n ≤ n + 2 by omega) _ hvok])⟩) ?_ ?_
  · have fin : ∀ (H1 : Heap) (e : Env) (m : Nat), n + 2 ≤ m → Env.le [(0, slz z bb acts.length cap), (1, .u8 x), (5, .pt n 0), (8, .pt (n + 1) 0)] e → (∀ k, k < n + 2 → H1 k = ((H.upd n (some (portB p))).upd (n + 1) (some (portB p))) k) →
        Go.Ab.Ends (fun _ : Unit => [(0, slz z bb acts.length cap), (1, .u8 x), (5, .pt n 0), (8, .pt (n + 1) 0)]) (fun _ => (H.upd n (some (portB p))).upd (n + 1) (some (portB p))) (fun _ => n + 2) (fun _ => True) (n + 2) e H1 m := fun H1 e m hm he hh => Go.Ab.Ends.mk () trivial he hh (Nat.le_refl _) hm
    refine awp_seq (awp_tree td7_18 tr7_18 (by decide +kernel) (by decide +kernel) ?_)
    simp only [go_sem]
    refine dump_ok n p hpl _ _ _ (by simp only [go_sem]) ?_
    simp only [go_sem]
    refine load_ok (n + 1) newS newS_ok.lens _ (dumpL p) _ _ _ (by simp only [go_sem]) (.wholeU (el := 5) (ro := false) (by simp only [go_sem]) hdl.symm) (by rw [hdl]; decide) ?_
    rw [portFits_dump hg, portOf_dump hpl]
    simp only [go_sem, if_true]
    refine dump_ok (n + 1) p hpl _ _ _ (by simp only [go_sem]) ?_
    simp only [go_sem, hdl, List.length_map]
    refine ⟨?_, ?_⟩
    all_goals
      refine dump_ok n p hpl _ _ _ (by simp only [go_sem]) ?_
      simp only [go_sem, hdl, List.length_map, bne_self_eq_false]
    repeat' apply And.intro
    all_goals
      refine awp_ev dr0 (by decide +kernel) ?_
      simp only [go_sem]
      refine fin _ _ _ (by omega) (Env.le_cons rfl (Env.le_cons rfl (Env.le_cons rfl (Env.le_cons rfl (Env.le_nil _))))) (fun k hk => ?_)
      obtain hk | rfl | rfl : k < n ∨ k = n ∨ k = n + 1 := by omega
      all_goals simp only [go_sem, *]
  rintro - -
  have hg1 := hg.forget
  have hg2 := hg1.control x
  have hg3 := hg2.control (139#8 + x % 5#8)
  have hk := keeps_regs p x
  refine awp_step dr7 (by decide +kernel) ?_
  simp only [go_sem]
  refine forget_ok n p hpl _ _ _ (by simp only [go_sem]) ?_
  simp only [go_sem]
  refine awp_step dr7 (by decide +kernel) ?_
  simp only [go_sem]
  refine regs_ok n _ hg1.ok.lens _ _ _ (by simp only [go_sem]) ?_
  simp only [go_sem, hg1.ok.regs, List.length_map]
  rw [splice_all (by simp [hg1.ok.regs])]
  refine awp_step dr7 (by decide +kernel) ?_
  simp only [go_sem]
  refine control_ok n _ hg1.ok.lens x _ _ _ (by simp only [go_sem]) ?_
  simp only [go_sem]
  refine awp_step dr7 (by decide +kernel) ?_
  simp only [go_sem]
  refine control_ok n _ hg2.ok.lens _ _ _ _ (by simp only [go_sem]) ?_
  simp only [go_sem]
  refine awp_ev dr7 (by decide +kernel) ?_
  simp only [go_sem]
  refine ⟨by rw [List.length_map, hg1.ok.regs]; exact Nat.le_refl _, ?_⟩
  refine regs_ok n _ hg3.ok.lens _ _ _ (by simp only [go_sem]) ?_
  rw [hk]
  simp only [go_sem, List.length_map, show (forgetS p).regs = p.regs from rfl, take_map_all hpl.regs, hpl.regs]
  refine ⟨fits_u8s (k := 11) hpl.regs, fits_u8s (k := 11) hpl.regs, ?_⟩
  refine read_ok (n + 1) p hpl hg.ok.addr _ _ _ (by simp only [go_sem]) ?_
  simp only [go_sem]
  refine read_of_acts z bb cap acts el ro _ _ _ (fun hz => ?_) (by omega) ?_
  · have hbb := (wf bb _ (hb hz)).1
    simp only [go_sem, hbb, hb hz]
  rw [hp]
  simp only [go_sem, beq_self_eq_true]
  exact Fin.back wf h (fun i hi => by simp only [go_sem, hi]) rfl
end Go.Proofs.Joy
namespace Go.Proofs.Joy
open Go.Ab Go.Proofs

set_option maxHeartbeats 2000000
set_option maxRecDepth 20000

structure LR where
  i : Nat
  p : PortS
  q : RQ
  m : Nat
  H : Heap

/-- What holds from act to act: the port at n, the document's port q, and all below n as it was. -/
structure RI2 (H : Heap) (n : Nat) (p : PortS) (q : RQ) (m : Nat) (H1 : Heap) : Prop where
  wf : H1.wf m
  port : H1 n = some (portB p)
  ref : refH H1 q p
  ok : q.ok
  b : q.b ≠ n
  v : q.v ≠ n
  c : q.c ≠ n
  r : q.r ≠ n
  old : ∀ k, k < n → H1 k = H k
  good : p.good
  above : n ≤ q.b ∧ n ≤ q.v ∧ n ≤ q.c ∧ n ≤ q.r
theorem RI2.nm {H : Heap} {n : Nat} {p : PortS} {q : RQ} {m : Nat} {H1 : Heap} (h : RI2 H n p q m H1) : n < m := (h.wf _ _ h.port).1
theorem RI2.bm {H : Heap} {n : Nat} {p : PortS} {q : RQ} {m : Nat} {H1 : Heap} (h : RI2 H n p q m H1) : q.b < m := (h.wf _ _ h.ref.b).1
theorem RI2.vm {H : Heap} {n : Nat} {p : PortS} {q : RQ} {m : Nat} {H1 : Heap} (h : RI2 H n p q m H1) : q.v < m := (h.wf _ _ h.ref.v).1
theorem RI2.cm {H : Heap} {n : Nat} {p : PortS} {q : RQ} {m : Nat} {H1 : Heap} (h : RI2 H n p q m H1) : q.c < m := (h.wf _ _ h.ref.c).1
theorem RI2.rm {H : Heap} {n : Nat} {p : PortS} {q : RQ} {m : Nat} {H1 : Heap} (h : RI2 H n p q m H1) : q.r < m := (h.wf _ _ h.ref.r).1

structure RI3 (H : Heap) (n : Nat) (p : PortS) (q : RQ) (m : Nat) (H1 : Heap) (x : Nat) (A : Blk) : Prop where
  i : RI2 H n p q m H1
  lt : x < m
  nx : n < x
  a : H1 x = some A
  b : q.b ≠ x
  v : q.v ≠ x
  c : q.c ≠ x
  r : q.r ≠ x
theorem RI2.start {H : Heap} {n : Nat} {p : PortS} {q : RQ} {m : Nat} {H1 : Heap} (h : RI2 H n p q m H1) {A : Blk} (hA : ∀ v ∈ A.cells, v.ok (m + 1) = true) : RI3 H n p q (m + 1) (H1.upd m (some A)) m A :=
  have hb := h.bm; have hv := h.vm; have hc := h.cm; have hr := h.rm; have hn := h.nm
  ⟨⟨Heap.wf_upd h.wf hA, by rw [Heap.upd_ne _ _ (by omega)]; exact h.port, h.ref.out (by omega) (by omega) (by omega) (by omega) _, h.ok, h.b, h.v, h.c, h.r, fun k hk => by rw [Heap.upd_ne _ _ (by omega)]; exact h.old k hk, h.good, h.above⟩,
    by omega, hn, Heap.upd_same _ _ _, by omega, by omega, by omega, by omega⟩
theorem RI3.both {H : Heap} {n : Nat} {p : PortS} {q : RQ} {m : Nat} {H1 : Heap} {x : Nat} {A : Blk} (h : RI3 H n p q m H1 x A) {p' : PortS} (hg : p'.good) : RI3 H n p' q m (refPut (H1.upd n (some (portB p'))) q p') x A :=
  have hb := h.i.bm; have hv := h.i.vm; have hc := h.i.cm; have hr := h.i.rm; have hn := h.i.nm; have hx := h.nx; have hq := h.i.above
  ⟨⟨refPut_wf (Heap.wf_set h.i.wf hn (PortS.cells_ok _ _)) hb hv hc hr _, by rw [refPut_ne _ _ _ h.i.b.symm h.i.v.symm h.i.c.symm h.i.r.symm, Heap.upd_same], refPut_h _ h.i.ok _, h.i.ok, h.i.b, h.i.v, h.i.c, h.i.r,
      fun k hk => by rw [refPut_ne _ _ _ (by omega) (by omega) (by omega) (by omega), Heap.upd_ne _ _ (by omega)]; exact h.i.old k hk, hg, hq⟩,
    h.lt, h.nx, by rw [refPut_ne _ _ _ h.b.symm h.v.symm h.c.symm h.r.symm, Heap.upd_ne _ _ (by omega)]; exact h.a, h.b, h.v, h.c, h.r⟩

theorem RI3.fresh {H : Heap} {n : Nat} {p : PortS} {q : RQ} {m : Nat} {H1 : Heap} {A : Blk} (h : RI3 H n p q (m + 1) H1 m A) {p' : PortS} (hg : p'.good) (l : List (BitVec 8)) :
    RI3 H n p' ⟨m + 2 + 3, m + 2, m + 2 + 1, m + 2 + 2⟩ (m + 6) ((refPut (H1.upd (m + 1) (some (byB l))) ⟨m + 2 + 3, m + 2, m + 2 + 1, m + 2 + 2⟩ p').upd n (some (portB p'))) m A :=
  have hx := h.nx
  have hq : (⟨m + 2 + 3, m + 2, m + 2 + 1, m + 2 + 2⟩ : RQ).ok := ⟨by simp, by simp, by simp, by simp, by simp, by simp⟩
  ⟨⟨Heap.wf_set (refPut_wf (Heap.wf_mono (Heap.wf_upd h.i.wf map_u8_ok) (by omega)) (by simp) (by simp) (by simp) (by simp) _) (by omega) (PortS.cells_ok _ _), Heap.upd_same _ _ _, (refPut_h _ hq _).out (by simp only; omega) (by simp only; omega) (by simp only; omega) (by simp only; omega) _, hq, by simp only; omega, by simp only; omega, by simp only; omega, by simp only; omega,
      fun k hk => by rw [Heap.upd_ne _ _ (by omega), refPut_ne _ _ _ (by simp only; omega) (by simp only; omega) (by simp only; omega) (by simp only; omega), Heap.upd_ne _ _ (by omega)]; exact h.i.old k hk, hg, by simp only; omega⟩,
    by omega, hx, by rw [Heap.upd_ne _ _ (by omega), refPut_ne _ _ _ (by simp only; omega) (by simp only; omega) (by simp only; omega) (by simp only; omega), Heap.upd_ne _ _ (by omega)]; exact h.a, by simp only; omega, by simp only; omega, by simp only; omega, by simp only; omega⟩

theorem portOf_good {d : List (BitVec 8)} (hl : d.length = 16433) (h : portFits d = true) : (portOf d).good := by
  unfold portFits at h
  simp only [Bool.and_eq_true, Bool.not_eq_true', decide_eq_false_iff_not] at h
  obtain ⟨⟨⟨⟨_, h1⟩, h2⟩, h3⟩, h4⟩ := h
  have hd := (d.getD 16427 0#8).isLt
  refine ⟨⟨by simp only [portOf, List.length_take]; omega, by simp only [portOf, List.length_take, List.length_drop]; omega, by simp only [portOf, List.length_take, List.length_drop]; omega, ?_⟩, ?_, fun j hj => ?_⟩
  · have e : (portOf d).addr.toNat = (d.getD 16428 0#8).toNat * 256 + (d.getD 16427 0#8).toNat := by
      have x2 := (d.getD 16428 0#8).isLt
      show ((d.getD 16427 0#8).setWidth 16 ||| (d.getD 16428 0#8).setWidth 16 <<< 8).toNat = _
      rw [BitVec.or_comm, BitVec.toNat_or, BitVec.toNat_shiftLeft, BitVec.toNat_setWidth, BitVec.toNat_setWidth, Nat.mod_eq_of_lt (show (d.getD 16428 0#8).toNat < 2 ^ 16 by omega), Nat.mod_eq_of_lt (show (d.getD 16427 0#8).toNat < 2 ^ 16 by omega), Nat.shiftLeft_eq, Nat.mod_eq_of_lt (by omega)]
      rw [← Nat.shiftLeft_eq, ← Nat.shiftLeft_add_eq_or_of_lt (by omega), Nat.shiftLeft_eq]
    rw [BitVec.lt_def, show (63#8).toNat = 63 from rfl] at h2
    rw [e]; omega
  · rw [BitVec.lt_def, show (3#8).toNat = 3 from rfl] at h3
    show (d.getD 16429 0#8).toNat < 4; omega
  · rw [List.any_eq_false] at h1
    have hlt : j < ((d.drop 16384).take 32).length := by simp; omega
    have := h1 _ (List.getElem_mem hlt)
    show ((((d.drop 16384).take 32)).getD j 0#8).toNat < 64
    rw [List.getD_eq_getElem?_getD, List.getElem?_eq_getElem hlt, Option.getD_some]
    simp only [BitVec.lt_def, decide_eq_true_eq, show (63#8).toNat = 63 from rfl] at this
    omega

theorem runs_walk (z : Bool) (bb cap : Nat) (acts : List PAct) (el : TypeId) (ro : Bool) (H : Heap) (n : Nat) (K : AV → Heap → Nat → Prop) (hb : z = false ∨ 0 < acts.length → H bb = some ⟨acts.flatMap encA, el, ro⟩) (hm : acts.length ≤ maxLen)
    (h : K (.bo true) H n) : ACalls Try.prog 6 [slz z bb acts.length cap] H n K := by
  refine ACalls.of_awp Try.func6 rfl (by decide +kernel) (show 1 ≤ 147 by decide) (by simp [slz_ne]) fun wf => ?_
  have hvok : (slz z bb acts.length cap).ok n = true := slz_ok' (fun hl => (wf bb _ (hb (.inr hl))).1) z cap fun hz => (wf bb _ (hb (.inl hz))).1
  refine awp_step dr6 (by decide +kernel) ?_
  simp only [go_sem, Try.f6]
  refine awp_step dr6 (by decide +kernel) ?_
  simp only [go_sem]
  refine alive_ok _ _ _ ?_
  simp only [go_sem]
  refine awp_step dr6 (by decide +kernel) ?_
  simp only [go_sem]
  refine ⟨fun hl => Fin.back wf h (fun _ _ => rfl) rfl, fun hl => ?_⟩
  refine awp_step dr6 (by decide +kernel) ?_
  simp only [go_sem]
  refine new_ok _ _ _ ?_
  simp only [go_sem]
  refine rnew_ok _ _ _ ?_
  simp only [go_sem]
  refine awp_seq (awp_step dr0 (by decide +kernel) ?_)
  simp only [go_sem]
  refine awp_block ?_
  have hq0 : (⟨n + 1 + 3, n + 1, n + 1 + 1, n + 1 + 2⟩ : RQ).ok := ⟨by simp, by simp, by simp, by simp, by simp, by simp⟩
  have I0 : RI2 H n newS ⟨n + 1 + 3, n + 1, n + 1 + 1, n + 1 + 2⟩ (n + 5) (refPut (H.upd n (some (portB newS))) ⟨n + 1 + 3, n + 1, n + 1 + 1, n + 1 + 2⟩ newS) :=
    ⟨refPut_wf (Heap.wf_mono (Heap.wf_upd wf (PortS.cells_ok _ _)) (by omega)) (by simp) (by simp) (by simp) (by simp) _, by rw [refPut_ne _ _ _ (by simp only; omega) (by simp only; omega) (by simp only; omega) (by simp only; omega), Heap.upd_same], refPut_h _ hq0 _, hq0, by simp only; omega, by simp only; omega, by simp only; omega, by simp only; omega,
      fun k hk => by rw [refPut_ne _ _ _ (by simp only; omega) (by simp only; omega) (by simp only; omega) (by simp only; omega), Heap.upd_ne _ _ (by omega)], newS_good, by simp only; omega⟩
  refine awp_loopF (S := LR) (fun s => [(0, slz z bb acts.length cap), (3, .pt n 0), (4, .pt s.q.b 0), (19, slz z bb acts.length cap), (20, .i64 acts.length), (21, .i64 s.i)]) (fun s => s.H) (fun s => s.m)
    (fun s => s.i ≤ acts.length ∧ RI2 H n s.p s.q s.m s.H) (fun s => acts.length - s.i)
    (fun s hs => ⟨hs.2.wf, Env.okAt_of2 (by simp [AV.ok, AV.ok_mono (Nat.le_of_lt hs.2.nm) _ hvok, hs.2.nm, hs.2.bm])⟩) ?_ ⟨0, newS, ⟨n + 1 + 3, n + 1, n + 1 + 1, n + 1 + 2⟩, n + 5, _⟩
    ⟨Nat.zero_le _, I0⟩ (Env.le_cons rfl (Env.le_cons rfl (Env.le_cons rfl (Env.le_cons rfl (Env.le_cons rfl (Env.le_cons rfl (Env.le_nil _))))))) (fun _ _ => rfl) rfl
  rintro ⟨i, p, q, m, H1⟩ ⟨hi, hI⟩
  simp only at hi hI ⊢
  refine awp_step dr0 (by decide +kernel) ?_
  simp only [go_sem]
  refine awp_step dr0 (by decide +kernel) ?_
  simp only [go_sem]
  have hnm := hI.nm
  refine ⟨fun hlt => ?_, fun hlt => ?_⟩
  · have hlt' : i < acts.length := by omega
    have w2 : wrap64 ((i : Int) + 1) = ((i + 1 : Nat) : Int) := by rw [wrap_id _ (by omega) (by omega)]; omega
    have hbb := (wf bb _ (hb (.inr (by omega)))).1
    have hbl : H1 bb = _ := (hI.old _ hbb).trans (hb (.inr (by omega)))
    obtain ⟨s1, s2⟩ := acts_at hlt'
    generalize acts[i] = a at s1
    obtain ⟨k, at_, v⟩ := a
    refine awp_seq (awp_block ?_)
    refine awp_step dr0 (by decide +kernel) ?_
    simp only [go_sem, slz_pos (z := z) (b := bb) (c := cap) (show 0 < acts.length by omega), hbl, s1, s2, hlt, hlt', encA]
    have hA : ∀ v' ∈ (⟨[.i64 k, .i64 at_, .u8 v], 41, false⟩ : Blk).cells, v'.ok (m + 1) = true := by simp [AV.ok]
    have hJ := hI.start hA
    generalize hA' : (⟨[.i64 k, .i64 at_, .u8 v], 41, false⟩ : Blk) = A at hJ
    generalize hH2 : H1.upd m (some A) = H2 at hJ
    have hax := hJ.a
    have hpx := hJ.i.port
    have hrx := hJ.i.ref
    have hg := hI.good
    have hlx := hg.ok.lens
    refine awp_seqF (S := LR) (fun s => [(0, .sl bb 0 acts.length cap), (3, .pt n 0), (4, .pt s.q.b 0), (6, .pt m 0), (19, .sl bb 0 acts.length cap), (20, .i64 acts.length), (21, .i64 i)]) (fun s => s.H) (fun s => s.m)
      (fun s => RI3 H n s.p s.q s.m s.H m A) (fun s hs => ⟨hs.i.wf, Env.okAt_of2 (by
        have h1 := hs.lt; have h2 := hs.nx; have h3 := hs.i.bm
        simp [AV.ok]; omega)⟩) ?_ ?_
    · have fin : ∀ (s : LR) e H' n', RI3 H n s.p s.q s.m s.H m A → m + 1 ≤ s.m → s.m ≤ n' → (∀ k, k < s.m → H' k = s.H k) → Env.le [(0, .sl bb 0 acts.length cap), (3, .pt n 0), (4, .pt s.q.b 0), (6, .pt m 0), (19, .sl bb 0 acts.length cap), (20, .i64 acts.length), (21, .i64 i)] e →
          Go.Ab.Ends (fun s : LR => [(0, .sl bb 0 acts.length cap), (3, .pt n 0), (4, .pt s.q.b 0), (6, .pt m 0), (19, .sl bb 0 acts.length cap), (20, .i64 acts.length), (21, .i64 i)]) (fun s => s.H) (fun s => s.m) (fun s => RI3 H n s.p s.q s.m s.H m A) (m + 1) e H' n' :=
        fun s e H' n' h1 h2 h3 h4 h5 => Go.Ab.Ends.mk s h1 h5 h4 h2 h3
      refine awp_ev dr0 (by decide +kernel) ?_
      simp only [go_sem]
      have hax2 : H2 m = some ⟨[.i64 k, .i64 at_, .u8 v], 41, false⟩ := by rw [hax, hA']
      have hrm : ∀ (Hx : Heap) p', refPut Hx q p' m = Hx m := fun Hx p' => refPut_ne _ _ _ hJ.b.symm hJ.v.symm hJ.c.symm hJ.r.symm
      have hrn : ∀ (Hx : Heap) p', refPut Hx q p' n = Hx n := fun Hx p' => refPut_ne _ _ _ hI.b.symm hI.v.symm hI.c.symm hI.r.symm
      have hro : ∀ X, refH (H2.upd n X) q p := fun X => hrx.out hI.b.symm hI.v.symm hI.c.symm hI.r.symm X
      have env5 : ∀ {e : Env}, e.get 0 = .sl bb 0 acts.length cap → e.get 3 = .pt n 0 → ∀ q' : RQ, e.get 4 = .pt q'.b 0 → e.get 6 = .pt m 0 → e.get 19 = .sl bb 0 acts.length cap → e.get 20 = .i64 acts.length → e.get 21 = .i64 i →
          Env.le [(0, .sl bb 0 acts.length cap), (3, .pt n 0), (4, .pt q'.b 0), (6, .pt m 0), (19, .sl bb 0 acts.length cap), (20, .i64 acts.length), (21, .i64 i)] e := fun e0 e1 q' e2 e3 e4 e5 e6 =>
        Env.le_cons e0 (Env.le_cons e1 (Env.le_cons e2 (Env.le_cons e3 (Env.le_cons e4 (Env.le_cons e5 (Env.le_cons e6 (Env.le_nil _)))))))
      simp only [go_sem, hax2]
      refine ⟨fun a1 => ?_, fun a1 => ⟨fun a2 => ?_, fun a2 => ⟨fun a3 => ?_, fun a3 => ⟨fun a4 => ?_, fun a4 => ⟨fun a5 => ?_, fun a5 => ?_⟩⟩⟩⟩⟩
      · refine control_ok n p hlx v _ _ _ (by simp only [go_sem, hpx]) ?_
        simp only [go_sem, hax2, hnm]
        refine rcontrol_ok q hI.ok p hg.ok v _ _ _ (hro _) ?_
        simp only [go_sem]
        exact fin ⟨i, _, q, m + 1, _⟩ _ _ _ (hJ.both (hg.control v)) (Nat.le_refl _) (Nat.le_refl _) (fun _ _ => rfl) (env5 rfl rfl _ rfl rfl rfl rfl rfl)
      · refine write_ok n p hlx hg.ok.addr v _ _ _ (by simp only [go_sem, hpx]) ?_
        simp only [go_sem, hax2, hnm]
        refine rwrite_ok q hI.ok p hg.ok v _ _ _ (hro _) ?_
        simp only [go_sem]
        exact fin ⟨i, _, q, m + 1, _⟩ _ _ _ (hJ.both (hg.write v)) (Nat.le_refl _) (Nat.le_refl _) (fun _ _ => rfl) (env5 rfl rfl _ rfl rfl rfl rfl rfl)
      · refine read_ok n p hlx hg.ok.addr _ _ _ (by simp only [go_sem, hpx]) ?_
        simp only [go_sem, hax2, hnm]
        refine rread_ok q hI.ok p hg.ok _ _ _ (hro _) ?_
        simp only [go_sem, bne_self_eq_false]
        exact fin ⟨i, _, q, m + 1, _⟩ _ _ _ (hJ.both hg.read) (Nat.le_refl _) (Nat.le_refl _) (fun _ _ => rfl) (env5 rfl rfl _ rfl rfl rfl rfl rfl)
      · refine forget_ok n p hlx _ _ _ (by simp only [go_sem, hpx]) ?_
        simp only [go_sem, hax2, hnm, (hro _).b, refB, refC]
        have hr2 : refH ((H2.upd n (some (portB (forgetS p)))).upd q.b (some (refB q (forgetS p)))) q (forgetS p) := (hro _).upd hI.ok _ rfl rfl rfl
        refine fin ⟨i, forgetS p, q, m + 1, _⟩ _ _ _ (hJ.both hg.forget) (Nat.le_refl _) (Nat.le_refl _) (fun k hk => ?_) (env5 rfl rfl _ rfl rfl rfl rfl rfl)
        exact refPut_eq hr2 (fun k hk n1 n2 n3 n4 => by rw [Heap.upd_ne _ _ n1]) k hk
      · refine rdump_ok q p hg.ok _ _ _ hrx ?_
        simp only [go_sem, hax2]
        have hnm1 : n < m + 1 := by omega
        have hdl := dumpL_len hlx
        refine ⟨fun b1 => ⟨fun b2 => ⟨b1, b2, rfl, by simp only [byB, List.length_map, hdl]; omega, ?_⟩, fun b2 => ?_⟩, fun b1 => ?_⟩
        · have hdl' : ((dumpL p).set at_.toNat v).length = 16433 := by rw [List.length_set]; exact dumpL_len hlx
          refine rload_ok (.su (m + 1) 0 16433 1) ((dumpL p).set at_.toNat v) _ _ _ (.wholeU (el := 5) (ro := false) (by simp only [go_sem, byB, List.map_set]) hdl'.symm) (by rw [hdl']; decide) ?_
          cases hf : portFits ((dumpL p).set at_.toNat v)
          · rw [if_neg (by simp)]
            simp only [go_sem]
            refine load_ok n p hlx (.su (m + 1) 0 16433 1) ((dumpL p).set at_.toNat v) _ _ _ (by simp only [go_sem, hpx, hnm1]) (.wholeU (el := 5) (ro := false) (by rw [Heap.upd_ne _ _ (by omega)]; simp only [go_sem, byB, List.map_set]) hdl'.symm) (by rw [hdl']; decide) ?_
            rw [hf]
            simp only [go_sem, Bool.false_eq_true, if_false, bne_self_eq_false]
            exact fin ⟨i, p, q, m + 1, H2⟩ _ _ _ hJ (Nat.le_refl _) (by simp only; omega) (fun k hk => by simp only at hk; rw [Heap.upd_ne _ _ (by omega)]) (env5 rfl rfl _ rfl rfl rfl rfl rfl)
          · rw [if_pos rfl]
            simp only [go_sem]
            refine load_ok n p hlx (.su (m + 1) 0 16433 1) ((dumpL p).set at_.toNat v) _ _ _ (by rw [refPut_ne _ _ _ (by simp only; omega) (by simp only; omega) (by simp only; omega) (by simp only; omega), Heap.upd_ne _ _ (by omega), hpx]) (.wholeU (el := 5) (ro := false) (by rw [Heap.upd_ne _ _ (by omega), refPut_ne _ _ _ (by simp only; omega) (by simp only; omega) (by simp only; omega) (by simp only; omega)]; simp only [go_sem, byB, List.map_set]) hdl'.symm) (by rw [hdl']; decide) ?_
            rw [hf]
            simp only [go_sem, if_true, bne_self_eq_false]
            refine fin ⟨i, _, ⟨m + 2 + 3, m + 2, m + 2 + 1, m + 2 + 2⟩, m + 6, (refPut (H2.upd (m + 1) (some (byB ((dumpL p).set at_.toNat v)))) ⟨m + 2 + 3, m + 2, m + 2 + 1, m + 2 + 2⟩ (portOf ((dumpL p).set at_.toNat v))).upd n (some (portB (portOf ((dumpL p).set at_.toNat v))))⟩ _ _ _ (hJ.fresh (portOf_good hdl' hf) ((dumpL p).set at_.toNat v)) (by simp only; omega) (by simp only; omega) (fun _ _ => ?_) (env5 rfl rfl _ rfl rfl rfl rfl rfl)
            simp only [byB, List.map_set]
        · have hdl' : (dumpL p).length = 16433 := by exact dumpL_len hlx
          refine rload_ok (.su (m + 1) 0 16433 1) (dumpL p) _ _ _ (.wholeU (el := 5) (ro := false) (by simp only [go_sem, byB, List.map_set]) hdl'.symm) (by rw [hdl']; decide) ?_
          cases hf : portFits (dumpL p)
          · rw [if_neg (by simp)]
            simp only [go_sem]
            refine load_ok n p hlx (.su (m + 1) 0 16433 1) (dumpL p) _ _ _ (by simp only [go_sem, hpx, hnm1]) (.wholeU (el := 5) (ro := false) (by rw [Heap.upd_ne _ _ (by omega)]; simp only [go_sem, byB, List.map_set]) hdl'.symm) (by rw [hdl']; decide) ?_
            rw [hf]
            simp only [go_sem, Bool.false_eq_true, if_false, bne_self_eq_false]
            exact fin ⟨i, p, q, m + 1, H2⟩ _ _ _ hJ (Nat.le_refl _) (by simp only; omega) (fun k hk => by simp only at hk; rw [Heap.upd_ne _ _ (by omega)]) (env5 rfl rfl _ rfl rfl rfl rfl rfl)
          · rw [if_pos rfl]
            simp only [go_sem]
            refine load_ok n p hlx (.su (m + 1) 0 16433 1) (dumpL p) _ _ _ (by rw [refPut_ne _ _ _ (by simp only; omega) (by simp only; omega) (by simp only; omega) (by simp only; omega), Heap.upd_ne _ _ (by omega), hpx]) (.wholeU (el := 5) (ro := false) (by rw [Heap.upd_ne _ _ (by omega), refPut_ne _ _ _ (by simp only; omega) (by simp only; omega) (by simp only; omega) (by simp only; omega)]; simp only [go_sem, byB, List.map_set]) hdl'.symm) (by rw [hdl']; decide) ?_
            rw [hf]
            simp only [go_sem, if_true, bne_self_eq_false]
            refine fin ⟨i, _, ⟨m + 2 + 3, m + 2, m + 2 + 1, m + 2 + 2⟩, m + 6, (refPut (H2.upd (m + 1) (some (byB (dumpL p)))) ⟨m + 2 + 3, m + 2, m + 2 + 1, m + 2 + 2⟩ (portOf (dumpL p))).upd n (some (portB (portOf (dumpL p))))⟩ _ _ _ (hJ.fresh (portOf_good hdl' hf) (dumpL p)) (by simp only; omega) (by simp only; omega) (fun _ _ => ?_) (env5 rfl rfl _ rfl rfl rfl rfl rfl)
            rfl
        · have hdl' : (dumpL p).length = 16433 := by exact dumpL_len hlx
          refine rload_ok (.su (m + 1) 0 16433 1) (dumpL p) _ _ _ (.wholeU (el := 5) (ro := false) (by simp only [go_sem, byB, List.map_set]) hdl'.symm) (by rw [hdl']; decide) ?_
          cases hf : portFits (dumpL p)
          · rw [if_neg (by simp)]
            simp only [go_sem]
            refine load_ok n p hlx (.su (m + 1) 0 16433 1) (dumpL p) _ _ _ (by simp only [go_sem, hpx, hnm1]) (.wholeU (el := 5) (ro := false) (by rw [Heap.upd_ne _ _ (by omega)]; simp only [go_sem, byB, List.map_set]) hdl'.symm) (by rw [hdl']; decide) ?_
            rw [hf]
            simp only [go_sem, Bool.false_eq_true, if_false, bne_self_eq_false]
            exact fin ⟨i, p, q, m + 1, H2⟩ _ _ _ hJ (Nat.le_refl _) (by simp only; omega) (fun k hk => by simp only at hk; rw [Heap.upd_ne _ _ (by omega)]) (env5 rfl rfl _ rfl rfl rfl rfl rfl)
          · rw [if_pos rfl]
            simp only [go_sem]
            refine load_ok n p hlx (.su (m + 1) 0 16433 1) (dumpL p) _ _ _ (by rw [refPut_ne _ _ _ (by simp only; omega) (by simp only; omega) (by simp only; omega) (by simp only; omega), Heap.upd_ne _ _ (by omega), hpx]) (.wholeU (el := 5) (ro := false) (by rw [Heap.upd_ne _ _ (by omega), refPut_ne _ _ _ (by simp only; omega) (by simp only; omega) (by simp only; omega) (by simp only; omega)]; simp only [go_sem, byB, List.map_set]) hdl'.symm) (by rw [hdl']; decide) ?_
            rw [hf]
            simp only [go_sem, if_true, bne_self_eq_false]
            refine fin ⟨i, _, ⟨m + 2 + 3, m + 2, m + 2 + 1, m + 2 + 2⟩, m + 6, (refPut (H2.upd (m + 1) (some (byB (dumpL p)))) ⟨m + 2 + 3, m + 2, m + 2 + 1, m + 2 + 2⟩ (portOf (dumpL p))).upd n (some (portB (portOf (dumpL p))))⟩ _ _ _ (hJ.fresh (portOf_good hdl' hf) (dumpL p)) (by simp only; omega) (by simp only; omega) (fun _ _ => ?_) (env5 rfl rfl _ rfl rfl rfl rfl rfl)
            rfl
      · exact fin ⟨i, p, q, m + 1, _⟩ _ _ _ hJ (Nat.le_refl _) (Nat.le_refl _) (fun _ _ => rfl) (env5 rfl rfl _ rfl rfl rfl rfl rfl)
    rintro ⟨i', p', q', m', H3⟩ hS
    clear hH2 hpx hrx hg hlx hax hJ hI
    simp only at hS ⊢
    have hg := hS.i.good
    have hpl := hg.ok.lens
    have hax2 : H3 m = some ⟨[.i64 k, .i64 at_, .u8 v], 41, false⟩ := by rw [hS.a, hA']
    have hpx := hS.i.port
    have hrx := hS.i.ref
    have hlt2 := hS.lt
    have hnm2 := hS.i.nm
    have hqb := hS.i.bm
    have hqr := hS.i.rm
    refine awp_step dr0 (by decide +kernel) ?_
    simp only [go_sem]
    refine regs_ok n p' hpl _ _ _ hpx ?_
    simp only [go_sem, hpl.regs, List.length_map]
    rw [splice_all (by simp [hpl.regs])]
    refine awp_step dr0 (by decide +kernel) ?_
    simp only [go_sem, hax2, hlt2]
    obtain ⟨kk, hkk, hk1⟩ : ∃ kk : Nat, max 0 (min at_ 10) = (kk : Int) ∧ kk < 11 := ⟨(max 0 (min at_ 10)).toNat, by omega, by omega⟩
    have hk2 : (kk : Int) < 11 := by omega
    have hk3 : (0 : Int) ≤ kk := by omega
    have hgr : (p'.regs.map AV.u8).getD kk .junk = .u8 (p'.regs.getD kk 0#8) := getD_map_u8' (by rw [hpl.regs]; exact hk1)
    rw [hkk]
    refine awp_seq (awp_tree td6_33 tr6_33 (by decide +kernel) (by decide +kernel) ?_)
    simp only [go_sem, hrx.b, hrx.r, hqb, hqr, refB, refC, byB, hpl.regs, List.length_map, bne_self_eq_false, hk1, hk2, hk3, hgr]
    refine ⟨?_, ?_⟩
    all_goals
      refine reg_ok n p' hpl _ _ _ _ (by simp only [go_sem, hpx, hnm2]) ?_
      rw [if_pos ⟨hk3, hk2⟩, Int.toNat_natCast]
      simp only [go_sem, List.length_map, hpl.regs, hk1, hgr, bne_self_eq_false]
    all_goals
      refine awp_ev dr0 (by decide +kernel) ?_
      simp only [go_sem, w2]
    all_goals
      refine awp_ev dr0 (by decide +kernel) ?_
      simp only [go_sem, w2]
      exact Ends.mk ⟨i + 1, p', q', m', H3⟩ ⟨by simp only; omega, by simp only; omega, hS.i⟩ (Env.le_cons rfl (Env.le_cons rfl (Env.le_cons rfl (Env.le_cons rfl (Env.le_cons rfl (Env.le_cons rfl (Env.le_nil _))))))) (fun k hk => by simp only at hk; rw [Heap.upd_ne _ _ (by omega)]) (by simp only; omega) (by simp only; omega)
  have hg := hI.good
  have hpl := hg.ok.lens
  have hpx := hI.port
  have hrx := hI.ref
  have hqb := hI.bm
  have hqv := hI.vm
  have hqc := hI.cm
  have hdl := dumpL_len hpl
  refine awp_seq (awp_tree td6_36 tr6_36 (by decide +kernel) (by decide +kernel) ?_)
  simp only [go_sem]
  have hqr := hI.rm
  repeat' first
    | with_reducible refine And.intro ?_ ?_
    | (refine dump_ok n p hpl _ _ _ (by first | exact hpx | simp only [go_sem, hpx, hnm]) ?_
       simp only [go_sem, hdl, List.length_map, beq_self_eq_true, hrx.b, hrx.v, hrx.c, hqb, hqv, hqc, refB, refC, byB, hpl.vram, hpl.cram])
    | (refine rdump_ok q p hg.ok _ _ _ (hrx.mono hqb hqv hqc hqr (fun i hi => by first | rfl | simp only [go_sem, hi])) ?_
       simp only [go_sem, hdl, List.length_map, beq_self_eq_true, hrx.b, hrx.v, hrx.c, hqb, hqv, hqc, refB, refC, byB, hpl.vram, hpl.cram])
    | (refine vram_ok n p hpl _ _ _ (by first | exact hpx | simp only [go_sem, hpx, hnm]) ?_
       simp only [go_sem, hdl, List.length_map, beq_self_eq_true, hrx.b, hrx.v, hrx.c, hqb, hqv, hqc, refB, refC, byB, hpl.vram, hpl.cram])
    | (refine cram_ok n p hpl _ _ _ (by first | exact hpx | simp only [go_sem, hpx, hnm]) ?_
       simp only [go_sem, hdl, List.length_map, beq_self_eq_true, hrx.b, hrx.v, hrx.c, hqb, hqv, hqc, refB, refC, byB, hpl.vram, hpl.cram])
    | (refine awp_ev dr0 (by decide +kernel) ?_
       simp only [go_sem]
       exact Fin.back wf h (fun i hi => by simp only [go_sem, hi, Nat.lt_of_lt_of_le hi (Nat.le_of_lt hnm), hI.old i hi]) rfl)
end Go.Proofs.Joy
namespace Go.Proofs.Joy
open Go.Ab Go.Proofs

def shActs : AK := .one (.s 41 [.int .i64, .int .i64, .int .u8])
theorem acts_conv (l : List AV) (h : FitsR [.int .i64, .int .i64, .int .u8] l) : ∃ x : PAct, l = encA x := by
  match l, h.1 with
  | [.i64 a, .i64 b, .u8 c], _ => exact ⟨⟨a, b, c⟩, rfl⟩
theorem runs_all (H : Heap) (n : Nat) (L : List AV) (_ : RO H) (_ : H.wf n) (_ : ∀ x ∈ L, x.ok n = true) (hf : fitAs H [shActs] L) : ACalls Try.prog 6 L H n fun v _ _ => v = .bo true := by
  match L, hf with
  | [a], ⟨h1, _⟩ =>
    obtain ⟨z, bb, cap, acts, el, rfl, hb, hm⟩ := fitL_slice (el := 41) encA acts_conv h1
    exact runs_walk _ _ _ _ _ _ _ _ _ hb hm rfl
end Go.Proofs.Joy
