/- Parts of the proof: contracts of the seat's functions. -/
import Derived.Test.YtkeboecppefiiaaGreatJoyW2
import Derived.Test.YtkeboecppefiiaaGreatProg
import Derived.KernelRfl
import Derived.Test.YtkeboecppefiiaaGreatJoyW3
set_option linter.unusedSimpArgs false
set_option linter.unusedVariables false
namespace Go.Proofs.Joy
open Go.Ab Go.Proofs
@[go_sem] theorem F.ty117 : tyA Tryz.prog 117 = some (true, 8) := by kernel_rfl
@[go_sem] theorem F.ty109 : tyA Tryz.prog 109 = some (true, 258) := by kernel_rfl
@[go_sem] theorem F.ty107 : tyA Tryz.prog 107 = some (true, 512) := by kernel_rfl
@[go_sem] theorem F.ty84 : tyA Tryz.prog 84 = some (true, 11) := by kernel_rfl
@[go_sem] theorem F.ty87 : tyA Tryz.prog 87 = some (true, 5) := by kernel_rfl
@[go_sem] theorem F.ty85 : tyA Tryz.prog 85 = some (false, 1) := by kernel_rfl
@[go_sem] theorem F.ty92 : tyA Tryz.prog 92 = some (true, 258) := by kernel_rfl
@[go_sem] theorem F.ty32 : tyA Tryz.prog 32 = some (true, 5) := by kernel_rfl
@[go_sem] theorem F.ty4 : tyA Tryz.prog 4 = some (false, 1) := by kernel_rfl
@[go_sem] theorem F.ty57 : tyA Tryz.prog 57 = some (false, 1) := by kernel_rfl
@[go_sem] theorem F.ty33 : tyA Tryz.prog 33 = some (false, 1) := by kernel_rfl
@[go_sem] theorem F.ty5 : tyA Tryz.prog 5 = some (false, 1) := by kernel_rfl
@[go_sem] theorem F.ty30 : tyA Tryz.prog 30 = some (false, 1) := by kernel_rfl
@[go_sem] theorem F.ty3 : tyA Tryz.prog 3 = some (false, 1) := by kernel_rfl
@[go_sem] theorem F.ty29 : tyA Tryz.prog 29 = some (true, 3) := by kernel_rfl
@[go_sem] theorem F.fld107_1 : fldT Tryz.prog 107 1 = some (256, true, 256) := by kernel_rfl
@[go_sem] theorem F.fld109_0 : fldT Tryz.prog 109 0 = some (0, true, 256) := by kernel_rfl
@[go_sem] theorem F.fld107_0 : fldT Tryz.prog 107 0 = some (0, true, 256) := by kernel_rfl
@[go_sem] theorem F.fld109_2 : fldT Tryz.prog 109 2 = some (257, false, 1) := by kernel_rfl
@[go_sem] theorem F.fld109_1 : fldT Tryz.prog 109 1 = some (256, false, 1) := by kernel_rfl
@[go_sem] theorem F.fld89_2 : fldT Tryz.prog 89 2 = some (16416, true, 11) := by kernel_rfl
@[go_sem] theorem F.fld87_2 : fldT Tryz.prog 87 2 = some (2, false, 1) := by kernel_rfl
@[go_sem] theorem F.fld87_4 : fldT Tryz.prog 87 4 = some (4, false, 1) := by kernel_rfl
@[go_sem] theorem F.fld87_3 : fldT Tryz.prog 87 3 = some (3, false, 1) := by kernel_rfl
@[go_sem] theorem F.fld89_0 : fldT Tryz.prog 89 0 = some (0, true, 16384) := by kernel_rfl
@[go_sem] theorem F.fld89_1 : fldT Tryz.prog 89 1 = some (16384, true, 32) := by kernel_rfl
@[go_sem] theorem F.fld87_0 : fldT Tryz.prog 87 0 = some (0, false, 1) := by kernel_rfl
@[go_sem] theorem F.fld87_1 : fldT Tryz.prog 87 1 = some (1, false, 1) := by kernel_rfl
@[go_sem] theorem F.fld89_3 : fldT Tryz.prog 89 3 = some (16427, true, 5) := by kernel_rfl
@[go_sem] theorem F.fld92_2 : fldT Tryz.prog 92 2 = some (257, false, 1) := by kernel_rfl
@[go_sem] theorem F.fld92_1 : fldT Tryz.prog 92 1 = some (256, false, 1) := by kernel_rfl
@[go_sem] theorem F.fld92_0 : fldT Tryz.prog 92 0 = some (0, true, 256) := by kernel_rfl
@[go_sem] theorem F.fld61_3 : fldT Tryz.prog 61 3 = some (7, true, 49152) := by kernel_rfl
@[go_sem] theorem F.fld32_4 : fldT Tryz.prog 32 4 = some (4, false, 1) := by kernel_rfl
@[go_sem] theorem F.fld32_3 : fldT Tryz.prog 32 3 = some (3, false, 1) := by kernel_rfl
@[go_sem] theorem F.fld32_2 : fldT Tryz.prog 32 2 = some (2, false, 1) := by kernel_rfl
@[go_sem] theorem F.fld32_1 : fldT Tryz.prog 32 1 = some (1, false, 1) := by kernel_rfl
@[go_sem] theorem F.fld32_0 : fldT Tryz.prog 32 0 = some (0, false, 1) := by kernel_rfl
@[go_sem] theorem F.fld35_1 : fldT Tryz.prog 35 1 = some (1, true, 5) := by kernel_rfl
@[go_sem] theorem F.fld61_1 : fldT Tryz.prog 61 1 = some (1, true, 5) := by kernel_rfl
@[go_sem] theorem F.fld65_2 : fldT Tryz.prog 65 2 = some (2, false, 1) := by kernel_rfl
@[go_sem] theorem F.fld65_5 : fldT Tryz.prog 65 5 = some (5, false, 1) := by kernel_rfl
@[go_sem] theorem F.fld65_6 : fldT Tryz.prog 65 6 = some (6, false, 1) := by kernel_rfl
@[go_sem] theorem F.fld65_0 : fldT Tryz.prog 65 0 = some (0, false, 1) := by kernel_rfl
@[go_sem] theorem F.fld65_3 : fldT Tryz.prog 65 3 = some (3, false, 1) := by kernel_rfl
@[go_sem] theorem F.fld65_1 : fldT Tryz.prog 65 1 = some (1, false, 1) := by kernel_rfl
@[go_sem] theorem F.fld65_4 : fldT Tryz.prog 65 4 = some (4, false, 1) := by kernel_rfl
@[go_sem] theorem F.fld65_7 : fldT Tryz.prog 65 7 = some (7, false, 1) := by kernel_rfl
@[go_sem] theorem F.fld61_0 : fldT Tryz.prog 61 0 = some (0, false, 1) := by kernel_rfl
@[go_sem] theorem F.fld61_2 : fldT Tryz.prog 61 2 = some (6, false, 1) := by kernel_rfl
@[go_sem] theorem F.fld35_3 : fldT Tryz.prog 35 3 = some (7, false, 1) := by kernel_rfl
@[go_sem] theorem F.fld35_0 : fldT Tryz.prog 35 0 = some (0, false, 1) := by kernel_rfl
@[go_sem] theorem F.fld29_2 : fldT Tryz.prog 29 2 = some (2, false, 1) := by kernel_rfl
@[go_sem] theorem F.fld35_2 : fldT Tryz.prog 35 2 = some (6, false, 1) := by kernel_rfl
@[go_sem] theorem F.fld29_1 : fldT Tryz.prog 29 1 = some (1, false, 1) := by kernel_rfl
@[go_sem] theorem F.fld29_0 : fldT Tryz.prog 29 0 = some (0, false, 1) := by kernel_rfl
@[go_sem] theorem F.ix129 : ixT Tryz.prog 129 = some (some 2, false, 1) := by kernel_rfl
@[go_sem] theorem F.ix115 : ixT Tryz.prog 115 = some (none, false, 1) := by kernel_rfl
@[go_sem] theorem F.ix117 : ixT Tryz.prog 117 = some (some 8, false, 1) := by kernel_rfl
@[go_sem] theorem F.ix105 : ixT Tryz.prog 105 = some (some 256, false, 1) := by kernel_rfl
@[go_sem] theorem F.ix101 : ixT Tryz.prog 101 = some (none, false, 1) := by kernel_rfl
@[go_sem] theorem F.ix84 : ixT Tryz.prog 84 = some (some 11, false, 1) := by kernel_rfl
@[go_sem] theorem F.ix82 : ixT Tryz.prog 82 = some (some 16384, false, 1) := by kernel_rfl
@[go_sem] theorem F.ix83 : ixT Tryz.prog 83 = some (some 32, false, 1) := by kernel_rfl
@[go_sem] theorem F.ix90 : ixT Tryz.prog 90 = some (some 256, false, 1) := by kernel_rfl
@[go_sem] theorem F.ix59 : ixT Tryz.prog 59 = some (some 49152, false, 1) := by kernel_rfl
@[go_sem] theorem F.ix33 : ixT Tryz.prog 33 = some (none, false, 1) := by kernel_rfl
@[go_sem] theorem F.ix22 : ixT Tryz.prog 22 = some (none, true, 3) := by kernel_rfl
@[go_sem] theorem F.zero5 : zeroT Tryz.prog 5 = some ([.u8 0#8]) := by kernel_rfl
@[go_sem] theorem F.zero33 : zeroT Tryz.prog 33 = some ([.sn]) := by kernel_rfl
@[go_sem] theorem F.zero3 : zeroT Tryz.prog 3 = some ([.i64 0]) := by kernel_rfl
@[go_sem] theorem F.zero129 : zeroT Tryz.prog 129 = some ([.i64 0, .i64 0]) := by kernel_rfl
@[go_sem] theorem F.zero117 : zeroT Tryz.prog 117 = some ([.u8 0#8, .u8 0#8, .u8 0#8, .u8 0#8, .u8 0#8, .u8 0#8, .u8 0#8, .u8 0#8]) := by kernel_rfl
@[go_sem] theorem F.zero84 : zeroT Tryz.prog 84 = some ([.u8 0#8, .u8 0#8, .u8 0#8, .u8 0#8, .u8 0#8, .u8 0#8, .u8 0#8, .u8 0#8, .u8 0#8, .u8 0#8, .u8 0#8]) := by kernel_rfl
set_option maxRecDepth 1000000 in
@[go_sem] theorem F.zero109 : zeroT Tryz.prog 109 = some (List.replicate 256 (.u8 0#8) ++ [.bo false, .bo false]) := by kernel_rfl
set_option maxRecDepth 1000000 in
@[go_sem] theorem F.zero107 : zeroT Tryz.prog 107 = some (List.replicate 256 (.u8 0#8) ++ List.replicate 256 (.bo false)) := by kernel_rfl
@[go_sem] theorem F.zero87 : zeroT Tryz.prog 87 = some ([.u16 0#16, .u8 0#8, .u8 0#8, .u8 0#8, .bo false]) := by kernel_rfl
@[go_sem] theorem F.zero65 : zeroT Tryz.prog 65 = some ([.sn, .sn, .sn, .i64 0, .i64 0, .i64 0, .i64 0, .bo false]) := by kernel_rfl
set_option maxRecDepth 1000000 in
@[go_sem] theorem F.zero92 : zeroT Tryz.prog 92 = some (List.replicate 256 (.u8 0#8) ++ [.bo false, .bo false]) := by kernel_rfl
set_option maxRecDepth 1000000 in
@[go_sem] theorem F.zero89 : zeroT Tryz.prog 89 = some (List.replicate 16427 (.u8 0#8) ++ [.u16 0#16, .u8 0#8, .u8 0#8, .u8 0#8, .bo false]) := by kernel_rfl
@[go_sem] theorem F.zero32 : zeroT Tryz.prog 32 = some ([.u8 0#8, .bo false, .bo false, .bo false, .bo false]) := by kernel_rfl
@[go_sem] theorem F.zero35 : zeroT Tryz.prog 35 = some ([.pn, .u8 0#8, .bo false, .bo false, .bo false, .bo false, .i64 0, .sn]) := by kernel_rfl
set_option maxRecDepth 1000000 in
@[go_sem] theorem F.zero61 : zeroT Tryz.prog 61 = some ([.pn, .u8 0#8, .bo false, .bo false, .bo false, .bo false, .i64 0] ++ List.replicate 49152 (.u8 0#8)) := by kernel_rfl
@[go_sem] theorem F.zero29 : zeroT Tryz.prog 29 = some ([.i64 0, .i64 0, .i64 0]) := by kernel_rfl
@[go_sem] theorem F.el115 : elT Tryz.prog 115 = some (3, 1, 8) := by kernel_rfl
@[go_sem] theorem F.el101 : elT Tryz.prog 101 = some (33, 1, 24) := by kernel_rfl
@[go_sem] theorem F.el33 : elT Tryz.prog 33 = some (5, 1, 1) := by kernel_rfl
@[go_sem] theorem F.kind33 : kindT Tryz.prog 33 = some .slice := by kernel_rfl
@[go_sem] theorem F.kind24 : kindT Tryz.prog 24 = some .ptr := by kernel_rfl
@[go_sem] theorem F.kind9 : kindT Tryz.prog 9 = none := by kernel_rfl
@[go_sem] theorem F.kind4 : kindT Tryz.prog 4 = some .bool := by kernel_rfl
@[go_sem] theorem F.kind46 : kindT Tryz.prog 46 = none := by kernel_rfl
@[go_sem] theorem F.kind5 : kindT Tryz.prog 5 = none := by kernel_rfl
@[go_sem] theorem F.kind3 : kindT Tryz.prog 3 = none := by kernel_rfl
@[go_sem] theorem F.conv85_5 : convT Tryz.prog 85 5 = some (.int .u8) := by kernel_rfl
@[go_sem] theorem F.conv5_85 : convT Tryz.prog 5 85 = some (.int .u16) := by kernel_rfl
@[go_sem] theorem F.conv74_3 : convT Tryz.prog 74 3 = some (.int .i64) := by kernel_rfl
@[go_sem] theorem F.conv5_74 : convT Tryz.prog 5 74 = some (.int .u32) := by kernel_rfl
@[go_sem] theorem F.conv5_3 : convT Tryz.prog 5 3 = some (.int .i64) := by kernel_rfl
@[go_sem] theorem F.conv33_9 : convT Tryz.prog 33 9 = some .b2s := by kernel_rfl
@[go_sem] theorem F.conv3_5 : convT Tryz.prog 3 5 = some (.int .u8) := by kernel_rfl
@[go_sem] theorem F.nif9 : notIface Tryz.prog 9 = true := by kernel_rfl
@[go_sem] theorem F.len115 : lenT Tryz.prog 115 = some .slice := by kernel_rfl
@[go_sem] theorem F.len101 : lenT Tryz.prog 101 = some .slice := by kernel_rfl
@[go_sem] theorem F.len33 : lenT Tryz.prog 33 = some .slice := by kernel_rfl
@[go_sem] theorem F.len22 : lenT Tryz.prog 22 = some .slice := by kernel_rfl
@[go_sem] theorem F.nint115 : notIntT Tryz.prog 115 = true := by kernel_rfl
@[go_sem] theorem F.nint3 : notIntT Tryz.prog 3 = false := by kernel_rfl
@[go_sem] theorem F.int3 : intT Tryz.prog 3 = true := by kernel_rfl
@[go_sem] theorem F.nint33 : notIntT Tryz.prog 33 = true := by kernel_rfl
@[go_sem] theorem F.app115 : appT Tryz.prog 115 = some ⟨3, 1, 8, [.i64 0]⟩ := by kernel_rfl
@[go_sem] theorem F.app33 : appT Tryz.prog 33 = some ⟨5, 1, 1, [.u8 0#8]⟩ := by kernel_rfl
@[go_sem] theorem F.bld129 : bldT Tryz.prog 129 = true := by kernel_rfl
@[go_sem] theorem F.bld84 : bldT Tryz.prog 84 = true := by kernel_rfl
@[go_sem] theorem F.bld87 : bldT Tryz.prog 87 = true := by kernel_rfl
@[go_sem] theorem F.bld65 : bldT Tryz.prog 65 = true := by kernel_rfl
@[go_sem] theorem F.bld89 : bldT Tryz.prog 89 = true := by kernel_rfl
@[go_sem] theorem F.bld32 : bldT Tryz.prog 32 = true := by kernel_rfl
@[go_sem] theorem F.bld35 : bldT Tryz.prog 35 = true := by kernel_rfl
@[go_sem] theorem F.bld61 : bldT Tryz.prog 61 = true := by kernel_rfl
@[go_sem] theorem F.pl129_1 : plT Tryz.prog 129 1 = some (1, 1) := by kernel_rfl
@[go_sem] theorem F.pl129_0 : plT Tryz.prog 129 0 = some (0, 1) := by kernel_rfl
@[go_sem] theorem F.pl87_3 : plT Tryz.prog 87 3 = some (3, 1) := by kernel_rfl
@[go_sem] theorem F.pl87_4 : plT Tryz.prog 87 4 = some (4, 1) := by kernel_rfl
@[go_sem] theorem F.pl87_2 : plT Tryz.prog 87 2 = some (2, 1) := by kernel_rfl
@[go_sem] theorem F.pl87_1 : plT Tryz.prog 87 1 = some (1, 1) := by kernel_rfl
@[go_sem] theorem F.pl87_0 : plT Tryz.prog 87 0 = some (0, 1) := by kernel_rfl
@[go_sem] theorem F.pl65_2 : plT Tryz.prog 65 2 = some (2, 1) := by kernel_rfl
@[go_sem] theorem F.pl65_1 : plT Tryz.prog 65 1 = some (1, 1) := by kernel_rfl
@[go_sem] theorem F.pl65_0 : plT Tryz.prog 65 0 = some (0, 1) := by kernel_rfl
@[go_sem] theorem F.pl32_4 : plT Tryz.prog 32 4 = some (4, 1) := by kernel_rfl
@[go_sem] theorem F.pl32_3 : plT Tryz.prog 32 3 = some (3, 1) := by kernel_rfl
@[go_sem] theorem F.pl32_2 : plT Tryz.prog 32 2 = some (2, 1) := by kernel_rfl
@[go_sem] theorem F.pl32_1 : plT Tryz.prog 32 1 = some (1, 1) := by kernel_rfl
@[go_sem] theorem F.pl32_0 : plT Tryz.prog 32 0 = some (0, 1) := by kernel_rfl
@[go_sem] theorem F.pl35_3 : plT Tryz.prog 35 3 = some (7, 1) := by kernel_rfl
@[go_sem] theorem F.pl35_0 : plT Tryz.prog 35 0 = some (0, 1) := by kernel_rfl
@[go_sem] theorem F.pl61_0 : plT Tryz.prog 61 0 = some (0, 1) := by kernel_rfl
-- joystick/joysticklaw20.VdpRuns
@[go_sem] def tr3_48 : DT := .op 0 (.op 3 (.fork 1 [] (.fork 2 [] (.fork 4 [] (.fork 5 [] (.op 6 (.op 7 (.op 8 (.op 11 (.op 12 (.op 13 (.op 14 (.fork 9 [14] (.fork 10 [14] (.fork 15 [] (.op 16 (.op 17 (.op 18 (.done)))) (.stop)) (.fork 15 [] (.fork 10 [14] (.op 16 (.op 17 (.op 18 (.done)))) (.stop)) (.stop))) (.fork 15 [] (.fork 9 [14] (.fork 10 [14] (.op 16 (.op 17 (.op 18 (.done)))) (.stop)) (.stop)) (.stop)))))))))) (.stop)) (.stop)) (.fork 4 [] (.fork 2 [] (.fork 5 [] (.op 6 (.op 7 (.op 8 (.op 11 (.op 12 (.op 13 (.op 14 (.fork 9 [14] (.fork 10 [14] (.fork 15 [] (.op 16 (.op 17 (.op 18 (.done)))) (.stop)) (.fork 15 [] (.fork 10 [14] (.op 16 (.op 17 (.op 18 (.done)))) (.stop)) (.stop))) (.fork 15 [] (.fork 9 [14] (.fork 10 [14] (.op 16 (.op 17 (.op 18 (.done)))) (.stop)) (.stop)) (.stop)))))))))) (.stop)) (.fork 5 [] (.fork 2 [] (.op 6 (.op 7 (.op 8 (.op 11 (.op 12 (.op 13 (.op 14 (.fork 9 [14] (.fork 10 [14] (.fork 15 [] (.op 16 (.op 17 (.op 18 (.done)))) (.stop)) (.fork 15 [] (.fork 10 [14] (.op 16 (.op 17 (.op 18 (.done)))) (.stop)) (.stop))) (.fork 15 [] (.fork 9 [14] (.fork 10 [14] (.op 16 (.op 17 (.op 18 (.done)))) (.stop)) (.stop)) (.stop)))))))))) (.stop)) (.stop))) (.stop))) (.stop)))
def td3_48 : Draw := ⟨[0, 1, 3, 0, 11, 27, 63, 127, 255, 511, 1023, 255, 2303, 6399, 14591, 30975, 65535, 131071, 262143], [], []⟩
@[go_sem] def dr3 : Nat → Draw
  | 21 => ⟨[0, 1, 3, 7, 0, 16, 48, 127], [(0, []), (1, []), (2, []), (3, []), (4, []), (5, []), (6, []), (7, [])], []⟩
  | 23 => ⟨[0, 1, 0, 4, 12, 28, 63, 127], [(0, []), (2, []), (3, []), (4, []), (5, []), (1, [5]), (6, []), (7, [])], []⟩
  | 27 => ⟨[0, 1, 3, 7, 0, 16, 48, 127], [(0, []), (1, []), (2, []), (3, []), (4, []), (5, []), (6, []), (7, [])], []⟩
  | 45 => ⟨[0, 1, 0, 4, 12, 28, 63, 127, 255, 511, 255, 2047, 4095, 8191, 16383, 32767, 65535, 32767, 262143, 524287, 1048575, 2097151, 4194303, 4194303, 12582911, 29360127, 62914559, 130023423, 264241151, 536870911, 1073741823, 2147483647, 4294967295, 4294967295, 12884901887, 30064771071, 64424509439, 133143986175, 270582939647, 549755813887, 1099511627775], [(0, []), (2, []), (3, []), (4, []), (5, []), (1, [5]), (6, []), (7, []), (8, []), (10, []), (9, []), (11, []), (12, []), (13, []), (14, []), (15, []), (17, []), (16, []), (18, []), (19, []), (20, []), (21, []), (22, []), (23, []), (24, []), (25, []), (26, []), (27, []), (28, []), (29, []), (30, []), (31, []), (32, []), (33, []), (34, []), (35, []), (36, []), (37, []), (38, []), (39, []), (40, [])], []⟩
  | 48 => ⟨[0, 1, 3, 0, 11, 27, 63, 127, 255, 511, 1023, 255, 2303, 6399, 14591, 30975, 65535, 131071, 262143], [(0, []), (3, []), (1, []), (2, []), (4, []), (5, []), (6, []), (7, []), (8, []), (11, []), (12, []), (13, []), (14, []), (15, []), (9, [14]), (10, []), (16, []), (17, []), (18, [])], []⟩
  | _ => {}
-- joystick/joystickref20.New
@[go_sem] def dr6 : Nat → Draw
  | 1 => ⟨[0, 0, 3, 7, 15], [(0, []), (1, []), (2, []), (3, []), (4, [])], [(1, 3)]⟩
  | _ => {}
-- joystick/joystickref13.Write
@[go_sem] def dr10 : Nat → Draw
  | 2 => ⟨[0, 1, 3, 7, 0, 16, 48, 112, 240, 0, 512, 2047, 4095], [(0, []), (1, []), (2, []), (3, []), (4, []), (5, []), (6, []), (7, []), (8, []), (9, []), (10, []), (11, []), (12, [])], []⟩
  | 3 => ⟨[0, 1, 3, 7, 0, 16, 48, 112, 0, 511, 1023], [(0, []), (1, []), (2, []), (3, []), (4, []), (5, []), (6, []), (7, []), (8, []), (9, []), (10, [])], []⟩
  | _ => {}
-- joystick/joystickref13.Read
@[go_sem] def dr12 : Nat → Draw
  | 3 => ⟨[0, 0, 2, 6, 14, 0, 32, 96, 224, 510, 1022, 2046, 4095, 8191, 16383], [(0, []), (1, []), (2, []), (3, []), (4, []), (5, []), (6, []), (7, []), (8, []), (9, []), (10, []), (11, []), (12, []), (13, []), (14, [])], []⟩
  | _ => {}
-- joystick/joystickref13.Control
@[go_sem] def dr14 : Nat → Draw
  | 8 => ⟨[0, 0, 2, 6, 14, 0, 32, 96, 224, 510, 1022, 2046, 4095, 8191, 16383], [(0, []), (1, []), (2, []), (3, []), (4, []), (5, []), (6, []), (7, []), (8, []), (9, []), (10, []), (11, []), (12, []), (13, []), (14, [])], []⟩
  | 11 => ⟨[0, 1, 3, 7, 0, 16, 0, 64, 192, 448, 960, 2047, 4095], [(0, []), (1, []), (2, []), (3, []), (4, []), (5, []), (6, []), (7, []), (8, []), (9, []), (10, []), (11, []), (12, [])], []⟩
  | _ => {}
-- joystick/joystickref20.Dump
@[go_sem] def dr17 : Nat → Draw
  | 1 => ⟨[0, 1, 3, 7, 15, 0, 32, 96, 224, 511, 1023], [(0, []), (1, []), (2, []), (3, []), (5, []), (6, []), (7, []), (8, []), (4, [8]), (9, []), (10, [])], []⟩
  | 2 => ⟨[0, 0, 2, 6, 14, 30, 0, 64, 192, 448, 960, 1984, 0, 4096, 12288, 28672, 61440, 131008, 262080, 0, 524288, 1572864, 3670016, 7864320, 16515008, 33554368, 0, 67108864, 201326592, 469762048, 1006632960, 2113667008, 4294967232, 8589934590, 17179869183, 34359738367], [(0, []), (1, []), (2, []), (3, []), (4, []), (5, []), (6, []), (7, []), (8, []), (9, []), (10, []), (12, []), (13, []), (14, []), (15, []), (16, []), (19, []), (20, []), (21, []), (22, []), (23, []), (26, []), (27, []), (28, []), (29, []), (30, []), (11, [5, 16, 23, 30]), (17, [5, 23, 30]), (18, []), (24, [5, 30]), (25, []), (31, [5]), (32, []), (33, []), (34, []), (35, [])], []⟩
  | _ => {}
-- (*joystick/vdp.Vdp).Load
@[go_sem] def tr19_3 : DT := .op 0 (.op 2 (.op 3 (.op 4 (.op 5 (.fork 1 [] (.op 7 (.fork 6 [] (.op 8 (.done)) (.stop))) (.fork 6 [] (.fork 1 [] (.op 7 (.op 8 (.done))) (.stop)) (.stop)))))))
def td19_3 : Draw := ⟨[0, 1, 0, 0, 8, 24, 60, 3, 255], [], []⟩
@[go_sem] def tr19_8 : DT := .op 0 (.op 1 (.op 2 (.op 3 (.op 4 (.fork 5 [3] (.fork 6 [] (.op 7 (.done)) (.stop)) (.stop))))))
def td19_8 : Draw := ⟨[0, 1, 3, 7, 0, 16, 63, 127], [], []⟩
@[go_sem] def dr19 : Nat → Draw
  | 3 => ⟨[0, 1, 0, 0, 8, 24, 60, 3, 255], [(0, []), (1, []), (2, []), (3, []), (4, []), (5, []), (6, []), (7, []), (8, [])], []⟩
  | 4 => ⟨[0, 1, 3, 7, 0, 16, 48, 112, 240, 511, 0, 1024, 3072, 7168, 15360, 32767, 0, 65536, 196608, 458752, 983040, 2097151, 4194303], [(0, []), (1, []), (2, []), (3, []), (4, []), (5, []), (6, []), (7, []), (8, []), (9, []), (10, []), (11, []), (12, []), (13, []), (14, []), (15, []), (16, []), (17, []), (18, []), (19, []), (20, []), (21, []), (22, [])], []⟩
  | 8 => ⟨[0, 1, 3, 7, 0, 16, 63, 127], [(0, []), (1, []), (2, []), (3, []), (4, []), (5, []), (6, []), (7, [])], []⟩
  | 11 => ⟨[0, 0, 2, 6, 0, 16, 48, 112, 240, 0, 512, 1536, 3584, 7680, 0, 16384, 49152, 114688, 245760, 0, 524288, 1572864, 3670016, 7864320, 16777214, 33554431, 67108863, 134217727], [(0, []), (1, []), (2, []), (3, []), (4, []), (5, []), (6, []), (7, []), (8, []), (9, []), (10, []), (11, []), (12, []), (13, []), (14, []), (15, []), (16, []), (17, []), (18, []), (19, []), (20, []), (21, []), (22, []), (23, []), (24, []), (25, []), (26, []), (27, [])], []⟩
  | _ => {}
-- (*joystick/vdp.Vdp).Counters
@[go_sem] def dr21 : Nat → Draw
  | 1 => ⟨[0, 1, 3, 7, 15, 31, 0, 64, 192, 448, 1023, 2047, 4095, 8191], [(0, []), (1, []), (2, []), (3, []), (6, []), (7, []), (8, []), (9, []), (4, [9]), (5, [9]), (10, []), (11, []), (12, []), (13, [])], []⟩
  | _ => {}
-- (*joystick/vdp.Vdp).Asks
@[go_sem] def dr23 : Nat → Draw
  | 1 => ⟨[0, 1, 3, 7, 0, 16, 48, 112, 240, 0, 512, 1536, 3584, 8176, 16383, 32767], [(0, []), (1, []), (2, []), (3, []), (4, []), (5, []), (6, []), (7, []), (9, []), (10, []), (11, []), (12, []), (8, [3, 12]), (13, [3]), (14, []), (15, [])], []⟩
  | _ => {}
-- joystick/joystickref20.Asks
@[go_sem] def dr24 : Nat → Draw
  | 1 => ⟨[0, 1, 3, 7, 0, 16, 48, 112, 240, 496, 1008, 2032, 4080, 0, 8192, 24576, 57344, 122880, 253952, 516096, 1040384, 2088960, 4194303, 8388607], [(0, []), (1, []), (2, []), (3, []), (4, []), (5, []), (6, []), (7, []), (8, []), (9, []), (10, []), (11, []), (12, []), (13, []), (14, []), (15, []), (16, []), (17, []), (18, []), (19, []), (20, []), (21, []), (22, []), (23, [])], []⟩
  | _ => {}
-- (*joystick/vdp.Vdp).Wait
@[go_sem] def dr25 : Nat → Draw
  | 2 => ⟨[0, 1, 3, 7, 0, 0, 32, 96, 224, 480, 1023, 2047], [(0, []), (1, []), (2, []), (3, []), (4, []), (5, []), (6, []), (7, []), (8, []), (9, [3]), (10, []), (11, [])], []⟩
  | _ => {}
-- joystick/joystickref20.Wait
@[go_sem] def dr26 : Nat → Draw
  | 1 => ⟨[0, 1, 3, 7, 0, 16, 48, 112, 240, 496, 0, 1024, 3072, 7168, 15360, 31744, 64512, 130048, 261120, 524287, 1048575], [(0, []), (1, []), (2, []), (3, []), (4, []), (5, []), (6, []), (7, []), (8, []), (10, []), (11, []), (12, []), (13, []), (14, []), (15, []), (16, []), (17, []), (18, []), (9, [3, 13, 16, 18]), (19, []), (20, [])], []⟩
  | _ => {}
-- (*joystick/vdp.Vdp).Dump
@[go_sem] def dr31 : Nat → Draw
  | 2 => ⟨[0, 1, 3, 7, 15, 0, 32, 96, 224, 0, 512, 0, 2048, 6175, 0, 16384, 63519, 129055, 0, 262144, 915487, 2095135, 0, 4194304, 14546975, 33552415, 67108383, 134217727, 268435455, 536870911], [(0, []), (1, []), (2, []), (3, []), (5, []), (6, []), (7, []), (8, []), (9, []), (10, []), (11, []), (12, []), (14, []), (15, []), (18, []), (19, []), (22, []), (23, []), (4, [10, 12, 15, 19, 23]), (13, [10, 15, 19, 23]), (16, [10, 19, 23]), (17, []), (20, [10, 23]), (21, []), (24, [10]), (25, []), (26, []), (27, []), (28, []), (29, [])], []⟩
  | _ => {}
-- (*joystick/vdp.Vdp).begin
@[go_sem] def dr34 : Nat → Draw
  | 1 => ⟨[0, 1, 3, 7, 15, 0, 32, 96, 224, 511, 0, 1024, 3072, 7168, 16383, 0, 65535, 0, 262143], [(0, []), (1, []), (2, []), (3, []), (5, []), (6, []), (7, []), (8, []), (10, []), (11, []), (12, []), (13, []), (15, []), (4, [8, 13]), (9, [13]), (14, []), (16, []), (17, [3, 8, 13]), (18, [])], [(17, 4)]⟩
  | 2 => ⟨[0, 1, 3, 0, 8, 31, 0, 64, 255], [(0, []), (1, []), (2, []), (3, []), (4, []), (5, []), (6, []), (7, []), (8, [])], []⟩
  | 3 => ⟨[0, 0, 2, 6, 14, 0, 32, 0, 128, 510, 1023, 2047, 4095], [(0, []), (1, []), (2, []), (3, []), (4, []), (5, []), (6, []), (7, []), (8, []), (9, []), (10, []), (11, []), (12, [])], []⟩
  | 4 => ⟨[0, 0, 2, 6, 14, 0, 0, 64, 192, 448, 960, 2046, 4095, 8191, 16383], [(0, []), (1, []), (2, []), (3, []), (4, []), (5, []), (6, []), (7, []), (8, []), (9, []), (10, [4]), (11, []), (12, []), (13, []), (14, [])], []⟩
  | _ => {}
-- joystick/joystickref13.New
@[go_sem] def dr35 : Nat → Draw
  | 1 => ⟨[0, 0, 0, 7, 15, 31], [(0, []), (1, []), (2, []), (3, []), (4, []), (5, [])], [(0, 1), (1, 2), (2, 3)]⟩
  | _ => {}
-- joystick/joystickref20.begin
@[go_sem] def dr36 : Nat → Draw
  | 1 => ⟨[0, 1, 3, 7, 15, 31, 63, 0, 128, 384, 896, 1920, 3968, 8064, 0, 16384, 0, 131071, 262143, 524287, 524287, 524287, 1048575, 6291455, 16777215], [(0, []), (1, []), (2, []), (3, []), (4, []), (5, []), (6, []), (7, []), (8, []), (9, []), (10, []), (11, []), (12, []), (13, []), (14, []), (16, []), (15, [3, 6, 10, 13]), (17, []), (18, []), (19, []), (20, []), (21, []), (22, []), (23, []), (24, [])], []⟩
  | 9 => ⟨[0, 0, 2, 6, 14, 0, 0, 64, 192, 448, 960, 1984, 4032, 8128, 16320, 32766, 65535, 131071, 262143], [(0, []), (1, []), (2, []), (3, []), (4, []), (5, []), (6, []), (7, []), (8, []), (9, []), (10, []), (11, []), (12, []), (13, []), (14, []), (15, []), (16, []), (17, []), (18, [])], []⟩
  | _ => {}
-- (*joystick/port.Port).Write
@[go_sem] def dr40 : Nat → Draw
  | 2 => ⟨[0, 0, 2, 6, 14, 30, 62, 0, 128, 1, 513, 2047, 4095], [(0, []), (1, []), (2, []), (3, []), (4, []), (5, []), (6, []), (7, []), (8, []), (9, []), (10, []), (11, []), (12, [])], []⟩
  | 3 => ⟨[0, 0, 2, 6, 14, 30, 0, 1, 129, 511, 1023], [(0, []), (1, []), (2, []), (3, []), (4, []), (5, []), (6, []), (7, []), (8, []), (9, []), (10, [])], []⟩
  | _ => {}
-- (*joystick/port.Port).Control
@[go_sem] def dr43 : Nat → Draw
  | 12 => ⟨[0, 0, 0, 4, 12, 28, 60, 1, 129, 511, 1023], [(0, []), (1, []), (2, []), (3, []), (4, []), (5, []), (6, []), (7, []), (8, []), (9, []), (10, [])], []⟩
  | _ => {}
-- joystick/event.Status
@[go_sem] def dr45 : Nat → Draw
  | 1 => ⟨[0, 1, 3, 7, 0, 16, 55, 127, 0, 256, 887, 2047, 4095], [(0, []), (1, []), (4, []), (5, []), (8, []), (9, []), (2, [5, 9]), (3, []), (6, [9]), (7, []), (10, []), (11, []), (12, [])], []⟩
  | 2 => ⟨[0, 0, 2, 6, 1, 31], [(0, []), (1, []), (2, []), (3, []), (4, []), (5, [])], []⟩
  | _ => {}
-- joystick/joystickref13.Dump
@[go_sem] def dr47 : Nat → Draw
  | 1 => ⟨[0, 0, 2, 6, 14, 31, 0, 64, 192, 448, 1023, 0, 2048, 6144, 14336, 32767, 65535], [(1, []), (2, []), (3, []), (4, []), (6, []), (7, []), (8, []), (9, []), (11, []), (12, []), (13, []), (14, []), (0, [4, 9, 14]), (5, [9, 14]), (10, [14]), (15, []), (16, [])], []⟩
  | 5 => ⟨[0, 0, 2, 6, 14, 30, 62, 0, 128, 384, 896, 1920, 3968, 0, 8192, 24576, 57344, 122880, 0, 262144, 786432, 1835008, 3932160, 0, 0, 16777216, 50331648, 117440512, 251658240, 536870910, 1073741823, 2147483647], [(0, []), (1, []), (2, []), (3, []), (4, []), (5, []), (6, []), (7, []), (8, []), (9, []), (10, []), (11, []), (12, []), (13, []), (14, []), (15, []), (16, []), (17, []), (18, []), (19, []), (20, []), (21, []), (22, []), (23, []), (24, []), (25, []), (26, []), (27, []), (28, []), (29, []), (30, []), (31, [])], []⟩
  | _ => {}
-- joystick/joystickref13.Load
@[go_sem] def dr49 : Nat → Draw
  | 16 => ⟨[0, 0, 2, 6, 14, 0, 32, 96, 224, 480, 1022, 2047, 4095, 8191], [(0, []), (1, []), (2, []), (3, []), (4, []), (5, []), (6, []), (7, []), (8, []), (9, []), (10, []), (11, []), (12, []), (13, [])], []⟩
  | _ => {}
-- (*joystick/port.Port).Load
@[go_sem] def tr52_10 : DT := .op 0 (.op 1 (.op 2 (.op 3 (.op 4 (.fork 5 [] (.fork 6 [] (.done) (.stop)) (.stop))))))
def td52_10 : Draw := ⟨[0, 1, 3, 7, 0, 16, 63], [], []⟩
@[go_sem] def dr52 : Nat → Draw
  | 10 => ⟨[0, 1, 3, 7, 0, 16, 63], [(0, []), (1, []), (2, []), (3, []), (4, []), (5, []), (6, [])], []⟩
  | 11 => ⟨[0, 0, 2, 6, 14, 0, 32, 96, 224, 480, 1022, 0, 2048, 6144, 0, 16384, 49152, 0, 131072, 393216, 917504, 0, 2097152, 6291456, 16777214, 33554431, 67108863, 134217727], [(0, []), (1, []), (2, []), (3, []), (4, []), (5, []), (6, []), (7, []), (8, []), (9, []), (10, []), (11, []), (12, []), (13, []), (14, []), (15, []), (16, []), (17, []), (18, []), (19, []), (20, []), (21, []), (22, []), (23, []), (24, []), (25, []), (26, []), (27, [])], []⟩
  | _ => {}
-- (*joystick/port.Port).Dump
@[go_sem] def tr62_4 : DT := .op 0 (.op 1 (.op 2 (.op 3 (.op 4 (.op 5 (.op 6 (.op 7 (.op 8 (.op 9 (.op 10 (.op 11 (.op 14 (.op 15 (.op 16 (.op 17 (.op 18 (.op 19 (.op 20 (.op 21 (.op 22 (.op 23 (.op 24 (.op 25 (.op 26 (.op 27 (.op 28 (.op 29 (.op 30 (.op 31 (.op 32 (.op 33 (.op 34 (.op 35 (.op 36 (.op 37 (.op 38 (.op 39 (.op 40 (.op 41 (.op 42 (.fork 12 [42, 36, 31, 24, 18] (.fork 13 [42, 36, 31, 24, 18] (.fork 43 [] (.fork 44 [] (.op 45 (.done)) (.stop)) (.stop)) (.fork 43 [] (.fork 13 [42, 36, 31, 24, 18] (.fork 44 [] (.op 45 (.done)) (.stop)) (.stop)) (.stop))) (.fork 43 [] (.fork 12 [42, 36, 31, 24, 18] (.fork 13 [42, 36, 31, 24, 18] (.fork 44 [] (.op 45 (.done)) (.stop)) (.stop)) (.stop)) (.stop)))))))))))))))))))))))))))))))))))))))))))
def td62_4 : Draw := ⟨[0, 1, 3, 7, 0, 16, 48, 112, 0, 256, 768, 1792, 4095, 8191, 0, 16384, 49152, 114688, 245760, 507904, 0, 1048576, 3145728, 7340032, 15728640, 32505856, 66060288, 0, 134217728, 402653184, 939524096, 2013265920, 0, 4294967296, 12884901888, 30064771072, 64424509440, 0, 0, 274877906944, 824633720832, 1924145348608, 4123168604160, 8796093005824, 17592186044415, 35184372088831], [], []⟩
@[go_sem] def dr62 : Nat → Draw
  | 4 => ⟨[0, 1, 3, 7, 0, 16, 48, 112, 0, 256, 768, 1792, 4095, 8191, 0, 16384, 49152, 114688, 245760, 507904, 0, 1048576, 3145728, 7340032, 15728640, 32505856, 66060288, 0, 134217728, 402653184, 939524096, 2013265920, 0, 4294967296, 12884901888, 30064771072, 64424509440, 0, 0, 274877906944, 824633720832, 1924145348608, 4123168604160, 8796093005824, 17592186044415, 35184372088831], [(0, []), (1, []), (2, []), (3, []), (4, []), (5, []), (6, []), (7, []), (8, []), (9, []), (10, []), (11, []), (14, []), (15, []), (16, []), (17, []), (18, []), (19, []), (20, []), (21, []), (22, []), (23, []), (24, []), (25, []), (26, []), (27, []), (28, []), (29, []), (30, []), (31, []), (32, []), (33, []), (34, []), (35, []), (36, []), (37, []), (38, []), (39, []), (40, []), (41, []), (42, []), (12, [18, 24, 31, 36, 42]), (13, [18, 24, 31, 36, 42]), (43, []), (44, []), (45, [])], []⟩
  | _ => {}
-- joystick/line.Draw
@[go_sem] def dr65 : Nat → Draw
  | 12 => ⟨[0, 0, 0, 7, 0, 0, 0, 127, 0, 0, 1023, 2047], [(0, []), (1, []), (2, []), (4, []), (5, []), (6, []), (3, [5]), (7, []), (8, [1, 5]), (9, [1, 5]), (10, []), (11, [])], [(8, 12), (9, 13)]⟩
  | 13 => ⟨[0, 1, 0, 4, 3, 19, 63, 127], [(0, []), (1, []), (2, []), (3, []), (4, []), (5, [3]), (6, []), (7, [])], []⟩
  | _ => {}
-- (*joystick/port.Port).fill
@[go_sem] def dr76 : Nat → Draw
  | 0 => ⟨[0, 0, 0, 4, 12, 28, 60, 2, 130, 510, 1022, 2047, 4095, 8191, 16383], [(0, []), (1, []), (2, []), (3, []), (4, []), (5, []), (6, []), (7, []), (8, []), (9, []), (10, []), (11, []), (12, []), (13, []), (14, [])], []⟩
  | _ => {}
-- joystick/joystickref18.On
@[go_sem] def dr88 : Nat → Draw
  | 10 => ⟨[0, 1, 0, 7, 15, 31, 31, 95, 31, 479, 991, 2047, 4095], [(0, []), (2, []), (1, []), (3, []), (4, []), (5, []), (6, []), (8, []), (7, [8]), (9, []), (10, []), (11, []), (12, [])], []⟩
  | _ => {}
-- joystick/back.Source
@[go_sem] def dr89 : Nat → Draw
  | 4 => ⟨[0, 0, 2, 6, 15, 31, 0, 0, 128, 384, 960, 1984, 63, 8191], [(0, []), (1, []), (2, []), (3, []), (4, []), (5, []), (6, []), (7, []), (8, []), (9, []), (10, []), (11, []), (12, []), (13, [])], []⟩
  | _ => {}
-- joystick/tile.Row
@[go_sem] def dr91 : Nat → Draw
  | 13 => ⟨[0, 1, 3, 0, 0, 24, 56, 0, 248, 511, 1023, 2047], [(0, []), (1, []), (2, []), (3, []), (4, []), (5, []), (6, []), (7, []), (8, []), (9, []), (10, []), (11, [])], []⟩
  | _ => {}
-- joystick/joystickref18.Dot
@[go_sem] def dr97 : Nat → Draw
  | 2 => ⟨[0, 0, 2, 6, 0, 16, 62, 127, 255, 0, 512, 1536, 3584, 7680, 15872, 32767, 65535], [(0, []), (1, []), (4, []), (5, []), (9, []), (10, []), (11, []), (12, []), (13, []), (14, []), (2, [10]), (3, []), (6, []), (7, [10]), (8, []), (15, []), (16, [])], []⟩
  | 6 => ⟨[0, 1, 0, 0, 8, 0, 56, 124, 252, 511, 0, 2047, 4095], [(0, []), (1, []), (2, []), (3, []), (5, []), (10, []), (4, [1]), (6, []), (7, [1]), (8, [1]), (9, []), (11, []), (12, [])], []⟩
  | 7 => ⟨[0, 0, 2, 6, 0, 16, 62, 127, 255, 0, 512, 1536, 3584, 7680, 15872, 32767, 65535], [(0, []), (1, []), (4, []), (5, []), (9, []), (10, []), (11, []), (12, []), (13, []), (14, []), (2, [10]), (3, []), (6, []), (7, [10]), (8, []), (15, []), (16, [])], []⟩
  | _ => {}
def dr0 : Nat → Draw := fun _ => {}
end Go.Proofs.Joy
namespace Go.Proofs.Joy
open Go.Ab
set_option maxHeartbeats 1000000

structure E where
  c : BitVec 8
  l : Bool
  f : Bool
  o : Bool
  k : Bool
  deriving DecidableEq
def startS (e : E) (line : Int) (rel : BitVec 8) : E :=
  if line < 0 ∨ 262 ≤ line then e else if 192 < line then { e with c := rel } else
  { e with c := if e.c = 0 then rel else e.c - 1, l := e.l || e.c == 0, f := e.f || line == 192 }

def evBit (x : BitVec 8) (y : Bool) : BitVec 8 := if y then x else 0
def asksS (e : E) (zero one : BitVec 8) : Bool := e.f && (one &&& 32 != 0) || e.l && (zero &&& 16 != 0)
def waitS (e : E) (line : Int) (rel : BitVec 8) : Int :=
  if line < 0 ∨ 262 ≤ line ∨ (e.l = true ∧ e.f = true) then 0 else
  let frame := (192 - line + 262) % 262 + 1
  let first := if line ≤ 192 ∧ (e.c.toNat : Int) ≤ 192 - line then (e.c.toNat : Int) + 1 else if rel.toNat ≤ 192 then 262 - line + rel.toNat + 1 else 0
  if e.f then first else if e.l = true ∨ first = 0 then frame else min first frame


def rwS : Nat → Int → E → Int → BitVec 8 → Int
  | 0, _, _, _, _ => 0
  | k + 1, n, e, line, rel => if (startS e line rel).l != e.l || (startS e line rel).f != e.f then n else rwS k (n + 1) (startS e line rel) ((line + 1) % 262) rel
def refWaitS (e : E) (line : Int) (rel : BitVec 8) : Int := if line < 0 ∨ 262 ≤ line ∨ (e.l = true ∧ e.f = true) then 0 else rwS 786 1 e line rel

theorem pred_toNat {c : BitVec 8} (h : c ≠ 0#8) : (c - 1#8).toNat = c.toNat - 1 ∧ 1 ≤ c.toNat := by
  have h0 : c.toNat ≠ 0 := fun e => h (BitVec.eq_of_toNat_eq (by simpa using e))
  have := c.isLt
  constructor
  · rw [BitVec.toNat_sub]; simp; omega
  · omega

def tl (c r line : Int) : Int := if line ≤ 192 ∧ c ≤ 192 - line then c + 1 else if r ≤ 192 then 263 - line + r else 0
def tf (line : Int) : Int := if line ≤ 192 then 193 - line else 455 - line

theorem waitS_eq (c : BitVec 8) (l f o q : Bool) (line : Int) (rel : BitVec 8) (h0 : 0 ≤ line) (h1 : line < 262) (hb : ¬ (l = true ∧ f = true)) :
    waitS ⟨c, l, f, o, q⟩ line rel = if f then tl c.toNat rel.toNat line else if l = true ∨ tl c.toNat rel.toNat line = 0 then tf line else min (tl c.toNat rel.toNat line) (tf line) := by
  have n0 : ¬ line < 0 := by omega
  have n1 : ¬ 262 ≤ line := by omega
  have e : (192 - line + 262) % 262 + 1 = tf line := by unfold tf; split <;> omega
  have e2 : (if line ≤ 192 ∧ (c.toNat : Int) ≤ 192 - line then (c.toNat : Int) + 1 else if rel.toNat ≤ 192 then 262 - line + rel.toNat + 1 else 0) = tl c.toNat rel.toNat line := by
    unfold tl; (repeat' split) <;> omega
  simp only [waitS, e, e2]
  rw [if_neg (by simp only [n0, n1, false_or]; exact hb)]

theorem tl_vis0 (r line : Int) (h : line ≤ 192) (h0 : 0 ≤ line) : tl 0 r line = 1 := by unfold tl; (repeat' split) <;> omega
theorem tl_vis (c r line : Int) (h : line ≤ 192) (h0 : 0 ≤ line) (hc : 1 ≤ c) (hr : 0 ≤ r) : tl c r line ≠ 1 ∧ tl (c - 1) r (line + 1) = if tl c r line = 0 then 0 else tl c r line - 1 := by
  unfold tl; (repeat' split) <;> omega
theorem tl_hid (c r line : Int) (h : 192 < line) (h0 : line < 262) (hr : 0 ≤ r) : tl c r line ≠ 1 ∧ tl r r ((line + 1) % 262) = if tl c r line = 0 then 0 else tl c r line - 1 := by
  unfold tl; (repeat' split) <;> omega
theorem tl_nonneg (c r line : Int) (h0 : 0 ≤ line) (h : line < 262) (hc : 0 ≤ c) (hr : 0 ≤ r) : 0 ≤ tl c r line ∧ tl c r line ≤ 600 := by
  unfold tl; (repeat' split) <;> omega
theorem tf_at : tf 192 = 1 := by decide
theorem tf_else (line : Int) (h0 : 0 ≤ line) (h : line < 262) (hn : line ≠ 192) : tf line ≠ 1 ∧ tf ((line + 1) % 262) = tf line - 1 := by
  unfold tf; (repeat' split) <;> omega
theorem tf_pos (line : Int) (h0 : 0 ≤ line) (h : line < 262) : 1 ≤ tf line ∧ tf line ≤ 262 := by
  unfold tf; split <;> omega
theorem stepW (c : BitVec 8) (l f o q : Bool) (line : Int) (rel : BitVec 8) (h0 : 0 ≤ line) (h1 : line < 262) (hb : ¬ (l = true ∧ f = true)) :
    if (startS ⟨c, l, f, o, q⟩ line rel).l != l || (startS ⟨c, l, f, o, q⟩ line rel).f != f then waitS ⟨c, l, f, o, q⟩ line rel = 1
    else ∃ c', startS ⟨c, l, f, o, q⟩ line rel = ⟨c', l, f, o, q⟩ ∧ waitS ⟨c, l, f, o, q⟩ line rel ≠ 1 ∧ waitS ⟨c', l, f, o, q⟩ ((line + 1) % 262) rel = if waitS ⟨c, l, f, o, q⟩ line rel = 0 then 0 else waitS ⟨c, l, f, o, q⟩ line rel - 1 := by
  have n0 : ¬ line < 0 := by omega
  have n1 : ¬ 262 ≤ line := by omega
  have hr : (0 : Int) ≤ rel.toNat := by omega
  have hc : (0 : Int) ≤ c.toNat := by omega
  have g1 := tl_nonneg c.toNat rel.toNat line h0 h1 hc hr
  have g2 := tf_pos line h0 h1
  by_cases a1 : 192 < line
  · have e1 : startS ⟨c, l, f, o, q⟩ line rel = ⟨rel, l, f, o, q⟩ := by simp [startS, n0, n1, a1]
    rw [e1]
    simp only [bne_self_eq_false, Bool.or_self, Bool.false_eq_true, if_false]
    refine ⟨rel, rfl, ?_⟩
    rw [waitS_eq c l f o q line rel h0 h1 hb, waitS_eq rel l f o q _ rel (by omega) (by omega) hb]
    have t1 := tl_hid c.toNat rel.toNat line a1 h1 hr
    have t2 := tf_else line h0 h1 (by omega)
    have g3 := tf_pos ((line + 1) % 262) (by omega) (by omega)
    rw [t1.2, t2.2]
    cases l <;> cases f <;> simp only [Bool.false_eq_true, if_false, if_true, false_or, true_or] at * <;> (repeat' split) <;> first | omega | exact ⟨t1.1, trivial⟩
  · have m1 : (line + 1) % 262 = line + 1 := by omega
    by_cases a3 : c = 0#8
    · subst a3
      have t1 := tl_vis0 rel.toNat line (by omega) h0
      by_cases a2 : line = 192
      · subst a2
        have e1 : startS ⟨0#8, l, f, o, q⟩ 192 rel = ⟨rel, true, true, o, q⟩ := by simp [startS]
        rw [e1, waitS_eq 0#8 l f o q 192 rel h0 h1 hb]
        simp only [BitVec.toNat_ofNat, Nat.reduceMod, Int.cast_ofNat_Int, tf_at] at *
        rw [show ((0 : Nat) : Int) = 0 from rfl] at *
        rw [t1]
        cases l <;> cases f <;> simp_all
      · have e1 : startS ⟨0#8, l, f, o, q⟩ line rel = ⟨rel, true, f, o, q⟩ := by simp [startS, n0, n1, a1, a2]
        rw [e1, waitS_eq 0#8 l f o q line rel h0 h1 hb]
        have t2 := tf_else line h0 h1 a2
        cases l
        · simp only [BitVec.toNat_ofNat, Nat.reduceMod] at *
          rw [show ((0 : Nat) : Int) = 0 from rfl, t1]
          have : min 1 (tf line) = 1 := by omega
          simp [this]
        · cases f
          · simp only [bne_self_eq_false, Bool.or_self, Bool.false_eq_true, if_false]
            refine ⟨rel, rfl, ?_⟩
            rw [waitS_eq rel true false o q _ rel (by omega) (by omega) (by simp)]
            simp only [Bool.false_eq_true, if_false, true_or, if_true]
            rw [t2.2]
            split <;> omega
          · simp at hb
    · obtain ⟨p1, p2⟩ := pred_toNat a3
      have p3 : ((c - 1#8).toNat : Int) = (c.toNat : Int) - 1 := by omega
      have t1 := tl_vis c.toNat rel.toNat line (by omega) h0 (by omega) hr
      by_cases a2 : line = 192
      · subst a2
        have e1 : startS ⟨c, l, f, o, q⟩ 192 rel = ⟨c - 1#8, l, true, o, q⟩ := by simp [startS, a3]
        rw [e1, waitS_eq c l f o q 192 rel h0 h1 hb]
        cases f
        · have : tl c.toNat rel.toNat 192 ≠ 0 → 1 ≤ tl c.toNat rel.toNat 192 := by omega
          simp only [tf_at]
          cases l <;> simp <;> intro hh <;> omega
        · cases l
          · simp only [bne_self_eq_false, Bool.or_self, Bool.false_eq_true, if_false]
            refine ⟨c - 1#8, rfl, ?_⟩
            rw [waitS_eq (c - 1#8) false true o q _ rel (by omega) (by omega) (by simp), p3, m1]
            simp only [if_true]
            exact t1
          · simp at hb
      · have e1 : startS ⟨c, l, f, o, q⟩ line rel = ⟨c - 1#8, l, f, o, q⟩ := by simp [startS, n0, n1, a1, a2, a3]
        rw [e1]
        simp only [bne_self_eq_false, Bool.or_self, Bool.false_eq_true, if_false]
        refine ⟨c - 1#8, rfl, ?_⟩
        have t2 := tf_else line h0 h1 a2
        have g3 := tf_pos ((line + 1) % 262) (by omega) (by omega)
        rw [waitS_eq c l f o q line rel h0 h1 hb, waitS_eq (c - 1#8) l f o q _ rel (by omega) (by omega) hb, p3, t2.2, m1, t1.2]
        rw [m1] at g3
        cases l <;> cases f <;> simp only [Bool.false_eq_true, if_false, if_true, false_or, true_or] at * <;> (repeat' split) <;> first | omega | exact ⟨t1.1, trivial⟩

theorem rw_eq (rel : BitVec 8) : ∀ (k : Nat) (n : Int) (c : BitVec 8) (l f o q : Bool) (line : Int), 0 ≤ line → line < 262 → ¬ (l = true ∧ f = true) →
    rwS k n ⟨c, l, f, o, q⟩ line rel = if 1 ≤ waitS ⟨c, l, f, o, q⟩ line rel ∧ waitS ⟨c, l, f, o, q⟩ line rel ≤ k then n + waitS ⟨c, l, f, o, q⟩ line rel - 1 else 0 := by
  intro k
  induction k with
  | zero => intro n c l f o q line h0 h1 hb; rw [if_neg (by omega)]; rfl
  | succ k ih =>
    intro n c l f o q line h0 h1 hb
    have hs := stepW c l f o q line rel h0 h1 hb
    simp only [rwS]
    split
    · rename_i he
      rw [if_pos he] at hs
      rw [hs, if_pos (by omega)]; omega
    · rename_i he
      rw [if_neg he] at hs
      obtain ⟨c', hx, hne, hw⟩ := hs
      rw [hx, ih (n + 1) c' l f o q _ (by omega) (by omega) hb, hw]
      (repeat' split) <;> omega

theorem waits_law (c : BitVec 8) (l f o q : Bool) (line : Int) (rel : BitVec 8) : waitS ⟨c, l, f, o, q⟩ line rel = refWaitS ⟨c, l, f, o, q⟩ line rel := by
  unfold refWaitS
  split
  · rename_i h; unfold waitS; rw [if_pos h]
  · rename_i h
    have h0 : 0 ≤ line := by omega
    have h1 : line < 262 := by omega
    have hb : ¬ (l = true ∧ f = true) := fun e => h (.inr (.inr e))
    rw [rw_eq rel 786 1 c l f o q line h0 h1 hb]
    have g1 := tl_nonneg c.toNat rel.toNat line h0 h1 (by omega) (by omega)
    have g2 := tf_pos line h0 h1
    rw [waitS_eq c l f o q line rel h0 h1 hb]
    (repeat' split) <;> omega
theorem waitS_le (e : E) (line : Int) (rel : BitVec 8) : 0 ≤ waitS e line rel ∧ waitS e line rel ≤ 1000 := by
  have h1 := e.c.isLt
  have h2 := rel.isLt
  unfold waitS
  split
  · omega
  · simp only
    split <;> split <;> (try split) <;> omega
end Go.Proofs.Joy
namespace Go.Proofs.Joy
open Go.Ab

/-- A byte of memory. -/
def atS (v : List (BitVec 8)) (a : Int) : BitVec 8 := v.getD (a % 16384).toNat 0#8
def heightS (regs : List (BitVec 8)) : Int := (if regs.getD 1 0#8 &&& 2#8 = 0#8 then 8 else 16) * (if regs.getD 1 0#8 &&& 1#8 = 0#8 then 1 else 2)
def baseS (regs : List (BitVec 8)) : Int := ((regs.getD 5 0#8 &&& 126#8).toNat * 128 : Nat)
def topS (y : BitVec 8) : Int := if y.toNat < 240 then (y.toNat : Int) + 1 else (y.toNat : Int) - 255
def yS (v regs : List (BitVec 8)) (i : Nat) : BitVec 8 := atS v (baseS regs + i)
def onS' (v regs : List (BitVec 8)) (line : Int) (i : Nat) : Bool := decide (topS (yS v regs i) ≤ line) && decide (line < topS (yS v regs i) + heightS regs)
/-- Those on a line among the first i, if the list goes that far. -/
def hitsTo (v regs : List (BitVec 8)) (line : Int) (i : Nat) : List Nat := (List.range i).filter (onS' v regs line)
/-- Where the list ends. -/
def endS (v regs : List (BitVec 8)) : Nat := ((List.range 64).findIdx? (fun i => yS v regs i == 208#8)).getD 64
def hitsS (v regs : List (BitVec 8)) (line : Int) : List Nat := if line < 0 ∨ 191 < line then [] else hitsTo v regs line (endS v regs)

theorem hitsTo_succ (v regs : List (BitVec 8)) (line : Int) (i : Nat) : hitsTo v regs line (i + 1) = hitsTo v regs line i ++ if onS' v regs line i then [i] else [] := by
  unfold hitsTo
  rw [List.range_succ, List.filter_append]
  congr 1
  by_cases h : onS' v regs line i = true
  · simp [h]
  · simp [h]
theorem hitsTo_len (v regs : List (BitVec 8)) (line : Int) (i : Nat) : (hitsTo v regs line i).length ≤ i := by
  unfold hitsTo
  exact Nat.le_trans (List.length_filter_le _ _) (by rw [List.length_range]; exact Nat.le_refl _)
theorem endS_at {v regs : List (BitVec 8)} {i : Nat} (hi : i < 64) (hy : yS v regs i = 208#8) (hb : ∀ j, j < i → yS v regs j ≠ 208#8) : endS v regs = i := by
  unfold endS
  have : (List.range 64).findIdx? (fun i => yS v regs i == 208#8) = some i := by
    rw [List.findIdx?_eq_some_iff_getElem]
    refine ⟨by simp [hi], by simp [hy], fun j hj => ?_⟩
    simp only [List.getElem_range, beq_iff_eq]
    exact hb j hj
  rw [this]; rfl
theorem endS_none {v regs : List (BitVec 8)} (hb : ∀ j, j < 64 → yS v regs j ≠ 208#8) : endS v regs = 64 := by
  unfold endS
  have : (List.range 64).findIdx? (fun i => yS v regs i == 208#8) = none := by
    rw [List.findIdx?_eq_none_iff]
    intro x hx
    simp only [beq_eq_false_iff_ne, ne_eq]
    exact hb x (List.mem_range.1 hx)
  rw [this]; rfl
theorem endS_ge {v regs : List (BitVec 8)} {i : Nat} (hi : i ≤ 64) (hb : ∀ j, j < i → yS v regs j ≠ 208#8) : i ≤ endS v regs := by
  unfold endS
  cases hf : (List.range 64).findIdx? (fun i => yS v regs i == 208#8) with
  | none => exact hi
  | some k =>
    rw [List.findIdx?_eq_some_iff_getElem] at hf
    obtain ⟨hk, h1, -⟩ := hf
    simp only [List.getElem_range, beq_iff_eq] at h1
    simp only [Option.getD_some]
    rcases Nat.lt_or_ge k i with c | c
    · exact absurd h1 (hb k c)
    · exact c
theorem hitsTo_pre (v regs : List (BitVec 8)) (line : Int) {i e : Nat} (h : i ≤ e) : ∃ r, hitsTo v regs line e = hitsTo v regs line i ++ r := by
  induction e with
  | zero => exact ⟨[], by rw [show i = 0 by omega]; simp⟩
  | succ e ih =>
    rcases Nat.lt_or_ge e i with c | c
    · exact ⟨[], by rw [show i = e + 1 by omega]; simp⟩
    · obtain ⟨r, hr⟩ := ih c
      exact ⟨_, by rw [hitsTo_succ, hr, List.append_assoc]⟩
theorem heightS_le (regs : List (BitVec 8)) : 8 ≤ heightS regs ∧ heightS regs ≤ 32 := by
  unfold heightS; split <;> split <;> omega
theorem topS_le (y : BitVec 8) : -15 ≤ topS y ∧ topS y ≤ 240 := by
  have := y.isLt
  unfold topS; split <;> omega
theorem baseS_le (regs : List (BitVec 8)) : 0 ≤ baseS regs ∧ baseS regs ≤ 16128 := by
  unfold baseS
  have : (regs.getD 5 0#8 &&& 126#8).toNat ≤ 126 := by rw [BitVec.toNat_and]; exact Nat.and_le_right
  omega
end Go.Proofs.Joy
namespace Go.Proofs.Joy
open Go.Ab

def bitS (b : BitVec 8) (k p : Nat) : BitVec 8 := ((b >>> k) &&& 1#8) <<< p
/-- A dot of the row that begins at a place, of the first p planes. -/
def dotS (v : List (BitVec 8)) (first : Int) (t : Bool) : Nat → Nat → BitVec 8
  | 0, _ => 0#8
  | p + 1, i => dotS v first t p i ||| bitS (atS v (first + p)) (if t = true then i else 7 - i) p
def mixS (v : List (BitVec 8)) (first : Int) (t : Bool) (p i : Nat) : List (BitVec 8) := (List.range 8).map fun j => dotS v first t (if j < i then p + 1 else p) j
def rowS (v : List (BitVec 8)) (first : Int) (t : Bool) : List (BitVec 8) := (List.range 8).map fun j => dotS v first t 4 j
def firstS (tile row : Int) : Int := tile % 512 * 32 + row % 8 * 4

theorem mixS_len (v : List (BitVec 8)) (first : Int) (t : Bool) (p i : Nat) : (mixS v first t p i).length = 8 := by simp [mixS]
theorem mixS_get (v : List (BitVec 8)) (first : Int) (t : Bool) (p i j : Nat) (h : j < 8) : (mixS v first t p i)[j]? = some (dotS v first t (if j < i then p + 1 else p) j) := by
  simp [mixS, h]
theorem mixS_set (v : List (BitVec 8)) (first : Int) (t : Bool) (p i : Nat) (h : i < 8) : (mixS v first t p i).set i (dotS v first t (p + 1) i) = mixS v first t p (i + 1) := by
  apply List.ext_getElem?
  intro j
  rcases Nat.lt_or_ge j 8 with c | c
  · rw [List.getElem?_set, mixS_get _ _ _ _ _ _ c, mixS_get _ _ _ _ _ _ c, mixS_len]
    by_cases e : i = j
    · subst e; simp [h]
    · rw [if_neg e]
      rcases Nat.lt_or_ge j i with d | d
      · simp [d, Nat.lt_succ_of_lt d]
      · rw [if_neg (by omega), if_neg (by omega)]
  · rw [List.getElem?_eq_none (by simp [mixS_len, c]), List.getElem?_eq_none (by simp [mixS_len, c])]
theorem mixS_8 (v : List (BitVec 8)) (first : Int) (t : Bool) (p : Nat) : mixS v first t p 8 = mixS v first t (p + 1) 0 := by
  unfold mixS
  apply List.map_congr_left
  intro j hj
  rw [List.mem_range] at hj
  simp [hj]
theorem mixS_4 (v : List (BitVec 8)) (first : Int) (t : Bool) : mixS v first t 4 0 = rowS v first t := by
  unfold mixS rowS
  simp
theorem mixS_0 (v : List (BitVec 8)) (first : Int) (t : Bool) : mixS v first t 0 0 = List.replicate 8 0#8 := by
  unfold mixS; simp [dotS]; rfl
theorem firstS_le (tile row : Int) : 0 ≤ firstS tile row ∧ firstS tile row ≤ 16380 := by unfold firstS; omega
end Go.Proofs.Joy
namespace Go.Proofs.Joy
open Go.Ab

/-- The number of a sprite's tile. -/
def numS (v regs : List (BitVec 8)) (i : Nat) : Int :=
  let n : Nat := (atS v (baseS regs + 128 + 2 * i + 1)).toNat + (if regs.getD 6 0#8 &&& 4#8 = 0#8 then 0 else 256)
  if regs.getD 1 0#8 &&& 2#8 = 0#8 then (n : Int) else ((n - n % 2 : Nat) : Int)
/-- The row of it that a line shows. -/
def downS (v regs : List (BitVec 8)) (i : Nat) (line : Int) : Int :=
  if regs.getD 1 0#8 &&& 1#8 = 0#8 then line - topS (yS v regs i) else (line - topS (yS v regs i)).tdiv 2
def dotsL (v regs : List (BitVec 8)) (i : Nat) (line : Int) : List (BitVec 8) := rowS v (firstS (numS v regs i + (downS v regs i line).tdiv 8) ((downS v regs i line).tmod 8)) false

theorem andNot_one : ∀ n, n < 512 → andNot64 ((n : Nat) : Int) 1 = ((n - n % 2 : Nat) : Int) := by decide +kernel
theorem tdiv_bd (D k b : Int) (h : -b ≤ D ∧ D ≤ b) : -b ≤ D.tdiv k ∧ D.tdiv k ≤ b := by
  have := Int.natAbs_tdiv D k
  have h2 : (D.tdiv k).natAbs ≤ D.natAbs := by rw [this]; exact Nat.div_le_self _ _
  omega
theorem dotsL_len (v regs : List (BitVec 8)) (i : Nat) (line : Int) : (dotsL v regs i line).length = 8 := by simp [dotsL, rowS]
theorem numS_le (v regs : List (BitVec 8)) (i : Nat) : 0 ≤ numS v regs i ∧ numS v regs i < 512 := by
  have := (atS v (baseS regs + 128 + 2 * i + 1)).isLt
  unfold numS
  simp only
  split <;> split <;> omega
end Go.Proofs.Joy
namespace Go.Proofs.Joy
open Go.Ab

def putC (c : List (BitVec 8)) (x : Int) (d : BitVec 8) : List (BitVec 8) := if d = 0#8 ∨ x < 0 then c else if c.getD x.toNat 0#8 ≠ 0#8 then c else c.set x.toNat (16#8 + d)
def putM (c : List (BitVec 8)) (m : Bool) (x : Int) (d : BitVec 8) : Bool := if d = 0#8 ∨ x < 0 then m else if c.getD x.toNat 0#8 ≠ 0#8 then true else m
theorem putC_len (c : List (BitVec 8)) (x : Int) (d : BitVec 8) : (putC c x d).length = c.length := by
  unfold putC; split
  · rfl
  · split
    · rfl
    · rw [List.length_set]

/-- Colors, and whether two met. -/
structure RowS where
  c : List (BitVec 8)
  m : Bool
def RowS.put (s : RowS) (x : Int) (d : BitVec 8) : RowS := if x < 256 then ⟨putC s.c x d, putM s.c s.m x d⟩ else s
def wideS (regs : List (BitVec 8)) : Nat := if regs.getD 1 0#8 &&& 1#8 = 0#8 then 1 else 2
def leftS (v regs : List (BitVec 8)) (i : Nat) : Int := (atS v (baseS regs + 128 + 2 * i)).toNat - (if regs.getD 0 0#8 &&& 8#8 = 0#8 then 0 else 8)
/-- A sprite's first dots laid on a row. -/
def sprTo (v regs : List (BitVec 8)) (line : Int) (i : Nat) (s : RowS) : Nat → RowS
  | 0 => s
  | t + 1 => (sprTo v regs line i s t).put (leftS v regs i + t) ((dotsL v regs i line).getD (t / wideS regs) 0#8)
def sprS (v regs : List (BitVec 8)) (line : Int) (i : Nat) (s : RowS) : RowS := sprTo v regs line i s (8 * wideS regs)
def rowTo (v regs : List (BitVec 8)) (line : Int) : List Nat → RowS → RowS
  | [], s => s
  | i :: l, s => rowTo v regs line l (sprS v regs line i s)
/-- Sprites' row of a line. -/
def spritesS (v regs : List (BitVec 8)) (line : Int) : RowS := rowTo v regs line ((hitsS v regs line).take 8) ⟨List.replicate 256 0#8, false⟩

theorem RowS.put_len (s : RowS) (x : Int) (d : BitVec 8) : (s.put x d).c.length = s.c.length := by
  unfold RowS.put; split
  · exact putC_len _ _ _
  · rfl
theorem sprTo_len (v regs : List (BitVec 8)) (line : Int) (i : Nat) (s : RowS) (t : Nat) : (sprTo v regs line i s t).c.length = s.c.length := by
  induction t with
  | zero => rfl
  | succ t ih => rw [sprTo, RowS.put_len, ih]
theorem sprTo_end (v regs : List (BitVec 8)) (line : Int) (i : Nat) (s : RowS) (t : Nat) (h : 256 ≤ leftS v regs i + t) : ∀ k, sprTo v regs line i s (t + k) = sprTo v regs line i s t := fun k => by
  induction k with
  | zero => rfl
  | succ k ih => rw [← Nat.add_assoc, sprTo, ih, RowS.put, if_neg (by omega)]
theorem rowTo_app (v regs : List (BitVec 8)) (line : Int) (l : List Nat) (i : Nat) (s : RowS) : rowTo v regs line (l ++ [i]) s = sprS v regs line i (rowTo v regs line l s) := by
  induction l generalizing s with
  | nil => rfl
  | cons j l ih => exact ih _
theorem rowTo_len (v regs : List (BitVec 8)) (line : Int) (l : List Nat) (s : RowS) : (rowTo v regs line l s).c.length = s.c.length := by
  induction l generalizing s with
  | nil => rfl
  | cons j l ih => rw [rowTo, ih]; exact sprTo_len _ _ _ _ _ _
theorem endS_le (v regs : List (BitVec 8)) : endS v regs ≤ 64 := by
  unfold endS
  cases hf : (List.range 64).findIdx? (fun i => yS v regs i == 208#8) with
  | none => exact Nat.le_refl _
  | some k =>
    rw [List.findIdx?_eq_some_iff_getElem] at hf
    obtain ⟨hk, -⟩ := hf
    rw [List.length_range] at hk
    exact Nat.le_of_lt hk
theorem hitsS_lt {v regs : List (BitVec 8)} {line : Int} {i : Nat} (h : i ∈ hitsS v regs line) : i < 64 := by
  unfold hitsS at h
  split at h
  · cases h
  · unfold hitsTo at h
    have := List.mem_range.1 (List.mem_filter.1 h).1
    have := endS_le v regs
    omega
theorem hitsS_line {v regs : List (BitVec 8)} {line : Int} (h : hitsS v regs line ≠ []) : 0 ≤ line ∧ line < 192 := by
  unfold hitsS at h
  split at h
  · exact absurd rfl h
  · omega
theorem wideS_le (regs : List (BitVec 8)) : 1 ≤ wideS regs ∧ wideS regs ≤ 2 := by unfold wideS; split <;> omega
theorem leftS_le (v regs : List (BitVec 8)) (i : Nat) : -8 ≤ leftS v regs i ∧ leftS v regs i ≤ 255 := by
  have := (atS v (baseS regs + 128 + 2 * i)).isLt
  unfold leftS; split <;> omega
end Go.Proofs.Joy
namespace Go.Proofs.Joy
open Go.Ab

abbrev B3 := BitVec 8 × BitVec 8 × BitVec 8
/-- A byte of a picture's tiles, repeated. -/
def tileB (ts : List (BitVec 8)) (i : Nat) : BitVec 8 := if ts = [] then 0#8 else ts.getD (i % ts.length) 0#8 &&& BitVec.ofNat 8 (i / 7)
def layT (ts : List (BitVec 8)) (i : Nat) : List (BitVec 8) := (List.range i).map (tileB ts) ++ List.replicate (16384 - i) 0#8
def layS (a : Nat) : Nat → List B3 → List (BitVec 8) → List (BitVec 8)
  | _, [], l => l
  | i, s :: r, l => layS a (i + 1) r (if i < 64 then ((l.set (a + i) s.1).set (a + 128 + 2 * i) s.2.1).set (a + 129 + 2 * i) s.2.2 else l)
def buildS (xs : List B3) (ts regs : List (BitVec 8)) : List (BitVec 8) :=
  let a := (baseS regs).toNat
  let l := layS a 0 xs (layT ts 16384)
  if xs.length < 64 then l.set (a + xs.length) 208#8 else l
theorem layT_len (ts : List (BitVec 8)) (i : Nat) (h : i ≤ 16384) : (layT ts i).length = 16384 := by
  unfold layT; rw [List.length_append, List.length_map, List.length_range, List.length_replicate]; omega
theorem layT_succ (ts : List (BitVec 8)) (j : Nat) (h : j < 16384) : (layT ts j).set j (tileB ts j) = layT ts (j + 1) := by
  unfold layT
  rw [List.set_append_right _ _ (by simp), List.length_map, List.length_range, Nat.sub_self, show 16384 - j = (16384 - (j + 1)) + 1 by omega, List.replicate_succ, List.set_cons_zero, List.range_succ, List.map_append, List.append_assoc]
  rfl
theorem layT_skip (j : Nat) (h : j < 16384) : layT [] (j + 1) = layT [] j := by
  unfold layT
  rw [List.range_succ, List.map_append, show 16384 - j = (16384 - (j + 1)) + 1 by omega, List.replicate_succ, List.append_assoc]
  rfl
theorem layS_app (a i : Nat) (xs : List B3) (s : B3) (l : List (BitVec 8)) : layS a i (xs ++ [s]) l = layS a (i + xs.length) [s] (layS a i xs l) := by
  induction xs generalizing i l with
  | nil => rfl
  | cons x r ih =>
    rw [List.length_cons, show i + (r.length + 1) = i + 1 + r.length by omega]
    exact ih (i + 1) _
theorem layS_len (a i : Nat) (xs : List B3) (l : List (BitVec 8)) : (layS a i xs l).length = l.length := by
  induction xs generalizing i l with
  | nil => rfl
  | cons s r ih => rw [layS, ih]; split <;> simp
theorem buildS_len (xs : List B3) (ts regs : List (BitVec 8)) : (buildS xs ts regs).length = 16384 := by
  unfold buildS
  simp only
  split
  · rw [List.length_set, layS_len, layT_len _ _ (Nat.le_refl _)]
  · rw [layS_len, layT_len _ _ (Nat.le_refl _)]
end Go.Proofs.Joy
namespace Go.Proofs.Joy
open Go.Ab

theorem getD_set8 (l : List (BitVec 8)) (i k : Nat) (x : BitVec 8) : (l.set i x).getD k 0#8 = if i = k ∧ k < l.length then x else l.getD k 0#8 := by
  rw [List.getD_eq_getElem?_getD, List.getElem?_set, List.getD_eq_getElem?_getD]
  by_cases h : i = k
  · subst h
    by_cases h2 : i < l.length
    · simp [h2]
    · simp [h2]
  · simp [h]

theorem snoc_ind {P : List B3 → Prop} (h0 : P []) (h1 : ∀ xs s, P xs → P (xs ++ [s])) : ∀ xs, P xs := by
  have : ∀ n xs, xs.length = n → P xs := by
    intro n
    induction n with
    | zero => intro xs h; rw [List.eq_nil_of_length_eq_zero h]; exact h0
    | succ n ih =>
      intro xs h
      have hne : xs ≠ [] := by rintro rfl; simp at h
      rw [← List.dropLast_concat_getLast hne]
      exact h1 _ _ (ih _ (by simp; omega))
  exact fun xs => this _ xs rfl

def d3 : B3 := (0#8, 0#8, 0#8)
/-- What lies at a place of a laid memory. -/
def layG (a : Nat) (xs : List B3) (l : List (BitVec 8)) (k : Nat) : BitVec 8 :=
  if a ≤ k ∧ k < a + xs.length then (xs.getD (k - a) d3).1
  else if a + 128 ≤ k ∧ k < a + 128 + 2 * xs.length then (if (k - (a + 128)) % 2 = 0 then (xs.getD ((k - (a + 128)) / 2) d3).2.1 else (xs.getD ((k - (a + 128)) / 2) d3).2.2)
  else l.getD k 0#8

theorem getD_snoc (xs : List B3) (s : B3) (j : Nat) : (xs ++ [s]).getD j d3 = if j < xs.length then xs.getD j d3 else if j = xs.length then s else d3 := by
  simp only [List.getD_eq_getElem?_getD, List.getElem?_append]
  by_cases h : j < xs.length
  · simp [h]
  · simp only [h, if_false]
    by_cases h2 : j = xs.length
    · subst h2; simp
    · rw [if_neg h2, List.getElem?_eq_none (by simp; omega)]; rfl

theorem layS_get (a : Nat) (l : List (BitVec 8)) (hl : l.length = 16384) (ha : a + 256 ≤ 16384) (k : Nat) (xs : List B3) : xs.length ≤ 64 → (layS a 0 xs l).getD k 0#8 = layG a xs l k := by
  refine snoc_ind (P := fun xs => xs.length ≤ 64 → (layS a 0 xs l).getD k 0#8 = layG a xs l k) ?_ ?_ xs
  · intro _
    unfold layG layS
    rw [if_neg (by simp), if_neg (by simp)]
  · intro xs s ih hx
    rw [List.length_append, List.length_singleton] at hx
    have ih := ih (by omega)
    rw [layS_app]
    simp only [layS, Nat.zero_add]
    rw [if_pos (by omega)]
    simp only [getD_set8, List.length_set, layS_len, hl, ih]
    unfold layG
    simp only [List.length_append, List.length_singleton, getD_snoc]
    by_cases c1 : k = a + 129 + 2 * xs.length
    · subst c1
      rw [if_pos (by omega), if_neg (by omega), if_pos (by omega), if_neg (by omega), if_neg (by omega), if_pos (by omega)]
    rw [if_neg (by omega)]
    by_cases c2 : k = a + 128 + 2 * xs.length
    · subst c2
      rw [if_pos (by omega), if_neg (by omega), if_pos (by omega), if_pos (by omega), if_neg (by omega), if_pos (by omega)]
    rw [if_neg (by omega)]
    by_cases c3 : k = a + xs.length
    · subst c3
      rw [if_pos (by omega), if_pos (by omega), if_neg (by omega), if_pos (by omega)]
    rw [if_neg (by omega)]
    by_cases c4 : a ≤ k ∧ k < a + xs.length
    · rw [if_pos c4, if_pos (by omega), if_pos (by omega)]
    by_cases c5 : a + 128 ≤ k ∧ k < a + 128 + 2 * xs.length
    · have h1 : ¬(a ≤ k ∧ k < a + (xs.length + 1)) := by omega
      have h2 : a + 128 ≤ k ∧ k < a + 128 + 2 * (xs.length + 1) := by omega
      have h3 : (k - (a + 128)) / 2 < xs.length := by omega
      rw [if_neg c4, if_pos c5, if_neg h1, if_pos h2, if_pos h3]
    · have h1 : ¬(a ≤ k ∧ k < a + (xs.length + 1)) := by omega
      have h2 : ¬(a + 128 ≤ k ∧ k < a + 128 + 2 * (xs.length + 1)) := by omega
      rw [if_neg c4, if_neg c5, if_neg h1, if_neg h2]

/-- A picture's memory, place by place. -/
theorem buildS_get (xs : List B3) (hx : xs.length ≤ 64) (ts regs : List (BitVec 8)) (k : Nat) :
    (buildS xs ts regs).getD k 0#8 = if xs.length < 64 ∧ k = (baseS regs).toNat + xs.length then 208#8 else layG (baseS regs).toNat xs (layT ts 16384) k := by
  have hb := baseS_le regs
  have ha : (baseS regs).toNat + 256 ≤ 16384 := by omega
  unfold buildS
  simp only
  have hl := layT_len ts 16384 (Nat.le_refl _)
  by_cases h : xs.length < 64
  · rw [if_pos h, getD_set8, layS_len, hl, layS_get _ _ hl ha _ _ hx]
    by_cases c : k = (baseS regs).toNat + xs.length
    · subst c; rw [if_pos (by omega), if_pos ⟨h, rfl⟩]
    · rw [if_neg (by omega), if_neg (by omega)]
  · rw [if_neg h, layS_get _ _ hl ha _ _ hx, if_neg (by omega)]

theorem atS_nat (bs : List (BitVec 8)) (k : Nat) (h : k < 16384) : atS bs (k : Int) = bs.getD k 0#8 := by
  unfold atS; rw [show ((k : Int) % 16384).toNat = k by omega]
theorem base_nat (regs : List (BitVec 8)) : ((baseS regs).toNat : Int) = baseS regs := by have := baseS_le regs; omega

theorem yS_build {xs : List B3} (hx : xs.length ≤ 64) (ts regs : List (BitVec 8)) {i : Nat} (hi : i < xs.length) : yS (buildS xs ts regs) regs i = (xs.getD i d3).1 := by
  have hb := baseS_le regs
  unfold yS
  rw [← base_nat, ← Int.natCast_add, atS_nat _ _ (by omega), buildS_get _ hx, if_neg (by omega)]
  unfold layG
  rw [if_pos (by omega), show (baseS regs).toNat + i - (baseS regs).toNat = i by omega]
theorem yS_end {xs : List B3} (hx : xs.length < 64) (ts regs : List (BitVec 8)) : yS (buildS xs ts regs) regs xs.length = 208#8 := by
  have hb := baseS_le regs
  unfold yS
  rw [← base_nat, ← Int.natCast_add, atS_nat _ _ (by omega), buildS_get _ (by omega), if_pos ⟨hx, rfl⟩]
theorem xS_build {xs : List B3} (hx : xs.length ≤ 64) (ts regs : List (BitVec 8)) {i : Nat} (hi : i < xs.length) : atS (buildS xs ts regs) (baseS regs + 128 + 2 * i) = (xs.getD i d3).2.1 := by
  have hb := baseS_le regs
  rw [← base_nat, show (((baseS regs).toNat : Int) + 128 + 2 * (i : Int)) = (((baseS regs).toNat + 128 + 2 * i : Nat) : Int) by omega, atS_nat _ _ (by omega), buildS_get _ hx, if_neg (by omega)]
  unfold layG
  rw [if_neg (by omega), if_pos (by omega), if_pos (by omega), show ((baseS regs).toNat + 128 + 2 * i - ((baseS regs).toNat + 128)) / 2 = i by omega]
theorem tS_build {xs : List B3} (hx : xs.length ≤ 64) (ts regs : List (BitVec 8)) {i : Nat} (hi : i < xs.length) : atS (buildS xs ts regs) (baseS regs + 128 + 2 * i + 1) = (xs.getD i d3).2.2 := by
  have hb := baseS_le regs
  rw [← base_nat, show (((baseS regs).toNat : Int) + 128 + 2 * (i : Int) + 1) = (((baseS regs).toNat + 128 + 2 * i + 1 : Nat) : Int) by omega, atS_nat _ _ (by omega), buildS_get _ hx, if_neg (by omega)]
  unfold layG
  rw [if_neg (by omega), if_pos (by omega), if_neg (by omega), show ((baseS regs).toNat + 128 + 2 * i + 1 - ((baseS regs).toNat + 128)) / 2 = i by omega]

/-! Sprites of a list. -/
def onB (regs : List (BitVec 8)) (line : Int) (s : B3) : Bool := decide (topS s.1 ≤ line) && decide (line < topS s.1 + heightS regs)
def goesB (s : B3) : Bool := s.1 != 208#8
theorem onS_build {xs : List B3} (hx : xs.length ≤ 64) (ts regs : List (BitVec 8)) (line : Int) {i : Nat} (hi : i < xs.length) : onS' (buildS xs ts regs) regs line i = onB regs line (xs.getD i d3) := by
  unfold onS' onB; rw [yS_build hx ts regs hi]

theorem takeWhile_len (xs : List B3) : (xs.takeWhile goesB).length ≤ xs.length := (List.takeWhile_sublist _).length_le
theorem takeWhile_goes (xs : List B3) {j : Nat} (h : j < (xs.takeWhile goesB).length) : (xs.getD j d3).1 ≠ 208#8 := by
  induction xs generalizing j with
  | nil => simp at h
  | cons s r ih =>
    rw [List.takeWhile_cons] at h
    split at h
    · rename_i c
      cases j with
      | zero => simpa [goesB] using c
      | succ j => exact ih (by simpa using h)
    · simp at h
theorem takeWhile_stop (xs : List B3) (h : (xs.takeWhile goesB).length < xs.length) : (xs.getD (xs.takeWhile goesB).length d3).1 = 208#8 := by
  induction xs with
  | nil => simp at h
  | cons s r ih =>
    rw [List.takeWhile_cons] at h ⊢
    split
    · rename_i c
      rw [if_pos c] at h
      exact ih (by simpa using h)
    · rename_i c
      simp only [List.length_nil, List.getD_cons_zero]
      simpa [goesB] using c
theorem endS_build {xs : List B3} (hx : xs.length ≤ 64) (ts regs : List (BitVec 8)) : endS (buildS xs ts regs) regs = (xs.takeWhile goesB).length := by
  have h1 := takeWhile_len xs
  have hb : ∀ j, j < (xs.takeWhile goesB).length → yS (buildS xs ts regs) regs j ≠ 208#8 := fun j hj => by
    rw [yS_build hx ts regs (by omega)]; exact takeWhile_goes xs hj
  rcases Nat.lt_or_ge (xs.takeWhile goesB).length xs.length with c | c
  · exact endS_at (by omega) (by rw [yS_build hx ts regs c]; exact takeWhile_stop xs c) hb
  · have e : (xs.takeWhile goesB).length = xs.length := by omega
    rw [e] at hb ⊢
    rcases Nat.lt_or_ge xs.length 64 with d | d
    · exact endS_at d (yS_end d ts regs) hb
    · rw [show xs.length = 64 by omega] at hb ⊢
      exact endS_none hb

theorem range_filter (xs : List B3) (q : B3 → Bool) (e : Nat) (he : e ≤ xs.length) : ((List.range e).filter (fun i => q (xs.getD i d3))).map (fun i => xs.getD i d3) = (xs.take e).filter q := by
  induction e with
  | zero => rfl
  | succ e ih =>
    rw [List.range_succ, List.filter_append, List.map_append, ih (by omega), List.take_add_one, List.filter_append]
    congr 1
    have hg : xs[e]? = some (xs.getD e d3) := by rw [List.getD_eq_getElem?_getD, List.getElem?_eq_getElem (by omega)]; rfl
    rw [hg]
    by_cases c : q (xs.getD e d3) = true
    · simp only [List.filter_cons, List.filter_nil, c, if_true, List.map_cons, List.map_nil, Option.toList_some]
    · simp only [List.filter_cons, List.filter_nil, c, if_false, List.map_nil, Option.toList_some, Bool.false_eq_true]
theorem take_while_len (xs : List B3) : xs.take (xs.takeWhile goesB).length = xs.takeWhile goesB := by
  induction xs with
  | nil => rfl
  | cons s r ih =>
    rw [List.takeWhile_cons]
    split
    · rw [List.length_cons, List.take_succ_cons, ih]
    · rfl
/-- Those of a list that are on a line. -/
def seenB (regs : List (BitVec 8)) (line : Int) (xs : List B3) : List B3 := if line < 0 ∨ 191 < line then [] else (xs.takeWhile goesB).filter (onB regs line)
theorem hits_build {xs : List B3} (hx : xs.length ≤ 64) (ts regs : List (BitVec 8)) (line : Int) : (hitsS (buildS xs ts regs) regs line).map (fun i => xs.getD i d3) = seenB regs line xs := by
  unfold hitsS seenB
  split
  · rfl
  · rw [endS_build hx, hitsTo]
    have h1 := takeWhile_len xs
    rw [← take_while_len xs, ← range_filter xs _ _ h1, List.filter_congr (q := fun i => onB regs line (xs.getD i d3)) (fun i hi => onS_build hx ts regs line (by rw [List.mem_range] at hi; rw [take_while_len] at hi; omega)), take_while_len]
theorem hits_lt {xs : List B3} (hx : xs.length ≤ 64) (ts regs : List (BitVec 8)) (line : Int) {i : Nat} (h : i ∈ hitsS (buildS xs ts regs) regs line) : i < xs.length := by
  unfold hitsS at h
  split at h
  · cases h
  · rw [endS_build hx] at h
    have := List.mem_range.1 (List.mem_filter.1 h).1
    have := takeWhile_len xs
    omega
theorem hits_len {xs : List B3} (hx : xs.length ≤ 64) (ts regs : List (BitVec 8)) (line : Int) : (hitsS (buildS xs ts regs) regs line).length = (seenB regs line xs).length := by
  rw [← hits_build hx ts regs line, List.length_map]
end Go.Proofs.Joy
namespace Go.Proofs.Joy
open Go.Ab

/-- A sprite's dots laid on a row: where it begins, its dots, how wide each. -/
def laid (left : Int) (dots : List (BitVec 8)) (wide : Nat) (s : RowS) : Nat → RowS
  | 0 => s
  | t + 1 => (laid left dots wide s t).put (left + t) (dots.getD (t / wide) 0#8)
theorem sprTo_laid (v regs : List (BitVec 8)) (line : Int) (i : Nat) (s : RowS) (t : Nat) : sprTo v regs line i s t = laid (leftS v regs i) (dotsL v regs i line) (wideS regs) s t := by
  induction t with
  | zero => rfl
  | succ t ih => rw [sprTo, laid, ih]

def leftB (regs : List (BitVec 8)) (s : B3) : Int := s.2.1.toNat - (if regs.getD 0 0#8 &&& 8#8 = 0#8 then 0 else 8)
def numB (regs : List (BitVec 8)) (s : B3) : Int :=
  let n : Nat := s.2.2.toNat + (if regs.getD 6 0#8 &&& 4#8 = 0#8 then 0 else 256)
  if regs.getD 1 0#8 &&& 2#8 = 0#8 then (n : Int) else ((n - n % 2 : Nat) : Int)
def downB (regs : List (BitVec 8)) (line : Int) (s : B3) : Int :=
  if regs.getD 1 0#8 &&& 1#8 = 0#8 then line - topS s.1 else (line - topS s.1).tdiv 2
def dotsB (ts regs : List (BitVec 8)) (line : Int) (s : B3) : List (BitVec 8) := rowS (layT ts 16384) (firstS (numB regs s + (downB regs line s).tdiv 8) ((downB regs line s).tmod 8)) false
def sprB (ts regs : List (BitVec 8)) (line : Int) (r : RowS) (s : B3) : RowS := laid (leftB regs s) (dotsB ts regs line s) (wideS regs) r (8 * wideS regs)
def row0 : RowS := ⟨List.replicate 256 0#8, false⟩
def rowB' (ts regs : List (BitVec 8)) (line : Int) (l : List B3) : RowS := l.foldl (sprB ts regs line) row0

theorem left_build {xs : List B3} (hx : xs.length ≤ 64) (ts regs : List (BitVec 8)) {i : Nat} (hi : i < xs.length) : leftS (buildS xs ts regs) regs i = leftB regs (xs.getD i d3) := by
  unfold leftS leftB; rw [xS_build hx ts regs hi]
theorem num_build {xs : List B3} (hx : xs.length ≤ 64) (ts regs : List (BitVec 8)) {i : Nat} (hi : i < xs.length) : numS (buildS xs ts regs) regs i = numB regs (xs.getD i d3) := by
  unfold numS numB; rw [tS_build hx ts regs hi]
theorem down_build {xs : List B3} (hx : xs.length ≤ 64) (ts regs : List (BitVec 8)) (line : Int) {i : Nat} (hi : i < xs.length) : downS (buildS xs ts regs) regs i line = downB regs line (xs.getD i d3) := by
  unfold downS downB; rw [yS_build hx ts regs hi]

theorem dotS_congr {v w : List (BitVec 8)} {first : Int} (h : ∀ p : Nat, p < 4 → atS v (first + p) = atS w (first + p)) (t : Bool) (j : Nat) : ∀ p, p ≤ 4 → dotS v first t p j = dotS w first t p j := by
  intro p
  induction p with
  | zero => intro _; rfl
  | succ p ih => intro hp; rw [dotS, dotS, ih (by omega), h p (by omega)]
theorem rowS_congr {v w : List (BitVec 8)} {first : Int} (h : ∀ p : Nat, p < 4 → atS v (first + p) = atS w (first + p)) (t : Bool) : rowS v first t = rowS w first t := by
  unfold rowS
  exact List.map_congr_left fun j _ => dotS_congr h t j 4 (Nat.le_refl _)

/-- The table lies above the tiles, and these are the first 256. -/
structure Apart (regs : List (BitVec 8)) : Prop where
  base : regs.getD 5 0#8 = 126#8
  low : regs.getD 6 0#8 &&& 4#8 = 0#8
theorem Apart.at {regs : List (BitVec 8)} (h : regs.getD 5 0#8 = 126#8) : (baseS regs).toNat = 16128 := by unfold baseS; rw [h]; rfl
theorem Apart.num {regs : List (BitVec 8)} (h : Apart regs) (s : B3) : 0 ≤ numB regs s ∧ numB regs s ≤ 255 := by
  have := s.2.2.isLt
  unfold numB
  simp only [h.low, if_true, Nat.add_zero]
  split <;> omega
theorem build_low {xs : List B3} (hx : xs.length ≤ 64) (ts : List (BitVec 8)) {regs : List (BitVec 8)} (h : regs.getD 5 0#8 = 126#8) {k : Nat} (hk : k < 16128) : atS (buildS xs ts regs) (k : Int) = atS (layT ts 16384) (k : Int) := by
  have ha := Apart.at h
  rw [atS_nat _ _ (by omega), atS_nat _ _ (by omega), buildS_get _ hx, ha, if_neg (by omega)]
  unfold layG
  rw [if_neg (by omega), if_neg (by omega)]
theorem dots_build {xs : List B3} (hx : xs.length ≤ 64) (ts : List (BitVec 8)) {regs : List (BitVec 8)} (h : Apart regs) {line : Int} (hl : 0 ≤ line ∧ line < 192) {i : Nat} (hi : i < xs.length) (ho : onB regs line (xs.getD i d3) = true) :
    dotsL (buildS xs ts regs) regs i line = dotsB ts regs line (xs.getD i d3) := by
  unfold dotsL dotsB
  rw [num_build hx ts regs hi, down_build hx ts regs line hi]
  unfold onB at ho
  rw [Bool.and_eq_true, decide_eq_true_eq, decide_eq_true_eq] at ho
  have hn := h.num (xs.getD i d3)
  have ht := topS_le (xs.getD i d3).1
  have hd : 0 ≤ downB regs line (xs.getD i d3) ∧ downB regs line (xs.getD i d3) ≤ 210 := by
    unfold downB
    split
    · omega
    · rw [Int.tdiv_eq_ediv_of_nonneg (by omega)]; omega
  refine rowS_congr (fun p hp => ?_) false
  have hd8 : (downB regs line (xs.getD i d3)).tdiv 8 = downB regs line (xs.getD i d3) / 8 := Int.tdiv_eq_ediv_of_nonneg hd.1
  rw [hd8]
  have hf : 0 ≤ firstS (numB regs (xs.getD i d3) + downB regs line (xs.getD i d3) / 8) ((downB regs line (xs.getD i d3)).tmod 8) ∧ firstS (numB regs (xs.getD i d3) + downB regs line (xs.getD i d3) / 8) ((downB regs line (xs.getD i d3)).tmod 8) ≤ 12000 := by
    unfold firstS; omega
  obtain ⟨q, hq⟩ := Int.eq_ofNat_of_zero_le hf.1
  rw [hq] at hf ⊢
  rw [← Int.natCast_add]
  exact build_low hx ts h.base (by omega)

theorem spr_build {xs : List B3} (hx : xs.length ≤ 64) (ts : List (BitVec 8)) {regs : List (BitVec 8)} (h : Apart regs) {line : Int} (hl : 0 ≤ line ∧ line < 192) {i : Nat} (hi : i < xs.length) (ho : onB regs line (xs.getD i d3) = true) (r : RowS) :
    sprS (buildS xs ts regs) regs line i r = sprB ts regs line r (xs.getD i d3) := by
  unfold sprS sprB
  rw [sprTo_laid, left_build hx ts regs hi, dots_build hx ts h hl hi ho]
theorem rowTo_build {xs : List B3} (hx : xs.length ≤ 64) (ts : List (BitVec 8)) {regs : List (BitVec 8)} (h : Apart regs) {line : Int} (hl : 0 ≤ line ∧ line < 192) (L : List Nat) (hL : ∀ i ∈ L, i < xs.length ∧ onB regs line (xs.getD i d3) = true) (r : RowS) :
    rowTo (buildS xs ts regs) regs line L r = (L.map (fun i => xs.getD i d3)).foldl (sprB ts regs line) r := by
  induction L generalizing r with
  | nil => rfl
  | cons i L ih =>
    obtain ⟨h1, h2⟩ := hL i (List.mem_cons_self)
    rw [rowTo, List.map_cons, List.foldl_cons, spr_build hx ts h hl h1 h2, ih (fun j hj => hL j (List.mem_cons_of_mem _ hj))]
/-- A picture's row, by its list alone. -/
theorem sprites_build {xs : List B3} (hx : xs.length ≤ 64) (ts : List (BitVec 8)) {regs : List (BitVec 8)} (h : Apart regs) {line : Int} (hl : 0 ≤ line ∧ line < 192) :
    spritesS (buildS xs ts regs) regs line = rowB' ts regs line ((seenB regs line xs).take 8) := by
  unfold spritesS rowB'
  rw [rowTo_build hx ts h hl _ (fun i hi => ?_), List.map_take, hits_build hx]
  · rfl
  · have hm := List.mem_of_mem_take hi
    refine ⟨hits_lt hx ts regs line hm, ?_⟩
    have := List.mem_map_of_mem (f := fun i => xs.getD i d3) hm
    rw [hits_build hx] at this
    unfold seenB at this
    rw [if_neg (by omega)] at this
    exact (List.mem_filter.1 this).2

/-! What is seen stays. -/
theorem putC_keep (c : List (BitVec 8)) (x : Int) (d : BitVec 8) (k : Nat) (h : c.getD k 0#8 ≠ 0#8) : (putC c x d).getD k 0#8 = c.getD k 0#8 := by
  unfold putC
  split
  · rfl
  · split
    · rfl
    · rename_i h2
      rw [getD_set8]
      split
      · rename_i e; obtain ⟨e, -⟩ := e; subst e; exact absurd h h2
      · rfl
theorem put_keep (s : RowS) (x : Int) (d : BitVec 8) (k : Nat) (h : s.c.getD k 0#8 ≠ 0#8) : (s.put x d).c.getD k 0#8 = s.c.getD k 0#8 := by
  unfold RowS.put; split
  · exact putC_keep _ _ _ _ h
  · rfl
theorem laid_keep (left : Int) (dots : List (BitVec 8)) (wide : Nat) (s : RowS) (k : Nat) (h : s.c.getD k 0#8 ≠ 0#8) (t : Nat) : (laid left dots wide s t).c.getD k 0#8 = s.c.getD k 0#8 := by
  induction t with
  | zero => rfl
  | succ t ih => rw [laid, put_keep _ _ _ _ (by rw [ih]; exact h), ih]
theorem fold_keep (ts regs : List (BitVec 8)) (line : Int) (l : List B3) (s : RowS) (k : Nat) (h : s.c.getD k 0#8 ≠ 0#8) : (l.foldl (sprB ts regs line) s).c.getD k 0#8 = s.c.getD k 0#8 := by
  induction l generalizing s with
  | nil => rfl
  | cons b l ih =>
    have e : (sprB ts regs line s b).c.getD k 0#8 = s.c.getD k 0#8 := laid_keep _ _ _ _ _ h _
    rw [List.foldl_cons, ih _ (by rw [e]; exact h), e]
theorem row_app (ts regs : List (BitVec 8)) (line : Int) (a b : List B3) (k : Nat) (h : (rowB' ts regs line a).c.getD k 0#8 ≠ 0#8) : (rowB' ts regs line (a ++ b)).c.getD k 0#8 = (rowB' ts regs line a).c.getD k 0#8 := by
  unfold rowB' at h ⊢
  rw [List.foldl_append, fold_keep _ _ _ _ _ _ h]

theorem laid_len (left : Int) (dots : List (BitVec 8)) (wide : Nat) (s : RowS) (t : Nat) : (laid left dots wide s t).c.length = s.c.length := by
  induction t with
  | zero => rfl
  | succ t ih => rw [laid, RowS.put_len, ih]

/-! Moved by some dots. -/
structure Shift (n : Nat) (s s' : RowS) : Prop where
  l : s.c.length = 256
  l' : s'.c.length = 256
  m : s'.m = s.m
  z : ∀ k, k < n → s'.c.getD k 0#8 = 0#8
  c : ∀ k, k + n < 256 → s'.c.getD (k + n) 0#8 = s.c.getD k 0#8
theorem Shift.put {n : Nat} {s s' : RowS} (h : Shift n s s') {k : Nat} (hk : k + n < 256) (d : BitVec 8) : Shift n (s.put (k : Int) d) (s'.put ((k : Int) + n) d) := by
  have e1 : ((k : Int)).toNat = k := by omega
  have e2 : ((k : Int) + n).toNat = k + n := by omega
  have hc := h.c k hk
  unfold RowS.put
  rw [if_pos (by omega), if_pos (by omega)]
  unfold putC putM
  rw [e1, e2, hc]
  by_cases hd : d = 0#8
  · rw [if_pos (.inl hd), if_pos (.inl hd), if_pos (.inl hd), if_pos (.inl hd)]; exact h
  · have d1 : ¬(d = 0#8 ∨ (k : Int) < 0) := fun h1 => h1.elim hd (fun h2 => by omega)
    have d2 : ¬(d = 0#8 ∨ (k : Int) + (n : Int) < 0) := fun h1 => h1.elim hd (fun h2 => by omega)
    rw [if_neg d1, if_neg d1, if_neg d2, if_neg d2]
    by_cases hz : s.c.getD k 0#8 = 0#8
    · have hz' : ¬(s.c.getD k 0#8 ≠ 0#8) := fun h => h hz
      rw [if_neg hz', if_neg hz', if_neg hz', if_neg hz']
      refine ⟨by simp [h.l], by simp [h.l'], h.m, fun j hj => ?_, fun j hj => ?_⟩
      · simp only [getD_set8]
        rw [if_neg (by omega)]; exact h.z j hj
      · simp only [getD_set8, h.l, h.l']
        by_cases e : k = j
        · subst e; rw [if_pos (by omega), if_pos (by omega)]
        · rw [if_neg (by omega), if_neg (by omega)]; exact h.c j hj
    · rw [if_pos hz, if_pos hz, if_pos hz, if_pos hz]
      exact ⟨h.l, h.l', rfl, h.z, h.c⟩
theorem Shift.laid {n : Nat} {s s' : RowS} (h : Shift n s s') {left : Nat} (dots : List (BitVec 8)) (wide : Nat) (t : Nat) (ht : left + t + n ≤ 256) : Shift n (laid left dots wide s t) (laid ((left : Int) + n) dots wide s' t) := by
  induction t with
  | zero => exact h
  | succ t ih =>
    have := (ih (by omega)).put (k := left + t) (by omega) (dots.getD (t / wide) 0#8)
    rw [Joy.laid, Joy.laid, show ((left : Int) + n + (t : Nat)) = ((left + t : Nat) : Int) + n by omega, show (left : Int) + (t : Nat) = ((left + t : Nat) : Int) by omega]
    exact this
theorem getD_rep0 (m k : Nat) : (List.replicate m 0#8).getD k 0#8 = 0#8 := by
  rw [List.getD_eq_getElem?_getD, List.getElem?_replicate]; split <;> rfl
theorem Shift.zero (n : Nat) : Shift n row0 row0 := ⟨List.length_replicate, List.length_replicate, rfl, fun k _ => getD_rep0 _ _, fun k _ => by
  show (List.replicate 256 0#8).getD _ _ = (List.replicate 256 0#8).getD _ _
  rw [getD_rep0, getD_rep0]⟩
def modX (n : Nat) (s : B3) : B3 := (s.1, BitVec.ofNat 8 (s.2.1.toNat % 160 + n), s.2.2)
theorem Shift.fold {n : Nat} (hn : n < 60) (ts : List (BitVec 8)) {regs : List (BitVec 8)} (h0 : regs.getD 0 0#8 &&& 8#8 = 0#8) (line : Int) (l : List B3) {s s' : RowS} (h : Shift n s s') :
    Shift n ((l.map (modX 0)).foldl (sprB ts regs line) s) ((l.map (modX n)).foldl (sprB ts regs line) s') := by
  induction l generalizing s s' with
  | nil => exact h
  | cons b l ih =>
    rw [List.map_cons, List.foldl_cons, List.map_cons, List.foldl_cons]
    refine ih ?_
    have hw := wideS_le regs
    have e0 : leftB regs (modX 0 b) = ((b.2.1.toNat % 160 : Nat) : Int) := by
      unfold leftB modX; rw [if_pos h0]; simp only [BitVec.toNat_ofNat]; omega
    have e1 : leftB regs (modX n b) = ((b.2.1.toNat % 160 : Nat) : Int) + n := by
      unfold leftB modX; rw [if_pos h0]; simp only [BitVec.toNat_ofNat]; omega
    unfold sprB
    rw [e0, e1]
    exact h.laid _ _ _ (by omega)
theorem modX_seen (n : Nat) (regs : List (BitVec 8)) (line : Int) (l : List B3) : seenB regs line (l.map (modX n)) = (seenB regs line l).map (modX n) := by
  unfold seenB
  split
  · rfl
  · rw [List.takeWhile_map, List.filter_map]; rfl
/-- ALL MOVED BY SOME DOTS. -/
theorem moves_shift {n : Nat} (hn : n < 60) (xs : List B3) (hx : xs.length ≤ 64) (ts : List (BitVec 8)) {regs : List (BitVec 8)} (h0 : regs.getD 0 0#8 &&& 8#8 = 0#8) (h : Apart regs) {line : Int} (hl : 0 ≤ line ∧ line < 192) :
    Shift n (spritesS (buildS (xs.map (modX 0)) ts regs) regs line) (spritesS (buildS (xs.map (modX n)) ts regs) regs line) := by
  rw [sprites_build (by simpa using hx) ts h hl, sprites_build (by simpa using hx) ts h hl, modX_seen, modX_seen, ← List.map_take, ← List.map_take]
  exact Shift.fold hn ts h0 line _ (Shift.zero n)
theorem moves_over (n : Nat) (xs : List B3) (hx : xs.length ≤ 64) (ts regs : List (BitVec 8)) (line : Int) : (hitsS (buildS (xs.map (modX n)) ts regs) regs line).length = (seenB regs line xs).length := by
  rw [hits_len (by simpa using hx), modX_seen, List.length_map]

/-! Who is first. -/
theorem takeWhile_self {xs : List B3} (h : ∀ a ∈ xs, goesB a = true) : xs.takeWhile goesB = xs := by
  induction xs with
  | nil => rfl
  | cons a l ih => rw [List.takeWhile_cons, if_pos (h a List.mem_cons_self), ih fun b hb => h b (List.mem_cons_of_mem _ hb)]
theorem takeWhile_mem {xs : List B3} {a : B3} (h : a ∈ xs.takeWhile goesB) : goesB a = true := by
  induction xs with
  | nil => simp at h
  | cons b l ih =>
    rw [List.takeWhile_cons] at h
    split at h
    · rename_i c
      rcases List.mem_cons.1 h with rfl | h
      · exact c
      · exact ih h
    · simp at h
theorem seen_len (regs : List (BitVec 8)) (line : Int) (xs : List B3) : (seenB regs line xs).length ≤ xs.length := by
  unfold seenB
  split
  · simp
  · exact Nat.le_trans (List.length_filter_le _ _) (takeWhile_len xs)
theorem seen_ahead (regs : List (BitVec 8)) (line : Int) (e : B3) (xs : List B3) : ∃ r, seenB regs line (e :: xs) = seenB regs line [e] ++ r := by
  unfold seenB
  split
  · exact ⟨[], rfl⟩
  · simp only [List.takeWhile_cons, List.takeWhile_nil]
    split
    · exact ⟨(xs.takeWhile goesB).filter (onB regs line), by rw [List.filter_cons, List.filter_cons]; split <;> rfl⟩
    · exact ⟨[], rfl⟩
theorem seen_behind (regs : List (BitVec 8)) (line : Int) (e : B3) (xs : List B3) : ∃ r, seenB regs line (xs ++ [e]) = seenB regs line xs ++ r := by
  unfold seenB
  split
  · exact ⟨[], rfl⟩
  · rw [List.takeWhile_append]
    split
    · rename_i h
      refine ⟨([e].takeWhile goesB).filter (onB regs line), ?_⟩
      have e2 : xs.takeWhile goesB = xs := takeWhile_self fun a ha => by
        have := List.takeWhile_prefix (p := goesB) (l := xs)
        have h3 := List.IsPrefix.eq_of_length this h
        rw [← h3] at ha
        exact takeWhile_mem ha
      rw [List.filter_append, e2]
    · exact ⟨[], by simp⟩
theorem first_ahead (xs : List B3) (hx : xs.length ≤ 6) (e : B3) (ts : List (BitVec 8)) {regs : List (BitVec 8)} (h : Apart regs) {line : Int} (hl : 0 ≤ line ∧ line < 192) (k : Nat) (hk : (spritesS (buildS [e] ts regs) regs line).c.getD k 0#8 ≠ 0#8) :
    (spritesS (buildS (e :: xs) ts regs) regs line).c.getD k 0#8 = (spritesS (buildS [e] ts regs) regs line).c.getD k 0#8 := by
  have h1 : (e :: xs).length ≤ 8 := by simp; omega
  have q0 : [e].length ≤ 8 := by simp
  have e1 := sprites_build (show [e].length ≤ 64 by simp) ts h hl
  have e2 := sprites_build (show (e :: xs).length ≤ 64 by omega) ts h hl
  rw [List.take_of_length_le (Nat.le_trans (seen_len _ _ _) q0)] at e1
  rw [List.take_of_length_le (Nat.le_trans (seen_len _ _ _) h1)] at e2
  rw [e1] at hk ⊢
  rw [e2]
  obtain ⟨r, hr⟩ := seen_ahead regs line e xs
  rw [hr]
  exact row_app _ _ _ _ _ _ hk
theorem first_behind (xs : List B3) (hx : xs.length ≤ 6) (e : B3) (ts : List (BitVec 8)) {regs : List (BitVec 8)} (h : Apart regs) {line : Int} (hl : 0 ≤ line ∧ line < 192) (k : Nat) (hk : (spritesS (buildS xs ts regs) regs line).c.getD k 0#8 ≠ 0#8) :
    (spritesS (buildS (xs ++ [e]) ts regs) regs line).c.getD k 0#8 = (spritesS (buildS xs ts regs) regs line).c.getD k 0#8 := by
  have h1 : (xs ++ [e]).length ≤ 8 := by simp; omega
  have e1 := sprites_build (show xs.length ≤ 64 by omega) ts h hl
  have e2 := sprites_build (show (xs ++ [e]).length ≤ 64 by omega) ts h hl
  rw [List.take_of_length_le (Nat.le_trans (seen_len _ _ _) (show xs.length ≤ 8 by omega))] at e1
  rw [List.take_of_length_le (Nat.le_trans (seen_len _ _ _) h1)] at e2
  rw [e1] at hk ⊢
  rw [e2]
  obtain ⟨r, hr⟩ := seen_behind regs line e xs
  rw [hr]
  exact row_app _ _ _ _ _ _ hk
theorem few_hits (xs : List B3) (hx : xs.length ≤ 8) (ts regs : List (BitVec 8)) (line : Int) : (hitsS (buildS xs ts regs) regs line).length ≤ 8 := by
  rw [hits_len (by omega)]; exact Nat.le_trans (seen_len _ _ _) hx

/-! Behind the end. -/
theorem takeWhile_idem (xs : List B3) : (xs.takeWhile goesB).takeWhile goesB = xs.takeWhile goesB := takeWhile_self fun _ ha => takeWhile_mem ha
theorem ends_same (xs : List B3) (hx : xs.length ≤ 64) (ts regs : List (BitVec 8)) (line : Int) : (hitsS (buildS (xs.takeWhile goesB) ts regs) regs line).length = (hitsS (buildS xs ts regs) regs line).length := by
  rw [hits_len (Nat.le_trans (takeWhile_len xs) hx), hits_len hx]
  unfold seenB
  rw [takeWhile_idem]
/-- Higher sprites are on no fewer lines, of the same memory. -/
theorem ends_tall (bs regs regs' : List (BitVec 8)) (hb : baseS regs' = baseS regs) (hh : heightS regs ≤ heightS regs') (line : Int) : (hitsS bs regs line).length ≤ (hitsS bs regs' line).length := by
  have hy : ∀ i, yS bs regs' i = yS bs regs i := fun i => by unfold yS; rw [hb]
  have he : endS bs regs' = endS bs regs := by unfold endS; simp only [hy]
  unfold hitsS
  split
  · exact Nat.le_refl _
  · rw [he]
    unfold hitsTo
    have key : ∀ l : List Nat, (l.filter (onS' bs regs line)).length ≤ (l.filter (onS' bs regs' line)).length := by
      intro l
      induction l with
      | nil => exact Nat.le_refl _
      | cons i l ih =>
        rw [List.filter_cons, List.filter_cons]
        by_cases c : onS' bs regs line i = true
        · have c2 : onS' bs regs' line i = true := by
            unfold onS' at c ⊢
            rw [hy]
            rw [Bool.and_eq_true, decide_eq_true_eq, decide_eq_true_eq] at c ⊢
            omega
          rw [if_pos c, if_pos c2, List.length_cons, List.length_cons]; omega
        · rw [if_neg c]
          split
          · rw [List.length_cons]; omega
          · exact ih
    exact key _
theorem height_tall (regs : List (BitVec 8)) : heightS regs ≤ 32 := (heightS_le regs).2
end Go.Proofs.Joy
namespace Go.Proofs.Joy
open Go.Ab

set_option maxRecDepth 20000
def regsA : List (BitVec 8) := [0#8, 0#8, 0#8, 0#8, 0#8, 126#8, 0#8, 0#8, 0#8, 0#8, 0#8]
def zeroL : List (BitVec 8) := List.replicate 16384 0#8
theorem zeroL_len : zeroL.length = 16384 := List.length_replicate
def memA : List (BitVec 8) := (((zeroL.set 16128 255#8).set 16129 208#8).set 16256 5#8).set 0 128#8
theorem memA_get (k : Nat) : memA.getD k 0#8 = if k = 0 then 128#8 else if k = 16256 then 5#8 else if k = 16129 then 208#8 else if k = 16128 then 255#8 else 0#8 := by
  unfold memA
  simp only [getD_set8, List.length_set, zeroL_len]
  have h0 : zeroL.getD k 0#8 = 0#8 := getD_rep0 _ _
  rw [h0]
  by_cases h1 : k = 0
  · rw [if_pos (by omega), if_pos h1]
  by_cases h2 : k = 16256
  · rw [if_neg (by omega), if_pos (by omega), if_neg h1, if_pos h2]
  by_cases h3 : k = 16129
  · rw [if_neg (by omega), if_neg (by omega), if_pos (by omega), if_neg h1, if_neg h2, if_pos h3]
  by_cases h4 : k = 16128
  · rw [if_neg (by omega), if_neg (by omega), if_neg (by omega), if_pos (by omega), if_neg h1, if_neg h2, if_neg h3, if_pos h4]
  · rw [if_neg (by omega), if_neg (by omega), if_neg (by omega), if_neg (by omega), if_neg h1, if_neg h2, if_neg h3, if_neg h4]
theorem baseA : baseS regsA = 16128 := by decide
theorem yA (i : Nat) (h : i < 64) : yS memA regsA i = if i = 1 then 208#8 else if i = 0 then 255#8 else 0#8 := by
  unfold yS
  rw [baseA, show (16128 : Int) + (i : Int) = ((16128 + i : Nat) : Int) by omega, atS_nat _ _ (by omega), memA_get, if_neg (by omega), if_neg (by omega)]
  by_cases h1 : i = 1
  · subst h1; rfl
  · by_cases h0 : i = 0
    · subst h0; rfl
    · rw [if_neg (by omega), if_neg (by omega), if_neg h1, if_neg h0]
theorem hitsA : hitsS memA regsA 0 = [0] := by
  unfold hitsS
  rw [if_neg (by decide), endS_at (i := 1) (by decide) (by rw [yA 1 (by decide)]; rfl) (fun j hj => by rw [yA j (by omega), show j = 0 by omega]; decide)]
  unfold hitsTo
  have e : onS' memA regsA 0 0 = true := by unfold onS'; rw [yA 0 (by decide)]; decide
  rw [show List.range 1 = [0] from rfl, List.filter_cons, e]; rfl
theorem spritesA : (spritesS memA regsA 0).m = false ∧ (spritesS memA regsA 0).c.getD 5 0#8 = 17#8 ∧ (spritesS memA regsA 0).c.getD 6 0#8 = 0#8 ∧ (spritesS memA regsA 0).c.length = 256 := by
  have el : leftS memA regsA 0 = 5 := by
    unfold leftS
    rw [baseA, show (16128 : Int) + 128 + 2 * ((0 : Nat) : Int) = ((16256 : Nat) : Int) by decide, atS_nat _ _ (by decide), memA_get]; rfl
  have en : numS memA regsA 0 = 0 := by
    unfold numS
    rw [baseA, show (16128 : Int) + 128 + 2 * ((0 : Nat) : Int) + 1 = ((16257 : Nat) : Int) by decide, atS_nat _ _ (by decide), memA_get]; rfl
  have ed : downS memA regsA 0 0 = 0 := by unfold downS; rw [yA 0 (by decide)]; rfl
  have er : dotsL memA regsA 0 0 = [1#8, 0#8, 0#8, 0#8, 0#8, 0#8, 0#8, 0#8] := by
    unfold dotsL
    rw [en, ed]
    have : rowS memA (firstS (0 + Int.tdiv 0 8) (Int.tmod 0 8)) false = rowS [128#8] (firstS (0 + Int.tdiv 0 8) (Int.tmod 0 8)) false := rowS_congr (fun p hp => by
      rw [show firstS (0 + Int.tdiv 0 8) (Int.tmod 0 8) + (p : Int) = (p : Int) by rw [show firstS (0 + Int.tdiv 0 8) (Int.tmod 0 8) = 0 from by decide]; omega, atS_nat _ _ (by omega), atS_nat _ _ (by omega), memA_get]
      match p, hp with
      | 0, _ => rfl
      | 1, _ => rfl
      | 2, _ => rfl
      | 3, _ => rfl) false
    rw [this]
    decide
  have e : spritesS memA regsA 0 = laid 5 [1#8, 0#8, 0#8, 0#8, 0#8, 0#8, 0#8, 0#8] 1 row0 8 := by
    unfold spritesS
    rw [hitsA]
    show sprS memA regsA 0 0 row0 = _
    unfold sprS
    rw [sprTo_laid, el, er]
    rfl
  rw [e]
  exact ⟨by decide +kernel, by decide +kernel, by decide +kernel, laid_len _ _ _ _ _⟩

theorem yZ (i : Nat) (h : i < 64) : yS zeroL regsA i = 0#8 := by
  unfold yS
  rw [baseA, show (16128 : Int) + (i : Int) = ((16128 + i : Nat) : Int) by omega, atS_nat _ _ (by omega)]
  exact getD_rep0 _ _
theorem hitsZ1 : (hitsS zeroL regsA 1).length = 64 := by
  unfold hitsS
  rw [if_neg (by decide), endS_none (fun j hj => by rw [yZ j hj]; decide)]
  unfold hitsTo
  rw [List.filter_eq_self.2 (fun i hi => by unfold onS'; rw [yZ i (List.mem_range.1 hi)]; decide)]
  exact List.length_range
theorem hitsZ0 : hitsS zeroL regsA 0 = [] := by
  unfold hitsS
  rw [if_neg (by decide), endS_none (fun j hj => by rw [yZ j hj]; decide)]
  unfold hitsTo
  rw [List.filter_eq_nil_iff]
  intro i hi
  unfold onS'; rw [yZ i (List.mem_range.1 hi)]; decide
theorem hitsZ2 : hitsS zeroL regsA 192 = [] := by unfold hitsS; rw [if_pos (by decide)]
end Go.Proofs.Joy
namespace Go.Proofs.Joy
open Go.Ab

/-! The ground of a line -/
def colS (regs : List (BitVec 8)) (line x : Int) : Int := if regs.getD 0 0#8 &&& 64#8 ≠ 0#8 ∧ line < 16 then x % 256 else (x % 256 - (regs.getD 8 0#8).toNat) % 256
def lowS (regs : List (BitVec 8)) (line x : Int) : Int := if regs.getD 0 0#8 &&& 128#8 ≠ 0#8 ∧ 192 ≤ x % 256 then line else (line + (regs.getD 9 0#8).toNat) % 224
def tabS (regs : List (BitVec 8)) : Int := ((regs.getD 2 0#8 &&& 14#8).toNat * 1024 : Nat)
/-- What an entry says: which tile, and how. -/
def entN (v : List (BitVec 8)) (a : Int) : Nat := (atS v a).toNat + 256 * (atS v (a + 1)).toNat
def entT (v : List (BitVec 8)) (a : Int) : Int := (entN v a % 512 : Nat)
def entH (v : List (BitVec 8)) (a : Int) : BitVec 8 := BitVec.ofNat 8 (entN v a / 512 % 16)
def plcS (regs : List (BitVec 8)) (row col8 : Int) : Int := tabS regs + 64 * (row / 8) + 2 * col8
def inS (how : BitVec 8) (r : Int) : Int := if how &&& 2#8 = 0#8 then r % 8 else 7 - r % 8
/-- The dots of a place, as they are seen. -/
def seenS (v regs : List (BitVec 8)) (row col8 : Int) : List (BitVec 8) :=
  let a := plcS regs row col8
  rowS v (firstS (entT v a) (inS (entH v a) row)) (decide (entH v a &&& 1#8 ≠ 0#8))
def howS (v regs : List (BitVec 8)) (row col8 : Int) : BitVec 8 := entH v (plcS regs row col8)
def gdotS (v regs : List (BitVec 8)) (line x : Int) : BitVec 8 := (seenS v regs (lowS regs line x) (colS regs line x / 8)).getD (colS regs line x % 8).toNat 0#8
def ghowS (v regs : List (BitVec 8)) (line x : Int) : BitVec 8 := howS v regs (lowS regs line x) (colS regs line x / 8)
def gcolS (v regs : List (BitVec 8)) (line x : Int) : BitVec 8 := gdotS v regs line x + (if ghowS v regs line x &&& 4#8 = 0#8 then 0#8 else 16#8)
def gfrS (v regs : List (BitVec 8)) (line x : Int) : Bool := decide (ghowS v regs line x &&& 8#8 ≠ 0#8) && decide (gdotS v regs line x ≠ 0#8)

/-! A line -/
def paintS (cram : List (BitVec 8)) (n : Int) : BitVec 8 := cram.getD (n % 32).toNat 0#8 &&& 63#8
def edgeS (cram regs : List (BitVec 8)) : BitVec 8 := paintS cram (16 + (regs.getD 7 0#8 &&& 15#8).toNat)
def shownS (regs : List (BitVec 8)) : Bool := decide (regs.getD 1 0#8 &&& 64#8 ≠ 0#8)
def blankS (regs : List (BitVec 8)) : Bool := decide (regs.getD 0 0#8 &&& 32#8 ≠ 0#8)
def inLine (line : Int) : Bool := decide (0 ≤ line) && decide (line < 192)
def mixD (v regs : List (BitVec 8)) (line : Int) (x : Nat) : BitVec 8 :=
  if (spritesS v regs line).c.getD x 0#8 ≠ 0#8 ∧ gfrS v regs line x = false then (spritesS v regs line).c.getD x 0#8 else gcolS v regs line x
/-- A dot of a line, seen through colors. -/
def seeS (v cram regs : List (BitVec 8)) (line : Int) (x : Nat) : BitVec 8 :=
  if inLine line = false then 0#8
  else if shownS regs = false ∨ x < 8 ∧ blankS regs = true then edgeS cram regs
  else paintS cram (mixD v regs line x).toNat
def lineC (v cram regs : List (BitVec 8)) (line : Int) : List (BitVec 8) := (List.range 256).map (seeS v cram regs line)
def lineO (v regs : List (BitVec 8)) (line : Int) : Bool := inLine line && shownS regs && decide (8 < (hitsS v regs line).length)
def lineM (v regs : List (BitVec 8)) (line : Int) : Bool := inLine line && shownS regs && (spritesS v regs line).m

theorem lineC_len (v cram regs : List (BitVec 8)) (line : Int) : (lineC v cram regs line).length = 256 := by simp [lineC]
theorem lineC_getD (v cram regs : List (BitVec 8)) (line : Int) {x : Nat} (h : x < 256) : (lineC v cram regs line).getD x 0#8 = seeS v cram regs line x := by
  simp [lineC, List.getD_eq_getElem?_getD, h]
theorem and63_le (b : BitVec 8) : (b &&& 63#8).toNat ≤ 63 := by rw [BitVec.toNat_and]; exact Nat.and_le_right
theorem paintS_le (cram : List (BitVec 8)) (n : Int) : (paintS cram n).toNat ≤ 63 := and63_le _
theorem seeS_le (v cram regs : List (BitVec 8)) (line : Int) (x : Nat) : (seeS v cram regs line x).toNat ≤ 63 := by
  unfold seeS
  split
  · decide
  · split
    · exact paintS_le _ _
    · exact paintS_le _ _

theorem bit01 (b : BitVec 8) (k : Nat) : (b >>> k) &&& 1#8 = 0#8 ∨ (b >>> k) &&& 1#8 = 1#8 := by
  generalize b >>> k = c
  revert c; decide
theorem umod2 (c : BitVec 8) : c % 2#8 = c &&& 1#8 := by revert c; decide
/-- The reference's way to add up a dot, plane by plane from above. -/
def refD (v : List (BitVec 8)) (first : Int) (i : Nat) : Nat → BitVec 8
  | 0 => 0#8
  | k + 1 => 2#8 * refD v first i k + (atS v (first + (3 - k : Nat)) >>> (7 - i)) % 2#8
theorem refD_dot (v : List (BitVec 8)) (first : Int) (i : Nat) : refD v first i 4 = dotS v first false 4 i := by
  simp only [refD, dotS, bitS, umod2, Nat.reduceSub, if_false, Bool.false_eq_true]
  have h0 := bit01 (atS v (first + (0 : Nat))) (7 - i)
  have h1 := bit01 (atS v (first + (1 : Nat))) (7 - i)
  have h2 := bit01 (atS v (first + (2 : Nat))) (7 - i)
  have h3 := bit01 (atS v (first + (3 : Nat))) (7 - i)
  rcases h0 with h0 | h0 <;> rcases h1 with h1 | h1 <;> rcases h2 with h2 | h2 <;> rcases h3 with h3 | h3 <;> rw [h0, h1, h2, h3] <;> rfl
theorem dotS_turn (v : List (BitVec 8)) (first : Int) (p : Nat) {j : Nat} (hj : j < 8) : dotS v first true p j = dotS v first false p (7 - j) := by
  induction p with
  | zero => rfl
  | succ p ih =>
    simp only [dotS, ih, if_true, Bool.false_eq_true, if_false]
    rw [show 7 - (7 - j) = j by omega]
theorem rowS_getD (v : List (BitVec 8)) (first : Int) (t : Bool) {j : Nat} (hj : j < 8) : (rowS v first t).getD j 0#8 = dotS v first false 4 (if t = true then 7 - j else j) := by
  have : (rowS v first t).getD j 0#8 = dotS v first t 4 j := by simp [rowS, List.getD_eq_getElem?_getD, hj]
  rw [this]
  cases t
  · rfl
  · rw [dotS_turn v first 4 hj]; rfl
theorem refD_lt (v : List (BitVec 8)) (first : Int) (i : Nat) : (refD v first i 4).toNat < 16 := by
  simp only [refD, umod2]
  have h0 := bit01 (atS v (first + (0 : Nat))) (7 - i)
  have h1 := bit01 (atS v (first + (1 : Nat))) (7 - i)
  have h2 := bit01 (atS v (first + (2 : Nat))) (7 - i)
  have h3 := bit01 (atS v (first + (3 : Nat))) (7 - i)
  simp only [Nat.reduceSub]
  rcases h0 with h0 | h0 <;> rcases h1 with h1 | h1 <;> rcases h2 with h2 | h2 <;> rcases h3 with h3 | h3 <;> rw [h0, h1, h2, h3] <;> decide
theorem dotS_lt (v : List (BitVec 8)) (first : Int) (t : Bool) {j : Nat} (hj : j < 8) : (dotS v first t 4 j).toNat < 16 := by
  cases t
  · rw [← refD_dot]; exact refD_lt _ _ _
  · rw [dotS_turn v first 4 hj, ← refD_dot]; exact refD_lt _ _ _
theorem or_hi (a b : Nat) (ha : a < 256) (hb : b < 256) : or64 (a : Int) ((256 * b : Nat) : Int) = ((a + 256 * b : Nat) : Int) := by
  unfold or64
  have e : (BitVec.ofInt 64 (a : Int) ||| BitVec.ofInt 64 ((256 * b : Nat) : Int)).toNat = a + 256 * b := by
    rw [BitVec.toNat_or, BitVec.ofInt_natCast, BitVec.ofInt_natCast, BitVec.toNat_ofNat, BitVec.toNat_ofNat, Nat.mod_eq_of_lt (by omega), Nat.mod_eq_of_lt (by omega)]
    have := Nat.two_pow_add_eq_or_of_lt (i := 8) ha b
    rw [show (2 : Nat) ^ 8 = 256 from rfl] at this
    rw [Nat.or_comm, ← this]; omega
  rw [e, wrap_id _ (by omega) (by omega)]
end Go.Proofs.Joy
namespace Go.Proofs.Joy
open Go.Ab Go.Proofs

set_option maxHeartbeats 1000000
set_option maxRecDepth 20000

theorem r15_start (c : BitVec 8) (l f o k : Bool) (line : Int) (rel : BitVec 8) (H : Heap) (n : Nat) (K : AV → Heap → Nat → Prop)
    (h : K (.ag [.u8 (startS ⟨c, l, f, o, k⟩ line rel).c, .bo (startS ⟨c, l, f, o, k⟩ line rel).l, .bo (startS ⟨c, l, f, o, k⟩ line rel).f, .bo (startS ⟨c, l, f, o, k⟩ line rel).o, .bo (startS ⟨c, l, f, o, k⟩ line rel).k]) H n) :
    ACalls Tryz.prog 73 [.ag [.u8 c, .bo l, .bo f, .bo o, .bo k], .i64 line, .u8 rel] H n K := by
  refine ACalls.of_ev dr0 Tryz.func73 rfl (by decide +kernel) (by decide +kernel) (show 3 ≤ 33 by decide) (by simp) fun wf => ?_
  simp only [go_sem, Tryz.f73]
  repeat' first | apply And.intro | intro _
  all_goals
    refine Fin.back wf ?_ (fun i hi => by simp only [go_sem, hi]) (by simp [AV.ok, AV.oks, AV.one])
    by_cases hq : 262 ≤ line <;> first | (exfalso; omega) | simp_all [startS]

theorem ev_bitof (x : BitVec 8) : (x / 32 % 2 == 1) = (x &&& 32 != 0) ∧ (x / 16 % 2 == 1) = (x &&& 16 != 0) := by
  have : ∀ n : Fin 256, ((BitVec.ofFin (w := 8) n) / 32 % 2 == 1) = ((BitVec.ofFin (w := 8) n) &&& 32 != 0) ∧ ((BitVec.ofFin (w := 8) n) / 16 % 2 == 1) = ((BitVec.ofFin (w := 8) n) &&& 16 != 0) := by decide +kernel
  exact this x.toFin

theorem r15_asks (c : BitVec 8) (l f o k : Bool) (zero one : BitVec 8) (H : Heap) (n : Nat) (K : AV → Heap → Nat → Prop)
    (h : K (.bo (asksS ⟨c, l, f, o, k⟩ zero one)) H n) : ACalls Tryz.prog 58 [.ag [.u8 c, .bo l, .bo f, .bo o, .bo k], .u8 zero, .u8 one] H n K := by
  refine ACalls.of_ev dr0 Tryz.func58 rfl (by decide +kernel) (by decide +kernel) (show 3 ≤ 23 by decide) (by simp) fun wf => ?_
  simp only [asksS] at h
  rw [← (ev_bitof one).1, ← (ev_bitof zero).2] at h
  simp only [go_sem, Tryz.f58]
  repeat' first | apply And.intro | intro _
  all_goals
    refine Fin.back wf ?_ (fun i hi => by simp only [go_sem, hi]) (by simp [AV.ok, AV.oks, AV.one])
    simp_all

theorem r15_status (c : BitVec 8) (l f o k : Bool) (H : Heap) (n : Nat) (K : AV → Heap → Nat → Prop)
    (h : K (.u8 (31 ||| evBit 128 f ||| evBit 64 o ||| evBit 32 k)) H n) :
    ACalls Tryz.prog 46 [.ag [.u8 c, .bo l, .bo f, .bo o, .bo k]] H n K := by
  refine ACalls.of_ev dr0 Tryz.func46 rfl (by decide +kernel) (by decide +kernel) (show 1 ≤ 17 by decide) (by simp) fun wf => ?_
  simp only [go_sem, Tryz.f46]
  repeat' first | apply And.intro | intro _
  all_goals
    refine Fin.back wf ?_ (fun i hi => by simp only [go_sem, hi]) (by simp [AV.ok, AV.oks, AV.one])
    simp_all [evBit]
theorem r15_wait (c : BitVec 8) (l f o k : Bool) (line : Int) (rel : BitVec 8) (H : Heap) (n : Nat) (K : AV → Heap → Nat → Prop)
    (h : K (.i64 (refWaitS ⟨c, l, f, o, k⟩ line rel)) H n) : ACalls Tryz.prog 60 [.ag [.u8 c, .bo l, .bo f, .bo o, .bo k], .i64 line, .u8 rel] H n K := by
  refine ACalls.of_awp Tryz.func60 rfl (by decide +kernel) (show 3 ≤ 48 by decide) (by simp) fun wf => ?_
  refine awp_step dr0 (by decide +kernel) ?_
  simp only [go_sem, Tryz.f60]
  refine awp_cut dr0 (fun e H' n' => (e = [(1, .i64 line), (2, .u8 rel), (3, .pt n 0)] ∧ H' = H.upd n (some ⟨[.u8 c, .bo l, .bo f, .bo o, .bo k], 32, false⟩) ∧ n' = n + 1) ∧ ¬ line < 0 ∧ ¬ 262 ≤ line ∧ ¬ (l = true ∧ f = true)) (by decide +kernel) ?_ ?_
  · simp only [go_sem]
    repeat' first | apply And.intro | intro _
    all_goals first
      | exact Fin.back wf (by by_cases hq : 262 ≤ line <;> first | (exfalso; omega) | simpa [refWaitS, *] using h) (fun i hi => by simp only [go_sem, hi]) rfl
      | exact ⟨_, _, Env.le_cons rfl (Env.le_cons rfl (Env.le_cons rfl (Env.le_nil _))), Heap.le.refl _, ⟨rfl, rfl⟩, by assumption, by omega, by simp_all⟩
  rintro e H' n' ⟨⟨rfl, rfl, rfl⟩, h1, h2, h3⟩
  have hres : refWaitS ⟨c, l, f, o, k⟩ line rel = rwS 786 1 ⟨c, l, f, o, k⟩ line rel := by simp only [refWaitS]; rw [if_neg]; rintro (q | q | q) <;> first | omega | exact h3 q
  rw [hres] at h
  have h' : K (.i64 (rwS 786 (787 - ((786 : Nat) : Int)) ⟨c, l, f, o, k⟩ line rel)) H n := by
    have e : (787 - ((786 : Nat) : Int)) = 1 := by decide
    rw [e]; exact h
  refine awp_seq (awp_step dr0 (by decide +kernel) ?_)
  simp only [go_sem]
  refine awp_block ?_
  refine awp_loop2 (T := dr0) (S := Nat) (fun s env H' n' => ∃ (c : BitVec 8) (l f o k : Bool) (line : Int), 0 ≤ line ∧ line < 262 ∧ s ≤ 786 ∧ env = [(1, .i64 line), (2, .u8 rel), (3, .pt n 0), (7, .i64 (787 - s))] ∧ H' = H.upd n (some ⟨[.u8 c, .bo l, .bo f, .bo o, .bo k], 32, false⟩) ∧ n' = n + 1 ∧
    K (.i64 (rwS s (787 - s) ⟨c, l, f, o, k⟩ line rel)) H n) id (by decide +kernel) ?_ 786 ⟨_, _, Env.le_cons rfl (Env.le_cons rfl (Env.le_cons rfl (Env.le_cons rfl (Env.le_nil _)))), Heap.le.refl _, c, l, f, o, k, line, by omega, by omega, Nat.le_refl _, rfl, rfl, rfl, h'⟩
  rintro s env H' n' ⟨c, l, f, o, k, line, hl0, hl1, hs, rfl, rfl, rfl, hk⟩
  simp only [go_sem]
  refine ⟨fun hc => ?_, fun hc => ?_⟩
  · obtain ⟨q, rfl⟩ : ∃ q, s = q + 1 := ⟨s - 1, by omega⟩
    refine r15_start _ _ _ _ _ _ _ _ _ _ ?_
    simp only [go_sem]
    simp only [rwS] at hk
    generalize startS ⟨c, l, f, o, k⟩ line rel = x at hk ⊢
    have e1 : wrap64 (line + 1) = line + 1 := wrap_id _ (by omega) (by omega)
    have e2 : wrap64 (787 - ((q + 1 : Nat) : Int) + 1) = 787 - (q : Int) := by rw [wrap_id _ (by omega) (by omega)]; omega
    have e3 : (line + 1).tmod 262 = (line + 1) % 262 := Int.tmod_eq_emod_of_nonneg (by omega)
    have e4 : 787 - ((q + 1 : Nat) : Int) + 1 = 787 - (q : Int) := by omega
    rw [e4] at hk
    simp only [e1, e2, e3]
    refine ⟨fun hb => ⟨fun hb2 => ?_, fun hb2 => ?_⟩, fun hb => ?_⟩
    · refine Fin.back wf ?_ (fun i hi => by simp only [go_sem, hi]) rfl
      simp_all
    · have hk' : K (.i64 (rwS q (787 - (q : Int)) x ((line + 1) % 262) rel)) H n := by simp_all
      refine ⟨q, by simp, [(1, .i64 ((line + 1) % 262)), (2, .u8 rel), (3, .pt n 0), (7, .i64 (787 - (q : Int)))], _, n + 1, Env.le_cons rfl (Env.le_cons rfl (Env.le_cons rfl (Env.le_cons rfl (Env.le_nil _)))), Heap.le_on (H := H.upd n (some ⟨[.u8 x.c, .bo x.l, .bo x.f, .bo x.o, .bo x.k], 32, false⟩)) (n := n + 1) (Heap.wf_upd wf (by simp [AV.ok])) (fun i hi => ?_), by omega, .inr ⟨by omega, Heap.wf_upd wf (by simp [AV.ok]), ?_⟩,
        x.c, x.l, x.f, x.o, x.k, (line + 1) % 262, by omega, by omega, by omega, rfl, rfl, rfl, hk'⟩
      · rcases Nat.lt_succ_iff_lt_or_eq.1 hi with hi | rfl
        · simp only [go_sem, hi]
        · simp only [go_sem]
      · exact Env.okAt_cons rfl (Env.okAt_cons rfl (Env.okAt_cons (by simp [AV.ok]) (Env.okAt_cons rfl (Env.okAt_nil _))))
    · refine Fin.back wf ?_ (fun i hi => by simp only [go_sem, hi]) rfl
      simp_all
  · have : s = 0 := by omega
    subst this
    refine ev_sound (T := dr0) _ _ _ _ _ (by decide +kernel) ?_
    simp only [go_sem]
    exact Fin.back wf hk (fun i hi => by simp only [go_sem, hi]) rfl
end Go.Proofs.Joy
namespace Go.Proofs.Joy
open Go.Ab Go.Proofs

set_option maxHeartbeats 1000000
set_option maxRecDepth 20000

theorem tile_at (v : AV) (bs : List (BitVec 8)) (a : Int) (H : Heap) (n : Nat) (K : AV → Heap → Nat → Prop) (hv : bytesIn H v bs) (hvok : v.ok n = true) (h : K (.u8 (atS bs a)) H n) : ACalls Tryz.prog 93 [v, .i64 a] H n K := by
  refine ACalls.of_ev dr0 Tryz.func93 rfl (by decide +kernel) (by decide +kernel) (show 2 ≤ 15 by decide) (by simp [hv.ne]) fun wf => ?_
  have hlb : ∀ K, lenB (some .slice) v K = K (.i64 bs.length) := lenB_bytes hv
  have e : and64 a 16383 = a % 16384 := and64_mask 14 (by decide) a
  have h0 := Int.emod_nonneg a (show (16384 : Int) ≠ 0 by decide)
  simp only [go_sem, Tryz.f93, hlb, e]
  refine ⟨fun hlt => ?_, fun hlt => ?_⟩
  · obtain ⟨k, hk⟩ := Int.eq_ofNat_of_zero_le h0
    rw [hk] at hlt
    have hk' : k < bs.length := by omega
    rcases hv with ⟨rfl, rfl⟩ | ⟨su, b, o, c, blk, rfl, g0, g1, g2, g3⟩
    · simp at hk'
    obtain ⟨q1, q2⟩ := cells_at g2 g3 hk'
    simp only [go_sem, hk, g1, q1, q2, hlt, hk']
    unfold atS at h
    rw [hk, Int.toNat_natCast] at h
    exact Fin.back wf h (fun _ _ => rfl) rfl
  · unfold atS at h
    rw [List.getD_eq_getElem?_getD, List.getElem?_eq_none (by omega)] at h
    exact Fin.back wf h (fun _ _ => rfl) rfl
end Go.Proofs.Joy
namespace Go.Proofs.Joy
open Go.Ab Go.Proofs

set_option maxHeartbeats 1000000
set_option maxRecDepth 20000

structure TR where
  i : Nat

def E0 (v : AV) (turned : Bool) (first : Int) (n p : Nat) (b : BitVec 8) (i : Nat) : Env := [(0, v), (3, .bo turned), (8, .pt n 0), (9, .pt (n + 1) 0), (10, .i64 first), (11, .i64 p), (12, .u8 b), (22, .i64 p), (30, .i64 i)]

theorem tile_row (v : AV) (bs : List (BitVec 8)) (tile row : Int) (turned : Bool) (H : Heap) (n : Nat) (K : AV → Heap → Nat → Prop) (hv : bytesIn H v bs) (h : K (.ag ((rowS bs (firstS tile row) turned).map .u8)) H n) : ACalls Tryz.prog 91 [v, .i64 tile, .i64 row, .bo turned] H n K := by
  refine ACalls.of_awp Tryz.func91 rfl (by decide +kernel) (show 4 ≤ 51 by decide) (by simp [hv.ne]) fun wf => ?_
  have hvok : v.ok n = true := by
    rcases hv with ⟨rfl, rfl⟩ | ⟨su, b, o, c, blk, rfl, h0, h1, h2, h3⟩
    · rfl
    · exact vw_ok (wf b _ h1).1
  have e1 : and64 tile 511 = tile % 512 := and64_mask 9 (by decide) tile
  have e2 : and64 row 7 = row % 8 := and64_mask 3 (by decide) row
  have hf := firstS_le tile row
  have e3 : wrap64 (wrap64 (tile % 512 * 32) + wrap64 (row % 8 * 4)) = firstS tile row := by
    unfold firstS at hf ⊢
    rw [wrap_id (tile % 512 * 32) (by omega) (by omega), wrap_id (row % 8 * 4) (by omega) (by omega), wrap_id _ (by omega) (by omega)]
  have ok0 : ∀ k, ∀ x ∈ ((List.replicate 8 0#8).map AV.u8), x.ok k = true := fun k => map_u8_ok
  let X : Option Blk := some ⟨(List.replicate 8 0#8).map .u8, 117, false⟩
  let G : Nat → Nat → Heap := fun p i => (H.upd n X).upd (n + 1) (some ⟨(mixS bs (firstS tile row) turned p i).map .u8, 117, false⟩)
  have wfG : ∀ p i, (G p i).wf (n + 2) := fun p i => Heap.wf_upd (Heap.wf_upd wf (ok0 _)) map_u8_ok
  have hvG : ∀ p i, bytesIn (G p i) v bs := fun p i => hv.mono hvok (fun k hk => by show ((H.upd n X).upd (n + 1) _) k = _; rw [Heap.upd_ne _ _ (by omega), Heap.upd_ne _ _ (by omega)])
  have hvok1 : v.ok (n + 2) = true := AV.ok_mono (by omega) _ hvok
  have gG : ∀ p i, G p i (n + 1) = some ⟨(mixS bs (firstS tile row) turned p i).map .u8, 117, false⟩ := fun p i => Heap.upd_same _ _ _
  refine awp_step dr91 (by decide +kernel) ?_
  simp only [go_sem, Tryz.f91]
  refine awp_step dr91 (by decide +kernel) ?_
  simp only [go_sem]
  refine awp_step dr91 (by decide +kernel) ?_
  simp only [go_sem, e1, e2, e3]
  refine awp_seqF (S := Unit) (fun _ => [(8, .pt n 0), (9, .pt (n + 1) 0)]) (fun _ => G 4 0) (fun _ => n + 2) (fun _ => True) (fun _ _ => ⟨wfG _ _, Env.okAt_of2 (by simp [AV.ok])⟩) ?_ ?_
  · refine awp_step dr91 (by decide +kernel) ?_
    simp only [go_sem]
    refine awp_block ?_
    refine awp_loopF (S := TR) (fun t => [(0, v), (3, .bo turned), (8, .pt n 0), (9, .pt (n + 1) 0), (10, .i64 (firstS tile row)), (22, .i64 t.i)]) (fun t => G t.i 0) (fun _ => n + 2) (fun t => t.i ≤ 4) (fun t => 4 - t.i)
      (fun t _ => ⟨wfG _ _, Env.okAt_of2 (by simp [AV.ok, hvok1])⟩) ?_ ⟨0⟩ (Nat.zero_le _)
      (Env.le_cons rfl (Env.le_cons rfl (Env.le_cons rfl (Env.le_cons rfl (Env.le_cons rfl (Env.le_cons rfl (Env.le_nil _))))))) (fun k _ => by show _ = ((H.upd n X).upd (n + 1) _) k; rw [mixS_0]; rfl) rfl
    rintro ⟨p⟩ hp
    simp only at hp ⊢
    refine awp_step dr91 (by decide +kernel) ?_
    simp only [go_sem]
    refine awp_step dr91 (by decide +kernel) ?_
    simp only [go_sem]
    refine ⟨fun hlt => ?_, fun hlt => ?_⟩
    · have hlt' : p < 4 := by omega
      have w1 : wrap64 ((p : Int) + 1) = ((p + 1 : Nat) : Int) := by rw [wrap_id _ (by omega) (by omega)]; omega
      have w2 : wrap64 (firstS tile row + (p : Int)) = firstS tile row + p := wrap_id _ (by omega) (by omega)
      refine awp_seq (awp_block ?_)
      refine awp_step dr91 (by decide +kernel) ?_
      simp only [go_sem]
      refine awp_step dr91 (by decide +kernel) ?_
      simp only [go_sem, w2]
      refine tile_at v bs _ _ _ _ (hvG _ _) hvok1 ?_
      simp only [go_sem]
      refine awp_step dr91 (by decide +kernel) ?_
      simp only [go_sem]
      refine awp_block ?_
      refine awp_loopF (S := TR) (fun t => [(0, v), (3, .bo turned), (8, .pt n 0), (9, .pt (n + 1) 0), (10, .i64 (firstS tile row)), (11, .i64 p), (12, .u8 (atS bs (firstS tile row + p))), (22, .i64 p), (30, .i64 t.i)]) (fun t => G p t.i) (fun _ => n + 2) (fun t => t.i ≤ 8) (fun t => 8 - t.i)
        (fun t _ => ⟨wfG _ _, Env.okAt_of2 (by simp [AV.ok, hvok1])⟩) ?_ ⟨0⟩ (Nat.zero_le _)
        (Env.le_cons rfl (Env.le_cons rfl (Env.le_cons rfl (Env.le_cons rfl (Env.le_cons rfl (Env.le_cons rfl (Env.le_cons rfl (Env.le_cons rfl (Env.le_cons rfl (Env.le_nil _)))))))))) (fun k _ => rfl) rfl
      rintro ⟨i⟩ hi
      simp only at hi ⊢
      refine awp_step dr91 (by decide +kernel) ?_
      simp only [go_sem]
      refine awp_step dr91 (by decide +kernel) ?_
      simp only [go_sem]
      refine ⟨fun hlt2 => ?_, fun hlt2 => ?_⟩
      · have hi' : i < 8 := by omega
        have w3 : wrap64 ((i : Int) + 1) = ((i + 1 : Nat) : Int) := by rw [wrap_id _ (by omega) (by omega)]; omega
        have w4 : wrap64 (7 - (i : Int)) = ((7 - i : Nat) : Int) := by rw [wrap_id _ (by omega) (by omega)]; omega
        refine awp_ev dr91 (by decide +kernel) ?_
        have gd : ((mixS bs (firstS tile row) turned p i).map AV.u8).getD i .junk = .u8 (dotS bs (firstS tile row) turned p i) := by
          rw [List.getD_eq_getElem?_getD, List.getElem?_map, mixS_get _ _ _ _ _ _ hi', if_neg (Nat.lt_irrefl i)]; rfl
        have hiI : (i : Int) < 8 := by omega
        have gs : ∀ x, x = dotS bs (firstS tile row) turned (p + 1) i → ∀ k, (G p i).upd (n + 1) (some ⟨((mixS bs (firstS tile row) turned p i).map AV.u8).set i (.u8 x), 117, false⟩) k = G p (i + 1) k := fun x hx k => by
          subst hx
          rw [← List.map_set, mixS_set _ _ _ _ _ hi']
          by_cases hk : k = n + 1
          · subst hk; rw [Heap.upd_same, gG]
          · rw [Heap.upd_ne _ _ hk]; show ((H.upd n X).upd (n + 1) _) k = ((H.upd n X).upd (n + 1) _) k; rw [Heap.upd_ne _ _ hk, Heap.upd_ne _ _ hk]
        simp only [go_sem, w4, w3, gG, mixS_len, hi', hiI, List.length_map, gd]
        have tail : ∀ (e : Env) (x : BitVec 8), x = dotS bs (firstS tile row) turned (p + 1) i → (E0 v turned (firstS tile row) n p (atS bs (firstS tile row + p)) (i + 1)).le e → Go.Ab.Ends (fun t : TR => E0 v turned (firstS tile row) n p (atS bs (firstS tile row + p)) t.i) (fun t => G p t.i) (fun _ => n + 2) (fun s' => 8 - s'.i < 8 - i ∧ s'.i ≤ 8) (n + 2) e
            ((G p i).upd (n + 1) (some ⟨((mixS bs (firstS tile row) turned p i).map AV.u8).set i (.u8 x), 117, false⟩)) (n + 2) := fun e x hx he =>
          Go.Ab.Ends.mk (⟨i + 1⟩ : TR) ⟨by simp only; omega, by simp only; omega⟩ he (fun k _ => gs x hx k) (by omega) (Nat.le_refl _)
        refine ⟨fun ht => ⟨by omega, ?_⟩, fun ht => ⟨by omega, ?_⟩⟩
        · exact tail _ _ (by simp only [dotS, bitS, ht]; rfl) (Env.le_cons rfl (Env.le_cons rfl (Env.le_cons rfl (Env.le_cons rfl (Env.le_cons rfl (Env.le_cons rfl (Env.le_cons rfl (Env.le_cons rfl (Env.le_cons rfl (Env.le_nil _))))))))))
        · exact tail _ _ (by simp only [dotS, bitS, ht]; rfl) (Env.le_cons rfl (Env.le_cons rfl (Env.le_cons rfl (Env.le_cons rfl (Env.le_cons rfl (Env.le_cons rfl (Env.le_cons rfl (Env.le_cons rfl (Env.le_cons rfl (Env.le_nil _))))))))))
      · have hie : i = 8 := by omega
        subst hie
        refine awp_ev dr91 (by decide +kernel) ?_
        simp only [go_sem, w1]
        exact Go.Ab.Ends.mk ⟨p + 1⟩ ⟨by simp only; omega, by simp only; omega⟩ (Env.le_cons rfl (Env.le_cons rfl (Env.le_cons rfl (Env.le_cons rfl (Env.le_cons rfl (Env.le_cons rfl (Env.le_nil _))))))) (fun k _ => by
          show ((H.upd n X).upd (n + 1) _) k = ((H.upd n X).upd (n + 1) _) k; rw [mixS_8]) (by omega) (Nat.le_refl _)
    · have hpe : p = 4 := by omega
      subst hpe
      exact Go.Ab.Ends.mk () trivial (Env.le_cons rfl (Env.le_cons rfl (Env.le_nil _))) (fun _ _ => rfl) (by omega) (Nat.le_refl _)
  rintro - -
  refine awp_step dr91 (by decide +kernel) ?_
  have g0 : G 4 0 n = some ⟨(List.replicate 8 0#8).map .u8, 117, false⟩ := by show ((H.upd n X).upd (n + 1) _) n = _; rw [Heap.upd_ne _ _ (by omega), Heap.upd_same]
  simp only [go_sem, gG, g0, mixS_len, List.length_map]
  refine ⟨by decide, ?_⟩
  refine awp_ev dr91 (by decide +kernel) ?_
  have es : splice ((List.replicate 8 0#8).map AV.u8) 0 ((mixS bs (firstS tile row) turned 4 0).map AV.u8) = (rowS bs (firstS tile row) turned).map AV.u8 := by
    rw [mixS_4]; simp [splice, rowS]
  simp only [go_sem, es]
  refine ⟨by simp [rowS], ?_⟩
  rw [List.take_of_length_le (by simp [rowS])]
  exact Fin.back wf h (fun k hk => by rw [Heap.upd_ne _ _ (by omega)]; show ((H.upd n X).upd (n + 1) _) k = _; rw [Heap.upd_ne _ _ (by omega), Heap.upd_ne _ _ (by omega)]) rfl
end Go.Proofs.Joy
namespace Go.Proofs.Joy
open Go.Ab Go.Proofs

set_option maxHeartbeats 1000000
set_option maxRecDepth 20000

theorem regs11 {regs : List (BitVec 8)} (h : regs.length = 11) : ∃ r0 r1 r2 r3 r4 r5 r6 r7 r8 r9 r10, regs = [r0, r1, r2, r3, r4, r5, r6, r7, r8, r9, r10] := by
  match regs, h with
  | [r0, r1, r2, r3, r4, r5, r6, r7, r8, r9, r10], _ => exact ⟨r0, r1, r2, r3, r4, r5, r6, r7, r8, r9, r10, rfl⟩

theorem height_ok (regs : List (BitVec 8)) (hr : regs.length = 11) (H : Heap) (n : Nat) (K : AV → Heap → Nat → Prop) (h : K (.i64 (heightS regs)) H n) : ACalls Tryz.prog 106 [.ag (regs.map .u8)] H n K := by
  refine ACalls.of_ev dr0 Tryz.func106 rfl (by decide +kernel) (by decide +kernel) (show 1 ≤ 15 by decide) (by simp) fun wf => ?_
  simp only [go_sem, Tryz.f106]
  obtain ⟨r0, r1, r2, r3, r4, r5, r6, r7, r8, r9, r10, rfl⟩ := regs11 hr
  simp only [go_sem, List.map_cons, List.map_nil]
  have hh : ∀ (x : Int), heightS [r0, r1, r2, r3, r4, r5, r6, r7, r8, r9, r10] = x → ∀ X, Fin n (.i64 x) (H.upd n X) (n + 1) K := fun x hx X => by
    rw [hx] at h; exact Fin.back wf h (fun i hi => by simp only [go_sem, hi]) rfl
  have e : heightS [r0, r1, r2, r3, r4, r5, r6, r7, r8, r9, r10] = (if r1 &&& 2#8 = 0#8 then 8 else 16) * (if r1 &&& 1#8 = 0#8 then 1 else 2) := rfl
  refine ⟨fun a1 => ⟨fun a2 => ?_, fun a2 => ?_⟩, fun a1 => ⟨fun a2 => ?_, fun a2 => ?_⟩⟩
  all_goals simp only [bne_iff_ne, ne_eq, bne_eq_false_iff_eq] at a1 a2
  · exact hh _ (by rw [e, if_neg a1, if_neg a2]; rfl) _
  · exact hh _ (by rw [e, if_neg a1, if_pos a2]; rfl) _
  · exact hh _ (by rw [e, if_pos a1, if_neg a2]; rfl) _
  · exact hh _ (by rw [e, if_pos a1, if_pos a2]; rfl) _

theorem base_ok (regs : List (BitVec 8)) (hr : regs.length = 11) (H : Heap) (n : Nat) (K : AV → Heap → Nat → Prop) (h : K (.i64 (baseS regs)) H n) : ACalls Tryz.prog 94 [.ag (regs.map .u8)] H n K := by
  refine ACalls.of_ev dr0 Tryz.func94 rfl (by decide +kernel) (by decide +kernel) (show 1 ≤ 8 by decide) (by simp) fun wf => ?_
  simp only [go_sem, Tryz.f94]
  obtain ⟨r0, r1, r2, r3, r4, r5, r6, r7, r8, r9, r10, rfl⟩ := regs11 hr
  simp only [go_sem, List.map_cons, List.map_nil]
  have hb := (baseS_le [r0, r1, r2, r3, r4, r5, r6, r7, r8, r9, r10])
  have e : wrap64 (((r5 &&& 126#8).toNat : Int) * 2 ^ 7) = baseS [r0, r1, r2, r3, r4, r5, r6, r7, r8, r9, r10] := by
    have e2 : baseS [r0, r1, r2, r3, r4, r5, r6, r7, r8, r9, r10] = (((r5 &&& 126#8).toNat * 128 : Nat) : Int) := rfl
    rw [e2] at hb ⊢
    rw [show (2 : Int) ^ 7 = 128 from rfl, wrap_id _ (by omega) (by omega)]; omega
  rw [e]
  exact Fin.back wf h (fun i hi => by simp only [go_sem, hi]) rfl

theorem top_ok (y : BitVec 8) (H : Heap) (n : Nat) (K : AV → Heap → Nat → Prop) (h : K (.i64 (topS y)) H n) : ACalls Tryz.prog 105 [.u8 y] H n K := by
  refine ACalls.of_ev dr0 Tryz.func105 rfl (by decide +kernel) (by decide +kernel) (show 1 ≤ 12 by decide) (by simp) fun wf => ?_
  simp only [go_sem, Tryz.f105]
  have hy := y.isLt
  have w1 : wrap64 ((y.toNat : Int) + 1) = (y.toNat : Int) + 1 := wrap_id _ (by omega) (by omega)
  unfold topS at h
  rw [w1]
  refine ⟨fun a1 => ?_, fun a1 => ?_⟩
  · rw [if_neg (by omega)] at h
    rw [wrap_id _ (by omega) (by omega), show (y.toNat : Int) + 1 - 256 = (y.toNat : Int) - 255 by omega]
    exact Fin.back wf h (fun _ _ => rfl) rfl
  · rw [if_pos (by omega)] at h
    exact Fin.back wf h (fun _ _ => rfl) rfl

structure OnS where
  i : Nat
  q : Nat
  m : Nat
  H : Heap

/-- Numbers in a row of memory. -/
def intsC (l : List Nat) : List AV := l.map fun (j : Nat) => AV.i64 (j : Int)

def intsV (q l : Nat) : AV := if l = 0 then .sn else .su q 0 l 1

structure OnI (bs regs : List (BitVec 8)) (line : Int) (H : Heap) (n : Nat) (t : OnS) : Prop where
  i : t.i ≤ 64
  no : ∀ j, j < t.i → yS bs regs j ≠ 208#8
  len : (hitsTo bs regs line t.i).length ≤ 8
  m : n + 1 ≤ t.m
  wf : t.H.wf t.m
  rg : t.H n = some ⟨regs.map .u8, 84, false⟩
  old : ∀ k, k < n → t.H k = H k
  out : hitsTo bs regs line t.i ≠ [] → n + 1 ≤ t.q ∧ t.q < t.m ∧ t.H t.q = some ⟨intsC (hitsTo bs regs line t.i), 3, false⟩
theorem intsV_ok {q l n : Nat} (h : l ≠ 0 → q < n) : (intsV q l).ok n = true := by
  unfold intsV; split
  · rfl
  · rename_i hz; simp [AV.ok, h hz]
theorem lenB_ints (q l : Nat) (K : AV → Prop) : lenB (some .slice) (intsV q l) K = K (.i64 l) := by
  unfold intsV; split
  · rename_i h; subst h; rfl
  · rfl

theorem on_ok (v : AV) (bs regs : List (BitVec 8)) (hr : regs.length = 11) (line : Int) (hln : -9223372036854775808 ≤ line ∧ line ≤ 9223372036854775807) (H : Heap) (n : Nat) (K : AV → Heap → Nat → Prop) (hv : bytesIn H v bs)
    (h : ∀ (q : Nat) (H' : Heap) (m : Nat), n ≤ m → H'.wf m → (∀ i, i < n → H' i = H i) → ((hitsS bs regs line).take 8 ≠ [] → n ≤ q ∧ H' q = some ⟨intsC ((hitsS bs regs line).take 8), 3, false⟩) →
      K (.tu [intsV q ((hitsS bs regs line).take 8).length, .bo (decide (8 < (hitsS bs regs line).length))]) H' m) : ACalls Tryz.prog 92 [v, .ag (regs.map .u8), .i64 line] H n K := by
  refine ACalls.of_awp Tryz.func92 rfl (by decide +kernel) (show 3 ≤ 51 by decide) (by simp [hv.ne]) fun wf => ?_
  have hvok : v.ok n = true := by
    rcases hv with ⟨rfl, rfl⟩ | ⟨su, b, o, c, blk, rfl, h0, h1, h2, h3⟩
    · rfl
    · exact vw_ok (wf b _ h1).1
  refine awp_step dr0 (by decide +kernel) ?_
  simp only [go_sem, Tryz.f92]
  have hRB : ∀ x ∈ (⟨regs.map .u8, 84, false⟩ : Blk).cells, x.ok (n + 1) = true := map_u8_ok
  refine awp_seqF (S := Unit) (fun _ => [(0, v), (2, .i64 line), (4, .pt n 0)]) (fun _ => H.upd n (some ⟨regs.map .u8, 84, false⟩)) (fun _ => n + 1) (fun _ => 0 ≤ line ∧ line < 192)
    (fun _ _ => ⟨Heap.wf_upd wf hRB, Env.okAt_of2 (by simp [AV.ok, AV.ok_mono (Nat.le_succ n) _ hvok])⟩) ?_ ?_
  · have out : (line < 0 ∨ 191 < line) → Fin n (.tu [.sn, .bo false]) (H.upd n (some ⟨regs.map .u8, 84, false⟩)) (n + 1) K := fun ho => by
      have e : hitsS bs regs line = [] := if_pos ho
      have := h 0 (H.upd n (some ⟨regs.map .u8, 84, false⟩)) (n + 1) (by omega) (Heap.wf_upd wf hRB) (fun i hi => Heap.upd_ne _ _ (by omega))
      rw [e] at this
      exact Fin.keep (this (fun hn => absurd rfl hn))
    refine awp_ev dr0 (by decide +kernel) ?_
    simp only [go_sem]
    exact ⟨fun a1 => ⟨fun a2 => out (by omega), fun a2 => Ends.mk () ⟨by omega, by omega⟩ (Env.le_cons rfl (Env.le_cons rfl (Env.le_cons rfl (Env.le_nil _)))) (fun _ _ => rfl) (Nat.le_refl _) (Nat.le_refl _)⟩, fun a1 => out (by omega)⟩
  rintro - ⟨l1, l2⟩
  refine awp_step dr0 (by decide +kernel) ?_
  simp only [go_sem]
  have hS : hitsS bs regs line = hitsTo bs regs line (endS bs regs) := if_neg (by omega)
  have done : ∀ (i q m : Nat) (H1 : Heap) (more : Bool) (out : List Nat), n + 1 ≤ m → H1.wf m → (∀ k, k < n → H1 k = H k) → out = (hitsS bs regs line).take 8 → more = decide (8 < (hitsS bs regs line).length) → (out ≠ [] → n + 1 ≤ q ∧ H1 q = some ⟨intsC out, 3, false⟩) →
      Fin n (.tu [intsV q out.length, .bo more]) H1 m K := fun i q m H1 more out e1 e2 e3 e4 e5 e6 => by
    subst e4 e5
    exact Fin.keep (h q H1 m (by omega) e2 e3 (fun hn => ⟨by have := (e6 hn).1; omega, (e6 hn).2⟩))
  refine awp_seqF (S := OnS) (fun t => [(8, intsV t.q ((hitsS bs regs line).take 8).length)]) (fun t => t.H) (fun t => t.m)
    (fun t => n + 1 ≤ t.m ∧ t.H.wf t.m ∧ (∀ k, k < n → t.H k = H k) ∧ (hitsS bs regs line).length ≤ 8 ∧ ((hitsS bs regs line).take 8 ≠ [] → n + 1 ≤ t.q ∧ t.q < t.m ∧ t.H t.q = some ⟨intsC ((hitsS bs regs line).take 8), 3, false⟩))
    (fun t ht => ⟨ht.2.1, Env.okAt_of2 (by
      intro p hp
      simp only [List.mem_cons, List.not_mem_nil, or_false] at hp
      subst hp
      simp only [intsV]
      split
      · rfl
      · rename_i hz
        have := (ht.2.2.2.2 (by rintro hh; rw [hh] at hz; exact hz rfl)).2.1
        simp [AV.ok, this])⟩) ?_ ?_
  · refine awp_step dr0 (by decide +kernel) ?_
    simp only [go_sem]
    refine awp_block ?_
    refine awp_loopF (S := OnS) (fun t => [(0, v), (2, .i64 line), (4, .pt n 0), (8, intsV t.q (hitsTo bs regs line t.i).length), (18, .i64 t.i)]) (fun t => t.H) (fun t => t.m) (OnI bs regs line H n) (fun t => 64 - t.i)
      (fun t ht => ⟨ht.wf, Env.okAt_of2 (by
        have e1 := ht.m
        have e2 := intsV_ok (q := t.q) (l := (hitsTo bs regs line t.i).length) (n := t.m) fun hz => (ht.out (by rintro hh; rw [hh] at hz; exact hz rfl)).2.1
        simp [AV.ok, AV.ok_mono (show n ≤ t.m by omega) _ hvok, e2]; omega)⟩) ?_ ⟨0, 0, n + 1, _⟩
      ⟨Nat.zero_le _, fun j hj => absurd hj (Nat.not_lt_zero _), Nat.zero_le _, Nat.le_refl _, Heap.wf_upd wf hRB, Heap.upd_same _ _ _, fun k hk => Heap.upd_ne _ _ (by omega), fun hn => absurd rfl hn⟩
      (Env.le_cons rfl (Env.le_cons rfl (Env.le_cons rfl (Env.le_cons rfl (Env.le_cons rfl (Env.le_nil _)))))) (fun _ _ => rfl) rfl
    rintro ⟨i, q, m, H1⟩ hI
    have hi := hI.i; have hno := hI.no; have hlen := hI.len; have hm := hI.m; have hwf := hI.wf; have hreg := hI.rg; have hold := hI.old; have hout := hI.out
    simp only at hi hno hlen hm hwf hreg hold hout ⊢
    have hv1 : bytesIn H1 v bs := hv.mono hvok hold
    have hvok1 : v.ok m = true := AV.ok_mono (by omega) _ hvok
    have ends : ∀ e : Env, e.get 8 = intsV q (hitsTo bs regs line i).length → endS bs regs = i → Go.Ab.Ends (fun t : OnS => [(8, intsV t.q ((hitsS bs regs line).take 8).length)]) (fun t => t.H) (fun t => t.m)
        (fun t => n + 1 ≤ t.m ∧ t.H.wf t.m ∧ (∀ k, k < n → t.H k = H k) ∧ (hitsS bs regs line).length ≤ 8 ∧ (¬(hitsS bs regs line).take 8 = [] → n + 1 ≤ t.q ∧ t.q < t.m ∧ t.H t.q = some ⟨intsC ((hitsS bs regs line).take 8), 3, false⟩)) (n + 1)
        e H1 m := fun e0 hg he => by
      have e : hitsS bs regs line = hitsTo bs regs line i := by rw [hS, he]
      have e8 : (hitsTo bs regs line i).take 8 = hitsTo bs regs line i := List.take_of_length_le hlen
      exact Go.Ab.Ends.mk ⟨i, q, m, H1⟩ ⟨hm, hwf, hold, by rw [e]; exact hlen, by rw [e, e8]; exact hout⟩ (Env.le_cons (by rw [e, e8]; exact hg) (Env.le_nil _)) (fun _ _ => rfl) hm (Nat.le_refl _)
    have hsucc := hitsTo_succ bs regs line i
    have next : ∀ e : Env, e.get 0 = v → e.get 2 = .i64 line → e.get 4 = .pt n 0 → e.get 8 = intsV q (hitsTo bs regs line i).length → e.get 18 = .i64 (wrap64 ((i : Int) + 1)) → i < 64 → yS bs regs i ≠ 208#8 → onS' bs regs line i = false → Go.Ab.Ends (fun t : OnS =>
        [(0, v), (2, AV.i64 line), (4, AV.pt n 0), (8, intsV t.q (hitsTo bs regs line t.i).length), (18, AV.i64 (t.i : Int))])
        (fun t => t.H) (fun t => t.m) (fun s' => 64 - s'.i < 64 - i ∧ OnI bs regs line H n s') m e H1 m := fun e g0 g2 g4 g8 g18 hlt' hy ho => by
      have w2 : wrap64 ((i : Int) + 1) = ((i + 1 : Nat) : Int) := by rw [wrap_id _ (by omega) (by omega)]; omega
      rw [w2] at g18
      have e1 : hitsTo bs regs line (i + 1) = hitsTo bs regs line i := by rw [hsucc, ho]; simp
      have hno' : ∀ j, j < i + 1 → yS bs regs j ≠ 208#8 := fun j hj => by
        rcases Nat.lt_or_ge j i with c | c
        · exact hno j c
        · rw [show j = i by omega]; exact hy
      exact Go.Ab.Ends.mk ⟨i + 1, q, m, H1⟩ ⟨by simp only; omega, hlt', hno', by simp only; rw [e1]; exact hlen, hm, hwf, hreg, hold, by simp only; rw [e1]; exact hout⟩ (Env.le_cons g0 (Env.le_cons g2 (Env.le_cons g4 (Env.le_cons (by rw [e1]; exact g8) (Env.le_cons g18 (Env.le_nil _)))))) (fun _ _ => rfl) (Nat.le_refl _) (Nat.le_refl _)
    have ok1 : ∀ k, ∀ x ∈ [AV.i64 (i : Int)], x.ok k = true := fun k x hx => by
      simp only [List.mem_cons, List.not_mem_nil, or_false] at hx; subst hx; rfl
    have app : ∀ (e : Env) (q' m' : Nat) (H' : Heap), e.get 0 = v → e.get 2 = .i64 line → e.get 4 = .pt n 0 → e.get 8 = intsV q' (hitsTo bs regs line (i + 1)).length → e.get 18 = .i64 (wrap64 ((i : Int) + 1)) → i < 64 → (∀ j, j < i + 1 → yS bs regs j ≠ 208#8) →
        (hitsTo bs regs line i).length < 8 → m ≤ q' → q' < m' → H'.wf m' → H' n = some ⟨regs.map .u8, 84, false⟩ → (∀ k, k < n → H' k = H k) → (H' q' = some ⟨intsC (hitsTo bs regs line (i + 1)), 3, false⟩) → Go.Ab.Ends (fun t : OnS =>
        [(0, v), (2, AV.i64 line), (4, AV.pt n 0), (8, intsV t.q (hitsTo bs regs line t.i).length), (18, AV.i64 (t.i : Int))])
        (fun t => t.H) (fun t => t.m) (fun s' => 64 - s'.i < 64 - i ∧ OnI bs regs line H n s') m e H' m' := fun e q' m' H' g0 g2 g4 g8 g18 hlt' hno' h8 k1 k2 k3 k4 k5 k6 => by
      have w2 : wrap64 ((i : Int) + 1) = ((i + 1 : Nat) : Int) := by rw [wrap_id _ (by omega) (by omega)]; omega
      rw [w2] at g18
      have hl : (hitsTo bs regs line (i + 1)).length ≤ 8 := by
        rw [hsucc, List.length_append]; split <;> simp <;> omega
      exact Go.Ab.Ends.mk ⟨i + 1, q', m', H'⟩ ⟨by simp only; omega, hlt', hno', hl, by simp only; omega, k3, k4, k5, fun _ => ⟨by simp only; omega, k2, k6⟩⟩ (Env.le_cons g0 (Env.le_cons g2 (Env.le_cons g4 (Env.le_cons g8 (Env.le_cons g18 (Env.le_nil _)))))) (fun _ _ => rfl) (by simp only; omega) (Nat.le_refl _)
    refine awp_step dr0 (by decide +kernel) ?_
    simp only [go_sem]
    refine awp_step dr0 (by decide +kernel) ?_
    simp only [go_sem]
    refine ⟨fun hlt => ?_, fun hlt => ?_⟩
    · have hlt' : i < 64 := by omega
      have w2 : wrap64 ((i : Int) + 1) = ((i + 1 : Nat) : Int) := by rw [wrap_id _ (by omega) (by omega)]; omega
      have hbl := baseS_le regs
      have w3 : wrap64 (baseS regs + (i : Int)) = baseS regs + i := wrap_id _ (by omega) (by omega)
      have hnm : n < m := by omega
      refine awp_ev dr0 (by decide +kernel) ?_
      simp only [go_sem, hreg, hr, List.length_map, take_map_all hr]
      refine base_ok regs hr _ _ _ ?_
      simp only [go_sem, w3]
      refine tile_at v bs _ _ _ _ hv1 hvok1 ?_
      rw [show atS bs (baseS regs + (i : Int)) = yS bs regs i from rfl]
      simp only [go_sem]
      refine ⟨fun hy => ?_, fun hy => ?_⟩
      · simp only [beq_iff_eq] at hy
        exact ends _ rfl (endS_at hlt' hy hno)
      simp only [beq_eq_false_iff_ne, ne_eq] at hy
      have ht := topS_le (yS bs regs i)
      have hh := heightS_le regs
      have w4 : wrap64 (line - topS (yS bs regs i)) = line - topS (yS bs regs i) := wrap_id _ (by omega) (by omega)
      refine top_ok _ _ _ _ ?_
      simp only [go_sem, w4, hreg, hr, List.length_map, take_map_all hr]
      have hno' : ∀ j, j < i + 1 → yS bs regs j ≠ 208#8 := fun j hj => by
        rcases Nat.lt_or_ge j i with c | c
        · exact hno j c
        · rw [show j = i by omega]; exact hy
      refine ⟨fun c1 => ?_, fun c1 => ?_⟩
      · refine height_ok regs hr _ _ _ ?_
        simp only [go_sem]
        refine ⟨fun c2 => ?_, fun c2 => ?_⟩
        · exact next _ rfl rfl rfl rfl rfl hlt' hy (by unfold onS'; rw [Bool.and_eq_false_iff]; right; simp; omega)
        have ho : onS' bs regs line i = true := by unfold onS'; rw [Bool.and_eq_true]; exact ⟨by simp; omega, by simp; omega⟩
        rw [ho, if_pos rfl] at hsucc
        have hge : i + 1 ≤ endS bs regs := endS_ge hlt' hno'
        obtain ⟨rest, hrest⟩ := hitsTo_pre bs regs line hge
        rw [hsucc] at hrest
        rw [lenB_ints]
        simp only [go_sem]
        refine ⟨fun c3 => ?_, fun c3 => ?_⟩
        · have c3' : (hitsTo bs regs line i).length = 8 := by simp at c3; omega
          have e9 : hitsS bs regs line = hitsTo bs regs line i ++ ([i] ++ rest) := by rw [hS, hrest, List.append_assoc]
          have et : (hitsS bs regs line).take 8 = hitsTo bs regs line i := by rw [e9, ← c3', List.take_left']; rfl
          have el : 8 < (hitsS bs regs line).length := by rw [e9]; simp only [List.length_append, List.length_cons, c3']; omega
          exact ⟨by unfold intsV; split <;> simp, done i q m H1 true _ hm hwf hold et.symm (by simp [el]) (fun hn => ⟨(hout hn).1, (hout hn).2.2⟩)⟩
        · have c3' : (hitsTo bs regs line i).length < 8 := by simp at c3; omega
          by_cases hz : (hitsTo bs regs line i).length = 0
          · have hz' : hitsTo bs regs line i = [] := List.eq_nil_of_length_eq_zero hz
            rw [show intsV q (hitsTo bs regs line i).length = .sn by unfold intsV; rw [if_pos hz]]
            simp only [go_sem]
            exact app _ (m + 1) (m + 2) _ rfl rfl rfl (by rw [hsucc, hz']; rfl) rfl hlt' hno' c3' (by omega) (by omega)
              (Heap.wf_upd (Heap.wf_upd hwf (ok1 _)) (ok1 _)) (by rw [Heap.upd_ne _ _ (by omega), Heap.upd_ne _ _ (by omega)]; exact hreg)
              (fun k hk => by rw [Heap.upd_ne _ _ (by omega), Heap.upd_ne _ _ (by omega)]; exact hold k hk) (by rw [Heap.upd_same, hsucc, hz']; rfl)
          · obtain ⟨q1, q2, hq⟩ := hout (by intro hx; rw [hx] at hz; exact hz rfl)
            rw [show intsV q (hitsTo bs regs line i).length = .su q 0 (hitsTo bs regs line i).length 1 by unfold intsV; rw [if_neg hz]]
            have hq' : ∀ X, (H1.upd m X) q = some ⟨intsC (hitsTo bs regs line i), 3, false⟩ := fun X => by rw [Heap.upd_ne _ _ (by omega)]; exact hq
            have hql : (intsC (hitsTo bs regs line i)).length = (hitsTo bs regs line i).length := by simp [intsC]
            simp only [go_sem, hq', hql]
            have ec : (intsC (hitsTo bs regs line i)).take (hitsTo bs regs line i).length ++ [AV.i64 (i : Int)] = intsC (hitsTo bs regs line (i + 1)) := by
              rw [List.take_of_length_le (by rw [hql]; exact Nat.le_refl _), hsucc]; simp [intsC]
            have el1 : (hitsTo bs regs line (i + 1)).length = (hitsTo bs regs line i).length + 1 := by rw [hsucc]; simp
            refine ⟨by omega, ?_⟩
            rw [ec]
            exact app _ (m + 1) (m + 2) _ rfl rfl rfl (by rw [el1]; rfl) rfl hlt' hno' c3' (by omega) (by omega)
              (Heap.wf_upd (Heap.wf_upd_none (Heap.wf_upd hwf (ok1 _))) (by
                intro x hx
                simp only [intsC, List.mem_map] at hx
                obtain ⟨j, -, rfl⟩ := hx
                rfl)) (by rw [Heap.upd_ne _ _ (by omega), Heap.upd_ne _ _ (by omega), Heap.upd_ne _ _ (by omega)]; exact hreg)
              (fun k hk => by rw [Heap.upd_ne _ _ (by omega), Heap.upd_ne _ _ (by omega), Heap.upd_ne _ _ (by omega)]; exact hold k hk) (by rw [Heap.upd_same])
      · exact next _ rfl rfl rfl rfl rfl hlt' hy (by unfold onS'; rw [Bool.and_eq_false_iff]; left; simp; omega)
    · have hie : i = 64 := by omega
      subst hie
      exact ends _ rfl (endS_none hno)
  · rintro ⟨i, q, m, H1⟩ ⟨e1, e2, e3, e4, e5⟩
    simp only at e1 e2 e3 e5 ⊢
    refine awp_ev dr0 (by decide +kernel) ?_
    simp only [go_sem]
    exact ⟨by unfold intsV; split <;> simp, done i q m H1 false _ e1 e2 e3 rfl (by simp; omega) (fun hn => ⟨(e5 hn).1, (e5 hn).2.2⟩)⟩
end Go.Proofs.Joy
namespace Go.Proofs.Joy
open Go.Ab Go.Proofs

set_option maxHeartbeats 1000000
set_option maxRecDepth 20000

theorem tile_entry (v : AV) (bs : List (BitVec 8)) (base line col : Int) (hb : 0 ≤ base ∧ base ≤ 14336) (hl : 0 ≤ line ∧ line < 28) (hc : 0 ≤ col ∧ col < 32) (H : Heap) (n : Nat) (K : AV → Heap → Nat → Prop) (hv : bytesIn H v bs) (hvok : v.ok n = true)
    (h : K (.tu [.i64 (entT bs (base + 64 * line + 2 * col)), .u8 (entH bs (base + 64 * line + 2 * col))]) H n) : ACalls Tryz.prog 90 [v, .i64 base, .i64 line, .i64 col] H n K := by
  refine ACalls.of_ev dr0 Tryz.func90 rfl (by decide +kernel) (by decide +kernel) (show 4 ≤ 39 by decide) (by simp [hv.ne]) fun wf => ?_
  have e1 : and64 base 16383 = base := by rw [show (16383 : Int) = ((2 ^ 14 - 1 : Nat) : Int) from rfl, and64_mask 14 (by decide)]; show base % 16384 = _; omega
  have e2 : and64 line 16383 = line := by rw [show (16383 : Int) = ((2 ^ 14 - 1 : Nat) : Int) from rfl, and64_mask 14 (by decide)]; show line % 16384 = _; omega
  have e3 : and64 col 16383 = col := by rw [show (16383 : Int) = ((2 ^ 14 - 1 : Nat) : Int) from rfl, and64_mask 14 (by decide)]; show col % 16384 = _; omega
  have w1 : wrap64 (wrap64 (base + wrap64 (line * 64)) + wrap64 (col * 2)) = base + 64 * line + 2 * col := by
    rw [wrap_id (line * 64) (by omega) (by omega), wrap_id (col * 2) (by omega) (by omega), wrap_id (base + _) (by omega) (by omega), wrap_id _ (by omega) (by omega)]; omega
  simp only [go_sem, Tryz.f90, e1, e2, e3, w1]
  generalize ha : base + 64 * line + 2 * col = a at h ⊢
  have wa : wrap64 (a + 1) = a + 1 := wrap_id _ (by omega) (by omega)
  refine tile_at v bs _ _ _ _ hv hvok ?_
  simp only [go_sem, wa]
  refine tile_at v bs _ _ _ _ hv hvok ?_
  have x1 := (atS bs a).isLt
  have x2 := (atS bs (a + 1)).isLt
  have w2 : wrap64 (((atS bs (a + 1)).toNat : Int) * 2 ^ 8) = ((256 * (atS bs (a + 1)).toNat : Nat) : Int) := by rw [wrap_id _ (by omega) (by omega)]; omega
  have o1 := or_hi _ _ x1 x2
  have hT : and64 ((entN bs a : Nat) : Int) 511 = entT bs a := by
    rw [show (511 : Int) = ((2 ^ 9 - 1 : Nat) : Int) from rfl, and64_mask 9 (by decide)]; unfold entT; omega
  have hE : BitVec.ofInt 8 (and64 (((entN bs a : Nat) : Int) / 2 ^ 9) 15) = entH bs a := by
    rw [show (15 : Int) = ((2 ^ 4 - 1 : Nat) : Int) from rfl, and64_mask 4 (by decide)]
    unfold entH
    rw [← BitVec.ofInt_natCast]
    congr 1
  unfold entN at hT hE
  simp only [go_sem, w2, o1, hT, hE]
  exact Fin.back wf h (fun _ _ => rfl) rfl
theorem sixty4 : ∀ b : BitVec 8, ((b / 64#8 % 2#8 == 1#8) = (b &&& 64#8 != 0#8)) := by decide
theorem hundred28 : ∀ b : BitVec 8, ((b / 128#8 == 1#8) = (b &&& 128#8 != 0#8)) := by decide

theorem back_source (regs : List (BitVec 8)) (hr : regs.length = 11) (line x : Int) (hl : 0 ≤ line ∧ line < 192) (hx : -100000 ≤ x ∧ x ≤ 100000) (H : Heap) (n : Nat) (K : AV → Heap → Nat → Prop)
    (h : K (.tu [.i64 (colS regs line x), .i64 (lowS regs line x)]) H n) : ACalls Tryz.prog 89 [.ag (regs.map .u8), .i64 line, .i64 x] H n K := by
  refine ACalls.of_awp Tryz.func89 rfl (by decide +kernel) (show 3 ≤ 50 by decide) (by simp) fun wf => ?_
  obtain ⟨r0, r1, r2, r3, r4, r5, r6, r7, r8, r9, r10, rfl⟩ := regs11 hr
  have hl1 : ¬ line < 0 := by omega
  have hl2 : ¬ 192 ≤ line := by omega
  have y8 := r8.isLt
  have y9 := r9.isLt
  have e1 : and64 x 255 = x % 256 := and64_mask 8 (by decide) x
  have e2 : and64 (wrap64 (x % 256 - r8.toNat)) 255 = (x % 256 - r8.toNat) % 256 := by rw [wrap_id _ (by omega) (by omega)]; exact and64_mask 8 (by decide) _
  have e3 : (wrap64 (line + r9.toNat)).tmod 224 = (line + r9.toNat) % 224 := by rw [wrap_id _ (by omega) (by omega), Int.tmod_eq_emod_of_nonneg (by omega)]
  refine awp_step dr89 (by decide +kernel) ?_
  simp only [go_sem, Tryz.f89, List.map_cons, List.map_nil]
  refine awp_gen (fun X => X.wf (n + 1) ∧ X n = some ⟨[.u8 r0, .u8 r1, .u8 r2, .u8 r3, .u8 r4, .u8 r5, .u8 r6, .u8 r7, .u8 r8, .u8 r9, .u8 r10], 84, false⟩ ∧ ∀ k, k < n → X k = H k) ⟨Heap.wf_upd wf (map_u8_ok (bs := [r0, r1, r2, r3, r4, r5, r6, r7, r8, r9, r10])), Heap.upd_same _ _ _, fun k hk => Heap.upd_ne _ _ (by omega)⟩ ?_
  rintro X ⟨xw, x0, xo⟩
  refine awp_step dr89 (by decide +kernel) ?_
  simp only [go_sem, hl1, hl2]
  refine awp_step dr89 (by decide +kernel) ?_
  simp only [go_sem, e1]
  refine awp_step dr89 (by decide +kernel) ?_
  simp only [go_sem, x0, e2, e3]
  refine awp_step dr89 (by decide +kernel) ?_
  simp only [go_sem, x0]
  have hA : (r0 &&& 64#8 != 0#8) = true → line < 16 → colS [r0, r1, r2, r3, r4, r5, r6, r7, r8, r9, r10] line x = x % 256 := fun a b => if_pos ⟨by simpa using a, b⟩
  have hB : (r0 &&& 64#8 != 0#8) = false ∨ ¬ line < 16 → colS [r0, r1, r2, r3, r4, r5, r6, r7, r8, r9, r10] line x = (x % 256 - r8.toNat) % 256 := fun a => if_neg (fun c => by
    rcases a with a | a
    · exact c.1 (by simpa using a)
    · exact a c.2)
  have hC : (r0 &&& 128#8 != 0#8) = true → 192 ≤ x % 256 → lowS [r0, r1, r2, r3, r4, r5, r6, r7, r8, r9, r10] line x = line := fun a b => if_pos ⟨by simpa using a, b⟩
  have hD : (r0 &&& 128#8 != 0#8) = false ∨ ¬ 192 ≤ x % 256 → lowS [r0, r1, r2, r3, r4, r5, r6, r7, r8, r9, r10] line x = (line + r9.toNat) % 224 := fun a => if_neg (fun c => by
    rcases a with a | a
    · exact c.1 (by simpa using a)
    · exact a c.2)
  generalize colS [r0, r1, r2, r3, r4, r5, r6, r7, r8, r9, r10] line x = cc at h hA hB
  generalize lowS [r0, r1, r2, r3, r4, r5, r6, r7, r8, r9, r10] line x = ll at h hC hD
  have two : ∀ c : Int, c = cc → ((r0 &&& 128#8 != 0#8) = true → 192 ≤ x % 256 → K (.tu [.i64 c, .i64 line]) H n) ∧ ((r0 &&& 128#8 != 0#8) = false ∨ ¬ 192 ≤ x % 256 → K (.tu [.i64 c, .i64 ((line + r9.toNat) % 224)]) H n) := fun c hc => by
    subst hc
    exact ⟨fun a b => by rw [← hC a b]; exact h, fun a => by rw [← hD a]; exact h⟩
  refine ⟨fun a1 => ⟨fun a2 => ?_, fun a2 => ?_⟩, fun a1 => ?_⟩
  · obtain ⟨k1, k2⟩ := two _ (hA a1 a2).symm
    refine awp_step dr89 (by decide +kernel) ?_
    simp only [go_sem, x0]
    refine ⟨fun b1 => ⟨fun b2 => ?_, fun b2 => ?_⟩, fun b1 => ?_⟩ <;> refine awp_ev dr0 (by decide +kernel) ?_ <;> simp only [go_sem]
    · exact Fin.back wf (k1 b1 b2) xo rfl
    · exact Fin.back wf (k2 (.inr b2)) xo rfl
    · exact Fin.back wf (k2 (.inl b1)) xo rfl
  · obtain ⟨k1, k2⟩ := two _ (hB (.inr a2)).symm
    refine awp_step dr89 (by decide +kernel) ?_
    simp only [go_sem, x0]
    refine ⟨fun b1 => ⟨fun b2 => ?_, fun b2 => ?_⟩, fun b1 => ?_⟩ <;> refine awp_ev dr0 (by decide +kernel) ?_ <;> simp only [go_sem]
    · exact Fin.back wf (k1 b1 b2) xo rfl
    · exact Fin.back wf (k2 (.inr b2)) xo rfl
    · exact Fin.back wf (k2 (.inl b1)) xo rfl
  · obtain ⟨k1, k2⟩ := two _ (hB (.inl a1)).symm
    refine awp_step dr89 (by decide +kernel) ?_
    simp only [go_sem, x0]
    refine ⟨fun b1 => ⟨fun b2 => ?_, fun b2 => ?_⟩, fun b1 => ?_⟩ <;> refine awp_ev dr0 (by decide +kernel) ?_ <;> simp only [go_sem]
    · exact Fin.back wf (k1 b1 b2) xo rfl
    · exact Fin.back wf (k2 (.inr b2)) xo rfl
    · exact Fin.back wf (k2 (.inl b1)) xo rfl

end Go.Proofs.Joy
namespace Go.Proofs.Joy
open Go.Ab Go.Proofs

set_option maxHeartbeats 1000000
set_option maxRecDepth 20000

theorem modulo16_ok (x y : Int) (hy : 0 < y) (hy2 : y ≤ 4611686018427387904) (H : Heap) (n : Nat) (K : AV → Heap → Nat → Prop) (h : K (.i64 (x % y)) H n) : ACalls Tryz.prog 107 [.i64 x, .i64 y] H n K := by
  refine ACalls.of_ev dr0 Tryz.func107 rfl (by decide +kernel) (by decide +kernel) (show 2 ≤ 15 by decide) (by simp) fun wf => ?_
  simp only [go_sem, Tryz.f107]
  have e := tmod_pos x y hy
  have hne : y ≠ 0 := by omega
  have h1 := Int.emod_nonneg x hne
  have h2 := Int.emod_lt_of_pos x hy
  simp only [hne, not_false_eq_true, ne_eq, true_and]
  refine ⟨fun a1 => ?_, fun a1 => ?_⟩
  · rw [if_pos a1] at e
    rw [e, wrap_id _ (by omega) (by omega)]
    exact Fin.back wf h (fun _ _ => rfl) rfl
  · rw [if_neg a1] at e
    rw [e]
    exact Fin.back wf h (fun _ _ => rfl) rfl

theorem ref16_at (v : AV) (bs : List (BitVec 8)) (a : Int) (H : Heap) (n : Nat) (K : AV → Heap → Nat → Prop) (hv : bytesIn H v bs) (hvok : v.ok n = true) (h : K (.u8 (atS bs a)) H n) : ACalls Tryz.prog 101 [v, .i64 a] H n K := by
  refine ACalls.of_ev dr0 Tryz.func101 rfl (by decide +kernel) (by decide +kernel) (show 2 ≤ 16 by decide) (by simp [hv.ne]) fun wf => ?_
  have hlb : ∀ K, lenB (some .slice) v K = K (.i64 bs.length) := lenB_bytes hv
  have h0 := Int.emod_nonneg a (show (16384 : Int) ≠ 0 by decide)
  simp only [go_sem, Tryz.f101]
  refine modulo16_ok a 16384 (by decide) (by decide) _ _ _ ?_
  simp only [go_sem, hlb]
  refine ⟨fun hlt => ?_, fun hlt => ?_⟩
  · unfold atS at h
    rw [List.getD_eq_getElem?_getD, List.getElem?_eq_none (by omega)] at h
    exact Fin.back wf h (fun _ _ => rfl) rfl
  · obtain ⟨k, hk⟩ := Int.eq_ofNat_of_zero_le h0
    rw [hk] at hlt
    have hk' : k < bs.length := by omega
    rcases hv with ⟨rfl, rfl⟩ | ⟨su, b, o, c, blk, rfl, g0, g1, g2, g3⟩
    · simp at hk'
    obtain ⟨q1, q2⟩ := cells_at g2 g3 hk'
    have hk2 : (k : Int) < bs.length := by omega
    simp only [go_sem, hk, g1, q1, q2, hk2, hk']
    unfold atS at h
    rw [hk, Int.toNat_natCast] at h
    exact Fin.back wf h (fun _ _ => rfl) rfl
end Go.Proofs.Joy
namespace Go.Proofs.Joy
open Go.Ab Go.Proofs

set_option maxHeartbeats 1000000
set_option maxRecDepth 20000

theorem ref_entry (v : AV) (bs : List (BitVec 8)) (base line col : Int) (hb : 0 ≤ base ∧ base ≤ 14336) (hl : 0 ≤ line ∧ line < 28) (hc : 0 ≤ col ∧ col < 32) (H : Heap) (n : Nat) (K : AV → Heap → Nat → Prop) (hv : bytesIn H v bs) (hvok : v.ok n = true)
    (h : K (.tu [.i64 (entT bs (base + 64 * line + 2 * col)), .u8 (entH bs (base + 64 * line + 2 * col))]) H n) : ACalls Tryz.prog 99 [v, .i64 base, .i64 line, .i64 col] H n K := by
  refine ACalls.of_ev dr0 Tryz.func99 rfl (by decide +kernel) (by decide +kernel) (show 4 ≤ 39 by decide) (by simp [hv.ne]) fun wf => ?_
  have w1 : wrap64 (wrap64 (base % 16384 + wrap64 (64 * (line % 16384))) + wrap64 (2 * (col % 16384))) = base + 64 * line + 2 * col := by
    rw [Int.emod_eq_of_lt hb.1 (by omega), Int.emod_eq_of_lt hl.1 (by omega), Int.emod_eq_of_lt hc.1 (by omega)]
    rw [wrap_id (64 * line) (by omega) (by omega), wrap_id (2 * col) (by omega) (by omega), wrap_id (base + _) (by omega) (by omega), wrap_id _ (by omega) (by omega)]
  simp only [go_sem, Tryz.f99]
  refine modulo16_ok _ _ (by decide) (by decide) _ _ _ ?_
  simp only [go_sem]
  refine modulo16_ok _ _ (by decide) (by decide) _ _ _ ?_
  simp only [go_sem]
  refine modulo16_ok _ _ (by decide) (by decide) _ _ _ ?_
  simp only [go_sem, w1]
  generalize ha : base + 64 * line + 2 * col = a at h ⊢
  have wa : wrap64 (a + 1) = a + 1 := wrap_id _ (by omega) (by omega)
  refine ref16_at v bs _ _ _ _ hv hvok ?_
  simp only [go_sem, wa]
  refine ref16_at v bs _ _ _ _ hv hvok ?_
  have x1 := (atS bs a).isLt
  have x2 := (atS bs (a + 1)).isLt
  have w2 : wrap64 (((atS bs a).toNat : Int) + wrap64 (256 * ((atS bs (a + 1)).toNat : Int))) = ((entN bs a : Nat) : Int) := by
    unfold entN
    rw [wrap_id (256 * _) (by omega) (by omega), wrap_id _ (by omega) (by omega)]; omega
  have hT : ((entN bs a : Nat) : Int).tmod 512 = entT bs a := by rw [Int.tmod_eq_emod_of_nonneg (by omega)]; unfold entT; omega
  have hN : entN bs a < 65536 := by unfold entN; omega
  have hE : BitVec.ofInt 8 ((wrap64 (((entN bs a : Nat) : Int).tdiv 512)).tmod 16) = entH bs a := by
    rw [Int.tdiv_eq_ediv_of_nonneg (by omega), wrap_id _ (by omega) (by omega), Int.tmod_eq_emod_of_nonneg (by omega)]
    unfold entH
    rw [← BitVec.ofInt_natCast]
    congr 1
  simp only [go_sem, w2, hT, hE]
  exact Fin.back wf h (fun _ _ => rfl) rfl
theorem ref_source (regs : List (BitVec 8)) (hr : regs.length = 11) (line x : Int) (hl : 0 ≤ line ∧ line < 192) (hx : -100000 ≤ x ∧ x ≤ 100000) (H : Heap) (n : Nat) (K : AV → Heap → Nat → Prop)
    (h : K (.tu [.i64 (colS regs line x), .i64 (lowS regs line x)]) H n) : ACalls Tryz.prog 98 [.ag (regs.map .u8), .i64 line, .i64 x] H n K := by
  refine ACalls.of_awp Tryz.func98 rfl (by decide +kernel) (show 3 ≤ 52 by decide) (by simp) fun wf => ?_
  obtain ⟨r0, r1, r2, r3, r4, r5, r6, r7, r8, r9, r10, rfl⟩ := regs11 hr
  have hl1 : ¬ line < 0 := by omega
  have hl2 : ¬ 191 < line := by omega
  have y8 := r8.isLt
  have y9 := r9.isLt
  have e2 : wrap64 (x % 256 - r8.toNat) = x % 256 - r8.toNat := by rw [wrap_id _ (by omega) (by omega)]
  have e3 : (wrap64 (line + r9.toNat)).tmod 224 = (line + r9.toNat) % 224 := by rw [wrap_id _ (by omega) (by omega), Int.tmod_eq_emod_of_nonneg (by omega)]
  refine awp_step dr0 (by decide +kernel) ?_
  simp only [go_sem, Tryz.f98, List.map_cons, List.map_nil]
  refine awp_gen (fun X => X.wf (n + 1) ∧ X n = some ⟨[.u8 r0, .u8 r1, .u8 r2, .u8 r3, .u8 r4, .u8 r5, .u8 r6, .u8 r7, .u8 r8, .u8 r9, .u8 r10], 84, false⟩ ∧ ∀ k, k < n → X k = H k) ⟨Heap.wf_upd wf (map_u8_ok (bs := [r0, r1, r2, r3, r4, r5, r6, r7, r8, r9, r10])), Heap.upd_same _ _ _, fun k hk => Heap.upd_ne _ _ (by omega)⟩ ?_
  rintro X ⟨xw, x0, xo⟩
  refine awp_step dr0 (by decide +kernel) ?_
  simp only [go_sem, hl1, hl2]
  refine awp_step dr0 (by decide +kernel) ?_
  simp only [go_sem]
  refine modulo16_ok _ _ (by decide) (by decide) _ _ _ ?_
  simp only [go_sem]
  refine awp_step dr0 (by decide +kernel) ?_
  simp only [go_sem, x0, e2]
  refine modulo16_ok _ _ (by decide) (by decide) _ _ _ ?_
  simp only [go_sem]
  refine awp_step dr0 (by decide +kernel) ?_
  simp only [go_sem, x0, e3]
  refine awp_step dr0 (by decide +kernel) ?_
  simp only [go_sem, x0, sixty4]
  have hA : (r0 &&& 64#8 != 0#8) = true → line < 16 → colS [r0, r1, r2, r3, r4, r5, r6, r7, r8, r9, r10] line x = x % 256 := fun a b => if_pos ⟨by simpa using a, b⟩
  have hB : (r0 &&& 64#8 != 0#8) = false ∨ ¬ line < 16 → colS [r0, r1, r2, r3, r4, r5, r6, r7, r8, r9, r10] line x = (x % 256 - r8.toNat) % 256 := fun a => if_neg (fun c => by
    rcases a with a | a
    · exact c.1 (by simpa using a)
    · exact a c.2)
  have hC : (r0 &&& 128#8 != 0#8) = true → 192 ≤ x % 256 → lowS [r0, r1, r2, r3, r4, r5, r6, r7, r8, r9, r10] line x = line := fun a b => if_pos ⟨by simpa using a, b⟩
  have hD : (r0 &&& 128#8 != 0#8) = false ∨ ¬ 192 ≤ x % 256 → lowS [r0, r1, r2, r3, r4, r5, r6, r7, r8, r9, r10] line x = (line + r9.toNat) % 224 := fun a => if_neg (fun c => by
    rcases a with a | a
    · exact c.1 (by simpa using a)
    · exact a c.2)
  generalize colS [r0, r1, r2, r3, r4, r5, r6, r7, r8, r9, r10] line x = cc at h hA hB
  generalize lowS [r0, r1, r2, r3, r4, r5, r6, r7, r8, r9, r10] line x = ll at h hC hD
  have two : ∀ c : Int, c = cc → ((r0 &&& 128#8 != 0#8) = true → 192 ≤ x % 256 → K (.tu [.i64 c, .i64 line]) H n) ∧ ((r0 &&& 128#8 != 0#8) = false ∨ ¬ 192 ≤ x % 256 → K (.tu [.i64 c, .i64 ((line + r9.toNat) % 224)]) H n) := fun c hc => by
    subst hc
    exact ⟨fun a b => by rw [← hC a b]; exact h, fun a => by rw [← hD a]; exact h⟩
  refine ⟨fun a1 => ⟨fun a2 => ?_, fun a2 => ?_⟩, fun a1 => ?_⟩
  · obtain ⟨k1, k2⟩ := two _ (hA a1 a2).symm
    refine awp_step dr0 (by decide +kernel) ?_
    simp only [go_sem, x0, hundred28]
    refine ⟨fun b1 => ⟨fun b2 => ?_, fun b2 => ?_⟩, fun b1 => ?_⟩ <;> refine awp_ev dr0 (by decide +kernel) ?_ <;> simp only [go_sem]
    · exact Fin.back wf (k1 b1 b2) xo rfl
    · exact Fin.back wf (k2 (.inr b2)) xo rfl
    · exact Fin.back wf (k2 (.inl b1)) xo rfl
  · obtain ⟨k1, k2⟩ := two _ (hB (.inr a2)).symm
    refine awp_step dr0 (by decide +kernel) ?_
    simp only [go_sem, x0, hundred28]
    refine ⟨fun b1 => ⟨fun b2 => ?_, fun b2 => ?_⟩, fun b1 => ?_⟩ <;> refine awp_ev dr0 (by decide +kernel) ?_ <;> simp only [go_sem]
    · exact Fin.back wf (k1 b1 b2) xo rfl
    · exact Fin.back wf (k2 (.inr b2)) xo rfl
    · exact Fin.back wf (k2 (.inl b1)) xo rfl
  · obtain ⟨k1, k2⟩ := two _ (hB (.inl a1)).symm
    refine awp_step dr0 (by decide +kernel) ?_
    simp only [go_sem, x0, hundred28]
    refine ⟨fun b1 => ⟨fun b2 => ?_, fun b2 => ?_⟩, fun b1 => ?_⟩ <;> refine awp_ev dr0 (by decide +kernel) ?_ <;> simp only [go_sem]
    · exact Fin.back wf (k1 b1 b2) xo rfl
    · exact Fin.back wf (k2 (.inr b2)) xo rfl
    · exact Fin.back wf (k2 (.inl b1)) xo rfl
end Go.Proofs.Joy
namespace Go.Proofs.Joy
open Go.Ab Go.Proofs

set_option maxHeartbeats 1000000
set_option maxRecDepth 20000

structure DotS where
  k : Nat

theorem ref_dot16 (v : AV) (bs : List (BitVec 8)) (tile row : Int) (i : Nat) (hi : i < 8) (H : Heap) (n : Nat) (K : AV → Heap → Nat → Prop) (hv : bytesIn H v bs) (hvok : v.ok n = true) (h : K (.u8 (dotS bs (firstS tile row) false 4 i)) H n) : ACalls Tryz.prog 100 [v, .i64 tile, .i64 row, .i64 i] H n K := by
  refine ACalls.of_awp Tryz.func100 rfl (by decide +kernel) (show 4 ≤ 36 by decide) (by simp [hv.ne]) fun wf => ?_
  have hf := firstS_le tile row
  have e3 : wrap64 (wrap64 (32 * (tile % 512)) + wrap64 (4 * (row % 8))) = firstS tile row := by
    unfold firstS at hf ⊢
    rw [wrap_id (32 * _) (by omega) (by omega), wrap_id (4 * _) (by omega) (by omega), wrap_id _ (by omega) (by omega)]; omega
  refine awp_step dr0 (by decide +kernel) ?_
  simp only [go_sem, Tryz.f100]
  refine awp_step dr0 (by decide +kernel) ?_
  simp only [go_sem]
  refine modulo16_ok _ _ (by decide) (by decide) _ _ _ ?_
  simp only [go_sem]
  refine modulo16_ok _ _ (by decide) (by decide) _ _ _ ?_
  simp only [go_sem, e3]
  generalize firstS tile row = f at hf h ⊢
  refine awp_step dr0 (by decide +kernel) ?_
  simp only [go_sem]
  refine awp_seqF (S := Unit) (fun _ => [(10, .u8 (refD bs f i 4))]) (fun _ => H) (fun _ => n) (fun _ => True) (fun _ _ => ⟨wf, Env.okAt_of2 (by simp [AV.ok])⟩) ?_ ?_
  · refine awp_step dr0 (by decide +kernel) ?_
    simp only [go_sem]
    refine awp_block ?_
    refine awp_loopF (S := DotS) (fun t => [(0, v), (3, .i64 i), (9, .i64 f), (10, .u8 (refD bs f i t.k)), (11, .i64 (3 - (t.k : Int)))]) (fun _ => H) (fun _ => n) (fun t => t.k ≤ 4) (fun t => 4 - t.k)
      (fun t _ => ⟨wf, Env.okAt_of2 (by simp [AV.ok, hvok])⟩) ?_ ⟨0⟩ (Nat.zero_le _) (by repeat (first | exact Env.le_nil _ | refine Env.le_cons rfl ?_)) (fun _ _ => rfl) rfl
    rintro ⟨k⟩ hk
    simp only at hk ⊢
    refine awp_step dr0 (by decide +kernel) ?_
    simp only [go_sem]
    refine ⟨fun hlt => ?_, fun hlt => ?_⟩
    · have hk3 : k ≤ 3 := by omega
      have w1 : wrap64 (f + (3 - (k : Int))) = f + ((3 - k : Nat) : Int) := by rw [wrap_id _ (by omega) (by omega)]; omega
      have w2 : wrap64 (7 - (i : Int)) = ((7 - i : Nat) : Int) := by rw [wrap_id _ (by omega) (by omega)]; omega
      have w3 : wrap64 (3 - (k : Int) - 1) = 3 - ((k + 1 : Nat) : Int) := by rw [wrap_id _ (by omega) (by omega)]; omega
      refine awp_seq (awp_block ?_)
      refine awp_ev dr0 (by decide +kernel) ?_
      simp only [go_sem, w1]
      refine ref16_at v bs _ _ _ _ hv hvok ?_
      simp only [go_sem, w2]

      refine awp_ev dr0 (by decide +kernel) ?_
      simp only [go_sem, w3]
      exact Ends.mk ⟨k + 1⟩ ⟨by simp only; omega, by simp only; omega⟩ (by repeat (first | exact Env.le_nil _ | refine Env.le_cons rfl ?_)) (fun _ _ => rfl) (Nat.le_refl _) (Nat.le_refl _)
    · have hk4 : k = 4 := by omega
      subst hk4
      exact Ends.mk () trivial (by repeat (first | exact Env.le_nil _ | refine Env.le_cons rfl ?_)) (fun _ _ => rfl) (Nat.le_refl _) (Nat.le_refl _)
  rintro - -
  refine awp_ev dr0 (by decide +kernel) ?_
  simp only [go_sem]
  rw [refD_dot]
  exact Fin.back wf h (fun _ _ => rfl) rfl
end Go.Proofs.Joy
namespace Go.Proofs.Joy
open Go.Ab

set_option maxHeartbeats 1000000
set_option maxRecDepth 20000

theorem colS_le (regs : List (BitVec 8)) (line x : Int) : 0 ≤ colS regs line x ∧ colS regs line x < 256 := by
  unfold colS; split <;> omega
theorem lowS_le (regs : List (BitVec 8)) (line x : Int) (h : 0 ≤ line ∧ line < 192) : 0 ≤ lowS regs line x ∧ lowS regs line x < 224 := by
  unfold lowS; split <;> omega
theorem tabS_le (regs : List (BitVec 8)) : 0 ≤ tabS regs ∧ tabS regs ≤ 14336 := by
  unfold tabS
  have : (regs.getD 2 0#8 &&& 14#8).toNat ≤ 14 := by rw [BitVec.toNat_and]; exact Nat.and_le_right
  omega
theorem tab8 : ∀ b : BitVec 8, (b / 2#8 % 8#8 * 2#8) = b &&& 14#8 := by decide
theorem how2 : ∀ b : BitVec 8, ((b / 2#8 % 2#8 == 1#8) = (b &&& 2#8 != 0#8)) := by decide
theorem how1 : ∀ b : BitVec 8, ((b % 2#8 == 1#8) = (b &&& 1#8 != 0#8)) := by decide
theorem how4 : ∀ b : BitVec 8, (16#8 * (b / 4#8 % 2#8) = if b &&& 4#8 = 0#8 then 0#8 else 16#8) := by decide
theorem how8 : ∀ b : BitVec 8, b.toNat < 16 → ((b / 8#8 == 1#8) = (b &&& 8#8 != 0#8)) := by decide
theorem entH_lt (v : List (BitVec 8)) (a : Int) : (entH v a).toNat < 16 := by
  unfold entH; rw [BitVec.toNat_ofNat]; omega

end Go.Proofs.Joy
namespace Go.Proofs.Joy
open Go.Ab Go.Proofs

set_option maxHeartbeats 1000000
set_option maxRecDepth 20000

theorem ref_entry' (v : AV) (bs : List (BitVec 8)) (base line col : Int) (hb : 0 ≤ base ∧ base ≤ 14336) (hl : 0 ≤ line ∧ line < 28) (hc : 0 ≤ col ∧ col < 32) (H : Heap) (n : Nat) (K : AV → Heap → Nat → Prop) (hv : bytesIn H v bs) (hvok : v.ok n = true)
    (h : ∀ (tn : Int) (how : BitVec 8), tn = entT bs (base + 64 * line + 2 * col) → how = entH bs (base + 64 * line + 2 * col) → how.toNat < 16 → K (.tu [.i64 tn, .u8 how]) H n) : ACalls Tryz.prog 99 [v, .i64 base, .i64 line, .i64 col] H n K :=
  ref_entry v bs base line col hb hl hc H n K hv hvok (h _ _ rfl rfl (entH_lt _ _))

theorem ref_source' (regs : List (BitVec 8)) (hr : regs.length = 11) (line x : Int) (hl : 0 ≤ line ∧ line < 192) (hx : -100000 ≤ x ∧ x ≤ 100000) (H : Heap) (n : Nat) (K : AV → Heap → Nat → Prop)
    (h : ∀ c l : Int, c = colS regs line x → l = lowS regs line x → K (.tu [.i64 c, .i64 l]) H n) : ACalls Tryz.prog 98 [.ag (regs.map .u8), .i64 line, .i64 x] H n K := ref_source regs hr line x hl hx H n K (h _ _ rfl rfl)

theorem ref17_dot (v : AV) (bs regs : List (BitVec 8)) (hr : regs.length = 11) (line x : Int) (hl : 0 ≤ line ∧ line < 192) (hx : 0 ≤ x ∧ x < 256) (H : Heap) (n : Nat) (K : AV → Heap → Nat → Prop) (hv : bytesIn H v bs)
    (h : K (.tu [.u8 (gcolS bs regs line x), .bo (gfrS bs regs line x)]) H n) : ACalls Tryz.prog 87 [v, .ag (regs.map .u8), .i64 line, .i64 x] H n K := by
  refine ACalls.of_awp Tryz.func87 rfl (by decide +kernel) (show 4 ≤ 81 by decide) (by simp [hv.ne]) fun wf => ?_
  have hvok : v.ok n = true := by
    rcases hv with ⟨rfl, rfl⟩ | ⟨su, b, o, c, blk, rfl, h0, h1, h2, h3⟩
    · rfl
    · exact vw_ok (wf b _ h1).1
  have hc := colS_le regs line x
  have hw := lowS_le regs line x hl
  have ht := tabS_le regs
  have e0 : tabS regs = wrap64 (1024 * ((regs.getD 2 0#8 &&& 14#8).toNat : Int)) := by
    have : (regs.getD 2 0#8 &&& 14#8).toNat ≤ 14 := by rw [BitVec.toNat_and]; exact Nat.and_le_right
    unfold tabS; rw [wrap_id _ (by omega) (by omega)]; omega
  have hl1 : ¬ line < 0 := by omega
  have hl2 : ¬ 191 < line := by omega
  obtain ⟨r0, r1, r2, r3, r4, r5, r6, r7, r8, r9, r10, hregs⟩ := regs11 hr
  have hr2 : regs.getD 2 0#8 = r2 := by rw [hregs]; rfl
  have e0' : wrap64 (1024 * ((r2 &&& 14#8).toNat : Int)) = tabS regs := by rw [e0, hr2]
  have hm : regs.map AV.u8 = [.u8 r0, .u8 r1, .u8 r2, .u8 r3, .u8 r4, .u8 r5, .u8 r6, .u8 r7, .u8 r8, .u8 r9, .u8 r10] := by rw [hregs]; rfl
  rw [hm]
  refine awp_step dr0 (by decide +kernel) ?_
  simp only [go_sem, Tryz.f87]
  refine awp_gen (fun X => X.wf (n + 1) ∧ X n = some ⟨[.u8 r0, .u8 r1, .u8 r2, .u8 r3, .u8 r4, .u8 r5, .u8 r6, .u8 r7, .u8 r8, .u8 r9, .u8 r10], 84, false⟩ ∧ ∀ k, k < n → X k = H k) ⟨Heap.wf_upd wf (map_u8_ok (bs := [r0, r1, r2, r3, r4, r5, r6, r7, r8, r9, r10])), Heap.upd_same _ _ _, fun k hk => Heap.upd_ne _ _ (by omega)⟩ ?_
  rintro X ⟨xw, x0, xo⟩
  have hvX := hv.mono hvok xo
  have hvok1 : v.ok (n + 1) = true := AV.ok_mono (by omega) _ hvok
  refine awp_step dr0 (by decide +kernel) ?_
  simp only [go_sem, hl1, hl2]
  refine awp_step dr0 (by decide +kernel) ?_
  simp only [go_sem, x0]
  rw [← hm]
  refine ref_source' regs hr line x hl (by omega) _ _ _ ?_
  intro cx lw ecx elw
  rw [← ecx] at hc
  rw [← elw] at hw
  simp only [go_sem]
  refine awp_step dr0 (by decide +kernel) ?_
  simp only [go_sem, x0, tab8, e0']
  refine awp_step dr0 (by decide +kernel) ?_
  have d1 : wrap64 (lw.tdiv 8) = lw / 8 := by rw [Int.tdiv_eq_ediv_of_nonneg (by omega), wrap_id _ (by omega) (by omega)]
  have d2 : wrap64 (cx.tdiv 8) = cx / 8 := by rw [Int.tdiv_eq_ediv_of_nonneg (by omega), wrap_id _ (by omega) (by omega)]
  have m1 : lw.tmod 8 = lw % 8 := by rw [Int.tmod_eq_emod_of_nonneg (by omega)]
  have m2 : cx.tmod 8 = cx % 8 := by rw [Int.tmod_eq_emod_of_nonneg (by omega)]
  simp only [go_sem, d1, d2]
  refine ref_entry' v bs (tabS regs) _ _ ht (by omega) (by omega) _ _ _ hvX hvok1 ?_
  intro tn hw8 et eh hh
  simp only [go_sem]
  refine awp_step dr0 (by decide +kernel) ?_
  simp only [go_sem, m1, m2]
  obtain ⟨c, hcn⟩ : ∃ c : Nat, cx % 8 = (c : Int) := ⟨(cx % 8).toNat, by omega⟩
  have hc8 : c < 8 := by omega
  rw [hcn]
  have w7 : wrap64 (7 - lw % 8) = 7 - lw % 8 := wrap_id _ (by omega) (by omega)
  have wc : wrap64 (7 - (c : Int)) = ((7 - c : Nat) : Int) := by rw [wrap_id _ (by omega) (by omega)]; omega
  have fin : ∀ (r : Int) (j : Nat), r = inS hw8 lw → j = (if decide (hw8 &&& 1#8 ≠ 0#8) = true then 7 - c else c) →
      gcolS bs regs line x = dotS bs (firstS tn r) false 4 j + (if hw8 &&& 4#8 = 0#8 then 0#8 else 16#8) ∧ gfrS bs regs line x = (decide (hw8 &&& 8#8 ≠ 0#8) && decide (dotS bs (firstS tn r) false 4 j ≠ 0#8)) := fun r j hr' hj => by
    have ed : gdotS bs regs line x = dotS bs (firstS tn r) false 4 j := by
      unfold gdotS seenS plcS
      rw [← ecx, ← elw, hcn, Int.toNat_natCast, rowS_getD _ _ _ hc8, hr', hj, et, eh]
    have eg : ghowS bs regs line x = hw8 := by
      unfold ghowS howS plcS
      rw [← ecx, ← elw, eh]
    unfold gcolS gfrS
    rw [ed, eg]
    exact ⟨rfl, rfl⟩
  refine awp_seqF (S := Unit) (fun _ => [(0, v), (13, .i64 tn), (14, .u8 hw8), (15, .i64 (inS hw8 lw)), (16, .i64 c)]) (fun _ => X) (fun _ => n + 1) (fun _ => True) (fun _ _ => ⟨xw, Env.okAt_of2 (by simp [AV.ok, hvok1])⟩) ?_ ?_
  · refine awp_ev dr0 (by decide +kernel) ?_
    simp only [go_sem, how2, w7]
    have i1 : (hw8 &&& 2#8 != 0#8) = true → inS hw8 lw = 7 - lw % 8 := fun a => if_neg (by simpa using a)
    have i2 : (hw8 &&& 2#8 != 0#8) = false → inS hw8 lw = lw % 8 := fun a => if_pos (by simpa using a)
    refine ⟨fun a => ?_, fun a => ?_⟩
    · rw [i1 a]; exact Ends.mk () trivial (by repeat (first | exact Env.le_nil _ | refine Env.le_cons rfl ?_)) (fun _ _ => rfl) (Nat.le_refl _) (Nat.le_refl _)
    · rw [i2 a]; exact Ends.mk () trivial (by repeat (first | exact Env.le_nil _ | refine Env.le_cons rfl ?_)) (fun _ _ => rfl) (Nat.le_refl _) (Nat.le_refl _)
  rintro - -
  obtain ⟨j, hj, hj8⟩ : ∃ j, j = (if decide (hw8 &&& 1#8 ≠ 0#8) = true then 7 - c else c) ∧ j < 8 := ⟨_, rfl, by split <;> omega⟩
  obtain ⟨f1, f2⟩ := fin _ _ rfl hj
  refine awp_seqF (S := Unit) (fun _ => [(0, v), (13, .i64 tn), (14, .u8 hw8), (15, .i64 (inS hw8 lw)), (16, .i64 j)]) (fun _ => X) (fun _ => n + 1) (fun _ => True) (fun _ _ => ⟨xw, Env.okAt_of2 (by simp [AV.ok, hvok1])⟩) ?_ ?_
  · refine awp_ev dr0 (by decide +kernel) ?_
    simp only [go_sem, how1, wc]
    have i1 : (hw8 &&& 1#8 != 0#8) = true → j = 7 - c := fun a => by rw [hj]; exact if_pos (by simpa using a)
    have i2 : (hw8 &&& 1#8 != 0#8) = false → j = c := fun a => by rw [hj]; exact if_neg (by simpa using a)
    refine ⟨fun a => ?_, fun a => ?_⟩
    · rw [i1 a]; exact Ends.mk () trivial (by repeat (first | exact Env.le_nil _ | refine Env.le_cons rfl ?_)) (fun _ _ => rfl) (Nat.le_refl _) (Nat.le_refl _)
    · rw [i2 a]; exact Ends.mk () trivial (by repeat (first | exact Env.le_nil _ | refine Env.le_cons rfl ?_)) (fun _ _ => rfl) (Nat.le_refl _) (Nat.le_refl _)
  rintro - -
  refine awp_step dr0 (by decide +kernel) ?_
  simp only [go_sem]
  refine ref_dot16 v bs _ _ j hj8 _ _ _ hvX hvok1 ?_
  generalize dotS bs (firstS tn (inS hw8 lw)) false 4 j = dd at f1 f2 ⊢
  have e8 := how8 hw8 hh
  refine awp_ev dr0 (by decide +kernel) ?_
  simp only [go_sem, how4, e8]
  rw [f1, f2] at h
  have g0 : decide (0#8 < dd) = decide (dd ≠ 0#8) := by
    clear f1 f2 h
    revert dd; decide
  refine ⟨fun a => ?_, fun a => ?_⟩
  · have a' : hw8 &&& 8#8 ≠ 0#8 := by simpa using a
    rw [decide_eq_true a', Bool.true_and] at h
    rw [g0]
    exact Fin.back wf h xo rfl
  · have a' : ¬ hw8 &&& 8#8 ≠ 0#8 := by simpa using a
    rw [decide_eq_false a', Bool.false_and] at h
    exact Fin.back wf h xo rfl
end Go.Proofs.Joy
namespace Go.Proofs.Joy
open Go.Ab Go.Proofs

set_option maxHeartbeats 1000000
set_option maxRecDepth 20000

theorem ref_height (regs : List (BitVec 8)) (hr : regs.length = 11) (H : Heap) (n : Nat) (K : AV → Heap → Nat → Prop) (h : K (.i64 (heightS regs)) H n) : ACalls Tryz.prog 104 [.ag (regs.map .u8)] H n K := by
  refine ACalls.of_ev dr0 Tryz.func104 rfl (by decide +kernel) (by decide +kernel) (show 1 ≤ 16 by decide) (by simp) fun wf => ?_
  simp only [go_sem, Tryz.f104]
  obtain ⟨r0, r1, r2, r3, r4, r5, r6, r7, r8, r9, r10, rfl⟩ := regs11 hr
  simp only [go_sem, List.map_cons, List.map_nil]
  have e : heightS [r0, r1, r2, r3, r4, r5, r6, r7, r8, r9, r10] = (if r1 &&& 2#8 = 0#8 then 8 else 16) * (if r1 &&& 1#8 = 0#8 then 1 else 2) := rfl
  have key : ∀ r : BitVec 8, wrap64 (wrap64 (8 * wrap64 (1 + ((r / 2#8 % 2#8).toNat : Int))) * wrap64 (1 + ((r % 2#8).toNat : Int))) = (if r &&& 2#8 = 0#8 then 8 else 16) * (if r &&& 1#8 = 0#8 then 1 else 2) := by decide +kernel
  rw [key, ← e]
  exact Fin.back wf h (fun i hi => by simp only [go_sem, hi]) rfl

theorem ref_base (regs : List (BitVec 8)) (hr : regs.length = 11) (H : Heap) (n : Nat) (K : AV → Heap → Nat → Prop) (h : K (.i64 (baseS regs)) H n) : ACalls Tryz.prog 102 [.ag (regs.map .u8)] H n K := by
  refine ACalls.of_ev dr0 Tryz.func102 rfl (by decide +kernel) (by decide +kernel) (show 1 ≤ 10 by decide) (by simp) fun wf => ?_
  simp only [go_sem, Tryz.f102]
  obtain ⟨r0, r1, r2, r3, r4, r5, r6, r7, r8, r9, r10, rfl⟩ := regs11 hr
  simp only [go_sem, List.map_cons, List.map_nil]
  have e : baseS [r0, r1, r2, r3, r4, r5, r6, r7, r8, r9, r10] = (((r5 &&& 126#8).toNat * 128 : Nat) : Int) := rfl
  have key : ∀ r : BitVec 8, wrap64 (128 * ((r / 2#8 % 64#8 * 2#8).toNat : Int)) = (((r &&& 126#8).toNat * 128 : Nat) : Int) := by decide +kernel
  rw [key, ← e]
  exact Fin.back wf h (fun i hi => by simp only [go_sem, hi]) rfl

theorem ref_top (y : BitVec 8) (H : Heap) (n : Nat) (K : AV → Heap → Nat → Prop) (h : K (.i64 (topS y)) H n) : ACalls Tryz.prog 103 [.u8 y] H n K := by
  refine ACalls.of_ev dr0 Tryz.func103 rfl (by decide +kernel) (by decide +kernel) (show 1 ≤ 12 by decide) (by simp) fun wf => ?_
  simp only [go_sem, Tryz.f103]
  have hy := y.isLt
  have w1 : wrap64 ((y.toNat : Int) + 1) = (y.toNat : Int) + 1 := wrap_id _ (by omega) (by omega)
  unfold topS at h
  rw [w1]
  refine ⟨fun a1 => ?_, fun a1 => ?_⟩
  · rw [if_neg (by omega)] at h
    rw [wrap_id _ (by omega) (by omega), show (y.toNat : Int) + 1 - 256 = (y.toNat : Int) - 255 by omega]
    exact Fin.back wf h (fun _ _ => rfl) rfl
  · rw [if_pos (by omega)] at h
    exact Fin.back wf h (fun _ _ => rfl) rfl
end Go.Proofs.Joy
namespace Go.Proofs.Joy
open Go.Ab Go.Proofs

set_option maxHeartbeats 1000000
set_option maxRecDepth 20000

/-- An answer: numbers, or an empty row that is not nil. -/
def intsE (q l : Nat) : AV := if l = 0 then .sl q 0 0 0 else .su q 0 l 1

theorem intsE_ok {q l n : Nat} (h : q < n) : (intsE q l).ok n = true := by
  unfold intsE; split <;> simp [AV.ok, h]

structure RefI (bs regs : List (BitVec 8)) (line : Int) (H : Heap) (n : Nat) (t : OnS) : Prop where
  i : t.i ≤ 64
  no : ∀ j, j < t.i → yS bs regs j ≠ 208#8
  m : n + 2 ≤ t.m
  wf : t.H.wf t.m
  rg : t.H n = some ⟨regs.map .u8, 84, false⟩
  old : ∀ k, k < n → t.H k = H k
  q0 : n + 1 ≤ t.q
  q1 : t.q < t.m
  out : t.H t.q = some ⟨intsC (hitsTo bs regs line t.i), 3, false⟩

theorem ref_on (v : AV) (bs regs : List (BitVec 8)) (hr : regs.length = 11) (line : Int) (hln : -9223372036854775808 ≤ line ∧ line ≤ 9223372036854775807) (H : Heap) (n : Nat) (K : AV → Heap → Nat → Prop) (hv : bytesIn H v bs)
    (h : ∀ (q : Nat) (H' : Heap) (m : Nat), n ≤ m → H'.wf m → (∀ i, i < n → H' i = H i) → q < m → (hitsS bs regs line ≠ [] → n ≤ q ∧ H' q = some ⟨intsC (hitsS bs regs line), 3, false⟩) →
      K (intsE q (hitsS bs regs line).length) H' m) : ACalls Tryz.prog 88 [v, .ag (regs.map .u8), .i64 line] H n K := by
  refine ACalls.of_awp Tryz.func88 rfl (by decide +kernel) (show 3 ≤ 49 by decide) (by simp [hv.ne]) fun wf => ?_
  have hvok : v.ok n = true := by
    rcases hv with ⟨rfl, rfl⟩ | ⟨su, b, o, c, blk, rfl, h0, h1, h2, h3⟩
    · rfl
    · exact vw_ok (wf b _ h1).1
  refine awp_step dr88 (by decide +kernel) ?_
  simp only [go_sem, Tryz.f88]
  refine awp_step dr88 (by decide +kernel) ?_
  simp only [go_sem]
  have hRB : ∀ x ∈ (⟨regs.map .u8, 84, false⟩ : Blk).cells, x.ok (n + 1) = true := map_u8_ok
  refine awp_gen (RefI bs regs line H n ⟨0, n + 1, n + 2, ·⟩) ⟨Nat.zero_le _, fun j hj => absurd hj (Nat.not_lt_zero _), Nat.le_refl _, Heap.wf_upd (Heap.wf_upd wf hRB) (by intro x hx; simp [repCells] at hx), by
    simp only; rw [Heap.upd_ne _ _ (by omega), Heap.upd_same], fun k hk => by simp only; rw [Heap.upd_ne _ _ (by omega), Heap.upd_ne _ _ (by omega)], Nat.le_refl _, Nat.lt_succ_self _, by simp only; rw [Heap.upd_same]; rfl⟩ ?_
  intro X hX
  have x0 := hX.rg
  simp only at x0
  have fin : ∀ (q m : Nat) (H1 : Heap), n + 1 ≤ q → q < m → H1.wf m → (∀ k, k < n → H1 k = H k) → H1 q = some ⟨intsC (hitsS bs regs line), 3, false⟩ → Fin n (intsE q (hitsS bs regs line).length) H1 m K := fun q m H1 a1 a2 a3 a4 a5 =>
    Fin.keep (h q H1 m (by omega) a3 a4 a2 (fun _ => ⟨by omega, a5⟩))
  refine awp_seqF (S := Unit) (fun _ => [(0, v), (2, .i64 line), (4, .pt n 0), (7, .sl (n + 1) 0 0 0)]) (fun _ => X) (fun _ => n + 2) (fun _ => 0 ≤ line ∧ line < 192)
    (fun _ _ => ⟨hX.wf, Env.okAt_of2 (by simp [AV.ok, AV.ok_mono (show n ≤ n + 2 by omega) _ hvok])⟩) ?_ ?_
  · have out : (line < 0 ∨ 191 < line) → Fin n (.sl (n + 1) 0 0 0) X (n + 2) K := fun ho => by
      have e : hitsS bs regs line = [] := if_pos ho
      have := fin (n + 1) (n + 2) X (by omega) (by omega) hX.wf hX.old (by rw [e]; exact hX.out)
      rw [e] at this
      exact this
    refine awp_ev dr88 (by decide +kernel) ?_
    simp only [go_sem]
    exact ⟨fun a1 => ⟨fun a2 => out (by omega), fun a2 => Ends.mk () ⟨by omega, by omega⟩ (Env.le_cons rfl (Env.le_cons rfl (Env.le_cons rfl (Env.le_cons rfl (Env.le_nil _))))) (fun _ _ => rfl) (Nat.le_refl _) (Nat.le_refl _)⟩, fun a1 => out (by omega)⟩
  rintro - ⟨l1, l2⟩
  have hS : hitsS bs regs line = hitsTo bs regs line (endS bs regs) := if_neg (by omega)
  refine awp_seqF (S := OnS) (fun t => [(7, intsE t.q (hitsS bs regs line).length)]) (fun t => t.H) (fun t => t.m)
    (fun t => n + 1 ≤ t.q ∧ t.q < t.m ∧ t.H.wf t.m ∧ (∀ k, k < n → t.H k = H k) ∧ t.H t.q = some ⟨intsC (hitsS bs regs line), 3, false⟩)
    (fun t ht => ⟨ht.2.2.1, Env.okAt_of2 (by simp [intsE_ok ht.2.1])⟩) ?_ ?_
  · refine awp_step dr88 (by decide +kernel) ?_
    simp only [go_sem]
    refine awp_block ?_
    refine awp_loopF (S := OnS) (fun t => [(0, v), (2, .i64 line), (4, .pt n 0), (7, intsE t.q (hitsTo bs regs line t.i).length), (8, .i64 t.i)]) (fun t => t.H) (fun t => t.m) (RefI bs regs line H n) (fun t => 64 - t.i)
      (fun t ht => ⟨ht.wf, Env.okAt_of2 (by
        have e1 := ht.m
        have e2 := intsE_ok (q := t.q) (l := (hitsTo bs regs line t.i).length) (n := t.m) ht.q1
        simp [AV.ok, AV.ok_mono (show n ≤ t.m by omega) _ hvok, e2]; omega)⟩) ?_ ⟨0, n + 1, n + 2, X⟩ hX
      (Env.le_cons rfl (Env.le_cons rfl (Env.le_cons rfl (Env.le_cons rfl (Env.le_cons rfl (Env.le_nil _)))))) (fun _ _ => rfl) rfl
    rintro ⟨i, q, m, H1⟩ hI
    have hi := hI.i; have hno := hI.no; have hm := hI.m; have hwf := hI.wf; have hreg := hI.rg; have hold := hI.old; have hq0 := hI.q0; have hq1 := hI.q1; have hout := hI.out
    simp only at hi hno hm hwf hreg hold hq0 hq1 hout ⊢
    have hv1 : bytesIn H1 v bs := hv.mono hvok hold
    have hvok1 : v.ok m = true := AV.ok_mono (by omega) _ hvok
    have hsucc := hitsTo_succ bs regs line i
    refine awp_step dr88 (by decide +kernel) ?_
    simp only [go_sem]
    refine ⟨fun hlt => ?_, fun hlt => ?_⟩
    · have hlt' : i < 64 := by omega
      have w2 : wrap64 ((i : Int) + 1) = ((i + 1 : Nat) : Int) := by rw [wrap_id _ (by omega) (by omega)]; omega
      have hbl := baseS_le regs
      have w3 : wrap64 (baseS regs + (i : Int)) = baseS regs + i := wrap_id _ (by omega) (by omega)
      have ht := topS_le (yS bs regs i)
      have hh := heightS_le regs
      have w4 : wrap64 (topS (yS bs regs i) + heightS regs) = topS (yS bs regs i) + heightS regs := wrap_id _ (by omega) (by omega)
      refine awp_ev dr88 (by decide +kernel) ?_
      simp only [go_sem, hreg, hr, List.length_map, take_map_all hr]
      refine ref_base regs hr _ _ _ ?_
      simp only [go_sem, w3]
      refine ref16_at v bs _ _ _ _ hv1 hvok1 ?_
      rw [show atS bs (baseS regs + (i : Int)) = yS bs regs i from rfl]
      simp only [go_sem]
      refine ⟨fun hy => ?_, fun hy => ?_⟩
      · simp only [beq_iff_eq] at hy
        have he : hitsS bs regs line = hitsTo bs regs line i := by rw [hS, endS_at hlt' hy hno]
        rw [he] at fin
        exact ⟨by unfold intsE; split <;> simp, fin q m H1 hq0 hq1 hwf hold hout⟩
      simp only [beq_eq_false_iff_ne, ne_eq] at hy
      have hno' : ∀ j, j < i + 1 → yS bs regs j ≠ 208#8 := fun j hj => by
        rcases Nat.lt_or_ge j i with c | c
        · exact hno j c
        · rw [show j = i by omega]; exact hy
      have next : ∀ e : Env, e.get 0 = v → e.get 2 = .i64 line → e.get 4 = .pt n 0 → e.get 7 = intsE q (hitsTo bs regs line i).length → e.get 8 = .i64 ((i + 1 : Nat) : Int) → onS' bs regs line i = false → Go.Ab.Ends (fun t : OnS =>
          [(0, v), (2, AV.i64 line), (4, AV.pt n 0), (7, intsE t.q (hitsTo bs regs line t.i).length), (8, AV.i64 (t.i : Int))])
          (fun t => t.H) (fun t => t.m) (fun s' => 64 - s'.i < 64 - i ∧ RefI bs regs line H n s') m e H1 m := fun e g0 g2 g4 g7 g8 ho => by
        have e1 : hitsTo bs regs line (i + 1) = hitsTo bs regs line i := by rw [hsucc, ho]; simp
        exact Go.Ab.Ends.mk ⟨i + 1, q, m, H1⟩ ⟨by simp only; omega, hlt', hno', hm, hwf, hreg, hold, hq0, hq1, by simp only; rw [e1]; exact hout⟩ (Env.le_cons g0 (Env.le_cons g2 (Env.le_cons g4 (Env.le_cons (by rw [e1]; exact g7) (Env.le_cons g8 (Env.le_nil _)))))) (fun _ _ => rfl) (Nat.le_refl _) (Nat.le_refl _)
      refine ref_top _ _ _ _ ?_
      simp only [go_sem, hreg, hr, List.length_map, take_map_all hr]
      refine ⟨fun c1 => ?_, fun c1 => ?_⟩
      · refine ref_top _ _ _ _ ?_
        simp only [go_sem]
        refine ⟨by simp only [go_sem, hreg, hr, List.length_map, take_map_all hr], ?_⟩
        refine ref_height regs hr _ _ _ ?_
        simp only [go_sem, w4, hreg, hr, List.length_map, take_map_all hr]
        refine ⟨fun c2 => ?_, fun c2 => ?_⟩
        · have ho : onS' bs regs line i = true := by unfold onS'; rw [Bool.and_eq_true]; exact ⟨by simp; omega, by simp; omega⟩
          rw [ho, if_pos rfl] at hsucc
          have hll := hitsTo_len bs regs line i
          have ok1 : ∀ k, ∀ x ∈ [AV.i64 (i : Int)], x.ok k = true := fun k x hx => by
            simp only [List.mem_cons, List.not_mem_nil, or_false] at hx; subst hx; rfl
          have ok2 : ∀ k, ∀ x ∈ intsC (hitsTo bs regs line (i + 1)), x.ok k = true := fun k x hx => by
            simp only [intsC, List.mem_map] at hx
            obtain ⟨j, -, rfl⟩ := hx
            rfl
          have el1 : (hitsTo bs regs line (i + 1)).length = (hitsTo bs regs line i).length + 1 := by rw [hsucc]; simp
          have hq' : ∀ Z, (H1.upd m Z) q = some ⟨intsC (hitsTo bs regs line i), 3, false⟩ := fun Z => by rw [Heap.upd_ne _ _ (by omega)]; exact hout
          have hql : (intsC (hitsTo bs regs line i)).length = (hitsTo bs regs line i).length := by simp [intsC]
          have ec : (intsC (hitsTo bs regs line i)).take (hitsTo bs regs line i).length ++ [AV.i64 (i : Int)] = intsC (hitsTo bs regs line (i + 1)) := by
            rw [List.take_of_length_le (by rw [hql]; exact Nat.le_refl _), hsucc]; simp [intsC]
          have app : ∀ (e : Env) (H' : Heap), e.get 0 = v → e.get 2 = .i64 line → e.get 4 = .pt n 0 → e.get 7 = intsE (m + 1) (hitsTo bs regs line (i + 1)).length → e.get 8 = .i64 ((i + 1 : Nat) : Int) →
              H'.wf (m + 2) → H' n = some ⟨regs.map .u8, 84, false⟩ → (∀ k, k < n → H' k = H k) → H' (m + 1) = some ⟨intsC (hitsTo bs regs line (i + 1)), 3, false⟩ → Go.Ab.Ends (fun t : OnS =>
              [(0, v), (2, AV.i64 line), (4, AV.pt n 0), (7, intsE t.q (hitsTo bs regs line t.i).length), (8, AV.i64 (t.i : Int))])
              (fun t => t.H) (fun t => t.m) (fun s' => 64 - s'.i < 64 - i ∧ RefI bs regs line H n s') m e H' (m + 2) := fun e H' g0 g2 g4 g7 g8 k3 k4 k5 k6 =>
            Go.Ab.Ends.mk ⟨i + 1, m + 1, m + 2, H'⟩ ⟨by simp only; omega, hlt', hno', by simp only; omega, k3, k4, k5, by simp only; omega, by simp only; omega, k6⟩ (Env.le_cons g0 (Env.le_cons g2 (Env.le_cons g4 (Env.le_cons g7 (Env.le_cons g8 (Env.le_nil _)))))) (fun _ _ => rfl) (by simp only; omega) (Nat.le_refl _)
          by_cases hz : (hitsTo bs regs line i).length = 0
          · rw [show intsE q (hitsTo bs regs line i).length = .sl q 0 0 0 by unfold intsE; rw [if_pos hz]]
            simp only [go_sem, hq', hql, w2]
            have hz' : hitsTo bs regs line i = [] := List.eq_nil_of_length_eq_zero hz
            have hs1 : hitsTo bs regs line (i + 1) = [i] := by rw [hsucc, hz']; rfl
            exact ⟨Nat.zero_le _, app _ _ rfl rfl rfl (by rw [hs1]; rfl) rfl (Heap.wf_upd (Heap.wf_upd hwf (ok1 _)) (ok1 _)) (by rw [Heap.upd_ne _ _ (by omega), Heap.upd_ne _ _ (by omega)]; exact hreg)
              (fun k hk => by rw [Heap.upd_ne _ _ (by omega), Heap.upd_ne _ _ (by omega)]; exact hold k hk) (by rw [Heap.upd_same, hs1]; rfl)⟩
          · rw [show intsE q (hitsTo bs regs line i).length = .su q 0 (hitsTo bs regs line i).length 1 by unfold intsE; rw [if_neg hz]]
            simp only [go_sem, hq', hql, w2]
            rw [ec]
            exact ⟨by omega, app _ _ rfl rfl rfl (by rw [el1]; rfl) rfl (Heap.wf_upd (Heap.wf_upd_none (Heap.wf_upd hwf (ok1 _))) (ok2 _)) (by rw [Heap.upd_ne _ _ (by omega), Heap.upd_ne _ _ (by omega), Heap.upd_ne _ _ (by omega)]; exact hreg)
              (fun k hk => by rw [Heap.upd_ne _ _ (by omega), Heap.upd_ne _ _ (by omega), Heap.upd_ne _ _ (by omega)]; exact hold k hk) (by rw [Heap.upd_same])⟩
        · simp only [w2]
          exact next _ rfl rfl rfl rfl rfl (by unfold onS'; rw [Bool.and_eq_false_iff]; right; simp; omega)
      · simp only [w2]
        exact next _ rfl rfl rfl rfl rfl (by unfold onS'; rw [Bool.and_eq_false_iff]; left; simp; omega)
    · have hie : i = 64 := by omega
      subst hie
      have he : hitsS bs regs line = hitsTo bs regs line 64 := by rw [hS, endS_none hno]
      exact Go.Ab.Ends.mk ⟨64, q, m, H1⟩ ⟨hq0, hq1, hwf, hold, by rw [he]; exact hout⟩ (Env.le_cons (by rw [he]; rfl) (Env.le_nil _)) (fun _ _ => rfl) (by omega) (Nat.le_refl _)
  rintro ⟨i, q, m, H1⟩ ⟨e1, e2, e3, e4, e5⟩
  simp only at e1 e2 e3 e4 e5 ⊢
  refine awp_ev dr88 (by decide +kernel) ?_
  simp only [go_sem]
  exact ⟨by unfold intsE; split <;> simp, fin q m H1 e1 e2 e3 e4 e5⟩
end Go.Proofs.Joy
namespace Go.Proofs.Joy
open Go.Ab

theorem put_c (s : RowS) (hl : s.c.length = 256) (X : Int) (d : BitVec 8) {x : Nat} (hx : x < 256) :
    (s.put X d).c.getD x 0#8 = if (x : Int) = X ∧ d ≠ 0#8 ∧ s.c.getD x 0#8 = 0#8 then 16#8 + d else s.c.getD x 0#8 := by
  unfold RowS.put
  by_cases h256 : X < 256
  · rw [if_pos h256]
    show (putC s.c X d).getD x 0#8 = _
    unfold putC
    by_cases h0 : d = 0#8 ∨ X < 0
    · rw [if_pos h0, if_neg (fun c => by rcases h0 with h | h; exact c.2.1 h; omega)]
    · rw [if_neg h0]
      have hd : d ≠ 0#8 := fun e => h0 (.inl e)
      have hX : 0 ≤ X := by omega
      by_cases h1 : s.c.getD X.toNat 0#8 ≠ 0#8
      · rw [if_pos h1, if_neg (fun c => h1 (by rw [← c.1, Int.toNat_natCast]; exact c.2.2))]
      · rw [if_neg h1, getD_set8]
        by_cases h2 : X.toNat = x
        · rw [if_pos ⟨h2, by omega⟩, if_pos ⟨by omega, hd, by rw [← h2]; simpa using h1⟩]
        · rw [if_neg (fun c => h2 c.1), if_neg (fun c => h2 (by omega))]
  · rw [if_neg h256, if_neg (fun c => by omega)]
theorem put_m (s : RowS) (X : Int) (d : BitVec 8) : (s.put X d).m = true ↔ s.m = true ∨ (0 ≤ X ∧ X < 256 ∧ d ≠ 0#8 ∧ s.c.getD X.toNat 0#8 ≠ 0#8) := by
  unfold RowS.put
  by_cases h256 : X < 256
  · rw [if_pos h256]
    show putM s.c s.m X d = true ↔ _
    unfold putM
    by_cases h0 : d = 0#8 ∨ X < 0
    · rw [if_pos h0]
      exact ⟨.inl, fun h => h.elim id fun c => by rcases h0 with h | h; exact absurd h c.2.2.1; omega⟩
    · rw [if_neg h0]
      have hd : d ≠ 0#8 := fun e => h0 (.inl e)
      by_cases h1 : s.c.getD X.toNat 0#8 ≠ 0#8
      · rw [if_pos h1]; exact ⟨fun _ => .inr ⟨by omega, h256, hd, h1⟩, fun _ => rfl⟩
      · rw [if_neg h1]; exact ⟨.inl, fun h => h.elim id fun c => absurd c.2.2.2 h1⟩
  · rw [if_neg h256]
    exact ⟨.inl, fun h => h.elim id fun c => by omega⟩

/-- A sprite's dot at a step from its left. -/
def stepD (v regs : List (BitVec 8)) (line : Int) (i : Nat) (u : Int) : BitVec 8 := (dotsL v regs i line).getD (u.toNat / wideS regs) 0#8
/-- A sprite's dot at a column. -/
def dotX (v regs : List (BitVec 8)) (line : Int) (i : Nat) (x : Nat) : BitVec 8 := if 0 ≤ (x : Int) - leftS v regs i ∧ (x : Int) - leftS v regs i < ((8 * wideS regs : Nat) : Int) then stepD v regs line i (x - leftS v regs i) else 0#8
theorem sprTo_c (v regs : List (BitVec 8)) (line : Int) (i : Nat) (s : RowS) (hl : s.c.length = 256) (t : Nat) {x : Nat} (hx : x < 256) :
    (sprTo v regs line i s t).c.getD x 0#8 = if (0 ≤ (x : Int) - leftS v regs i ∧ (x : Int) - leftS v regs i < (t : Int)) ∧ stepD v regs line i (x - leftS v regs i) ≠ 0#8 ∧ s.c.getD x 0#8 = 0#8 then 16#8 + stepD v regs line i (x - leftS v regs i) else s.c.getD x 0#8 := by
  induction t with
  | zero => rw [if_neg (fun c => by omega)]; rfl
  | succ t ih =>
    show ((sprTo v regs line i s t).put (leftS v regs i + t) ((dotsL v regs i line).getD (t / wideS regs) 0#8)).c.getD x 0#8 = _
    rw [put_c _ (by rw [sprTo_len, hl]) _ _ hx, ih]
    by_cases e : (x : Int) = leftS v regs i + t
    · have es : stepD v regs line i (x - leftS v regs i) = (dotsL v regs i line).getD (t / wideS regs) 0#8 := by
        unfold stepD; rw [e, show (leftS v regs i + (t : Int) - leftS v regs i).toNat = t by omega]
      rw [if_neg (c := (0 ≤ (x : Int) - leftS v regs i ∧ (x : Int) - leftS v regs i < (t : Int)) ∧ _) (fun c => by omega), es]
      by_cases h : (dotsL v regs i line).getD (t / wideS regs) 0#8 ≠ 0#8 ∧ s.c.getD x 0#8 = 0#8
      · rw [if_pos ⟨e, h⟩, if_pos ⟨by omega, h⟩]
      · rw [if_neg (fun c => h c.2), if_neg (fun c => h c.2)]
    · rw [if_neg (c := (x : Int) = leftS v regs i + t ∧ _) (fun c => e c.1)]
      by_cases h : (0 ≤ (x : Int) - leftS v regs i ∧ (x : Int) - leftS v regs i < (t : Int)) ∧ stepD v regs line i (x - leftS v regs i) ≠ 0#8 ∧ s.c.getD x 0#8 = 0#8
      · rw [if_pos h, if_pos ⟨by omega, h.2⟩]
      · rw [if_neg h, if_neg (fun c => h ⟨by omega, c.2⟩)]
theorem sprTo_m (v regs : List (BitVec 8)) (line : Int) (i : Nat) (s : RowS) (hl : s.c.length = 256) (t : Nat) :
    (sprTo v regs line i s t).m = true ↔ s.m = true ∨ ∃ x : Nat, x < 256 ∧ (0 ≤ (x : Int) - leftS v regs i ∧ (x : Int) - leftS v regs i < (t : Int)) ∧ stepD v regs line i (x - leftS v regs i) ≠ 0#8 ∧ s.c.getD x 0#8 ≠ 0#8 := by
  induction t with
  | zero => exact ⟨.inl, fun h => h.elim id fun ⟨x, _, h, _⟩ => by omega⟩
  | succ t ih =>
    show ((sprTo v regs line i s t).put (leftS v regs i + t) ((dotsL v regs i line).getD (t / wideS regs) 0#8)).m = true ↔ _
    rw [put_m, ih]
    have es : ∀ x : Nat, (x : Int) = leftS v regs i + t → stepD v regs line i (x - leftS v regs i) = (dotsL v regs i line).getD (t / wideS regs) 0#8 := fun x e => by
      unfold stepD; rw [e, show (leftS v regs i + (t : Int) - leftS v regs i).toNat = t by omega]
    have ec : ∀ x : Nat, x < 256 → (x : Int) = leftS v regs i + t → (sprTo v regs line i s t).c.getD x 0#8 = s.c.getD x 0#8 := fun x hx e => by
      rw [sprTo_c v regs line i s hl t hx, if_neg (fun c => by omega)]
    constructor
    · rintro ((h | ⟨x, h1, h2, h3⟩) | ⟨h1, h2, h3, h4⟩)
      · exact .inl h
      · exact .inr ⟨x, h1, by omega, h3⟩
      · obtain ⟨x, hx⟩ := Int.eq_ofNat_of_zero_le h1
        rw [hx, Int.toNat_natCast, ec x (by omega) hx.symm] at h4
        exact .inr ⟨x, by omega, by omega, by rw [es x hx.symm]; exact h3, h4⟩
    · rintro (h | ⟨x, h1, h2, h3, h4⟩)
      · exact .inl (.inl h)
      · by_cases e : (x : Int) = leftS v regs i + t
        · refine .inr ⟨by omega, by omega, by rw [← es x e]; exact h3, ?_⟩
          rw [← e, Int.toNat_natCast, ec x h1 e]; exact h4
        · exact .inl (.inr ⟨x, h1, by omega, h3, h4⟩)
theorem sprS_c (v regs : List (BitVec 8)) (line : Int) (i : Nat) (s : RowS) (hl : s.c.length = 256) {x : Nat} (hx : x < 256) :
    (sprS v regs line i s).c.getD x 0#8 = if dotX v regs line i x ≠ 0#8 ∧ s.c.getD x 0#8 = 0#8 then 16#8 + dotX v regs line i x else s.c.getD x 0#8 := by
  unfold sprS dotX
  rw [sprTo_c v regs line i s hl _ hx]
  by_cases h : 0 ≤ (x : Int) - leftS v regs i ∧ (x : Int) - leftS v regs i < ((8 * wideS regs : Nat) : Int)
  · simp only [if_pos h]
    by_cases h2 : stepD v regs line i (x - leftS v regs i) ≠ 0#8 ∧ s.c.getD x 0#8 = 0#8
    · rw [if_pos ⟨h, h2⟩, if_pos h2]
    · rw [if_neg (fun c => h2 c.2), if_neg h2]
  · simp only [if_neg h]
    rw [if_neg (fun c => h c.1), if_neg (fun c => c.1 rfl)]
theorem sprS_m (v regs : List (BitVec 8)) (line : Int) (i : Nat) (s : RowS) (hl : s.c.length = 256) :
    (sprS v regs line i s).m = true ↔ s.m = true ∨ ∃ x : Nat, x < 256 ∧ dotX v regs line i x ≠ 0#8 ∧ s.c.getD x 0#8 ≠ 0#8 := by
  unfold sprS
  rw [sprTo_m v regs line i s hl]
  constructor
  · rintro (h | ⟨x, h1, h2, h3, h4⟩)
    · exact .inl h
    · exact .inr ⟨x, h1, by unfold dotX; rw [if_pos h2]; exact h3, h4⟩
  · rintro (h | ⟨x, h1, h2, h3⟩)
    · exact .inl h
    · unfold dotX at h2
      by_cases h : 0 ≤ (x : Int) - leftS v regs i ∧ (x : Int) - leftS v regs i < ((8 * wideS regs : Nat) : Int)
      · rw [if_pos h] at h2; exact .inr ⟨x, h1, h, h2, h3⟩
      · rw [if_neg h] at h2; exact absurd rfl h2
theorem sprS_len (v regs : List (BitVec 8)) (line : Int) (i : Nat) (s : RowS) : (sprS v regs line i s).c.length = s.c.length := sprTo_len _ _ _ _ _ _
theorem dotX_lt (v regs : List (BitVec 8)) (line : Int) (i x : Nat) : (dotX v regs line i x).toNat < 16 := by
  unfold dotX
  split
  · rename_i h
    unfold stepD dotsL
    have hw := wideS_le regs
    have : ((x : Int) - leftS v regs i).toNat / wideS regs < 8 := by
      rw [Nat.div_lt_iff_lt_mul (by omega)]; omega
    rw [rowS_getD _ _ _ this]
    exact dotS_lt _ _ _ (by simpa using this)
  · decide
theorem dotX_16 (v regs : List (BitVec 8)) (line : Int) (i x : Nat) : 16#8 + dotX v regs line i x ≠ 0#8 := by
  have := dotX_lt v regs line i x
  generalize dotX v regs line i x = d at this
  revert d; decide

/-- The reference's color at a column, and how many are there, of the first so many. -/
def atTo (v regs : List (BitVec 8)) (line : Int) (x : Nat) (L : List Nat) : Nat → BitVec 8 × Nat
  | 0 => (0#8, 0)
  | k + 1 => let p := atTo v regs line x L k
    let d := if k < 8 then dotX v regs line (L.getD k 0) x else 0#8
    if d = 0#8 then p else (if p.2 = 0 then 16#8 + d else p.1, p.2 + 1)
theorem atTo_zero (v regs : List (BitVec 8)) (line : Int) (x : Nat) (L : List Nat) (k : Nat) : (atTo v regs line x L k).1 = 0#8 ↔ (atTo v regs line x L k).2 = 0 := by
  induction k with
  | zero => exact ⟨fun _ => rfl, fun _ => rfl⟩
  | succ k ih =>
    simp only [atTo]
    by_cases hd : (if k < 8 then dotX v regs line (L.getD k 0) x else 0#8) = 0#8
    · rw [if_pos hd]; exact ih
    · rw [if_neg hd]
      have h8 : k < 8 := by
        rcases Nat.lt_or_ge k 8 with c | c
        · exact c
        · rw [if_neg (by omega)] at hd; exact absurd rfl hd
      rw [if_pos h8]
      by_cases hp : (atTo v regs line x L k).2 = 0
      · rw [if_pos hp]; exact ⟨fun c => absurd c (dotX_16 _ _ _ _ _), fun c => by omega⟩
      · rw [if_neg hp]; exact ⟨fun c => absurd (ih.1 c) hp, fun c => by omega⟩
theorem atTo_le (v regs : List (BitVec 8)) (line : Int) (x : Nat) (L : List Nat) (k : Nat) : (atTo v regs line x L k).2 ≤ k := by
  induction k with
  | zero => exact Nat.le_refl _
  | succ k ih =>
    simp only [atTo]
    by_cases hd : (if k < 8 then dotX v regs line (L.getD k 0) x else 0#8) = 0#8
    · rw [if_pos hd]; omega
    · rw [if_neg hd]; simp only; omega

structure Same (v regs : List (BitVec 8)) (line : Int) (L : List Nat) (k : Nat) (s : RowS) : Prop where
  l : s.c.length = 256
  c : ∀ x, x < 256 → s.c.getD x 0#8 = (atTo v regs line x L k).1
  m : s.m = true ↔ ∃ x, x < 256 ∧ 2 ≤ (atTo v regs line x L k).2
theorem Same.next {v regs : List (BitVec 8)} {line : Int} {L : List Nat} {k : Nat} {s s' : RowS} (h : Same v regs line L k s) (h8 : k < 8) (hl : s'.c.length = 256)
    (hc : ∀ x, x < 256 → s'.c.getD x 0#8 = if dotX v regs line (L.getD k 0) x ≠ 0#8 ∧ s.c.getD x 0#8 = 0#8 then 16#8 + dotX v regs line (L.getD k 0) x else s.c.getD x 0#8)
    (hm : s'.m = true ↔ s.m = true ∨ ∃ x : Nat, x < 256 ∧ dotX v regs line (L.getD k 0) x ≠ 0#8 ∧ s.c.getD x 0#8 ≠ 0#8) : Same v regs line L (k + 1) s' := by
  have e1 : ∀ x, atTo v regs line x L (k + 1) = if dotX v regs line (L.getD k 0) x = 0#8 then atTo v regs line x L k else (if (atTo v regs line x L k).2 = 0 then 16#8 + dotX v regs line (L.getD k 0) x else (atTo v regs line x L k).1, (atTo v regs line x L k).2 + 1) := fun x => by
    simp only [atTo, if_pos h8]
  refine ⟨hl, fun x hx => ?_, ?_⟩
  · rw [hc x hx, e1, h.c x hx]
    by_cases hd : dotX v regs line (L.getD k 0) x = 0#8
    · rw [if_pos hd, if_neg (fun c => c.1 hd)]
    · rw [if_neg hd]
      by_cases hz : (atTo v regs line x L k).1 = 0#8
      · rw [if_pos ⟨hd, hz⟩]; simp only [if_pos ((atTo_zero _ _ _ _ _ _).1 hz)]
      · rw [if_neg (fun c => hz c.2)]; simp only [if_neg (fun c => hz ((atTo_zero _ _ _ _ _ _).2 c))]
  · rw [hm, h.m]
    constructor
    · rintro (⟨x, h1, h2⟩ | ⟨x, h1, h2, h3⟩)
      · refine ⟨x, h1, ?_⟩
        rw [e1]
        by_cases hd : dotX v regs line (L.getD k 0) x = 0#8
        · rw [if_pos hd]; exact h2
        · rw [if_neg hd]; simp only; omega
      · refine ⟨x, h1, ?_⟩
        rw [e1, if_neg h2]
        rw [h.c x h1] at h3
        have : (atTo v regs line x L k).2 ≠ 0 := fun c => h3 ((atTo_zero _ _ _ _ _ _).2 c)
        simp only; omega
    · rintro ⟨x, h1, h2⟩
      rw [e1] at h2
      by_cases hd : dotX v regs line (L.getD k 0) x = 0#8
      · rw [if_pos hd] at h2; exact .inl ⟨x, h1, h2⟩
      · rw [if_neg hd] at h2
        simp only at h2
        refine .inr ⟨x, h1, hd, ?_⟩
        rw [h.c x h1]
        exact fun c => by have := (atTo_zero _ _ _ _ _ _).1 c; omega
theorem Same.skip {v regs : List (BitVec 8)} {line : Int} {L : List Nat} {k : Nat} {s : RowS} (h : Same v regs line L k s) (h8 : 8 ≤ k) : Same v regs line L (k + 1) s := by
  have e1 : ∀ x, atTo v regs line x L (k + 1) = atTo v regs line x L k := fun x => by
    simp only [atTo, if_neg (show ¬ k < 8 by omega), if_true]
  exact ⟨h.l, fun x hx => by rw [e1]; exact h.c x hx, by rw [h.m]; simp only [e1]⟩
theorem same_zero (v regs : List (BitVec 8)) (line : Int) (L : List Nat) : Same v regs line L 0 ⟨List.replicate 256 0#8, false⟩ :=
  ⟨List.length_replicate, fun x _ => by rw [getD_rep0]; rfl, ⟨fun h => (by cases h), fun ⟨x, _, h⟩ => by simp [atTo] at h⟩⟩
theorem same_rowTo (v regs : List (BitVec 8)) (line : Int) (L : List Nat) : ∀ k, k ≤ L.length → Same v regs line L k (rowTo v regs line ((L.take 8).take k) ⟨List.replicate 256 0#8, false⟩)
  | 0, _ => by rw [List.take_zero]; exact same_zero _ _ _ _
  | k + 1, hk => by
    have ih := same_rowTo v regs line L k (by omega)
    by_cases h8 : k < 8
    · have e : (L.take 8).take (k + 1) = (L.take 8).take k ++ [L.getD k 0] := by
        rw [List.take_add_one, List.getElem?_take_of_lt h8, List.getElem?_eq_getElem (by omega)]
        simp [List.getD_eq_getElem?_getD, List.getElem?_eq_getElem (show k < L.length by omega)]
      rw [e, rowTo_app]
      exact ih.next h8 (by rw [sprS_len]; exact ih.l) (fun x hx => sprS_c _ _ _ _ _ ih.l hx) (sprS_m _ _ _ _ _ ih.l)
    · have e : (L.take 8).take (k + 1) = (L.take 8).take k := by rw [List.take_take, List.take_take, Nat.min_eq_right (by omega), Nat.min_eq_right (by omega)]
      rw [e]
      exact ih.skip (by omega)
theorem same_sprites (v regs : List (BitVec 8)) (line : Int) : Same v regs line (hitsS v regs line) (hitsS v regs line).length (spritesS v regs line) := by
  have := same_rowTo v regs line (hitsS v regs line) _ (Nat.le_refl _)
  rw [List.take_of_length_le (l := (hitsS v regs line).take 8) (by simp; omega)] at this
  exact this
theorem Same.uniq {v regs : List (BitVec 8)} {line : Int} {L : List Nat} {k : Nat} {s s' : RowS} (h : Same v regs line L k s) (h' : Same v regs line L k s') : s.c = s'.c ∧ s.m = s'.m := by
  constructor
  · apply List.ext_getElem?
    intro x
    rcases Nat.lt_or_ge x 256 with c | c
    · have e := (h.c x c).trans (h'.c x c).symm
      rw [List.getD_eq_getElem?_getD, List.getD_eq_getElem?_getD, List.getElem?_eq_getElem (by rw [h.l]; exact c), List.getElem?_eq_getElem (by rw [h'.l]; exact c)] at e
      rw [List.getElem?_eq_getElem (by rw [h.l]; exact c), List.getElem?_eq_getElem (by rw [h'.l]; exact c)]
      simpa using e
    · rw [List.getElem?_eq_none (by rw [h.l]; exact c), List.getElem?_eq_none (by rw [h'.l]; exact c)]
  · have := h.m.trans h'.m.symm
    cases h1 : s.m <;> cases h2 : s'.m <;> simp_all
end Go.Proofs.Joy
namespace Go.Proofs.Joy
open Go.Ab Go.Proofs

set_option maxHeartbeats 1000000
set_option maxRecDepth 20000

theorem zoomB (b : BitVec 8) : wrap64 (1 + ((b % 2#8).toNat : Int)) = ((if b &&& 1#8 = 0#8 then 1 else 2 : Nat) : Int) := by
  rw [umod2]
  have : b &&& 1#8 = 0#8 ∨ b &&& 1#8 = 1#8 := by revert b; decide
  rcases this with h | h <;> rw [h] <;> rfl
theorem leftB8 (b : BitVec 8) : wrap64 (8 * ((b / 8#8 % 2#8).toNat : Int)) = if b &&& 8#8 = 0#8 then 0 else 8 := by revert b; decide +kernel
theorem hi256 (b : BitVec 8) : wrap64 (256 * ((b / 4#8 % 2#8).toNat : Int)) = ((if b &&& 4#8 = 0#8 then 0 else 256 : Nat) : Int) := by revert b; decide +kernel

theorem ref18_dot (v : AV) (bs regs : List (BitVec 8)) (hr : regs.length = 11) (line : Int) (i x : Nat) (hi : i ∈ hitsS bs regs line) (hx : x < 256) (H : Heap) (n : Nat) (K : AV → Heap → Nat → Prop) (hv : bytesIn H v bs)
    (h : K (.u8 (dotX bs regs line i x)) H n) : ACalls Tryz.prog 97 [v, .ag (regs.map .u8), .i64 i, .ag [.i64 line, .i64 x]] H n K := by
  refine ACalls.of_awp Tryz.func97 rfl (by decide +kernel) (show 4 ≤ 96 by decide) (by simp [hv.ne]) fun wf => ?_
  have hvok : v.ok n = true := by
    rcases hv with ⟨rfl, rfl⟩ | ⟨su, b, o, c, blk, rfl, h0, h1, h2, h3⟩
    · rfl
    · exact vw_ok (wf b _ h1).1
  have hi64 := hitsS_lt hi
  have hl := hitsS_line (v := bs) (regs := regs) (line := line) (fun e => by rw [e] at hi; cases hi)
  have hon : onS' bs regs line i = true := by
    unfold hitsS at hi
    rw [if_neg (by omega)] at hi
    unfold hitsTo at hi
    exact (List.mem_filter.1 hi).2
  unfold onS' at hon
  simp only [Bool.and_eq_true, decide_eq_true_eq] at hon
  obtain ⟨on1, on2⟩ := hon
  have hb := baseS_le regs
  obtain ⟨r0, r1, r2, r3, r4, r5, r6, r7, r8, r9, r10, hregs⟩ := regs11 hr
  have hr0 : regs.getD 0 0#8 = r0 := by rw [hregs]; rfl
  have hr1 : regs.getD 1 0#8 = r1 := by rw [hregs]; rfl
  have hr6 : regs.getD 6 0#8 = r6 := by rw [hregs]; rfl
  have hm : regs.map AV.u8 = [.u8 r0, .u8 r1, .u8 r2, .u8 r3, .u8 r4, .u8 r5, .u8 r6, .u8 r7, .u8 r8, .u8 r9, .u8 r10] := by rw [hregs]; rfl
  rw [hm]
  refine awp_step dr97 (by decide +kernel) ?_
  simp only [go_sem, Tryz.f97]
  refine awp_gen (fun X => X.wf (n + 2) ∧ X n = some ⟨[.u8 r0, .u8 r1, .u8 r2, .u8 r3, .u8 r4, .u8 r5, .u8 r6, .u8 r7, .u8 r8, .u8 r9, .u8 r10], 84, false⟩ ∧ X (n + 1) = some ⟨[.i64 line, .i64 x], 129, false⟩ ∧ ∀ k, k < n → X k = H k) ⟨Heap.wf_upd (Heap.wf_upd wf (map_u8_ok (bs := [r0, r1, r2, r3, r4, r5, r6, r7, r8, r9, r10]))) (fun y hy => by
      simp only [List.mem_cons, List.not_mem_nil, or_false] at hy
      rcases hy with rfl | rfl <;> rfl), by rw [Heap.upd_ne _ _ (by omega), Heap.upd_same], Heap.upd_same _ _ _, fun k hk => by rw [Heap.upd_ne _ _ (by omega), Heap.upd_ne _ _ (by omega)]⟩ ?_
  rintro X ⟨xw, x0, x1, xo⟩
  have hvX := hv.mono hvok xo
  have hvok2 : v.ok (n + 2) = true := AV.ok_mono (by omega) _ hvok
  have ewide : (if r1 &&& 1#8 = 0#8 then 1 else 2 : Nat) = wideS regs := by unfold wideS; rw [hr1]
  have hw := wideS_le regs
  have hle := leftS_le bs regs i
  refine awp_step dr97 (by decide +kernel) ?_
  simp only [go_sem, x0, zoomB, ewide]
  refine awp_step dr97 (by decide +kernel) ?_
  simp only [go_sem, x0]
  have rbase : ∀ (H : Heap) (n : Nat) (K : AV → Heap → Nat → Prop), K (.i64 (baseS regs)) H n → ACalls Tryz.prog 102 [.ag [.u8 r0, .u8 r1, .u8 r2, .u8 r3, .u8 r4, .u8 r5, .u8 r6, .u8 r7, .u8 r8, .u8 r9, .u8 r10]] H n K := fun H n K h => by rw [← hm]; exact ref_base regs hr H n K h
  refine rbase _ _ _ ?_
  have wa : wrap64 (wrap64 (baseS regs + 128) + wrap64 (2 * (i : Int))) = baseS regs + 128 + 2 * i := by rw [wrap_id (baseS regs + 128) (by omega) (by omega), wrap_id (2 * (i : Int)) (by omega) (by omega), wrap_id _ (by omega) (by omega)]
  simp only [go_sem, x0, wa]
  refine ref16_at v bs _ _ _ _ hvX hvok2 ?_
  have xl := (atS bs (baseS regs + 128 + 2 * (i : Int))).isLt
  have wl : wrap64 (((atS bs (baseS regs + 128 + 2 * (i : Int))).toNat : Int) - (if r0 &&& 8#8 = 0#8 then 0 else 8)) = leftS bs regs i := by
    unfold leftS; rw [hr0, wrap_id _ (by split <;> omega) (by split <;> omega)]
  simp only [go_sem, x0, leftB8, wl]
  refine awp_step dr97 (by decide +kernel) ?_
  have w3 : wrap64 ((x : Int) - leftS bs regs i) = x - leftS bs regs i := wrap_id _ (by omega) (by omega)
  simp only [go_sem, x1, w3]
  refine awp_step dr97 (by decide +kernel) ?_
  have w4 : wrap64 (8 * ((wideS regs : Nat) : Int)) = ((8 * wideS regs : Nat) : Int) := by rw [wrap_id _ (by omega) (by omega)]; omega
  simp only [go_sem, w4]
  by_cases hin : ¬ (0 ≤ (x : Int) - leftS bs regs i ∧ (x : Int) - leftS bs regs i < ((8 * wideS regs : Nat) : Int))
  · have e0 : dotX bs regs line i x = 0#8 := by unfold dotX; rw [if_neg hin]
    rw [e0] at h
    exact ⟨fun a => ⟨fun b => Fin.back wf h xo rfl, fun b => absurd ⟨by omega, by omega⟩ hin⟩, fun a => Fin.back wf h xo rfl⟩
  · replace hin := Decidable.not_not.1 hin
    refine ⟨fun _ => ⟨fun b => absurd b (by omega), fun _ => ?_⟩, fun a => absurd a (by omega)⟩
    obtain ⟨u, hu⟩ := Int.eq_ofNat_of_zero_le hin.1
    have hu8 : u < 8 * wideS regs := by omega
    have huw : u / wideS regs < 8 := by rw [Nat.div_lt_iff_lt_mul (by omega)]; omega
    have ed : dotX bs regs line i x = dotS bs (firstS (numS bs regs i + (downS bs regs i line).tdiv 8) ((downS bs regs i line).tmod 8)) false 4 (u / wideS regs) := by
      unfold dotX; rw [if_pos hin, hu]
      unfold stepD dotsL
      rw [Int.toNat_natCast, rowS_getD _ _ _ huw]; rfl
    rw [ed] at h
    rw [hu]
    have ht := topS_le (yS bs regs i)
    have hD : downS bs regs i line = (line - topS (yS bs regs i)).tdiv ((wideS regs : Nat) : Int) := by
      unfold downS wideS
      split
      · exact (Int.tdiv_one _).symm
      · rfl
    have hD0 : 0 ≤ downS bs regs i line ∧ downS bs regs i line < 16 := by
      rw [hD, Int.tdiv_eq_ediv_of_nonneg (by omega)]
      have hh : heightS regs ≤ 16 * ((wideS regs : Nat) : Int) := by unfold heightS wideS; split <;> split <;> decide
      refine ⟨Int.ediv_nonneg (by omega) (by omega), ?_⟩
      exact Int.ediv_lt_of_lt_mul (by omega) (by omega)
    have wb : wrap64 (baseS regs + (i : Int)) = baseS regs + i := wrap_id _ (by omega) (by omega)
    have wt : wrap64 (line - topS (yS bs regs i)) = line - topS (yS bs regs i) := wrap_id _ (by omega) (by omega)
    have ws0 : ((wideS regs : Nat) : Int) ≠ 0 := by omega
    refine awp_step dr97 (by decide +kernel) ?_
    simp only [go_sem, x0, x1]
    refine rbase _ _ _ ?_
    simp only [go_sem, x0, x1, wb]
    refine ref16_at v bs _ _ _ _ hvX hvok2 ?_
    simp only [go_sem, x0, x1]
    rw [show atS bs (baseS regs + (i : Int)) = yS bs regs i from rfl]
    refine ref_top _ _ _ _ ?_
    simp only [go_sem, x0, x1, wt, ← hD]
    refine ⟨ws0, ?_⟩
    have wdn : wrap64 (downS bs regs i line) = downS bs regs i line := wrap_id _ (by omega) (by omega)
    have wa2 : wrap64 (wrap64 (baseS regs + 129) + wrap64 (2 * (i : Int))) = baseS regs + 128 + 2 * i + 1 := by rw [wrap_id (baseS regs + 129) (by omega) (by omega), wrap_id (2 * (i : Int)) (by omega) (by omega), wrap_id _ (by omega) (by omega)]; omega
    refine awp_step dr97 (by decide +kernel) ?_
    simp only [go_sem, x0, wdn]
    refine rbase _ _ _ ?_
    simp only [go_sem, x0, wa2]
    refine ref16_at v bs _ _ _ _ hvX hvok2 ?_
    have xn := (atS bs (baseS regs + 128 + 2 * (i : Int) + 1)).isLt
    obtain ⟨n0, hn0⟩ : ∃ n0 : Nat, n0 = (atS bs (baseS regs + 128 + 2 * (i : Int) + 1)).toNat + (if r6 &&& 4#8 = 0#8 then 0 else 256) := ⟨_, rfl⟩
    have hn512 : n0 < 512 := by rw [hn0]; split <;> omega
    have wn : wrap64 (((atS bs (baseS regs + 128 + 2 * (i : Int) + 1)).toNat : Int) + ((if r6 &&& 4#8 = 0#8 then 0 else 256 : Nat) : Int)) = (n0 : Int) := by rw [hn0, wrap_id _ (by split <;> omega) (by split <;> omega)]; omega
    have eN : numS bs regs i = if r1 &&& 2#8 = 0#8 then (n0 : Int) else ((n0 - n0 % 2 : Nat) : Int) := by unfold numS; rw [hr6, hr1, ← hn0]
    simp only [go_sem, x0, hi256, wn]
    have hN := numS_le bs regs i
    refine awp_seqF (S := Unit) (fun _ => [(0, v), (9, .i64 (wideS regs : Nat)), (11, .i64 u), (12, .i64 (downS bs regs i line)), (13, .i64 (numS bs regs i))]) (fun _ => X) (fun _ => n + 2) (fun _ => True) (fun _ _ => ⟨xw, Env.okAt_of2 (by simp [AV.ok, hvok2])⟩) ?_ ?_
    · refine awp_ev dr97 (by decide +kernel) ?_
      simp only [go_sem, x0, how2]
      refine ⟨fun b => ?_, fun b => ?_⟩
      · have b' : r1 &&& 2#8 ≠ 0#8 := by simpa using b
        have e : wrap64 (wrap64 ((n0 : Int).tdiv 2) * 2) = numS bs regs i := by
          rw [eN, if_neg b', Int.tdiv_eq_ediv_of_nonneg (by omega), wrap_id (_ / 2) (by omega) (by omega), wrap_id _ (by omega) (by omega)]; omega
        rw [e]
        exact Ends.mk () trivial (by repeat (first | exact Env.le_nil _ | refine Env.le_cons rfl ?_)) (fun _ _ => rfl) (Nat.le_refl _) (Nat.le_refl _)
      · have e : (n0 : Int) = numS bs regs i := by rw [eN, if_pos (by simpa using b)]
        rw [e]
        exact Ends.mk () trivial (by repeat (first | exact Env.le_nil _ | refine Env.le_cons rfl ?_)) (fun _ _ => rfl) (Nat.le_refl _) (Nat.le_refl _)
    rintro - -
    refine awp_seqF (S := Unit) (fun _ => [(0, v), (9, .i64 (wideS regs : Nat)), (11, .i64 u), (12, .i64 ((downS bs regs i line).tmod 8)), (13, .i64 (numS bs regs i + (downS bs regs i line).tdiv 8))]) (fun _ => X) (fun _ => n + 2) (fun _ => True) (fun _ _ => ⟨xw, Env.okAt_of2 (by simp [AV.ok, hvok2])⟩) ?_ ?_
    · rw [Int.tmod_eq_emod_of_nonneg hD0.1, Int.tdiv_eq_ediv_of_nonneg hD0.1]
      generalize downS bs regs i line = dn at hD0 ⊢
      generalize numS bs regs i = nn at hN ⊢
      have w5 : wrap64 (nn + 1) = nn + 1 := wrap_id _ (by omega) (by omega)
      have w6 : wrap64 (dn - 8) = dn - 8 := wrap_id _ (by omega) (by omega)
      refine awp_ev dr97 (by decide +kernel) ?_
      simp only [go_sem, w5, w6]
      refine ⟨fun b => ?_, fun b => ?_⟩
      · have e1 : dn - 8 = dn % 8 := by omega
        have e2 : nn + 1 = nn + dn / 8 := by omega
        rw [e1, e2]
        exact Ends.mk () trivial (by repeat (first | exact Env.le_nil _ | refine Env.le_cons rfl ?_)) (fun _ _ => rfl) (Nat.le_refl _) (Nat.le_refl _)
      · have e1 : dn = dn % 8 := by omega
        have e2 : nn = nn + dn / 8 := by omega
        refine Ends.mk () trivial ?_ (fun _ _ => rfl) (Nat.le_refl _) (Nat.le_refl _)
        rw [← e1, ← e2]
        exact (by repeat (first | exact Env.le_nil _ | refine Env.le_cons rfl ?_))
    rintro - -
    have wu : wrap64 ((u : Int).tdiv ((wideS regs : Nat) : Int)) = ((u / wideS regs : Nat) : Int) := by
      rw [Int.tdiv_eq_ediv_of_nonneg (by omega), ← Int.natCast_ediv]
      clear ed h
      generalize u / wideS regs = g at huw
      exact wrap_id _ (by omega) (by omega)
    refine awp_ev dr97 (by decide +kernel) ?_
    simp only [go_sem, wu]
    refine ⟨ws0, ?_⟩
    refine ref_dot16 v bs _ _ _ huw _ _ _ hvX hvok2 ?_
    simp only [go_sem]
    exact Fin.back wf h xo rfl
end Go.Proofs.Joy
namespace Go.Proofs.Joy
open Go.Ab Go.Proofs

set_option maxHeartbeats 1000000
set_option maxRecDepth 20000

def grdB (C : List (BitVec 8)) (F : List Bool) : Blk := ⟨C.map .u8 ++ F.map .bo, 107, false⟩
theorem grdB_ok (C : List (BitVec 8)) (F : List Bool) (n : Nat) : ∀ v ∈ (grdB C F).cells, v.ok n = true := by
  intro v hv
  simp only [grdB, List.mem_append, List.mem_map] at hv
  rcases hv with ⟨x, -, rfl⟩ | ⟨x, -, rfl⟩ <;> rfl
theorem back_source' (regs : List (BitVec 8)) (hr : regs.length = 11) (line x : Int) (hl : 0 ≤ line ∧ line < 192) (hx : -100000 ≤ x ∧ x ≤ 100000) (H : Heap) (n : Nat) (K : AV → Heap → Nat → Prop)
    (h : ∀ c l : Int, c = colS regs line x → l = lowS regs line x → K (.tu [.i64 c, .i64 l]) H n) : ACalls Tryz.prog 89 [.ag (regs.map .u8), .i64 line, .i64 x] H n K := back_source regs hr line x hl hx H n K (h _ _ rfl rfl)
theorem tile_entry' (v : AV) (bs : List (BitVec 8)) (base line col : Int) (hb : 0 ≤ base ∧ base ≤ 14336) (hl : 0 ≤ line ∧ line < 28) (hc : 0 ≤ col ∧ col < 32) (H : Heap) (n : Nat) (K : AV → Heap → Nat → Prop) (hv : bytesIn H v bs) (hvok : v.ok n = true)
    (h : ∀ (tn : Int) (how : BitVec 8), tn = entT bs (base + 64 * line + 2 * col) → how = entH bs (base + 64 * line + 2 * col) → how.toNat < 16 → K (.tu [.i64 tn, .u8 how]) H n) : ACalls Tryz.prog 90 [v, .i64 base, .i64 line, .i64 col] H n K :=
  tile_entry v bs base line col hb hl hc H n K hv hvok (h _ _ rfl rfl (entH_lt _ _))

/-- While a line of the ground is laid. -/
structure BL where
  j : Nat
  known : Int
  how : BitVec 8
  D : List (BitVec 8)
  X : Heap
structure BI (bs regs : List (BitVec 8)) (line : Int) (H : Heap) (n : Nat) (t : BL) : Prop where
  j : t.j ≤ 256
  wf : t.X.wf (n + 4)
  r : t.X n = some ⟨regs.map .u8, 84, false⟩
  o : t.X (n + 1) = some (grdB (List.replicate 256 0#8) (List.replicate 256 false))
  c : ∃ C F, C.length = 256 ∧ F.length = 256 ∧ (∀ k, k < t.j → C.getD k 0#8 = gcolS bs regs line k) ∧ (∀ k, k < t.j → F.getD k false = gfrS bs regs line k) ∧ t.X (n + 2) = some (grdB C F)
  d : t.X (n + 3) = some ⟨t.D.map .u8, 117, false⟩
  l : t.D.length = 8
  k : t.known = -1 ∨ ∃ row c8 : Int, 0 ≤ row ∧ row < 224 ∧ 0 ≤ c8 ∧ c8 < 32 ∧ t.known = row * 256 + c8 ∧ t.how = howS bs regs row c8 ∧ t.D = seenS bs regs row c8
  old : ∀ k, k < n → t.X k = H k

theorem back_line (v : AV) (bs regs : List (BitVec 8)) (hr : regs.length = 11) (line : Int) (hl : 0 ≤ line ∧ line < 192) (H : Heap) (n : Nat) (K : AV → Heap → Nat → Prop) (hv : bytesIn H v bs)
    (h : ∀ (C : List (BitVec 8)) (F : List Bool), C.length = 256 → F.length = 256 → (∀ k, k < 256 → C.getD k 0#8 = gcolS bs regs line k) → (∀ k, k < 256 → F.getD k false = gfrS bs regs line k) → K (.ag (C.map .u8 ++ F.map .bo)) H n) :
    ACalls Tryz.prog 83 [v, .ag (regs.map .u8), .i64 line] H n K := by
  refine ACalls.of_awp Tryz.func83 rfl (by decide +kernel) (show 3 ≤ 106 by decide) (by simp [hv.ne]) fun wf => ?_
  have hvok : v.ok n = true := by
    rcases hv with ⟨rfl, rfl⟩ | ⟨su, b, o, c, blk, rfl, h0, h1, h2, h3⟩
    · rfl
    · exact vw_ok (wf b _ h1).1
  have hl1 : ¬ line < 0 := by omega
  have hl2 : ¬ 192 ≤ line := by omega
  have ht := tabS_le regs
  obtain ⟨r0, r1, r2, r3, r4, r5, r6, r7, r8, r9, r10, hregs⟩ := regs11 hr
  have hr2 : regs.getD 2 0#8 = r2 := by rw [hregs]; rfl
  have hm : regs.map AV.u8 = [.u8 r0, .u8 r1, .u8 r2, .u8 r3, .u8 r4, .u8 r5, .u8 r6, .u8 r7, .u8 r8, .u8 r9, .u8 r10] := by rw [hregs]; rfl
  have e0 : wrap64 (((r2 &&& 14#8).toNat : Int) * 2 ^ 10) = tabS regs := by
    have : (r2 &&& 14#8).toNat ≤ 14 := by rw [BitVec.toNat_and]; exact Nat.and_le_right
    unfold tabS; rw [hr2, wrap_id _ (by omega) (by omega)]; omega
  rw [hm]
  refine awp_step dr0 (by decide +kernel) ?_
  simp only [go_sem, Tryz.f83]
  refine awp_step dr0 (by decide +kernel) ?_
  simp only [go_sem]
  refine awp_step dr0 (by decide +kernel) ?_
  simp only [go_sem, hl1, hl2]
  have hgc : ∀ X : Heap, X = (((H.upd n (some ⟨[.u8 r0, .u8 r1, .u8 r2, .u8 r3, .u8 r4, .u8 r5, .u8 r6, .u8 r7, .u8 r8, .u8 r9, .u8 r10], 84, false⟩)).upd (n + 1) (some ⟨List.replicate 256 (.u8 0#8) ++ List.replicate 256 (.bo false), 107, false⟩)).upd (n + 2) (some ⟨List.replicate 256 (.u8 0#8) ++ List.replicate 256 (.bo false), 107, false⟩)) →
      X.wf (n + 3) ∧ X n = some ⟨regs.map .u8, 84, false⟩ ∧ X (n + 1) = some (grdB (List.replicate 256 0#8) (List.replicate 256 false)) ∧ X (n + 2) = some (grdB (List.replicate 256 0#8) (List.replicate 256 false)) ∧ ∀ k, k < n → X k = H k := fun X hX => by
    subst hX
    have er : ∀ k, List.replicate k (AV.u8 0#8) ++ List.replicate k (AV.bo false) = (grdB (List.replicate k 0#8) (List.replicate k false)).cells := fun k => by simp only [grdB, List.map_replicate]
    refine ⟨Heap.wf_upd (Heap.wf_upd (Heap.wf_upd wf (by rw [← hm]; exact map_u8_ok)) (by rw [er]; exact grdB_ok _ _ _)) (by rw [er]; exact grdB_ok _ _ _), ?_, ?_, ?_, fun k hk => ?_⟩
    · rw [Heap.upd_ne _ _ (by omega), Heap.upd_ne _ _ (by omega), Heap.upd_same, hm]
    · rw [Heap.upd_ne _ _ (by omega), Heap.upd_same, er]; rfl
    · rw [Heap.upd_same, er]; rfl
    · rw [Heap.upd_ne _ _ (by omega), Heap.upd_ne _ _ (by omega), Heap.upd_ne _ _ (by omega)]
  refine awp_gen (fun X => X.wf (n + 3) ∧ X n = some ⟨regs.map .u8, 84, false⟩ ∧ X (n + 1) = some (grdB (List.replicate 256 0#8) (List.replicate 256 false)) ∧ X (n + 2) = some (grdB (List.replicate 256 0#8) (List.replicate 256 false)) ∧ ∀ k, k < n → X k = H k) (hgc _ rfl) ?_
  rintro X ⟨xw, x0, x1, x2, xo⟩
  rw [hm] at x0
  refine awp_step dr0 (by decide +kernel) ?_
  simp only [go_sem, x0, e0]
  refine awp_step dr0 (by decide +kernel) ?_
  simp only [go_sem]
  refine awp_step dr0 (by decide +kernel) ?_
  simp only [go_sem]
  refine awp_seqF (S := BL) (fun _ => [(6, .pt (n + 1) 0), (7, .pt (n + 2) 0)]) (fun t => t.X) (fun _ => n + 4) (fun t => BI bs regs line H n t ∧ t.j = 256) (fun t ht => ⟨ht.1.wf, Env.okAt_of2 (by simp [AV.ok])⟩) ?_ ?_
  · refine awp_step dr0 (by decide +kernel) ?_
    simp only [go_sem]
    refine awp_block ?_
    refine awp_loopF (S := BL) (fun t => [(0, v), (2, .i64 line), (4, .pt n 0), (6, .pt (n + 1) 0), (7, .pt (n + 2) 0), (8, .i64 (tabS regs)), (9, .pt (n + 3) 0), (10, .u8 t.how), (11, .i64 t.known), (32, .i64 t.j)]) (fun t => t.X) (fun _ => n + 4) (fun t => BI bs regs line H n t) (fun t => 256 - t.j)
      (fun t ht => ⟨ht.wf, Env.okAt_of2 (by simp [AV.ok, AV.ok_mono (show n ≤ n + 4 by omega) _ hvok])⟩) ?_ (⟨0, -1, 0#8, List.replicate 8 0#8, X.upd (n + 3) (some ⟨(List.replicate 8 0#8).map .u8, 117, false⟩)⟩ : BL) ?_ (by repeat (first | exact Env.le_nil _ | refine Env.le_cons rfl ?_)) (fun _ _ => rfl) rfl
    · rintro ⟨j, kn, how, D, Y⟩ hI
      have hj : j ≤ 256 := hI.j
      have hy0 := hI.r
      rw [hm] at hy0
      have hvY := hv.mono hvok hI.old
      have hvok4 : v.ok (n + 4) = true := AV.ok_mono (by omega) _ hvok
      simp only at hy0 hvY ⊢
      refine awp_step dr0 (by decide +kernel) ?_
      simp only [go_sem]
      refine awp_step dr0 (by decide +kernel) ?_
      simp only [go_sem]
      refine ⟨fun hlt => ?_, fun hlt => ?_⟩
      · have hj' : j < 256 := by omega
        have w1 : wrap64 ((j : Int) + 1) = ((j + 1 : Nat) : Int) := by rw [wrap_id _ (by omega) (by omega)]; omega
        refine awp_seq (awp_block ?_)
        refine awp_step dr0 (by decide +kernel) ?_
        simp only [go_sem]
        refine awp_step dr0 (by decide +kernel) ?_
        simp only [go_sem, hy0]
        rw [← hm]
        refine back_source' regs hr line j hl (by omega) _ _ _ ?_
        intro cx lw ecx elw
        have hc := colS_le regs line j
        have hw := lowS_le regs line j hl
        rw [← ecx] at hc
        rw [← elw] at hw
        simp only [go_sem]
        have d1 : wrap64 (lw.tdiv 8) = lw / 8 := by rw [Int.tdiv_eq_ediv_of_nonneg (by omega), wrap_id _ (by omega) (by omega)]
        have d2 : wrap64 (cx.tdiv 8) = cx / 8 := by rw [Int.tdiv_eq_ediv_of_nonneg (by omega), wrap_id _ (by omega) (by omega)]
        have m1 : lw.tmod 8 = lw % 8 := by rw [Int.tmod_eq_emod_of_nonneg (by omega)]
        have m2 : cx.tmod 8 = cx % 8 := by rw [Int.tmod_eq_emod_of_nonneg (by omega)]
        have wp : wrap64 (wrap64 (lw * 256) + cx / 8) = lw * 256 + cx / 8 := by rw [wrap_id (lw * 256) (by omega) (by omega), wrap_id _ (by omega) (by omega)]
        refine awp_seqF (S := BL) (fun t => [(0, v), (2, .i64 line), (4, .pt n 0), (6, .pt (n + 1) 0), (7, .pt (n + 2) 0), (8, .i64 (tabS regs)), (9, .pt (n + 3) 0), (10, .u8 t.how), (11, .i64 t.known), (12, .i64 j), (13, .i64 cx), (32, .i64 j)]) (fun t => t.X) (fun _ => n + 4)
          (fun t => BI bs regs line H n t ∧ t.j = j ∧ t.how = howS bs regs lw (cx / 8) ∧ t.D = seenS bs regs lw (cx / 8)) (fun t ht => ⟨ht.1.wf, Env.okAt_of2 (by simp [AV.ok, hvok4])⟩) ?_ ?_
        · refine awp_ev dr0 (by decide +kernel) ?_
          simp only [go_sem, d2, wp]
          refine ⟨fun hne => ?_, fun heq => ?_⟩
          · rw [d1]
            refine tile_entry' v bs (tabS regs) _ _ ht (by omega) (by omega) _ _ _ hvY hvok4 ?_
            intro tn hw8 et eh hh
            have w7 : wrap64 (7 - lw % 8) = 7 - lw % 8 := wrap_id _ (by omega) (by omega)
            have i1 : (hw8 &&& 2#8 != 0#8) = true → inS hw8 lw = 7 - lw % 8 := fun a => if_neg (by simpa using a)
            have i2 : (hw8 &&& 2#8 != 0#8) = false → inS hw8 lw = lw % 8 := fun a => if_pos (by simpa using a)
            simp only [go_sem, m1, w7]
            have tail : ∀ r, r = inS hw8 lw → (rowS bs (firstS tn r) (hw8 &&& 1#8 != 0#8)) = seenS bs regs lw (cx / 8) ∧ hw8 = howS bs regs lw (cx / 8) := fun r hr' => by
              have e1 : decide (hw8 &&& 1#8 ≠ 0#8) = (hw8 &&& 1#8 != 0#8) := by by_cases c : hw8 &&& 1#8 = 0#8 <;> simp [c]
              constructor
              · unfold seenS plcS
                simp only
                rw [hr', ← e1, et, eh]
              · unfold howS plcS; exact eh
            have hD8 : ∀ r, (rowS bs (firstS tn r) (hw8 &&& 1#8 != 0#8)).length = 8 := fun r => by simp [rowS]
            have hyd : Y (n + 3) = some ⟨D.map .u8, 117, false⟩ := hI.d
            have hDl : D.length = 8 := hI.l
            have es : ∀ r : List (BitVec 8), r.length = 8 → splice (D.map AV.u8) 0 (r.map AV.u8) = r.map AV.u8 := fun r hr' => by simp [splice, hDl, hr']
            have sI : ∀ r, r = inS hw8 lw → BI bs regs line H n ⟨j, lw * 256 + cx / 8, hw8, rowS bs (firstS tn r) (hw8 &&& 1#8 != 0#8), Y.upd (n + 3) (some ⟨(rowS bs (firstS tn r) (hw8 &&& 1#8 != 0#8)).map .u8, 117, false⟩)⟩ := fun r hr' => by
              obtain ⟨t1, t2⟩ := tail r hr'
              obtain ⟨C, F, c1, c2, c3, c4, c5⟩ := hI.c
              exact ⟨hI.j, Heap.wf_set hI.wf (by omega) map_u8_ok, by rw [← hI.r]; exact Heap.upd_ne _ _ (by omega), by rw [← hI.o]; exact Heap.upd_ne _ _ (by omega), ⟨C, F, c1, c2, c3, c4, by rw [← c5]; exact Heap.upd_ne _ _ (by omega)⟩,
                Heap.upd_same _ _ _, hD8 r, .inr ⟨lw, cx / 8, hw.1, hw.2, by omega, by omega, rfl, t2, t1⟩, fun k hk => by rw [← hI.old k hk]; exact Heap.upd_ne _ _ (by omega)⟩
            refine ⟨fun a => ?_, fun a => ?_⟩
            · refine tile_row v bs _ _ _ _ _ _ hvY ?_
              simp only [go_sem, hyd, hDl, hD8, es, List.length_map]
              obtain ⟨t1, t2⟩ := tail _ (i1 a).symm
              exact Ends.mk (⟨j, lw * 256 + cx / 8, hw8, rowS bs (firstS tn (7 - lw % 8)) (hw8 &&& 1#8 != 0#8), Y.upd (n + 3) (some ⟨(rowS bs (firstS tn (7 - lw % 8)) (hw8 &&& 1#8 != 0#8)).map .u8, 117, false⟩)⟩ : BL) ⟨sI _ (i1 a).symm, rfl, t2, t1⟩ (by repeat (first | exact Env.le_nil _ | refine Env.le_cons rfl ?_)) (fun _ _ => rfl) (Nat.le_refl _) (Nat.le_refl _)
            · refine tile_row v bs _ _ _ _ _ _ hvY ?_
              simp only [go_sem, hyd, hDl, hD8, es, List.length_map]
              obtain ⟨t1, t2⟩ := tail _ (i2 a).symm
              exact Ends.mk (⟨j, lw * 256 + cx / 8, hw8, rowS bs (firstS tn (lw % 8)) (hw8 &&& 1#8 != 0#8), Y.upd (n + 3) (some ⟨(rowS bs (firstS tn (lw % 8)) (hw8 &&& 1#8 != 0#8)).map .u8, 117, false⟩)⟩ : BL) ⟨sI _ (i2 a).symm, rfl, t2, t1⟩ (by repeat (first | exact Env.le_nil _ | refine Env.le_cons rfl ?_)) (fun _ _ => rfl) (Nat.le_refl _) (Nat.le_refl _)
          · have heq' : lw * 256 + cx / 8 = kn := by simpa using heq
            rcases hI.k with hk | ⟨row, c8, k1, k2, k3, k4, k5, k6, k7⟩
            · simp only at hk; omega
            simp only at k5 k6 k7
            have e1 : row = lw := by omega
            have e2 : c8 = cx / 8 := by omega
            subst e1 e2
            exact Ends.mk (⟨j, kn, how, D, Y⟩ : BL) ⟨hI, rfl, k6, k7⟩ (by repeat (first | exact Env.le_nil _ | refine Env.le_cons rfl ?_)) (fun _ _ => rfl) (Nat.le_refl _) (Nat.le_refl _)
        clear hI hy0 hvY
        rintro ⟨j', kn, how, D, Z⟩ ⟨hI, hjj, eh, eD⟩
        simp only at eh eD hI hjj ⊢
        replace hjj := hjj.symm
        subst hjj
        obtain ⟨c, hcn⟩ : ∃ c : Nat, cx % 8 = (c : Int) := ⟨(cx % 8).toNat, by omega⟩
        have hc8 : c < 8 := by omega
        have hc8' : (c : Int) < 8 := by omega
        have hDl : D.length = 8 := hI.l
        have hzd : Z (n + 3) = some ⟨D.map .u8, 117, false⟩ := hI.d
        obtain ⟨C, F, c1, c2, c3, c4, c5⟩ := hI.c
        simp only at c3 c4 c5
        have c5' : Z (n + 2) = some ⟨C.map .u8 ++ F.map .bo, 107, false⟩ := c5
        have gD : (D.map AV.u8).getD c .junk = .u8 (gdotS bs regs line j) := by
          rw [getD_map_u8' (by omega)]
          unfold gdotS; rw [← ecx, ← elw, hcn, Int.toNat_natCast, eD]
        have eg : how = ghowS bs regs line j := by unfold ghowS; rw [← ecx, ← elw]; exact eh
        have ec : ∀ d hw8, d = gdotS bs regs line j → hw8 = ghowS bs regs line j → gcolS bs regs line j = d + (if hw8 &&& 4#8 = 0#8 then 0#8 else 16#8) ∧ gfrS bs regs line j = (decide (hw8 &&& 8#8 ≠ 0#8) && decide (d ≠ 0#8)) := fun d hw8 h1 h2 => by subst h1 h2; exact ⟨rfl, rfl⟩
        obtain ⟨ec1, ec2⟩ := ec _ _ rfl eg
        generalize gdotS bs regs line j = d at gD ec1 ec2
        refine awp_step dr0 (by decide +kernel) ?_
        simp only [go_sem, m2, hcn, hzd, hc8, hc8', hDl, gD, List.length_map]
        have cl : ∀ C' : List (BitVec 8), C'.length = 256 → (C'.map AV.u8 ++ F.map AV.bo).length = 512 := fun C' hl => by rw [List.length_append, List.length_map, List.length_map, hl, c2]
        have cs : ∀ (C' : List (BitVec 8)) y, C'.length = 256 → (C'.map AV.u8 ++ F.map AV.bo).set j (.u8 y) = (C'.set j y).map AV.u8 ++ F.map AV.bo := fun C' y hl => by
          rw [List.set_append_left _ _ (by rw [List.length_map]; omega), List.map_set]
        have cg : ∀ (C' : List (BitVec 8)), C'.length = 256 → (C'.map AV.u8 ++ F.map AV.bo).getD j .junk = .u8 (C'.getD j 0#8) := fun C' hl => by
          rw [getD_app_l (by rw [List.length_map]; omega), getD_map_u8' (by omega)]
        have fs : ∀ (C' : List (BitVec 8)) y, C'.length = 256 → (C'.map AV.u8 ++ F.map AV.bo).set (256 + j) (.bo y) = C'.map AV.u8 ++ (F.set j y).map AV.bo := fun C' y hl => by
          rw [List.set_append_right _ _ (by rw [List.length_map]; omega), List.length_map, hl, show 256 + j - 256 = j by omega, List.map_set]
        have hj512 : j < 512 := by omega
        have hjI : (j : Int) < 256 := by omega
        have hj5 : 256 + j < 512 := by omega
        have sl : ∀ y, (C.set j y).length = 256 := fun y => by rw [List.length_set, c1]
        have sg : ∀ y, (C.set j y).getD j 0#8 = y := fun y => by rw [getD_set8]; rw [if_pos ⟨rfl, by omega⟩]
        refine awp_step dr0 (by decide +kernel) ?_
        simp only [go_sem, c5', hjI, hj512, cl C c1, cs C _ c1]
        refine ⟨by omega, ?_⟩
        refine awp_seqF (S := Unit) (fun _ => [(0, v), (2, .i64 line), (4, .pt n 0), (6, .pt (n + 1) 0), (7, .pt (n + 2) 0), (8, .i64 (tabS regs)), (9, .pt (n + 3) 0), (10, .u8 how), (11, .i64 kn), (12, .i64 j), (19, .u8 d), (32, .i64 j)]) (fun _ => Z.upd (n + 2) (some (grdB (C.set j (gcolS bs regs line j)) F))) (fun _ => n + 4) (fun _ => True)
          (fun _ _ => ⟨Heap.wf_set hI.wf (by omega) (grdB_ok _ _ _), Env.okAt_of2 (by simp [AV.ok, hvok4])⟩) ?_ ?_
        · refine awp_ev dr0 (by decide +kernel) ?_
          simp only [go_sem, hjI, hj512, cl _ (sl d), cg _ (sl d), sg, cs _ _ (sl d)]
          refine ⟨fun a => ?_, fun a => ?_⟩
          · refine ⟨by omega, ?_⟩
            rw [List.set_set]
            have e4 : gcolS bs regs line j = d + 16#8 := by rw [ec1, if_neg (by simpa using a)]
            exact Ends.mk () trivial (by repeat (first | exact Env.le_nil _ | refine Env.le_cons rfl ?_)) (fun k _ => by rw [e4]; rfl) (Nat.le_refl _) (Nat.le_refl _)
          · have e4 : gcolS bs regs line j = d := by rw [ec1, if_pos (by simpa using a)]; exact BitVec.add_zero d
            exact Ends.mk () trivial (by repeat (first | exact Env.le_nil _ | refine Env.le_cons rfl ?_)) (fun k _ => by rw [e4]; rfl) (Nat.le_refl _) (Nat.le_refl _)
        rintro - -
        have zu : (Z.upd (n + 2) (some (grdB (C.set j (gcolS bs regs line j)) F))) (n + 2) = some ⟨(C.set j (gcolS bs regs line j)).map .u8 ++ F.map .bo, 107, false⟩ := Heap.upd_same _ _ _
        have e5 : ∀ z, z = gfrS bs regs line j → BI bs regs line H n ⟨j + 1, kn, how, D, (Z.upd (n + 2) (some (grdB (C.set j (gcolS bs regs line j)) (F.set j z))))⟩ := fun z hz =>
          ⟨by simp only; omega, Heap.wf_set hI.wf (by omega) (grdB_ok _ _ _), by rw [← hI.r]; exact Heap.upd_ne _ _ (by omega), by rw [← hI.o]; exact Heap.upd_ne _ _ (by omega),
            ⟨C.set j (gcolS bs regs line j), F.set j z, sl _, by rw [List.length_set, c2], fun k hk => by
              simp only at hk
              rw [getD_set8]
              by_cases e : j = k
              · subst e; rw [if_pos ⟨rfl, by omega⟩]
              · rw [if_neg (fun x => e x.1)]; exact c3 k (by omega), fun k hk => by
              simp only at hk
              by_cases e : j = k
              · subst e; rw [hz]; simp [List.getD_eq_getElem?_getD, c2, hj']
              · rw [← c4 k (by omega)]; simp [List.getD_eq_getElem?_getD, List.getElem?_set, e], Heap.upd_same _ _ _⟩,
            by rw [← hI.d]; exact Heap.upd_ne _ _ (by omega), hI.l, hI.k, fun k hk => by rw [← hI.old k hk]; exact Heap.upd_ne _ _ (by omega)⟩
        have l2 : (C.set j (gcolS bs regs line j)).length = 256 := sl _
        generalize C.set j (gcolS bs regs line j) = C2 at zu e5 l2 ⊢
        have tail : ∀ z, z = gfrS bs regs line j → BI bs regs line H n ⟨j + 1, kn, how, D, (Z.upd (n + 2) (some ⟨C2.map .u8 ++ (F.set j z).map .bo, 107, false⟩))⟩ := e5
        refine awp_ev dr0 (by decide +kernel) ?_
        simp only [go_sem, zu, hjI, hj5, cl _ l2, fs _ _ l2, w1]
        have bd : (d != 0#8) = decide (d ≠ 0#8) := by by_cases c : d = 0#8 <;> simp [c]
        refine ⟨fun a => ⟨by omega, ?_⟩, fun a => ⟨by omega, ?_⟩⟩
        · refine awp_ev dr0 (by decide +kernel) ?_
          simp only [go_sem, w1]
          have a' : how &&& 8#8 ≠ 0#8 := by simpa using a
          refine Ends.mk (⟨j + 1, kn, how, D, Z.upd (n + 2) (some ⟨C2.map .u8 ++ (F.set j (d != 0#8)).map .bo, 107, false⟩)⟩ : BL) ⟨by simp only; omega, tail _ ?_⟩ (by repeat (first | exact Env.le_nil _ | refine Env.le_cons rfl ?_)) (fun k _ => ?_) (Nat.le_refl _) (Nat.le_refl _)
          · rw [ec2, decide_eq_true a', Bool.true_and, bd]
          · by_cases hk : k = n + 2
            · subst hk; simp only [Heap.upd_same]
            · simp only [Heap.upd_ne _ _ hk]
        · refine awp_ev dr0 (by decide +kernel) ?_
          simp only [go_sem, w1]
          have a' : ¬ how &&& 8#8 ≠ 0#8 := by simpa using a
          refine Ends.mk (⟨j + 1, kn, how, D, Z.upd (n + 2) (some ⟨C2.map .u8 ++ (F.set j false).map .bo, 107, false⟩)⟩ : BL) ⟨by simp only; omega, tail _ ?_⟩ (by repeat (first | exact Env.le_nil _ | refine Env.le_cons rfl ?_)) (fun k _ => ?_) (Nat.le_refl _) (Nat.le_refl _)
          · rw [ec2, decide_eq_false a', Bool.false_and]
          · by_cases hk : k = n + 2
            · subst hk; simp only [Heap.upd_same]
            · simp only [Heap.upd_ne _ _ hk]
      · have hj6 : j = 256 := by omega
        exact Ends.mk (⟨j, kn, how, D, Y⟩ : BL) ⟨hI, hj6⟩ (by repeat (first | exact Env.le_nil _ | refine Env.le_cons rfl ?_)) (fun _ _ => rfl) (Nat.le_refl _) (Nat.le_refl _)
    · have z8 : ((List.replicate 8 0#8).map AV.u8).length = 8 := rfl
      exact ⟨Nat.zero_le _, Heap.wf_upd xw map_u8_ok, by rw [hm, ← x0]; exact Heap.upd_ne _ _ (by omega), by rw [← x1]; exact Heap.upd_ne _ _ (by omega), ⟨_, _, List.length_replicate, List.length_replicate, fun k hk => absurd hk (Nat.not_lt_zero _), fun k hk => absurd hk (Nat.not_lt_zero _), by rw [← x2]; exact Heap.upd_ne _ _ (by omega)⟩,
        Heap.upd_same _ _ _, rfl, .inl rfl, fun k hk => by rw [← xo k hk]; exact Heap.upd_ne _ _ (by omega)⟩
  rintro ⟨j, kn, how, D, Y⟩ ⟨hI, hj6⟩
  simp only at hj6 hI ⊢
  subst hj6
  obtain ⟨C, F, c1, c2, c3, c4, c5⟩ := hI.c
  simp only at c3 c4 c5
  have c5' : Y (n + 2) = some ⟨C.map .u8 ++ F.map .bo, 107, false⟩ := c5
  have yo : Y (n + 1) = some ⟨(List.replicate 256 0#8).map .u8 ++ (List.replicate 256 false).map .bo, 107, false⟩ := hI.o
  have l1 : (C.map AV.u8 ++ F.map AV.bo).length = 512 := by rw [List.length_append, List.length_map, List.length_map, c1, c2]
  have l0 : ((List.replicate 256 0#8).map AV.u8 ++ (List.replicate 256 false).map AV.bo).length = 512 := by rw [List.length_append, List.length_map, List.length_map, List.length_replicate, List.length_replicate]
  have hk := h C F c1 c2 c3 c4
  have lok : AV.ok n (.ag (C.map AV.u8 ++ F.map AV.bo)) = true := by
    rw [AV.ok, AV.oks_eq]; simp [AV.ok, AV.one]
  generalize C.map AV.u8 ++ F.map AV.bo = L at c5' l1 hk lok
  generalize (List.replicate 256 0#8).map AV.u8 ++ (List.replicate 256 false).map AV.bo = L0 at yo l0
  refine awp_ev dr0 (by decide +kernel) ?_
  have es : splice L0 0 L = L := by simp [splice, l0, l1]
  have tk : L.take 512 = L := List.take_of_length_le (by omega)
  simp only [go_sem, c5', yo, l1, l0, es, tk]
  exact Fin.back wf hk (fun k hk => by rw [Heap.upd_ne _ _ (by omega)]; exact hI.old k hk) lok
end Go.Proofs.Joy
namespace Go.Proofs.Joy
open Go.Ab Go.Proofs

set_option maxHeartbeats 1000000
set_option maxRecDepth 20000

theorem line_paint (v : AV) (bs : List (BitVec 8)) (x : Int) (H : Heap) (n : Nat) (K : AV → Heap → Nat → Prop) (hv : bytesIn H v bs) (hvok : v.ok n = true) (h : K (.u8 (paintS bs x)) H n) : ACalls Tryz.prog 81 [v, .i64 x] H n K := by
  refine ACalls.of_ev dr0 Tryz.func81 rfl (by decide +kernel) (by decide +kernel) (show 2 ≤ 16 by decide) (by simp [hv.ne]) fun wf => ?_
  have hlb : ∀ K, lenB (some .slice) v K = K (.i64 bs.length) := lenB_bytes hv
  have e : and64 x 31 = x % 32 := and64_mask 5 (by decide) x
  have h0 := Int.emod_nonneg x (show (32 : Int) ≠ 0 by decide)
  simp only [go_sem, Tryz.f81, hlb, e]
  unfold paintS at h
  obtain ⟨k, hk⟩ := Int.eq_ofNat_of_zero_le h0
  rw [hk, Int.toNat_natCast] at h
  rw [hk]
  refine ⟨fun hlt => ?_, fun hlt => ?_⟩
  · have hk' : k < bs.length := by omega
    rcases hv with ⟨rfl, rfl⟩ | ⟨su, b, o, c, blk, rfl, g0, g1, g2, g3⟩
    · simp at hk'
    obtain ⟨q1, q2⟩ := cells_at g2 g3 hk'
    simp only [go_sem, g1, q1, q2, hlt, hk']
    exact Fin.back wf h (fun _ _ => rfl) rfl
  · rw [List.getD_eq_getElem?_getD, List.getElem?_eq_none (by omega)] at h
    exact Fin.back wf h (fun _ _ => rfl) rfl
theorem shows_ok (regs : List (BitVec 8)) (hr : regs.length = 11) (H : Heap) (n : Nat) (K : AV → Heap → Nat → Prop) (h : K (.bo (shownS regs)) H n) : ACalls Tryz.prog 82 [.ag (regs.map .u8)] H n K := by
  refine ACalls.of_ev dr0 Tryz.func82 rfl (by decide +kernel) (by decide +kernel) (show 1 ≤ 7 by decide) (by simp) fun wf => ?_
  simp only [go_sem, Tryz.f82]
  obtain ⟨r0, r1, r2, r3, r4, r5, r6, r7, r8, r9, r10, rfl⟩ := regs11 hr
  simp only [go_sem, Tryz.f82, List.map_cons, List.map_nil]
  have e : shownS [r0, r1, r2, r3, r4, r5, r6, r7, r8, r9, r10] = (r1 &&& 64#8 != 0#8) := by
    unfold shownS; show decide (r1 &&& 64#8 ≠ 0#8) = _
    by_cases c : r1 &&& 64#8 = 0#8 <;> simp [c]
  rw [e] at h
  exact Fin.back wf h (fun k hk => Heap.upd_ne _ _ (by omega)) rfl
end Go.Proofs.Joy
namespace Go.Proofs.Joy
open Go.Ab Go.Proofs

set_option maxHeartbeats 1000000
set_option maxRecDepth 20000

theorem dots_ok (v : AV) (bs regs : List (BitVec 8)) (hr : regs.length = 11) (i : Nat) (hi : i < 64) (line : Int) (hl : 0 ≤ line ∧ line < 192) (H : Heap) (n : Nat) (K : AV → Heap → Nat → Prop) (hv : bytesIn H v bs) (h : K (.ag ((dotsL bs regs i line).map .u8)) H n) :
    ACalls Tryz.prog 95 [v, .ag (regs.map .u8), .i64 i, .i64 line] H n K := by
  refine ACalls.of_awp Tryz.func95 rfl (by decide +kernel) (show 4 ≤ 57 by decide) (by simp [hv.ne]) fun wf => ?_
  have hvok : v.ok n = true := by
    rcases hv with ⟨rfl, rfl⟩ | ⟨su, b, o, c, blk, rfl, h0, h1, h2, h3⟩
    · rfl
    · exact vw_ok (wf b _ h1).1
  obtain ⟨r0, r1, r2, r3, r4, r5, r6, r7, r8, r9, r10, rfl⟩ := regs11 hr
  have hbl := baseS_le [r0, r1, r2, r3, r4, r5, r6, r7, r8, r9, r10]
  let R : List (BitVec 8) := [r0, r1, r2, r3, r4, r5, r6, r7, r8, r9, r10]
  have hRok : ∀ x ∈ (R.map AV.u8), x.ok (n + 1) = true := map_u8_ok
  have hZok : ∀ x ∈ ((List.replicate 8 0#8).map AV.u8), x.ok (n + 2) = true := map_u8_ok
  let G : Heap := (H.upd n (some ⟨R.map .u8, 84, false⟩)).upd (n + 1) (some ⟨(List.replicate 8 0#8).map .u8, 117, false⟩)
  have wfG : G.wf (n + 2) := Heap.wf_upd (Heap.wf_upd wf hRok) hZok
  have hvG : bytesIn G v bs := hv.mono hvok (fun k hk => by show ((H.upd n _).upd (n + 1) _) k = _; rw [Heap.upd_ne _ _ (by omega), Heap.upd_ne _ _ (by omega)])
  have hvok2 : v.ok (n + 2) = true := AV.ok_mono (by omega) _ hvok
  refine awp_step dr0 (by decide +kernel) ?_
  simp only [go_sem, Tryz.f95, List.map_cons, List.map_nil]
  refine awp_gen (fun X => X = G) rfl ?_
  rintro _ rfl
  have gn : G n = some ⟨R.map .u8, 84, false⟩ := by show ((H.upd n _).upd (n + 1) _) n = _; rw [Heap.upd_ne _ _ (by omega), Heap.upd_same]
  have gn1 : G (n + 1) = some ⟨(List.replicate 8 0#8).map .u8, 117, false⟩ := Heap.upd_same _ _ _
  refine awp_step dr0 (by decide +kernel) ?_
  simp only [go_sem, gn, R, List.map_cons, List.map_nil]
  have ht := topS_le (yS bs [r0, r1, r2, r3, r4, r5, r6, r7, r8, r9, r10] i)
  refine base_ok [r0, r1, r2, r3, r4, r5, r6, r7, r8, r9, r10] hr _ _ _ ?_
  have w1 : wrap64 (baseS [r0, r1, r2, r3, r4, r5, r6, r7, r8, r9, r10] + (i : Int)) = baseS [r0, r1, r2, r3, r4, r5, r6, r7, r8, r9, r10] + i := wrap_id _ (by omega) (by omega)
  simp only [go_sem]
  refine awp_step dr0 (by decide +kernel) ?_
  simp only [go_sem, w1]
  refine tile_at v bs _ _ _ _ hvG hvok2 ?_
  rw [show atS bs (baseS [r0, r1, r2, r3, r4, r5, r6, r7, r8, r9, r10] + (i : Int)) = yS bs [r0, r1, r2, r3, r4, r5, r6, r7, r8, r9, r10] i from rfl]
  simp only [go_sem]
  refine top_ok _ _ _ _ ?_
  have w2 : wrap64 (line - topS (yS bs [r0, r1, r2, r3, r4, r5, r6, r7, r8, r9, r10] i)) = line - topS (yS bs [r0, r1, r2, r3, r4, r5, r6, r7, r8, r9, r10] i) := wrap_id _ (by omega) (by omega)
  have w3 : wrap64 (wrap64 (wrap64 (baseS [r0, r1, r2, r3, r4, r5, r6, r7, r8, r9, r10] + 128) + wrap64 (2 * (i : Int))) + 1) = baseS [r0, r1, r2, r3, r4, r5, r6, r7, r8, r9, r10] + 128 + 2 * i + 1 := by
    rw [wrap_id (baseS _ + 128) (by omega) (by omega), wrap_id (2 * (i : Int)) (by omega) (by omega), wrap_id (_ + 2 * (i : Int)) (by omega) (by omega), wrap_id _ (by omega) (by omega)]
  simp only [go_sem, w2]
  refine awp_step dr0 (by decide +kernel) ?_
  simp only [go_sem, w3]
  refine tile_at v bs _ _ _ _ hvG hvok2 ?_
  simp only [go_sem]
  have hb := (atS bs (baseS [r0, r1, r2, r3, r4, r5, r6, r7, r8, r9, r10] + 128 + 2 * (i : Int) + 1)).isLt
  generalize hbe : atS bs (baseS [r0, r1, r2, r3, r4, r5, r6, r7, r8, r9, r10] + 128 + 2 * (i : Int) + 1) = nb at hb ⊢
  have hd : ∀ a b, numS bs [r0, r1, r2, r3, r4, r5, r6, r7, r8, r9, r10] i + (downS bs [r0, r1, r2, r3, r4, r5, r6, r7, r8, r9, r10] i line).tdiv 8 = a → (downS bs [r0, r1, r2, r3, r4, r5, r6, r7, r8, r9, r10] i line).tmod 8 = b →
      rowS bs (firstS a b) false = dotsL bs [r0, r1, r2, r3, r4, r5, r6, r7, r8, r9, r10] i line := fun a b ha hb => by subst ha hb; rfl
  have hD : -300 ≤ line - topS (yS bs [r0, r1, r2, r3, r4, r5, r6, r7, r8, r9, r10] i) ∧ line - topS (yS bs [r0, r1, r2, r3, r4, r5, r6, r7, r8, r9, r10] i) ≤ 300 := by omega
  have hnum : numS bs [r0, r1, r2, r3, r4, r5, r6, r7, r8, r9, r10] i = if r1 &&& 2#8 = 0#8 then ((nb.toNat + (if r6 &&& 4#8 = 0#8 then 0 else 256) : Nat) : Int) else ((nb.toNat + (if r6 &&& 4#8 = 0#8 then 0 else 256) - (nb.toNat + (if r6 &&& 4#8 = 0#8 then 0 else 256)) % 2 : Nat) : Int) := by
    unfold numS; simp only [hbe]; rfl
  have hdown : downS bs [r0, r1, r2, r3, r4, r5, r6, r7, r8, r9, r10] i line = if r1 &&& 1#8 = 0#8 then line - topS (yS bs [r0, r1, r2, r3, r4, r5, r6, r7, r8, r9, r10] i) else (line - topS (yS bs [r0, r1, r2, r3, r4, r5, r6, r7, r8, r9, r10] i)).tdiv 2 := rfl
  generalize line - topS (yS bs [r0, r1, r2, r3, r4, r5, r6, r7, r8, r9, r10] i) = D at hD hdown ⊢
  have b2 : -300 ≤ D.tdiv 2 ∧ D.tdiv 2 ≤ 300 := tdiv_bd _ _ _ hD
  have b8 : -300 ≤ D.tdiv 8 ∧ D.tdiv 8 ≤ 300 := tdiv_bd _ _ _ hD
  have b28 : -300 ≤ (D.tdiv 2).tdiv 8 ∧ (D.tdiv 2).tdiv 8 ≤ 300 := tdiv_bd _ _ _ b2
  have x1 : wrap64 (D.tdiv 2) = D.tdiv 2 := wrap_id _ (by omega) (by omega)
  have x2 : wrap64 (D.tdiv 8) = D.tdiv 8 := wrap_id _ (by omega) (by omega)
  have x3 : wrap64 ((D.tdiv 2).tdiv 8) = (D.tdiv 2).tdiv 8 := wrap_id _ (by omega) (by omega)
  have x4 : wrap64 ((nb.toNat : Int) + 256) = ((nb.toNat + 256 : Nat) : Int) := by rw [wrap_id _ (by omega) (by omega)]; omega
  have x5 : andNot64 ((nb.toNat + 256 : Nat) : Int) 1 = ((nb.toNat + 256 - (nb.toNat + 256) % 2 : Nat) : Int) := andNot_one _ (by omega)
  have x6 : andNot64 (nb.toNat : Int) 1 = ((nb.toNat - nb.toNat % 2 : Nat) : Int) := andNot_one _ (by omega)
  have fin : ∀ l, l = dotsL bs [r0, r1, r2, r3, r4, r5, r6, r7, r8, r9, r10] i line → ∀ X, Fin n (.ag (l.map .u8)) (G.upd (n + 1) X) (n + 2) K := fun l hl X => by
    subst hl
    exact Fin.back wf h (fun k hk => by rw [Heap.upd_ne _ _ (by omega)]; show ((H.upd n _).upd (n + 1) _) k = _; rw [Heap.upd_ne _ _ (by omega), Heap.upd_ne _ _ (by omega)]) rfl
  refine awp_ev dr0 (by decide +kernel) ?_
  simp only [go_sem, gn, R, List.map_cons, List.map_nil, x1, x2, x3, x4, x5, x6]
  refine ⟨fun a1 => ⟨fun a2 => ⟨fun a3 => ?_, fun a3 => ?_⟩, fun a2 => ⟨fun a3 => ?_, fun a3 => ?_⟩⟩, fun a1 => ⟨fun a2 => ⟨fun a3 => ?_, fun a3 => ?_⟩, fun a2 => ⟨fun a3 => ?_, fun a3 => ?_⟩⟩⟩
  all_goals
    simp only [bne_iff_ne, ne_eq, bne_eq_false_iff_eq] at a1 a2 a3
    simp only [a1, a2, a3, if_true, if_false, Nat.add_zero] at hnum hdown
    refine tile_row v bs _ _ _ _ _ _ hvG ?_
    rw [hd _ _ (by rw [hnum, hdown, wrap_id _ (by omega) (by omega)]) (by rw [hdown])]
    simp only [go_sem, gn1]
    have es : splice ((List.replicate 8 0#8).map AV.u8) 0 ((dotsL bs [r0, r1, r2, r3, r4, r5, r6, r7, r8, r9, r10] i line).map AV.u8) = (dotsL bs [r0, r1, r2, r3, r4, r5, r6, r7, r8, r9, r10] i line).map AV.u8 := by
      simp [splice, dotsL_len]
    rw [es, List.take_of_length_le (l := (dotsL bs [r0, r1, r2, r3, r4, r5, r6, r7, r8, r9, r10] i line).map AV.u8) (by rw [List.length_map, dotsL_len]; exact Nat.le_refl _)]
    exact ⟨by rw [List.length_map, dotsL_len], by decide, by rw [List.length_map, dotsL_len]; exact Nat.le_refl _, fin _ rfl _⟩
end Go.Proofs.Joy
