/- Parts of the proof: contracts of the seat's functions. -/
import Derived.Test.YtkeboecppefiiaaJoyW2
import Derived.Test.YtkeboecppefiiaaProg
import Derived.KernelRfl
import Derived.Test.YtkeboecppefiiaaJoyW3
set_option linter.unusedSimpArgs false
set_option linter.unusedVariables false
namespace Go.Proofs.Joy
open Go.Ab Go.Proofs
@[go_sem] theorem F.ty90 : tyA Try.prog 90 = some (true, 8) := by kernel_rfl
@[go_sem] theorem F.ty88 : tyA Try.prog 88 = some (true, 258) := by kernel_rfl
@[go_sem] theorem F.ty86 : tyA Try.prog 86 = some (true, 512) := by kernel_rfl
@[go_sem] theorem F.ty66 : tyA Try.prog 66 = some (true, 11) := by kernel_rfl
@[go_sem] theorem F.ty69 : tyA Try.prog 69 = some (true, 5) := by kernel_rfl
@[go_sem] theorem F.ty28 : tyA Try.prog 28 = some (false, 1) := by kernel_rfl
@[go_sem] theorem F.ty67 : tyA Try.prog 67 = some (false, 1) := by kernel_rfl
@[go_sem] theorem F.ty74 : tyA Try.prog 74 = some (true, 258) := by kernel_rfl
@[go_sem] theorem F.ty4 : tyA Try.prog 4 = some (false, 1) := by kernel_rfl
@[go_sem] theorem F.ty47 : tyA Try.prog 47 = some (true, 5) := by kernel_rfl
@[go_sem] theorem F.ty44 : tyA Try.prog 44 = some (false, 1) := by kernel_rfl
@[go_sem] theorem F.ty3 : tyA Try.prog 3 = some (false, 1) := by kernel_rfl
@[go_sem] theorem F.ty5 : tyA Try.prog 5 = some (false, 1) := by kernel_rfl
@[go_sem] theorem F.ty25 : tyA Try.prog 25 = some (true, 2) := by kernel_rfl
@[go_sem] theorem F.fld86_1 : fldT Try.prog 86 1 = some (256, true, 256) := by kernel_rfl
@[go_sem] theorem F.fld88_0 : fldT Try.prog 88 0 = some (0, true, 256) := by kernel_rfl
@[go_sem] theorem F.fld86_0 : fldT Try.prog 86 0 = some (0, true, 256) := by kernel_rfl
@[go_sem] theorem F.fld88_2 : fldT Try.prog 88 2 = some (257, false, 1) := by kernel_rfl
@[go_sem] theorem F.fld88_1 : fldT Try.prog 88 1 = some (256, false, 1) := by kernel_rfl
@[go_sem] theorem F.fld69_3 : fldT Try.prog 69 3 = some (3, false, 1) := by kernel_rfl
@[go_sem] theorem F.fld71_0 : fldT Try.prog 71 0 = some (0, true, 16384) := by kernel_rfl
@[go_sem] theorem F.fld71_1 : fldT Try.prog 71 1 = some (16384, true, 32) := by kernel_rfl
@[go_sem] theorem F.fld71_2 : fldT Try.prog 71 2 = some (16416, true, 11) := by kernel_rfl
@[go_sem] theorem F.fld69_1 : fldT Try.prog 69 1 = some (1, false, 1) := by kernel_rfl
@[go_sem] theorem F.fld69_0 : fldT Try.prog 69 0 = some (0, false, 1) := by kernel_rfl
@[go_sem] theorem F.fld69_2 : fldT Try.prog 69 2 = some (2, false, 1) := by kernel_rfl
@[go_sem] theorem F.fld69_4 : fldT Try.prog 69 4 = some (4, false, 1) := by kernel_rfl
@[go_sem] theorem F.fld71_3 : fldT Try.prog 71 3 = some (16427, true, 5) := by kernel_rfl
@[go_sem] theorem F.fld74_2 : fldT Try.prog 74 2 = some (257, false, 1) := by kernel_rfl
@[go_sem] theorem F.fld74_1 : fldT Try.prog 74 1 = some (256, false, 1) := by kernel_rfl
@[go_sem] theorem F.fld74_0 : fldT Try.prog 74 0 = some (0, true, 256) := by kernel_rfl
@[go_sem] theorem F.fld47_4 : fldT Try.prog 47 4 = some (4, false, 1) := by kernel_rfl
@[go_sem] theorem F.fld47_3 : fldT Try.prog 47 3 = some (3, false, 1) := by kernel_rfl
@[go_sem] theorem F.fld47_2 : fldT Try.prog 47 2 = some (2, false, 1) := by kernel_rfl
@[go_sem] theorem F.fld47_1 : fldT Try.prog 47 1 = some (1, false, 1) := by kernel_rfl
@[go_sem] theorem F.fld47_0 : fldT Try.prog 47 0 = some (0, false, 1) := by kernel_rfl
@[go_sem] theorem F.fld50_1 : fldT Try.prog 50 1 = some (1, true, 5) := by kernel_rfl
@[go_sem] theorem F.fld50_3 : fldT Try.prog 50 3 = some (7, true, 49152) := by kernel_rfl
@[go_sem] theorem F.fld50_2 : fldT Try.prog 50 2 = some (6, false, 1) := by kernel_rfl
@[go_sem] theorem F.fld50_0 : fldT Try.prog 50 0 = some (0, false, 1) := by kernel_rfl
@[go_sem] theorem F.ix90 : ixT Try.prog 90 = some (some 8, false, 1) := by kernel_rfl
@[go_sem] theorem F.ix84 : ixT Try.prog 84 = some (some 256, false, 1) := by kernel_rfl
@[go_sem] theorem F.ix79 : ixT Try.prog 79 = some (none, false, 1) := by kernel_rfl
@[go_sem] theorem F.ix64 : ixT Try.prog 64 = some (some 16384, false, 1) := by kernel_rfl
@[go_sem] theorem F.ix65 : ixT Try.prog 65 = some (some 32, false, 1) := by kernel_rfl
@[go_sem] theorem F.ix66 : ixT Try.prog 66 = some (some 11, false, 1) := by kernel_rfl
@[go_sem] theorem F.ix72 : ixT Try.prog 72 = some (some 256, false, 1) := by kernel_rfl
@[go_sem] theorem F.ix48 : ixT Try.prog 48 = some (some 49152, false, 1) := by kernel_rfl
@[go_sem] theorem F.ix39 : ixT Try.prog 39 = some (some 2, false, 1) := by kernel_rfl
@[go_sem] theorem F.ix31 : ixT Try.prog 31 = some (none, false, 1) := by kernel_rfl
@[go_sem] theorem F.ix28 : ixT Try.prog 28 = some (none, false, 1) := by kernel_rfl
@[go_sem] theorem F.ix25 : ixT Try.prog 25 = some (some 2, false, 1) := by kernel_rfl
@[go_sem] theorem F.zero5 : zeroT Try.prog 5 = some ([.u8 0#8]) := by kernel_rfl
@[go_sem] theorem F.zero28 : zeroT Try.prog 28 = some ([.sn]) := by kernel_rfl
@[go_sem] theorem F.zero3 : zeroT Try.prog 3 = some ([.i64 0]) := by kernel_rfl
@[go_sem] theorem F.zero90 : zeroT Try.prog 90 = some ([.u8 0#8, .u8 0#8, .u8 0#8, .u8 0#8, .u8 0#8, .u8 0#8, .u8 0#8, .u8 0#8]) := by kernel_rfl
@[go_sem] theorem F.zero66 : zeroT Try.prog 66 = some ([.u8 0#8, .u8 0#8, .u8 0#8, .u8 0#8, .u8 0#8, .u8 0#8, .u8 0#8, .u8 0#8, .u8 0#8, .u8 0#8, .u8 0#8]) := by kernel_rfl
set_option maxRecDepth 1000000 in
@[go_sem] theorem F.zero88 : zeroT Try.prog 88 = some (List.replicate 256 (.u8 0#8) ++ [.bo false, .bo false]) := by kernel_rfl
set_option maxRecDepth 1000000 in
@[go_sem] theorem F.zero86 : zeroT Try.prog 86 = some (List.replicate 256 (.u8 0#8) ++ List.replicate 256 (.bo false)) := by kernel_rfl
@[go_sem] theorem F.zero69 : zeroT Try.prog 69 = some ([.u16 0#16, .u8 0#8, .u8 0#8, .u8 0#8, .bo false]) := by kernel_rfl
set_option maxRecDepth 1000000 in
@[go_sem] theorem F.zero74 : zeroT Try.prog 74 = some (List.replicate 256 (.u8 0#8) ++ [.bo false, .bo false]) := by kernel_rfl
set_option maxRecDepth 1000000 in
@[go_sem] theorem F.zero71 : zeroT Try.prog 71 = some (List.replicate 16427 (.u8 0#8) ++ [.u16 0#16, .u8 0#8, .u8 0#8, .u8 0#8, .bo false]) := by kernel_rfl
@[go_sem] theorem F.zero47 : zeroT Try.prog 47 = some ([.u8 0#8, .bo false, .bo false, .bo false, .bo false]) := by kernel_rfl
set_option maxRecDepth 1000000 in
@[go_sem] theorem F.zero50 : zeroT Try.prog 50 = some ([.pn, .u8 0#8, .bo false, .bo false, .bo false, .bo false, .i64 0] ++ List.replicate 49152 (.u8 0#8)) := by kernel_rfl
@[go_sem] theorem F.zero25 : zeroT Try.prog 25 = some ([.u8 0#8, .u8 0#8]) := by kernel_rfl
@[go_sem] theorem F.el31 : elT Try.prog 31 = some (3, 1, 8) := by kernel_rfl
@[go_sem] theorem F.el79 : elT Try.prog 79 = some (28, 1, 24) := by kernel_rfl
@[go_sem] theorem F.el28 : elT Try.prog 28 = some (5, 1, 1) := by kernel_rfl
@[go_sem] theorem F.kind28 : kindT Try.prog 28 = some .slice := by kernel_rfl
@[go_sem] theorem F.kind23 : kindT Try.prog 23 = some .ptr := by kernel_rfl
@[go_sem] theorem F.kind4 : kindT Try.prog 4 = some .bool := by kernel_rfl
@[go_sem] theorem F.kind35 : kindT Try.prog 35 = none := by kernel_rfl
@[go_sem] theorem F.kind3 : kindT Try.prog 3 = none := by kernel_rfl
@[go_sem] theorem F.kind9 : kindT Try.prog 9 = none := by kernel_rfl
@[go_sem] theorem F.kind5 : kindT Try.prog 5 = none := by kernel_rfl
@[go_sem] theorem F.conv67_5 : convT Try.prog 67 5 = some (.int .u8) := by kernel_rfl
@[go_sem] theorem F.conv5_3 : convT Try.prog 5 3 = some (.int .i64) := by kernel_rfl
@[go_sem] theorem F.conv5_67 : convT Try.prog 5 67 = some (.int .u16) := by kernel_rfl
@[go_sem] theorem F.conv56_3 : convT Try.prog 56 3 = some (.int .i64) := by kernel_rfl
@[go_sem] theorem F.conv5_56 : convT Try.prog 5 56 = some (.int .u32) := by kernel_rfl
@[go_sem] theorem F.conv3_5 : convT Try.prog 3 5 = some (.int .u8) := by kernel_rfl
@[go_sem] theorem F.conv28_9 : convT Try.prog 28 9 = some .b2s := by kernel_rfl
@[go_sem] theorem F.nif9 : notIface Try.prog 9 = true := by kernel_rfl
@[go_sem] theorem F.len79 : lenT Try.prog 79 = some .slice := by kernel_rfl
@[go_sem] theorem F.len31 : lenT Try.prog 31 = some .slice := by kernel_rfl
@[go_sem] theorem F.len28 : lenT Try.prog 28 = some .slice := by kernel_rfl
@[go_sem] theorem F.nint31 : notIntT Try.prog 31 = true := by kernel_rfl
@[go_sem] theorem F.nint3 : notIntT Try.prog 3 = false := by kernel_rfl
@[go_sem] theorem F.int3 : intT Try.prog 3 = true := by kernel_rfl
@[go_sem] theorem F.nint28 : notIntT Try.prog 28 = true := by kernel_rfl
@[go_sem] theorem F.app31 : appT Try.prog 31 = some ⟨3, 1, 8, [.i64 0]⟩ := by kernel_rfl
@[go_sem] theorem F.app28 : appT Try.prog 28 = some ⟨5, 1, 1, [.u8 0#8]⟩ := by kernel_rfl
@[go_sem] theorem F.bld69 : bldT Try.prog 69 = true := by kernel_rfl
@[go_sem] theorem F.bld71 : bldT Try.prog 71 = true := by kernel_rfl
@[go_sem] theorem F.bld47 : bldT Try.prog 47 = true := by kernel_rfl
@[go_sem] theorem F.bld50 : bldT Try.prog 50 = true := by kernel_rfl
@[go_sem] theorem F.bld25 : bldT Try.prog 25 = true := by kernel_rfl
@[go_sem] theorem F.pl69_3 : plT Try.prog 69 3 = some (3, 1) := by kernel_rfl
@[go_sem] theorem F.pl69_4 : plT Try.prog 69 4 = some (4, 1) := by kernel_rfl
@[go_sem] theorem F.pl69_2 : plT Try.prog 69 2 = some (2, 1) := by kernel_rfl
@[go_sem] theorem F.pl69_1 : plT Try.prog 69 1 = some (1, 1) := by kernel_rfl
@[go_sem] theorem F.pl69_0 : plT Try.prog 69 0 = some (0, 1) := by kernel_rfl
@[go_sem] theorem F.pl47_4 : plT Try.prog 47 4 = some (4, 1) := by kernel_rfl
@[go_sem] theorem F.pl47_3 : plT Try.prog 47 3 = some (3, 1) := by kernel_rfl
@[go_sem] theorem F.pl47_2 : plT Try.prog 47 2 = some (2, 1) := by kernel_rfl
@[go_sem] theorem F.pl47_1 : plT Try.prog 47 1 = some (1, 1) := by kernel_rfl
@[go_sem] theorem F.pl47_0 : plT Try.prog 47 0 = some (0, 1) := by kernel_rfl
@[go_sem] theorem F.pl50_0 : plT Try.prog 50 0 = some (0, 1) := by kernel_rfl
@[go_sem] theorem F.pl25_1 : plT Try.prog 25 1 = some (1, 1) := by kernel_rfl
@[go_sem] theorem F.pl25_0 : plT Try.prog 25 0 = some (0, 1) := by kernel_rfl
-- joystick/joysticklaw20.VdpTells
@[go_sem] def dr3 : Nat → Draw
  | 19 => ⟨[0, 0, 2, 0, 14, 31, 63, 0, 128, 511, 1023, 2047, 2047, 6143, 14335, 2047, 63487, 131071, 262143, 2047, 526335, 2097151, 4194303, 8388607, 16777215, 16777215, 50331647, 117440511, 16777215, 520093695, 1073741823, 2147483647, 4294967295, 8589934591], [(0, []), (1, []), (2, []), (3, []), (4, []), (5, []), (6, []), (7, []), (8, []), (9, []), (10, []), (11, []), (12, []), (13, []), (14, []), (15, []), (16, []), (17, []), (18, []), (19, []), (20, []), (21, []), (22, []), (23, []), (24, []), (25, []), (26, []), (27, []), (28, []), (29, []), (30, []), (31, []), (32, []), (33, [])], []⟩
  | 23 => ⟨[0, 0, 2, 7, 15, 0, 32, 127, 255, 511, 1023, 2047, 511, 4607, 16383, 32767, 65535, 131071, 262143, 524287, 131071, 1179647, 4194303, 8388607, 16777215], [(0, []), (1, []), (2, []), (3, []), (4, []), (5, []), (6, []), (7, []), (8, []), (9, []), (10, []), (11, []), (12, []), (13, []), (14, []), (15, []), (16, []), (17, []), (18, []), (19, []), (20, []), (21, []), (22, []), (23, []), (24, [])], []⟩
  | _ => {}
-- joystick/joysticklaw20.VdpSplits
@[go_sem] def tr4_16 : DT := .op 0 (.op 3 (.fork 1 [] (.fork 2 [] (.fork 4 [] (.fork 5 [] (.op 6 (.op 7 (.op 8 (.op 10 (.fork 9 [] (.op 11 (.op 12 (.op 13 (.op 14 (.op 16 (.fork 15 [] (.op 17 (.op 18 (.op 19 (.done)))) (.stop))))))) (.stop)))))) (.stop)) (.stop)) (.fork 4 [] (.fork 2 [] (.fork 5 [] (.op 6 (.op 7 (.op 8 (.op 10 (.fork 9 [] (.op 11 (.op 12 (.op 13 (.op 14 (.op 16 (.fork 15 [] (.op 17 (.op 18 (.op 19 (.done)))) (.stop))))))) (.stop)))))) (.stop)) (.fork 5 [] (.fork 2 [] (.op 6 (.op 7 (.op 8 (.op 10 (.fork 9 [] (.op 11 (.op 12 (.op 13 (.op 14 (.op 16 (.fork 15 [] (.op 17 (.op 18 (.op 19 (.done)))) (.stop))))))) (.stop)))))) (.stop)) (.stop))) (.stop))) (.stop)))
def td4_16 : Draw := ⟨[0, 1, 3, 0, 11, 27, 63, 127, 255, 511, 255, 2047, 4095, 8191, 16383, 32767, 16383, 131071, 262143, 524287], [], []⟩
@[go_sem] def dr4 : Nat → Draw
  | 16 => ⟨[0, 1, 3, 0, 11, 27, 63, 127, 255, 511, 255, 2047, 4095, 8191, 16383, 32767, 16383, 131071, 262143, 524287], [(0, []), (3, []), (1, []), (2, []), (4, []), (5, []), (6, []), (7, []), (8, []), (10, []), (9, []), (11, []), (12, []), (13, []), (14, []), (16, []), (15, []), (17, []), (18, []), (19, [])], []⟩
  | _ => {}
-- joystick/joysticklaw20.VdpBack
@[go_sem] def tr7_12 : DT := .op 0 (.op 3 (.fork 1 [] (.fork 2 [] (.fork 4 [] (.fork 5 [] (.op 6 (.op 7 (.op 8 (.op 10 (.fork 9 [] (.fork 11 [] (.op 12 (.op 13 (.op 14 (.done)))) (.stop)) (.stop)))))) (.stop)) (.stop)) (.fork 4 [] (.fork 2 [] (.fork 5 [] (.op 6 (.op 7 (.op 8 (.op 10 (.fork 9 [] (.fork 11 [] (.op 12 (.op 13 (.op 14 (.done)))) (.stop)) (.stop)))))) (.stop)) (.fork 5 [] (.fork 2 [] (.op 6 (.op 7 (.op 8 (.op 10 (.fork 9 [] (.fork 11 [] (.op 12 (.op 13 (.op 14 (.done)))) (.stop)) (.stop)))))) (.stop)) (.stop))) (.stop))) (.stop)))
def td7_12 : Draw := ⟨[0, 1, 3, 0, 11, 27, 63, 127, 255, 511, 255, 2047, 4095, 8191, 16383], [], []⟩
@[go_sem] def dr7 : Nat → Draw
  | 10 => ⟨[0, 0, 2, 0, 8, 30, 63], [(0, []), (1, []), (3, []), (4, []), (2, [4]), (5, []), (6, [])], []⟩
  | 11 => ⟨[0, 0, 2, 0, 8, 30, 63], [(0, []), (1, []), (3, []), (4, []), (2, [4]), (5, []), (6, [])], []⟩
  | 12 => ⟨[0, 1, 3, 0, 11, 27, 63, 127, 255, 511, 255, 2047, 4095, 8191, 16383], [(0, []), (3, []), (1, []), (2, []), (4, []), (5, []), (6, []), (7, []), (8, []), (10, []), (9, []), (11, []), (12, []), (13, []), (14, [])], []⟩
  | _ => {}
-- (*joystick/vdp.Vdp).Dump
@[go_sem] def dr15 : Nat → Draw
  | 2 => ⟨[0, 1, 3, 7, 15, 0, 32, 96, 224, 0, 512, 0, 2048, 6175, 0, 16384, 63519, 129055, 0, 262144, 915487, 2095135, 0, 4194304, 14546975, 33552415, 67108383, 134217727, 268435455, 536870911], [(0, []), (1, []), (2, []), (3, []), (5, []), (6, []), (7, []), (8, []), (9, []), (10, []), (11, []), (12, []), (14, []), (15, []), (18, []), (19, []), (22, []), (23, []), (4, [10, 12, 15, 19, 23]), (13, [10, 15, 19, 23]), (16, [10, 19, 23]), (17, []), (20, [10, 23]), (21, []), (24, [10]), (25, []), (26, []), (27, []), (28, []), (29, [])], []⟩
  | _ => {}
-- (*joystick/vdp.Vdp).Load
@[go_sem] def tr17_3 : DT := .op 0 (.op 2 (.op 3 (.op 4 (.op 5 (.fork 1 [] (.op 7 (.fork 6 [] (.op 8 (.done)) (.stop))) (.fork 6 [] (.fork 1 [] (.op 7 (.op 8 (.done))) (.stop)) (.stop)))))))
def td17_3 : Draw := ⟨[0, 1, 0, 0, 8, 24, 60, 3, 255], [], []⟩
@[go_sem] def tr17_8 : DT := .op 0 (.op 1 (.op 2 (.op 3 (.op 4 (.fork 5 [3] (.fork 6 [] (.op 7 (.done)) (.stop)) (.stop))))))
def td17_8 : Draw := ⟨[0, 1, 3, 7, 0, 16, 63, 127], [], []⟩
@[go_sem] def dr17 : Nat → Draw
  | 3 => ⟨[0, 1, 0, 0, 8, 24, 60, 3, 255], [(0, []), (1, []), (2, []), (3, []), (4, []), (5, []), (6, []), (7, []), (8, [])], []⟩
  | 4 => ⟨[0, 1, 3, 7, 0, 16, 48, 112, 240, 511, 0, 1024, 3072, 7168, 15360, 32767, 0, 65536, 196608, 458752, 983040, 2097151, 4194303], [(0, []), (1, []), (2, []), (3, []), (4, []), (5, []), (6, []), (7, []), (8, []), (9, []), (10, []), (11, []), (12, []), (13, []), (14, []), (15, []), (16, []), (17, []), (18, []), (19, []), (20, []), (21, []), (22, [])], []⟩
  | 8 => ⟨[0, 1, 3, 7, 0, 16, 63, 127], [(0, []), (1, []), (2, []), (3, []), (4, []), (5, []), (6, []), (7, [])], []⟩
  | 11 => ⟨[0, 0, 2, 6, 0, 16, 48, 112, 240, 0, 512, 1536, 3584, 7680, 0, 16384, 49152, 114688, 245760, 0, 524288, 1572864, 3670016, 7864320, 16777214, 33554431, 67108863, 134217727], [(0, []), (1, []), (2, []), (3, []), (4, []), (5, []), (6, []), (7, []), (8, []), (9, []), (10, []), (11, []), (12, []), (13, []), (14, []), (15, []), (16, []), (17, []), (18, []), (19, []), (20, []), (21, []), (22, []), (23, []), (24, []), (25, []), (26, []), (27, [])], []⟩
  | _ => {}
-- (*joystick/vdp.Vdp).Wait
@[go_sem] def dr19 : Nat → Draw
  | 2 => ⟨[0, 1, 3, 7, 0, 0, 32, 96, 224, 480, 1023, 2047], [(0, []), (1, []), (2, []), (3, []), (4, []), (5, []), (6, []), (7, []), (8, []), (9, [3]), (10, []), (11, [])], []⟩
  | _ => {}
-- (*joystick/vdp.Vdp).Asks
@[go_sem] def dr20 : Nat → Draw
  | 1 => ⟨[0, 1, 3, 7, 0, 16, 48, 112, 240, 0, 512, 1536, 3584, 8176, 16383, 32767], [(0, []), (1, []), (2, []), (3, []), (4, []), (5, []), (6, []), (7, []), (9, []), (10, []), (11, []), (12, []), (8, [3, 12]), (13, [3]), (14, []), (15, [])], []⟩
  | _ => {}
-- (*joystick/vdp.Vdp).Counters
@[go_sem] def dr21 : Nat → Draw
  | 1 => ⟨[0, 1, 3, 7, 15, 31, 0, 64, 192, 448, 1023, 2047, 4095, 8191], [(0, []), (1, []), (2, []), (3, []), (6, []), (7, []), (8, []), (9, []), (4, [9]), (5, [9]), (10, []), (11, []), (12, []), (13, [])], []⟩
  | _ => {}
-- (*joystick/vdp.Vdp).begin
@[go_sem] def dr24 : Nat → Draw
  | 1 => ⟨[0, 1, 3, 7, 15, 0, 32, 96, 224, 511, 0, 1024, 3072, 7168, 16383, 0, 65535, 0, 262143], [(0, []), (1, []), (2, []), (3, []), (5, []), (6, []), (7, []), (8, []), (10, []), (11, []), (12, []), (13, []), (15, []), (4, [8, 13]), (9, [13]), (14, []), (16, []), (17, [3, 8, 13]), (18, [])], [(17, 4)]⟩
  | 2 => ⟨[0, 1, 3, 0, 8, 31, 0, 64, 255], [(0, []), (1, []), (2, []), (3, []), (4, []), (5, []), (6, []), (7, []), (8, [])], []⟩
  | 3 => ⟨[0, 0, 2, 6, 14, 0, 32, 0, 128, 510, 1023, 2047, 4095], [(0, []), (1, []), (2, []), (3, []), (4, []), (5, []), (6, []), (7, []), (8, []), (9, []), (10, []), (11, []), (12, [])], []⟩
  | 4 => ⟨[0, 0, 2, 6, 14, 0, 0, 64, 192, 448, 960, 2046, 4095, 8191, 16383], [(0, []), (1, []), (2, []), (3, []), (4, []), (5, []), (6, []), (7, []), (8, []), (9, []), (10, [4]), (11, []), (12, []), (13, []), (14, [])], []⟩
  | _ => {}
-- (*joystick/port.Port).Control
@[go_sem] def dr25 : Nat → Draw
  | 12 => ⟨[0, 0, 0, 4, 12, 28, 60, 1, 129, 511, 1023], [(0, []), (1, []), (2, []), (3, []), (4, []), (5, []), (6, []), (7, []), (8, []), (9, []), (10, [])], []⟩
  | _ => {}
-- (*joystick/port.Port).Write
@[go_sem] def dr26 : Nat → Draw
  | 2 => ⟨[0, 0, 2, 6, 14, 30, 62, 0, 128, 1, 513, 2047, 4095], [(0, []), (1, []), (2, []), (3, []), (4, []), (5, []), (6, []), (7, []), (8, []), (9, []), (10, []), (11, []), (12, [])], []⟩
  | 3 => ⟨[0, 0, 2, 6, 14, 30, 0, 1, 129, 511, 1023], [(0, []), (1, []), (2, []), (3, []), (4, []), (5, []), (6, []), (7, []), (8, []), (9, []), (10, [])], []⟩
  | _ => {}
-- (*joystick/port.Port).Dump
@[go_sem] def tr31_4 : DT := .op 0 (.op 1 (.op 2 (.op 3 (.op 4 (.op 5 (.op 6 (.op 7 (.op 8 (.op 9 (.op 10 (.op 11 (.op 14 (.op 15 (.op 16 (.op 17 (.op 18 (.op 19 (.op 20 (.op 21 (.op 22 (.op 23 (.op 24 (.op 25 (.op 26 (.op 27 (.op 28 (.op 29 (.op 30 (.op 31 (.op 32 (.op 33 (.op 34 (.op 35 (.op 36 (.op 37 (.op 38 (.op 39 (.op 40 (.op 41 (.op 42 (.fork 12 [42, 36, 31, 24, 18] (.fork 13 [42, 36, 31, 24, 18] (.fork 43 [] (.fork 44 [] (.op 45 (.done)) (.stop)) (.stop)) (.fork 43 [] (.fork 13 [42, 36, 31, 24, 18] (.fork 44 [] (.op 45 (.done)) (.stop)) (.stop)) (.stop))) (.fork 43 [] (.fork 12 [42, 36, 31, 24, 18] (.fork 13 [42, 36, 31, 24, 18] (.fork 44 [] (.op 45 (.done)) (.stop)) (.stop)) (.stop)) (.stop)))))))))))))))))))))))))))))))))))))))))))
def td31_4 : Draw := ⟨[0, 1, 3, 7, 0, 16, 48, 112, 0, 256, 768, 1792, 4095, 8191, 0, 16384, 49152, 114688, 245760, 507904, 0, 1048576, 3145728, 7340032, 15728640, 32505856, 66060288, 0, 134217728, 402653184, 939524096, 2013265920, 0, 4294967296, 12884901888, 30064771072, 64424509440, 0, 0, 274877906944, 824633720832, 1924145348608, 4123168604160, 8796093005824, 17592186044415, 35184372088831], [], []⟩
@[go_sem] def dr31 : Nat → Draw
  | 4 => ⟨[0, 1, 3, 7, 0, 16, 48, 112, 0, 256, 768, 1792, 4095, 8191, 0, 16384, 49152, 114688, 245760, 507904, 0, 1048576, 3145728, 7340032, 15728640, 32505856, 66060288, 0, 134217728, 402653184, 939524096, 2013265920, 0, 4294967296, 12884901888, 30064771072, 64424509440, 0, 0, 274877906944, 824633720832, 1924145348608, 4123168604160, 8796093005824, 17592186044415, 35184372088831], [(0, []), (1, []), (2, []), (3, []), (4, []), (5, []), (6, []), (7, []), (8, []), (9, []), (10, []), (11, []), (14, []), (15, []), (16, []), (17, []), (18, []), (19, []), (20, []), (21, []), (22, []), (23, []), (24, []), (25, []), (26, []), (27, []), (28, []), (29, []), (30, []), (31, []), (32, []), (33, []), (34, []), (35, []), (36, []), (37, []), (38, []), (39, []), (40, []), (41, []), (42, []), (12, [18, 24, 31, 36, 42]), (13, [18, 24, 31, 36, 42]), (43, []), (44, []), (45, [])], []⟩
  | _ => {}
-- (*joystick/port.Port).Load
@[go_sem] def tr35_10 : DT := .op 0 (.op 1 (.op 2 (.op 3 (.op 4 (.fork 5 [] (.fork 6 [] (.done) (.stop)) (.stop))))))
def td35_10 : Draw := ⟨[0, 1, 3, 7, 0, 16, 63], [], []⟩
@[go_sem] def dr35 : Nat → Draw
  | 10 => ⟨[0, 1, 3, 7, 0, 16, 63], [(0, []), (1, []), (2, []), (3, []), (4, []), (5, []), (6, [])], []⟩
  | 11 => ⟨[0, 0, 2, 6, 14, 0, 32, 96, 224, 480, 1022, 0, 2048, 6144, 0, 16384, 49152, 0, 131072, 393216, 917504, 0, 2097152, 6291456, 16777214, 33554431, 67108863, 134217727], [(0, []), (1, []), (2, []), (3, []), (4, []), (5, []), (6, []), (7, []), (8, []), (9, []), (10, []), (11, []), (12, []), (13, []), (14, []), (15, []), (16, []), (17, []), (18, []), (19, []), (20, []), (21, []), (22, []), (23, []), (24, []), (25, []), (26, []), (27, [])], []⟩
  | _ => {}
-- joystick/event.Status
@[go_sem] def dr43 : Nat → Draw
  | 1 => ⟨[0, 1, 3, 7, 0, 16, 55, 127, 0, 256, 887, 2047, 4095], [(0, []), (1, []), (4, []), (5, []), (8, []), (9, []), (2, [5, 9]), (3, []), (6, [9]), (7, []), (10, []), (11, []), (12, [])], []⟩
  | 2 => ⟨[0, 0, 2, 6, 1, 31], [(0, []), (1, []), (2, []), (3, []), (4, []), (5, [])], []⟩
  | _ => {}
-- joystick/line.Draw
@[go_sem] def dr44 : Nat → Draw
  | 12 => ⟨[0, 0, 0, 7, 0, 0, 0, 127, 0, 0, 1023, 2047], [(0, []), (1, []), (2, []), (4, []), (5, []), (6, []), (3, [5]), (7, []), (8, [1, 5]), (9, [1, 5]), (10, []), (11, [])], [(8, 12), (9, 13)]⟩
  | 13 => ⟨[0, 1, 0, 4, 3, 19, 63, 127], [(0, []), (1, []), (2, []), (3, []), (4, []), (5, [3]), (6, []), (7, [])], []⟩
  | _ => {}
-- (*joystick/port.Port).fill
@[go_sem] def dr50 : Nat → Draw
  | 0 => ⟨[0, 0, 0, 4, 12, 28, 60, 2, 130, 510, 1022, 2047, 4095, 8191, 16383], [(0, []), (1, []), (2, []), (3, []), (4, []), (5, []), (6, []), (7, []), (8, []), (9, []), (10, []), (11, []), (12, []), (13, []), (14, [])], []⟩
  | _ => {}
-- joystick/back.Source
@[go_sem] def dr61 : Nat → Draw
  | 4 => ⟨[0, 0, 2, 6, 15, 31, 0, 0, 128, 384, 960, 1984, 63, 8191], [(0, []), (1, []), (2, []), (3, []), (4, []), (5, []), (6, []), (7, []), (8, []), (9, []), (10, []), (11, []), (12, []), (13, [])], []⟩
  | _ => {}
-- joystick/tile.Row
@[go_sem] def dr63 : Nat → Draw
  | 13 => ⟨[0, 1, 3, 0, 0, 24, 56, 0, 248, 511, 1023, 2047], [(0, []), (1, []), (2, []), (3, []), (4, []), (5, []), (6, []), (7, []), (8, []), (9, []), (10, []), (11, [])], []⟩
  | _ => {}
def dr0 : Nat → Draw := fun _ => {}
end Go.Proofs.Joy
namespace Go.Proofs.Joy
open Go.Ab

/-- A byte of memory. -/
def atS (v : List (BitVec 8)) (a : Int) : BitVec 8 := v.getD (a % 16384).toNat 0#8
def heightS (regs : List (BitVec 8)) : Int := (if regs.getD 1 0#8 &&& 2#8 = 0#8 then 8 else 16) * (if regs.getD 1 0#8 &&& 1#8 = 0#8 then 1 else 2)
def baseS (regs : List (BitVec 8)) : Int := ((regs.getD 5 0#8 &&& 126#8).toNat * 128 : Nat)
def topS (y : BitVec 8) : Int := if y.toNat < 240 then (y.toNat : Int) + 1 else (y.toNat : Int) - 255
def yS (v regs : List (BitVec 8)) (i : Nat) : BitVec 8 := atS v (baseS regs + i)
def onS' (v regs : List (BitVec 8)) (line : Int) (i : Nat) : Bool := decide (topS (yS v regs i) ≤ line) && decide (line < topS (yS v regs i) + heightS regs)
/-- Those on a line among the first i, if the list goes that far. -/
def hitsTo (v regs : List (BitVec 8)) (line : Int) (i : Nat) : List Nat := (List.range i).filter (onS' v regs line)
/-- Where the list ends. -/
def endS (v regs : List (BitVec 8)) : Nat := ((List.range 64).findIdx? (fun i => yS v regs i == 208#8)).getD 64
def hitsS (v regs : List (BitVec 8)) (line : Int) : List Nat := if line < 0 ∨ 191 < line then [] else hitsTo v regs line (endS v regs)

theorem hitsTo_succ (v regs : List (BitVec 8)) (line : Int) (i : Nat) : hitsTo v regs line (i + 1) = hitsTo v regs line i ++ if onS' v regs line i then [i] else [] := by
  unfold hitsTo
  rw [List.range_succ, List.filter_append]
  congr 1
  by_cases h : onS' v regs line i = true
  · simp [h]
  · simp [h]
theorem hitsTo_len (v regs : List (BitVec 8)) (line : Int) (i : Nat) : (hitsTo v regs line i).length ≤ i := by
  unfold hitsTo
  exact Nat.le_trans (List.length_filter_le _ _) (by rw [List.length_range]; exact Nat.le_refl _)
theorem endS_at {v regs : List (BitVec 8)} {i : Nat} (hi : i < 64) (hy : yS v regs i = 208#8) (hb : ∀ j, j < i → yS v regs j ≠ 208#8) : endS v regs = i := by
  unfold endS
  have : (List.range 64).findIdx? (fun i => yS v regs i == 208#8) = some i := by
    rw [List.findIdx?_eq_some_iff_getElem]
    refine ⟨by simp [hi], by simp [hy], fun j hj => ?_⟩
    simp only [List.getElem_range, beq_iff_eq]
    exact hb j hj
  rw [this]; rfl
theorem endS_none {v regs : List (BitVec 8)} (hb : ∀ j, j < 64 → yS v regs j ≠ 208#8) : endS v regs = 64 := by
  unfold endS
  have : (List.range 64).findIdx? (fun i => yS v regs i == 208#8) = none := by
    rw [List.findIdx?_eq_none_iff]
    intro x hx
    simp only [beq_eq_false_iff_ne, ne_eq]
    exact hb x (List.mem_range.1 hx)
  rw [this]; rfl
theorem endS_ge {v regs : List (BitVec 8)} {i : Nat} (hi : i ≤ 64) (hb : ∀ j, j < i → yS v regs j ≠ 208#8) : i ≤ endS v regs := by
  unfold endS
  cases hf : (List.range 64).findIdx? (fun i => yS v regs i == 208#8) with
  | none => exact hi
  | some k =>
    rw [List.findIdx?_eq_some_iff_getElem] at hf
    obtain ⟨hk, h1, -⟩ := hf
    simp only [List.getElem_range, beq_iff_eq] at h1
    simp only [Option.getD_some]
    rcases Nat.lt_or_ge k i with c | c
    · exact absurd h1 (hb k c)
    · exact c
theorem hitsTo_pre (v regs : List (BitVec 8)) (line : Int) {i e : Nat} (h : i ≤ e) : ∃ r, hitsTo v regs line e = hitsTo v regs line i ++ r := by
  induction e with
  | zero => exact ⟨[], by rw [show i = 0 by omega]; simp⟩
  | succ e ih =>
    rcases Nat.lt_or_ge e i with c | c
    · exact ⟨[], by rw [show i = e + 1 by omega]; simp⟩
    · obtain ⟨r, hr⟩ := ih c
      exact ⟨_, by rw [hitsTo_succ, hr, List.append_assoc]⟩
theorem heightS_le (regs : List (BitVec 8)) : 8 ≤ heightS regs ∧ heightS regs ≤ 32 := by
  unfold heightS; split <;> split <;> omega
theorem topS_le (y : BitVec 8) : -15 ≤ topS y ∧ topS y ≤ 240 := by
  have := y.isLt
  unfold topS; split <;> omega
theorem baseS_le (regs : List (BitVec 8)) : 0 ≤ baseS regs ∧ baseS regs ≤ 16128 := by
  unfold baseS
  have : (regs.getD 5 0#8 &&& 126#8).toNat ≤ 126 := by rw [BitVec.toNat_and]; exact Nat.and_le_right
  omega
end Go.Proofs.Joy
namespace Go.Proofs.Joy
open Go.Ab Go.Proofs

set_option maxHeartbeats 1000000
set_option maxRecDepth 20000

theorem tile_at (v : AV) (bs : List (BitVec 8)) (a : Int) (H : Heap) (n : Nat) (K : AV → Heap → Nat → Prop) (hv : bytesIn H v bs) (hvok : v.ok n = true) (h : K (.u8 (atS bs a)) H n) : ACalls Try.prog 65 [v, .i64 a] H n K := by
  refine ACalls.of_ev dr0 Try.func65 rfl (by decide +kernel) (by decide +kernel) (show 2 ≤ 15 by decide) (by simp [hv.ne]) fun wf => ?_
  have hlb : ∀ K, lenB (some .slice) v K = K (.i64 bs.length) := lenB_bytes hv
  have e : and64 a 16383 = a % 16384 := and64_mask 14 (by decide) a
  have h0 := Int.emod_nonneg a (show (16384 : Int) ≠ 0 by decide)
  simp only [go_sem, Try.f65, hlb, e]
  refine ⟨fun hlt => ?_, fun hlt => ?_⟩
  · obtain ⟨k, hk⟩ := Int.eq_ofNat_of_zero_le h0
    rw [hk] at hlt
    have hk' : k < bs.length := by omega
    rcases hv with ⟨rfl, rfl⟩ | ⟨su, b, o, c, blk, rfl, g0, g1, g2, g3⟩
    · simp at hk'
    obtain ⟨q1, q2⟩ := cells_at g2 g3 hk'
    simp only [go_sem, hk, g1, q1, q2, hlt, hk']
    unfold atS at h
    rw [hk, Int.toNat_natCast] at h
    exact Fin.back wf h (fun _ _ => rfl) rfl
  · unfold atS at h
    rw [List.getD_eq_getElem?_getD, List.getElem?_eq_none (by omega)] at h
    exact Fin.back wf h (fun _ _ => rfl) rfl
end Go.Proofs.Joy
namespace Go.Proofs.Joy
open Go.Ab

def bitS (b : BitVec 8) (k p : Nat) : BitVec 8 := ((b >>> k) &&& 1#8) <<< p
/-- A dot of the row that begins at a place, of the first p planes. -/
def dotS (v : List (BitVec 8)) (first : Int) (t : Bool) : Nat → Nat → BitVec 8
  | 0, _ => 0#8
  | p + 1, i => dotS v first t p i ||| bitS (atS v (first + p)) (if t = true then i else 7 - i) p
def mixS (v : List (BitVec 8)) (first : Int) (t : Bool) (p i : Nat) : List (BitVec 8) := (List.range 8).map fun j => dotS v first t (if j < i then p + 1 else p) j
def rowS (v : List (BitVec 8)) (first : Int) (t : Bool) : List (BitVec 8) := (List.range 8).map fun j => dotS v first t 4 j
def firstS (tile row : Int) : Int := tile % 512 * 32 + row % 8 * 4

theorem mixS_len (v : List (BitVec 8)) (first : Int) (t : Bool) (p i : Nat) : (mixS v first t p i).length = 8 := by simp [mixS]
theorem mixS_get (v : List (BitVec 8)) (first : Int) (t : Bool) (p i j : Nat) (h : j < 8) : (mixS v first t p i)[j]? = some (dotS v first t (if j < i then p + 1 else p) j) := by
  simp [mixS, h]
theorem mixS_set (v : List (BitVec 8)) (first : Int) (t : Bool) (p i : Nat) (h : i < 8) : (mixS v first t p i).set i (dotS v first t (p + 1) i) = mixS v first t p (i + 1) := by
  apply List.ext_getElem?
  intro j
  rcases Nat.lt_or_ge j 8 with c | c
  · rw [List.getElem?_set, mixS_get _ _ _ _ _ _ c, mixS_get _ _ _ _ _ _ c, mixS_len]
    by_cases e : i = j
    · subst e; simp [h]
    · rw [if_neg e]
      rcases Nat.lt_or_ge j i with d | d
      · simp [d, Nat.lt_succ_of_lt d]
      · rw [if_neg (by omega), if_neg (by omega)]
  · rw [List.getElem?_eq_none (by simp [mixS_len, c]), List.getElem?_eq_none (by simp [mixS_len, c])]
theorem mixS_8 (v : List (BitVec 8)) (first : Int) (t : Bool) (p : Nat) : mixS v first t p 8 = mixS v first t (p + 1) 0 := by
  unfold mixS
  apply List.map_congr_left
  intro j hj
  rw [List.mem_range] at hj
  simp [hj]
theorem mixS_4 (v : List (BitVec 8)) (first : Int) (t : Bool) : mixS v first t 4 0 = rowS v first t := by
  unfold mixS rowS
  simp
theorem mixS_0 (v : List (BitVec 8)) (first : Int) (t : Bool) : mixS v first t 0 0 = List.replicate 8 0#8 := by
  unfold mixS; simp [dotS]; rfl
theorem firstS_le (tile row : Int) : 0 ≤ firstS tile row ∧ firstS tile row ≤ 16380 := by unfold firstS; omega
end Go.Proofs.Joy
namespace Go.Proofs.Joy
open Go.Ab Go.Proofs

set_option maxHeartbeats 1000000
set_option maxRecDepth 20000

structure TR where
  i : Nat

def E0 (v : AV) (turned : Bool) (first : Int) (n p : Nat) (b : BitVec 8) (i : Nat) : Env := [(0, v), (3, .bo turned), (8, .pt n 0), (9, .pt (n + 1) 0), (10, .i64 first), (11, .i64 p), (12, .u8 b), (22, .i64 p), (30, .i64 i)]

theorem tile_row (v : AV) (bs : List (BitVec 8)) (tile row : Int) (turned : Bool) (H : Heap) (n : Nat) (K : AV → Heap → Nat → Prop) (hv : bytesIn H v bs) (h : K (.ag ((rowS bs (firstS tile row) turned).map .u8)) H n) : ACalls Try.prog 63 [v, .i64 tile, .i64 row, .bo turned] H n K := by
  refine ACalls.of_awp Try.func63 rfl (by decide +kernel) (show 4 ≤ 51 by decide) (by simp [hv.ne]) fun wf => ?_
  have hvok : v.ok n = true := by
    rcases hv with ⟨rfl, rfl⟩ | ⟨su, b, o, c, blk, rfl, h0, h1, h2, h3⟩
    · rfl
    · exact vw_ok (wf b _ h1).1
  have e1 : and64 tile 511 = tile % 512 := and64_mask 9 (by decide) tile
  have e2 : and64 row 7 = row % 8 := and64_mask 3 (by decide) row
  have hf := firstS_le tile row
  have e3 : wrap64 (wrap64 (tile % 512 * 32) + wrap64 (row % 8 * 4)) = firstS tile row := by
    unfold firstS at hf ⊢
    rw [wrap_id (tile % 512 * 32) (by omega) (by omega), wrap_id (row % 8 * 4) (by omega) (by omega), wrap_id _ (by omega) (by omega)]
  have ok0 : ∀ k, ∀ x ∈ ((List.replicate 8 0#8).map AV.u8), x.ok k = true := fun k => map_u8_ok
  let X : Option Blk := some ⟨(List.replicate 8 0#8).map .u8, 90, false⟩
  let G : Nat → Nat → Heap := fun p i => (H.upd n X).upd (n + 1) (some ⟨(mixS bs (firstS tile row) turned p i).map .u8, 90, false⟩)
  have wfG : ∀ p i, (G p i).wf (n + 2) := fun p i => Heap.wf_upd (Heap.wf_upd wf (ok0 _)) map_u8_ok
  have hvG : ∀ p i, bytesIn (G p i) v bs := fun p i => hv.mono hvok (fun k hk => by show ((H.upd n X).upd (n + 1) _) k = _; rw [Heap.upd_ne _ _ (by omega), Heap.upd_ne _ _ (by omega)])
  have hvok1 : v.ok (n + 2) = true := AV.ok_mono (by omega) _ hvok
  have gG : ∀ p i, G p i (n + 1) = some ⟨(mixS bs (firstS tile row) turned p i).map .u8, 90, false⟩ := fun p i => Heap.upd_same _ _ _
  refine awp_step dr63 (by decide +kernel) ?_
  simp only [go_sem, Try.f63]
  refine awp_step dr63 (by decide +kernel) ?_
  simp only [go_sem]
  refine awp_step dr63 (by decide +kernel) ?_
  simp only [go_sem, e1, e2, e3]
  refine awp_seqF (S := Unit) (fun _ => [(8, .pt n 0), (9, .pt (n + 1) 0)]) (fun _ => G 4 0) (fun _ => n + 2) (fun _ => True) (fun _ _ => ⟨wfG _ _, Env.okAt_of2 (by simp [AV.ok])⟩) ?_ ?_
  · refine awp_step dr63 (by decide +kernel) ?_
    simp only [go_sem]
    refine awp_block ?_
    refine awp_loopF (S := TR) (fun t => [(0, v), (3, .bo turned), (8, .pt n 0), (9, .pt (n + 1) 0), (10, .i64 (firstS tile row)), (22, .i64 t.i)]) (fun t => G t.i 0) (fun _ => n + 2) (fun t => t.i ≤ 4) (fun t => 4 - t.i)
      (fun t _ => ⟨wfG _ _, Env.okAt_of2 (by simp [AV.ok, hvok1])⟩) ?_ ⟨0⟩ (Nat.zero_le _)
      (Env.le_cons rfl (Env.le_cons rfl (Env.le_cons rfl (Env.le_cons rfl (Env.le_cons rfl (Env.le_cons rfl (Env.le_nil _))))))) (fun k _ => by show _ = ((H.upd n X).upd (n + 1) _) k; rw [mixS_0]; rfl) rfl
    rintro ⟨p⟩ hp
    simp only at hp ⊢
    refine awp_step dr63 (by decide +kernel) ?_
    simp only [go_sem]
    refine awp_step dr63 (by decide +kernel) ?_
    simp only [go_sem]
    refine ⟨fun hlt => ?_, fun hlt => ?_⟩
    · have hlt' : p < 4 := by omega
      have w1 : wrap64 ((p : Int) + 1) = ((p + 1 : Nat) : Int) := by rw [wrap_id _ (by omega) (by omega)]; omega
      have w2 : wrap64 (firstS tile row + (p : Int)) = firstS tile row + p := wrap_id _ (by omega) (by omega)
      refine awp_seq (awp_block ?_)
      refine awp_step dr63 (by decide +kernel) ?_
      simp only [go_sem]
      refine awp_step dr63 (by decide +kernel) ?_
      simp only [go_sem, w2]
      refine tile_at v bs _ _ _ _ (hvG _ _) hvok1 ?_
      simp only [go_sem]
      refine awp_step dr63 (by decide +kernel) ?_
      simp only [go_sem]
      refine awp_block ?_
      refine awp_loopF (S := TR) (fun t => [(0, v), (3, .bo turned), (8, .pt n 0), (9, .pt (n + 1) 0), (10, .i64 (firstS tile row)), (11, .i64 p), (12, .u8 (atS bs (firstS tile row + p))), (22, .i64 p), (30, .i64 t.i)]) (fun t => G p t.i) (fun _ => n + 2) (fun t => t.i ≤ 8) (fun t => 8 - t.i)
        (fun t _ => ⟨wfG _ _, Env.okAt_of2 (by simp [AV.ok, hvok1])⟩) ?_ ⟨0⟩ (Nat.zero_le _)
        (Env.le_cons rfl (Env.le_cons rfl (Env.le_cons rfl (Env.le_cons rfl (Env.le_cons rfl (Env.le_cons rfl (Env.le_cons rfl (Env.le_cons rfl (Env.le_cons rfl (Env.le_nil _)))))))))) (fun k _ => rfl) rfl
      rintro ⟨i⟩ hi
      simp only at hi ⊢
      refine awp_step dr63 (by decide +kernel) ?_
      simp only [go_sem]
      refine awp_step dr63 (by decide +kernel) ?_
      simp only [go_sem]
      refine ⟨fun hlt2 => ?_, fun hlt2 => ?_⟩
      · have hi' : i < 8 := by omega
        have w3 : wrap64 ((i : Int) + 1) = ((i + 1 : Nat) : Int) := by rw [wrap_id _ (by omega) (by omega)]; omega
        have w4 : wrap64 (7 - (i : Int)) = ((7 - i : Nat) : Int) := by rw [wrap_id _ (by omega) (by omega)]; omega
        refine awp_ev dr63 (by decide +kernel) ?_
        have gd : ((mixS bs (firstS tile row) turned p i).map AV.u8).getD i .junk = .u8 (dotS bs (firstS tile row) turned p i) := by
          rw [List.getD_eq_getElem?_getD, List.getElem?_map, mixS_get _ _ _ _ _ _ hi', if_neg (Nat.lt_irrefl i)]; rfl
        have hiI : (i : Int) < 8 := by omega
        have gs : ∀ x, x = dotS bs (firstS tile row) turned (p + 1) i → ∀ k, (G p i).upd (n + 1) (some ⟨((mixS bs (firstS tile row) turned p i).map AV.u8).set i (.u8 x), 90, false⟩) k = G p (i + 1) k := fun x hx k => by
          subst hx
          rw [← List.map_set, mixS_set _ _ _ _ _ hi']
          by_cases hk : k = n + 1
          · subst hk; rw [Heap.upd_same, gG]
          · rw [Heap.upd_ne _ _ hk]; show ((H.upd n X).upd (n + 1) _) k = ((H.upd n X).upd (n + 1) _) k; rw [Heap.upd_ne _ _ hk, Heap.upd_ne _ _ hk]
        simp only [go_sem, w4, w3, gG, mixS_len, hi', hiI, List.length_map, gd]
        have tail : ∀ (e : Env) (x : BitVec 8), x = dotS bs (firstS tile row) turned (p + 1) i → (E0 v turned (firstS tile row) n p (atS bs (firstS tile row + p)) (i + 1)).le e → Go.Ab.Ends (fun t : TR => E0 v turned (firstS tile row) n p (atS bs (firstS tile row + p)) t.i) (fun t => G p t.i) (fun _ => n + 2) (fun s' => 8 - s'.i < 8 - i ∧ s'.i ≤ 8) (n + 2) e
            ((G p i).upd (n + 1) (some ⟨((mixS bs (firstS tile row) turned p i).map AV.u8).set i (.u8 x), 90, false⟩)) (n + 2) := fun e x hx he =>
          Go.Ab.Ends.mk (⟨i + 1⟩ : TR) ⟨by simp only; omega, by simp only; omega⟩ he (fun k _ => gs x hx k) (by omega) (Nat.le_refl _)
        refine ⟨fun ht => ⟨by omega, ?_⟩, fun ht => ⟨by omega, ?_⟩⟩
        · exact tail _ _ (by simp only [dotS, bitS, ht]; rfl) (Env.le_cons rfl (Env.le_cons rfl (Env.le_cons rfl (Env.le_cons rfl (Env.le_cons rfl (Env.le_cons rfl (Env.le_cons rfl (Env.le_cons rfl (Env.le_cons rfl (Env.le_nil _))))))))))
        · exact tail _ _ (by simp only [dotS, bitS, ht]; rfl) (Env.le_cons rfl (Env.le_cons rfl (Env.le_cons rfl (Env.le_cons rfl (Env.le_cons rfl (Env.le_cons rfl (Env.le_cons rfl (Env.le_cons rfl (Env.le_cons rfl (Env.le_nil _))))))))))
      · have hie : i = 8 := by omega
        subst hie
        refine awp_ev dr63 (by decide +kernel) ?_
        simp only [go_sem, w1]
        exact Go.Ab.Ends.mk ⟨p + 1⟩ ⟨by simp only; omega, by simp only; omega⟩ (Env.le_cons rfl (Env.le_cons rfl (Env.le_cons rfl (Env.le_cons rfl (Env.le_cons rfl (Env.le_cons rfl (Env.le_nil _))))))) (fun k _ => by
          show ((H.upd n X).upd (n + 1) _) k = ((H.upd n X).upd (n + 1) _) k; rw [mixS_8]) (by omega) (Nat.le_refl _)
    · have hpe : p = 4 := by omega
      subst hpe
      exact Go.Ab.Ends.mk () trivial (Env.le_cons rfl (Env.le_cons rfl (Env.le_nil _))) (fun _ _ => rfl) (by omega) (Nat.le_refl _)
  rintro - -
  refine awp_step dr63 (by decide +kernel) ?_
  have g0 : G 4 0 n = some ⟨(List.replicate 8 0#8).map .u8, 90, false⟩ := by show ((H.upd n X).upd (n + 1) _) n = _; rw [Heap.upd_ne _ _ (by omega), Heap.upd_same]
  simp only [go_sem, gG, g0, mixS_len, List.length_map]
  refine ⟨by decide, ?_⟩
  refine awp_ev dr63 (by decide +kernel) ?_
  have es : splice ((List.replicate 8 0#8).map AV.u8) 0 ((mixS bs (firstS tile row) turned 4 0).map AV.u8) = (rowS bs (firstS tile row) turned).map AV.u8 := by
    rw [mixS_4]; simp [splice, rowS]
  simp only [go_sem, es]
  refine ⟨by simp [rowS], ?_⟩
  rw [List.take_of_length_le (by simp [rowS])]
  exact Fin.back wf h (fun k hk => by rw [Heap.upd_ne _ _ (by omega)]; show ((H.upd n X).upd (n + 1) _) k = _; rw [Heap.upd_ne _ _ (by omega), Heap.upd_ne _ _ (by omega)]) rfl
end Go.Proofs.Joy
namespace Go.Proofs.Joy
open Go.Ab Go.Proofs

set_option maxHeartbeats 1000000
set_option maxRecDepth 20000

theorem regs11 {regs : List (BitVec 8)} (h : regs.length = 11) : ∃ r0 r1 r2 r3 r4 r5 r6 r7 r8 r9 r10, regs = [r0, r1, r2, r3, r4, r5, r6, r7, r8, r9, r10] := by
  match regs, h with
  | [r0, r1, r2, r3, r4, r5, r6, r7, r8, r9, r10], _ => exact ⟨r0, r1, r2, r3, r4, r5, r6, r7, r8, r9, r10, rfl⟩

theorem height_ok (regs : List (BitVec 8)) (hr : regs.length = 11) (H : Heap) (n : Nat) (K : AV → Heap → Nat → Prop) (h : K (.i64 (heightS regs)) H n) : ACalls Try.prog 70 [.ag (regs.map .u8)] H n K := by
  refine ACalls.of_ev dr0 Try.func70 rfl (by decide +kernel) (by decide +kernel) (show 1 ≤ 15 by decide) (by simp) fun wf => ?_
  simp only [go_sem, Try.f70]
  obtain ⟨r0, r1, r2, r3, r4, r5, r6, r7, r8, r9, r10, rfl⟩ := regs11 hr
  simp only [go_sem, List.map_cons, List.map_nil]
  have hh : ∀ (x : Int), heightS [r0, r1, r2, r3, r4, r5, r6, r7, r8, r9, r10] = x → ∀ X, Fin n (.i64 x) (H.upd n X) (n + 1) K := fun x hx X => by
    rw [hx] at h; exact Fin.back wf h (fun i hi => by simp only [go_sem, hi]) rfl
  have e : heightS [r0, r1, r2, r3, r4, r5, r6, r7, r8, r9, r10] = (if r1 &&& 2#8 = 0#8 then 8 else 16) * (if r1 &&& 1#8 = 0#8 then 1 else 2) := rfl
  refine ⟨fun a1 => ⟨fun a2 => ?_, fun a2 => ?_⟩, fun a1 => ⟨fun a2 => ?_, fun a2 => ?_⟩⟩
  all_goals simp only [bne_iff_ne, ne_eq, bne_eq_false_iff_eq] at a1 a2
  · exact hh _ (by rw [e, if_neg a1, if_neg a2]; rfl) _
  · exact hh _ (by rw [e, if_neg a1, if_pos a2]; rfl) _
  · exact hh _ (by rw [e, if_pos a1, if_neg a2]; rfl) _
  · exact hh _ (by rw [e, if_pos a1, if_pos a2]; rfl) _

theorem base_ok (regs : List (BitVec 8)) (hr : regs.length = 11) (H : Heap) (n : Nat) (K : AV → Heap → Nat → Prop) (h : K (.i64 (baseS regs)) H n) : ACalls Try.prog 66 [.ag (regs.map .u8)] H n K := by
  refine ACalls.of_ev dr0 Try.func66 rfl (by decide +kernel) (by decide +kernel) (show 1 ≤ 8 by decide) (by simp) fun wf => ?_
  simp only [go_sem, Try.f66]
  obtain ⟨r0, r1, r2, r3, r4, r5, r6, r7, r8, r9, r10, rfl⟩ := regs11 hr
  simp only [go_sem, List.map_cons, List.map_nil]
  have hb := (baseS_le [r0, r1, r2, r3, r4, r5, r6, r7, r8, r9, r10])
  have e : wrap64 (((r5 &&& 126#8).toNat : Int) * 2 ^ 7) = baseS [r0, r1, r2, r3, r4, r5, r6, r7, r8, r9, r10] := by
    have e2 : baseS [r0, r1, r2, r3, r4, r5, r6, r7, r8, r9, r10] = (((r5 &&& 126#8).toNat * 128 : Nat) : Int) := rfl
    rw [e2] at hb ⊢
    rw [show (2 : Int) ^ 7 = 128 from rfl, wrap_id _ (by omega) (by omega)]; omega
  rw [e]
  exact Fin.back wf h (fun i hi => by simp only [go_sem, hi]) rfl

theorem top_ok (y : BitVec 8) (H : Heap) (n : Nat) (K : AV → Heap → Nat → Prop) (h : K (.i64 (topS y)) H n) : ACalls Try.prog 69 [.u8 y] H n K := by
  refine ACalls.of_ev dr0 Try.func69 rfl (by decide +kernel) (by decide +kernel) (show 1 ≤ 12 by decide) (by simp) fun wf => ?_
  simp only [go_sem, Try.f69]
  have hy := y.isLt
  have w1 : wrap64 ((y.toNat : Int) + 1) = (y.toNat : Int) + 1 := wrap_id _ (by omega) (by omega)
  unfold topS at h
  rw [w1]
  refine ⟨fun a1 => ?_, fun a1 => ?_⟩
  · rw [if_neg (by omega)] at h
    rw [wrap_id _ (by omega) (by omega), show (y.toNat : Int) + 1 - 256 = (y.toNat : Int) - 255 by omega]
    exact Fin.back wf h (fun _ _ => rfl) rfl
  · rw [if_pos (by omega)] at h
    exact Fin.back wf h (fun _ _ => rfl) rfl

structure OnS where
  i : Nat
  q : Nat
  m : Nat
  H : Heap

/-- Numbers in a row of memory. -/
def intsC (l : List Nat) : List AV := l.map fun (j : Nat) => AV.i64 (j : Int)

def intsV (q l : Nat) : AV := if l = 0 then .sn else .su q 0 l 1

structure OnI (bs regs : List (BitVec 8)) (line : Int) (H : Heap) (n : Nat) (t : OnS) : Prop where
  i : t.i ≤ 64
  no : ∀ j, j < t.i → yS bs regs j ≠ 208#8
  len : (hitsTo bs regs line t.i).length ≤ 8
  m : n + 1 ≤ t.m
  wf : t.H.wf t.m
  rg : t.H n = some ⟨regs.map .u8, 66, false⟩
  old : ∀ k, k < n → t.H k = H k
  out : hitsTo bs regs line t.i ≠ [] → n + 1 ≤ t.q ∧ t.q < t.m ∧ t.H t.q = some ⟨intsC (hitsTo bs regs line t.i), 3, false⟩
theorem intsV_ok {q l n : Nat} (h : l ≠ 0 → q < n) : (intsV q l).ok n = true := by
  unfold intsV; split
  · rfl
  · rename_i hz; simp [AV.ok, h hz]
theorem lenB_ints (q l : Nat) (K : AV → Prop) : lenB (some .slice) (intsV q l) K = K (.i64 l) := by
  unfold intsV; split
  · rename_i h; subst h; rfl
  · rfl

theorem on_ok (v : AV) (bs regs : List (BitVec 8)) (hr : regs.length = 11) (line : Int) (hln : -9223372036854775808 ≤ line ∧ line ≤ 9223372036854775807) (H : Heap) (n : Nat) (K : AV → Heap → Nat → Prop) (hv : bytesIn H v bs)
    (h : ∀ (q : Nat) (H' : Heap) (m : Nat), n ≤ m → H'.wf m → (∀ i, i < n → H' i = H i) → ((hitsS bs regs line).take 8 ≠ [] → n ≤ q ∧ H' q = some ⟨intsC ((hitsS bs regs line).take 8), 3, false⟩) →
      K (.tu [intsV q ((hitsS bs regs line).take 8).length, .bo (decide (8 < (hitsS bs regs line).length))]) H' m) : ACalls Try.prog 64 [v, .ag (regs.map .u8), .i64 line] H n K := by
  refine ACalls.of_awp Try.func64 rfl (by decide +kernel) (show 3 ≤ 51 by decide) (by simp [hv.ne]) fun wf => ?_
  have hvok : v.ok n = true := by
    rcases hv with ⟨rfl, rfl⟩ | ⟨su, b, o, c, blk, rfl, h0, h1, h2, h3⟩
    · rfl
    · exact vw_ok (wf b _ h1).1
  refine awp_step dr0 (by decide +kernel) ?_
  simp only [go_sem, Try.f64]
  have hRB : ∀ x ∈ (⟨regs.map .u8, 66, false⟩ : Blk).cells, x.ok (n + 1) = true := map_u8_ok
  refine awp_seqF (S := Unit) (fun _ => [(0, v), (2, .i64 line), (4, .pt n 0)]) (fun _ => H.upd n (some ⟨regs.map .u8, 66, false⟩)) (fun _ => n + 1) (fun _ => 0 ≤ line ∧ line < 192)
    (fun _ _ => ⟨Heap.wf_upd wf hRB, Env.okAt_of2 (by simp [AV.ok, AV.ok_mono (Nat.le_succ n) _ hvok])⟩) ?_ ?_
  · have out : (line < 0 ∨ 191 < line) → Fin n (.tu [.sn, .bo false]) (H.upd n (some ⟨regs.map .u8, 66, false⟩)) (n + 1) K := fun ho => by
      have e : hitsS bs regs line = [] := if_pos ho
      have := h 0 (H.upd n (some ⟨regs.map .u8, 66, false⟩)) (n + 1) (by omega) (Heap.wf_upd wf hRB) (fun i hi => Heap.upd_ne _ _ (by omega))
      rw [e] at this
      exact Fin.keep (this (fun hn => absurd rfl hn))
    refine awp_ev dr0 (by decide +kernel) ?_
    simp only [go_sem]
    exact ⟨fun a1 => ⟨fun a2 => out (by omega), fun a2 => Ends.mk () ⟨by omega, by omega⟩ (Env.le_cons rfl (Env.le_cons rfl (Env.le_cons rfl (Env.le_nil _)))) (fun _ _ => rfl) (Nat.le_refl _) (Nat.le_refl _)⟩, fun a1 => out (by omega)⟩
  rintro - ⟨l1, l2⟩
  refine awp_step dr0 (by decide +kernel) ?_
  simp only [go_sem]
  have hS : hitsS bs regs line = hitsTo bs regs line (endS bs regs) := if_neg (by omega)
  have done : ∀ (i q m : Nat) (H1 : Heap) (more : Bool) (out : List Nat), n + 1 ≤ m → H1.wf m → (∀ k, k < n → H1 k = H k) → out = (hitsS bs regs line).take 8 → more = decide (8 < (hitsS bs regs line).length) → (out ≠ [] → n + 1 ≤ q ∧ H1 q = some ⟨intsC out, 3, false⟩) →
      Fin n (.tu [intsV q out.length, .bo more]) H1 m K := fun i q m H1 more out e1 e2 e3 e4 e5 e6 => by
    subst e4 e5
    exact Fin.keep (h q H1 m (by omega) e2 e3 (fun hn => ⟨by have := (e6 hn).1; omega, (e6 hn).2⟩))
  refine awp_seqF (S := OnS) (fun t => [(8, intsV t.q ((hitsS bs regs line).take 8).length)]) (fun t => t.H) (fun t => t.m)
    (fun t => n + 1 ≤ t.m ∧ t.H.wf t.m ∧ (∀ k, k < n → t.H k = H k) ∧ (hitsS bs regs line).length ≤ 8 ∧ ((hitsS bs regs line).take 8 ≠ [] → n + 1 ≤ t.q ∧ t.q < t.m ∧ t.H t.q = some ⟨intsC ((hitsS bs regs line).take 8), 3, false⟩))
    (fun t ht => ⟨ht.2.1, Env.okAt_of2 (by
      intro p hp
      simp only [List.mem_cons, List.not_mem_nil, or_false] at hp
      subst hp
      simp only [intsV]
      split
      · rfl
      · rename_i hz
        have := (ht.2.2.2.2 (by rintro hh; rw [hh] at hz; exact hz rfl)).2.1
        simp [AV.ok, this])⟩) ?_ ?_
  · refine awp_step dr0 (by decide +kernel) ?_
    simp only [go_sem]
    refine awp_block ?_
    refine awp_loopF (S := OnS) (fun t => [(0, v), (2, .i64 line), (4, .pt n 0), (8, intsV t.q (hitsTo bs regs line t.i).length), (18, .i64 t.i)]) (fun t => t.H) (fun t => t.m) (OnI bs regs line H n) (fun t => 64 - t.i)
      (fun t ht => ⟨ht.wf, Env.okAt_of2 (by
        have e1 := ht.m
        have e2 := intsV_ok (q := t.q) (l := (hitsTo bs regs line t.i).length) (n := t.m) fun hz => (ht.out (by rintro hh; rw [hh] at hz; exact hz rfl)).2.1
        simp [AV.ok, AV.ok_mono (show n ≤ t.m by omega) _ hvok, e2]; omega)⟩) ?_ ⟨0, 0, n + 1, _⟩
      ⟨Nat.zero_le _, fun j hj => absurd hj (Nat.not_lt_zero _), Nat.zero_le _, Nat.le_refl _, Heap.wf_upd wf hRB, Heap.upd_same _ _ _, fun k hk => Heap.upd_ne _ _ (by omega), fun hn => absurd rfl hn⟩
      (Env.le_cons rfl (Env.le_cons rfl (Env.le_cons rfl (Env.le_cons rfl (Env.le_cons rfl (Env.le_nil _)))))) (fun _ _ => rfl) rfl
    rintro ⟨i, q, m, H1⟩ hI
    have hi := hI.i; have hno := hI.no; have hlen := hI.len; have hm := hI.m; have hwf := hI.wf; have hreg := hI.rg; have hold := hI.old; have hout := hI.out
    simp only at hi hno hlen hm hwf hreg hold hout ⊢
    have hv1 : bytesIn H1 v bs := hv.mono hvok hold
    have hvok1 : v.ok m = true := AV.ok_mono (by omega) _ hvok
    have ends : ∀ e : Env, e.get 8 = intsV q (hitsTo bs regs line i).length → endS bs regs = i → Go.Ab.Ends (fun t : OnS => [(8, intsV t.q ((hitsS bs regs line).take 8).length)]) (fun t => t.H) (fun t => t.m)
        (fun t => n + 1 ≤ t.m ∧ t.H.wf t.m ∧ (∀ k, k < n → t.H k = H k) ∧ (hitsS bs regs line).length ≤ 8 ∧ (¬(hitsS bs regs line).take 8 = [] → n + 1 ≤ t.q ∧ t.q < t.m ∧ t.H t.q = some ⟨intsC ((hitsS bs regs line).take 8), 3, false⟩)) (n + 1)
        e H1 m := fun e0 hg he => by
      have e : hitsS bs regs line = hitsTo bs regs line i := by rw [hS, he]
      have e8 : (hitsTo bs regs line i).take 8 = hitsTo bs regs line i := List.take_of_length_le hlen
      exact Go.Ab.Ends.mk ⟨i, q, m, H1⟩ ⟨hm, hwf, hold, by rw [e]; exact hlen, by rw [e, e8]; exact hout⟩ (Env.le_cons (by rw [e, e8]; exact hg) (Env.le_nil _)) (fun _ _ => rfl) hm (Nat.le_refl _)
    have hsucc := hitsTo_succ bs regs line i
    have next : ∀ e : Env, e.get 0 = v → e.get 2 = .i64 line → e.get 4 = .pt n 0 → e.get 8 = intsV q (hitsTo bs regs line i).length → e.get 18 = .i64 (wrap64 ((i : Int) + 1)) → i < 64 → yS bs regs i ≠ 208#8 → onS' bs regs line i = false → Go.Ab.Ends (fun t : OnS =>
        [(0, v), (2, AV.i64 line), (4, AV.pt n 0), (8, intsV t.q (hitsTo bs regs line t.i).length), (18, AV.i64 (t.i : Int))])
        (fun t => t.H) (fun t => t.m) (fun s' => 64 - s'.i < 64 - i ∧ OnI bs regs line H n s') m e H1 m := fun e g0 g2 g4 g8 g18 hlt' hy ho => by
      have w2 : wrap64 ((i : Int) + 1) = ((i + 1 : Nat) : Int) := by rw [wrap_id _ (by omega) (by omega)]; omega
      rw [w2] at g18
      have e1 : hitsTo bs regs line (i + 1) = hitsTo bs regs line i := by rw [hsucc, ho]; simp
      have hno' : ∀ j, j < i + 1 → yS bs regs j ≠ 208#8 := fun j hj => by
        rcases Nat.lt_or_ge j i with c | c
        · exact hno j c
        · rw [show j = i by omega]; exact hy
      exact Go.Ab.Ends.mk ⟨i + 1, q, m, H1⟩ ⟨by simp only; omega, hlt', hno', by simp only; rw [e1]; exact hlen, hm, hwf, hreg, hold, by simp only; rw [e1]; exact hout⟩ (Env.le_cons g0 (Env.le_cons g2 (Env.le_cons g4 (Env.le_cons (by rw [e1]; exact g8) (Env.le_cons g18 (Env.le_nil _)))))) (fun _ _ => rfl) (Nat.le_refl _) (Nat.le_refl _)
    have ok1 : ∀ k, ∀ x ∈ [AV.i64 (i : Int)], x.ok k = true := fun k x hx => by
      simp only [List.mem_cons, List.not_mem_nil, or_false] at hx; subst hx; rfl
    have app : ∀ (e : Env) (q' m' : Nat) (H' : Heap), e.get 0 = v → e.get 2 = .i64 line → e.get 4 = .pt n 0 → e.get 8 = intsV q' (hitsTo bs regs line (i + 1)).length → e.get 18 = .i64 (wrap64 ((i : Int) + 1)) → i < 64 → (∀ j, j < i + 1 → yS bs regs j ≠ 208#8) →
        (hitsTo bs regs line i).length < 8 → m ≤ q' → q' < m' → H'.wf m' → H' n = some ⟨regs.map .u8, 66, false⟩ → (∀ k, k < n → H' k = H k) → (H' q' = some ⟨intsC (hitsTo bs regs line (i + 1)), 3, false⟩) → Go.Ab.Ends (fun t : OnS =>
        [(0, v), (2, AV.i64 line), (4, AV.pt n 0), (8, intsV t.q (hitsTo bs regs line t.i).length), (18, AV.i64 (t.i : Int))])
        (fun t => t.H) (fun t => t.m) (fun s' => 64 - s'.i < 64 - i ∧ OnI bs regs line H n s') m e H' m' := fun e q' m' H' g0 g2 g4 g8 g18 hlt' hno' h8 k1 k2 k3 k4 k5 k6 => by
      have w2 : wrap64 ((i : Int) + 1) = ((i + 1 : Nat) : Int) := by rw [wrap_id _ (by omega) (by omega)]; omega
      rw [w2] at g18
      have hl : (hitsTo bs regs line (i + 1)).length ≤ 8 := by
        rw [hsucc, List.length_append]; split <;> simp <;> omega
      exact Go.Ab.Ends.mk ⟨i + 1, q', m', H'⟩ ⟨by simp only; omega, hlt', hno', hl, by simp only; omega, k3, k4, k5, fun _ => ⟨by simp only; omega, k2, k6⟩⟩ (Env.le_cons g0 (Env.le_cons g2 (Env.le_cons g4 (Env.le_cons g8 (Env.le_cons g18 (Env.le_nil _)))))) (fun _ _ => rfl) (by simp only; omega) (Nat.le_refl _)
    refine awp_step dr0 (by decide +kernel) ?_
    simp only [go_sem]
    refine awp_step dr0 (by decide +kernel) ?_
    simp only [go_sem]
    refine ⟨fun hlt => ?_, fun hlt => ?_⟩
    · have hlt' : i < 64 := by omega
      have w2 : wrap64 ((i : Int) + 1) = ((i + 1 : Nat) : Int) := by rw [wrap_id _ (by omega) (by omega)]; omega
      have hbl := baseS_le regs
      have w3 : wrap64 (baseS regs + (i : Int)) = baseS regs + i := wrap_id _ (by omega) (by omega)
      have hnm : n < m := by omega
      refine awp_ev dr0 (by decide +kernel) ?_
      simp only [go_sem, hreg, hr, List.length_map, take_map_all hr]
      refine base_ok regs hr _ _ _ ?_
      simp only [go_sem, w3]
      refine tile_at v bs _ _ _ _ hv1 hvok1 ?_
      rw [show atS bs (baseS regs + (i : Int)) = yS bs regs i from rfl]
      simp only [go_sem]
      refine ⟨fun hy => ?_, fun hy => ?_⟩
      · simp only [beq_iff_eq] at hy
        exact ends _ rfl (endS_at hlt' hy hno)
      simp only [beq_eq_false_iff_ne, ne_eq] at hy
      have ht := topS_le (yS bs regs i)
      have hh := heightS_le regs
      have w4 : wrap64 (line - topS (yS bs regs i)) = line - topS (yS bs regs i) := wrap_id _ (by omega) (by omega)
      refine top_ok _ _ _ _ ?_
      simp only [go_sem, w4, hreg, hr, List.length_map, take_map_all hr]
      have hno' : ∀ j, j < i + 1 → yS bs regs j ≠ 208#8 := fun j hj => by
        rcases Nat.lt_or_ge j i with c | c
        · exact hno j c
        · rw [show j = i by omega]; exact hy
      refine ⟨fun c1 => ?_, fun c1 => ?_⟩
      · refine height_ok regs hr _ _ _ ?_
        simp only [go_sem]
        refine ⟨fun c2 => ?_, fun c2 => ?_⟩
        · exact next _ rfl rfl rfl rfl rfl hlt' hy (by unfold onS'; rw [Bool.and_eq_false_iff]; right; simp; omega)
        have ho : onS' bs regs line i = true := by unfold onS'; rw [Bool.and_eq_true]; exact ⟨by simp; omega, by simp; omega⟩
        rw [ho, if_pos rfl] at hsucc
        have hge : i + 1 ≤ endS bs regs := endS_ge hlt' hno'
        obtain ⟨rest, hrest⟩ := hitsTo_pre bs regs line hge
        rw [hsucc] at hrest
        rw [lenB_ints]
        simp only [go_sem]
        refine ⟨fun c3 => ?_, fun c3 => ?_⟩
        · have c3' : (hitsTo bs regs line i).length = 8 := by simp at c3; omega
          have e9 : hitsS bs regs line = hitsTo bs regs line i ++ ([i] ++ rest) := by rw [hS, hrest, List.append_assoc]
          have et : (hitsS bs regs line).take 8 = hitsTo bs regs line i := by rw [e9, ← c3', List.take_left']; rfl
          have el : 8 < (hitsS bs regs line).length := by rw [e9]; simp only [List.length_append, List.length_cons, c3']; omega
          exact ⟨by unfold intsV; split <;> simp, done i q m H1 true _ hm hwf hold et.symm (by simp [el]) (fun hn => ⟨(hout hn).1, (hout hn).2.2⟩)⟩
        · have c3' : (hitsTo bs regs line i).length < 8 := by simp at c3; omega
          by_cases hz : (hitsTo bs regs line i).length = 0
          · have hz' : hitsTo bs regs line i = [] := List.eq_nil_of_length_eq_zero hz
            rw [show intsV q (hitsTo bs regs line i).length = .sn by unfold intsV; rw [if_pos hz]]
            simp only [go_sem]
            exact app _ (m + 1) (m + 2) _ rfl rfl rfl (by rw [hsucc, hz']; rfl) rfl hlt' hno' c3' (by omega) (by omega)
              (Heap.wf_upd (Heap.wf_upd hwf (ok1 _)) (ok1 _)) (by rw [Heap.upd_ne _ _ (by omega), Heap.upd_ne _ _ (by omega)]; exact hreg)
              (fun k hk => by rw [Heap.upd_ne _ _ (by omega), Heap.upd_ne _ _ (by omega)]; exact hold k hk) (by rw [Heap.upd_same, hsucc, hz']; rfl)
          · obtain ⟨q1, q2, hq⟩ := hout (by intro hx; rw [hx] at hz; exact hz rfl)
            rw [show intsV q (hitsTo bs regs line i).length = .su q 0 (hitsTo bs regs line i).length 1 by unfold intsV; rw [if_neg hz]]
            have hq' : ∀ X, (H1.upd m X) q = some ⟨intsC (hitsTo bs regs line i), 3, false⟩ := fun X => by rw [Heap.upd_ne _ _ (by omega)]; exact hq
            have hql : (intsC (hitsTo bs regs line i)).length = (hitsTo bs regs line i).length := by simp [intsC]
            simp only [go_sem, hq', hql]
            have ec : (intsC (hitsTo bs regs line i)).take (hitsTo bs regs line i).length ++ [AV.i64 (i : Int)] = intsC (hitsTo bs regs line (i + 1)) := by
              rw [List.take_of_length_le (by rw [hql]; exact Nat.le_refl _), hsucc]; simp [intsC]
            have el1 : (hitsTo bs regs line (i + 1)).length = (hitsTo bs regs line i).length + 1 := by rw [hsucc]; simp
            refine ⟨by omega, ?_⟩
            rw [ec]
            exact app _ (m + 1) (m + 2) _ rfl rfl rfl (by rw [el1]; rfl) rfl hlt' hno' c3' (by omega) (by omega)
              (Heap.wf_upd (Heap.wf_upd_none (Heap.wf_upd hwf (ok1 _))) (by
                intro x hx
                simp only [intsC, List.mem_map] at hx
                obtain ⟨j, -, rfl⟩ := hx
                rfl)) (by rw [Heap.upd_ne _ _ (by omega), Heap.upd_ne _ _ (by omega), Heap.upd_ne _ _ (by omega)]; exact hreg)
              (fun k hk => by rw [Heap.upd_ne _ _ (by omega), Heap.upd_ne _ _ (by omega), Heap.upd_ne _ _ (by omega)]; exact hold k hk) (by rw [Heap.upd_same])
      · exact next _ rfl rfl rfl rfl rfl hlt' hy (by unfold onS'; rw [Bool.and_eq_false_iff]; left; simp; omega)
    · have hie : i = 64 := by omega
      subst hie
      exact ends _ rfl (endS_none hno)
  · rintro ⟨i, q, m, H1⟩ ⟨e1, e2, e3, e4, e5⟩
    simp only at e1 e2 e3 e5 ⊢
    refine awp_ev dr0 (by decide +kernel) ?_
    simp only [go_sem]
    exact ⟨by unfold intsV; split <;> simp, done i q m H1 false _ e1 e2 e3 rfl (by simp; omega) (fun hn => ⟨(e5 hn).1, (e5 hn).2.2⟩)⟩
end Go.Proofs.Joy
namespace Go.Proofs.Joy
open Go.Ab

/-- The number of a sprite's tile. -/
def numS (v regs : List (BitVec 8)) (i : Nat) : Int :=
  let n : Nat := (atS v (baseS regs + 128 + 2 * i + 1)).toNat + (if regs.getD 6 0#8 &&& 4#8 = 0#8 then 0 else 256)
  if regs.getD 1 0#8 &&& 2#8 = 0#8 then (n : Int) else ((n - n % 2 : Nat) : Int)
/-- The row of it that a line shows. -/
def downS (v regs : List (BitVec 8)) (i : Nat) (line : Int) : Int :=
  if regs.getD 1 0#8 &&& 1#8 = 0#8 then line - topS (yS v regs i) else (line - topS (yS v regs i)).tdiv 2
def dotsL (v regs : List (BitVec 8)) (i : Nat) (line : Int) : List (BitVec 8) := rowS v (firstS (numS v regs i + (downS v regs i line).tdiv 8) ((downS v regs i line).tmod 8)) false

theorem andNot_one : ∀ n, n < 512 → andNot64 ((n : Nat) : Int) 1 = ((n - n % 2 : Nat) : Int) := by decide +kernel
theorem tdiv_bd (D k b : Int) (h : -b ≤ D ∧ D ≤ b) : -b ≤ D.tdiv k ∧ D.tdiv k ≤ b := by
  have := Int.natAbs_tdiv D k
  have h2 : (D.tdiv k).natAbs ≤ D.natAbs := by rw [this]; exact Nat.div_le_self _ _
  omega
theorem dotsL_len (v regs : List (BitVec 8)) (i : Nat) (line : Int) : (dotsL v regs i line).length = 8 := by simp [dotsL, rowS]
theorem numS_le (v regs : List (BitVec 8)) (i : Nat) : 0 ≤ numS v regs i ∧ numS v regs i < 512 := by
  have := (atS v (baseS regs + 128 + 2 * i + 1)).isLt
  unfold numS
  simp only
  split <;> split <;> omega
end Go.Proofs.Joy
namespace Go.Proofs.Joy
open Go.Ab

def putC (c : List (BitVec 8)) (x : Int) (d : BitVec 8) : List (BitVec 8) := if d = 0#8 ∨ x < 0 then c else if c.getD x.toNat 0#8 ≠ 0#8 then c else c.set x.toNat (16#8 + d)
def putM (c : List (BitVec 8)) (m : Bool) (x : Int) (d : BitVec 8) : Bool := if d = 0#8 ∨ x < 0 then m else if c.getD x.toNat 0#8 ≠ 0#8 then true else m
theorem putC_len (c : List (BitVec 8)) (x : Int) (d : BitVec 8) : (putC c x d).length = c.length := by
  unfold putC; split
  · rfl
  · split
    · rfl
    · rw [List.length_set]

/-- Colors, and whether two met. -/
structure RowS where
  c : List (BitVec 8)
  m : Bool
def RowS.put (s : RowS) (x : Int) (d : BitVec 8) : RowS := if x < 256 then ⟨putC s.c x d, putM s.c s.m x d⟩ else s
def wideS (regs : List (BitVec 8)) : Nat := if regs.getD 1 0#8 &&& 1#8 = 0#8 then 1 else 2
def leftS (v regs : List (BitVec 8)) (i : Nat) : Int := (atS v (baseS regs + 128 + 2 * i)).toNat - (if regs.getD 0 0#8 &&& 8#8 = 0#8 then 0 else 8)
/-- A sprite's first dots laid on a row. -/
def sprTo (v regs : List (BitVec 8)) (line : Int) (i : Nat) (s : RowS) : Nat → RowS
  | 0 => s
  | t + 1 => (sprTo v regs line i s t).put (leftS v regs i + t) ((dotsL v regs i line).getD (t / wideS regs) 0#8)
def sprS (v regs : List (BitVec 8)) (line : Int) (i : Nat) (s : RowS) : RowS := sprTo v regs line i s (8 * wideS regs)
def rowTo (v regs : List (BitVec 8)) (line : Int) : List Nat → RowS → RowS
  | [], s => s
  | i :: l, s => rowTo v regs line l (sprS v regs line i s)
/-- Sprites' row of a line. -/
def spritesS (v regs : List (BitVec 8)) (line : Int) : RowS := rowTo v regs line ((hitsS v regs line).take 8) ⟨List.replicate 256 0#8, false⟩

theorem RowS.put_len (s : RowS) (x : Int) (d : BitVec 8) : (s.put x d).c.length = s.c.length := by
  unfold RowS.put; split
  · exact putC_len _ _ _
  · rfl
theorem sprTo_len (v regs : List (BitVec 8)) (line : Int) (i : Nat) (s : RowS) (t : Nat) : (sprTo v regs line i s t).c.length = s.c.length := by
  induction t with
  | zero => rfl
  | succ t ih => rw [sprTo, RowS.put_len, ih]
theorem sprTo_end (v regs : List (BitVec 8)) (line : Int) (i : Nat) (s : RowS) (t : Nat) (h : 256 ≤ leftS v regs i + t) : ∀ k, sprTo v regs line i s (t + k) = sprTo v regs line i s t := fun k => by
  induction k with
  | zero => rfl
  | succ k ih => rw [← Nat.add_assoc, sprTo, ih, RowS.put, if_neg (by omega)]
theorem rowTo_app (v regs : List (BitVec 8)) (line : Int) (l : List Nat) (i : Nat) (s : RowS) : rowTo v regs line (l ++ [i]) s = sprS v regs line i (rowTo v regs line l s) := by
  induction l generalizing s with
  | nil => rfl
  | cons j l ih => exact ih _
theorem rowTo_len (v regs : List (BitVec 8)) (line : Int) (l : List Nat) (s : RowS) : (rowTo v regs line l s).c.length = s.c.length := by
  induction l generalizing s with
  | nil => rfl
  | cons j l ih => rw [rowTo, ih]; exact sprTo_len _ _ _ _ _ _
theorem endS_le (v regs : List (BitVec 8)) : endS v regs ≤ 64 := by
  unfold endS
  cases hf : (List.range 64).findIdx? (fun i => yS v regs i == 208#8) with
  | none => exact Nat.le_refl _
  | some k =>
    rw [List.findIdx?_eq_some_iff_getElem] at hf
    obtain ⟨hk, -⟩ := hf
    rw [List.length_range] at hk
    exact Nat.le_of_lt hk
theorem hitsS_lt {v regs : List (BitVec 8)} {line : Int} {i : Nat} (h : i ∈ hitsS v regs line) : i < 64 := by
  unfold hitsS at h
  split at h
  · cases h
  · unfold hitsTo at h
    have := List.mem_range.1 (List.mem_filter.1 h).1
    have := endS_le v regs
    omega
theorem hitsS_line {v regs : List (BitVec 8)} {line : Int} (h : hitsS v regs line ≠ []) : 0 ≤ line ∧ line < 192 := by
  unfold hitsS at h
  split at h
  · exact absurd rfl h
  · omega
theorem wideS_le (regs : List (BitVec 8)) : 1 ≤ wideS regs ∧ wideS regs ≤ 2 := by unfold wideS; split <;> omega
theorem leftS_le (v regs : List (BitVec 8)) (i : Nat) : -8 ≤ leftS v regs i ∧ leftS v regs i ≤ 255 := by
  have := (atS v (baseS regs + 128 + 2 * i)).isLt
  unfold leftS; split <;> omega
end Go.Proofs.Joy
namespace Go.Proofs.Joy
open Go.Ab

abbrev B3 := BitVec 8 × BitVec 8 × BitVec 8
/-- A byte of a picture's tiles, repeated. -/
def tileB (ts : List (BitVec 8)) (i : Nat) : BitVec 8 := if ts = [] then 0#8 else ts.getD (i % ts.length) 0#8 &&& BitVec.ofNat 8 (i / 7)
def layT (ts : List (BitVec 8)) (i : Nat) : List (BitVec 8) := (List.range i).map (tileB ts) ++ List.replicate (16384 - i) 0#8
def layS (a : Nat) : Nat → List B3 → List (BitVec 8) → List (BitVec 8)
  | _, [], l => l
  | i, s :: r, l => layS a (i + 1) r (if i < 64 then ((l.set (a + i) s.1).set (a + 128 + 2 * i) s.2.1).set (a + 129 + 2 * i) s.2.2 else l)
def buildS (xs : List B3) (ts regs : List (BitVec 8)) : List (BitVec 8) :=
  let a := (baseS regs).toNat
  let l := layS a 0 xs (layT ts 16384)
  if xs.length < 64 then l.set (a + xs.length) 208#8 else l
theorem layT_len (ts : List (BitVec 8)) (i : Nat) (h : i ≤ 16384) : (layT ts i).length = 16384 := by
  unfold layT; rw [List.length_append, List.length_map, List.length_range, List.length_replicate]; omega
theorem layT_succ (ts : List (BitVec 8)) (j : Nat) (h : j < 16384) : (layT ts j).set j (tileB ts j) = layT ts (j + 1) := by
  unfold layT
  rw [List.set_append_right _ _ (by simp), List.length_map, List.length_range, Nat.sub_self, show 16384 - j = (16384 - (j + 1)) + 1 by omega, List.replicate_succ, List.set_cons_zero, List.range_succ, List.map_append, List.append_assoc]
  rfl
theorem layT_skip (j : Nat) (h : j < 16384) : layT [] (j + 1) = layT [] j := by
  unfold layT
  rw [List.range_succ, List.map_append, show 16384 - j = (16384 - (j + 1)) + 1 by omega, List.replicate_succ, List.append_assoc]
  rfl
theorem layS_app (a i : Nat) (xs : List B3) (s : B3) (l : List (BitVec 8)) : layS a i (xs ++ [s]) l = layS a (i + xs.length) [s] (layS a i xs l) := by
  induction xs generalizing i l with
  | nil => rfl
  | cons x r ih =>
    rw [List.length_cons, show i + (r.length + 1) = i + 1 + r.length by omega]
    exact ih (i + 1) _
theorem layS_len (a i : Nat) (xs : List B3) (l : List (BitVec 8)) : (layS a i xs l).length = l.length := by
  induction xs generalizing i l with
  | nil => rfl
  | cons s r ih => rw [layS, ih]; split <;> simp
theorem buildS_len (xs : List B3) (ts regs : List (BitVec 8)) : (buildS xs ts regs).length = 16384 := by
  unfold buildS
  simp only
  split
  · rw [List.length_set, layS_len, layT_len _ _ (Nat.le_refl _)]
  · rw [layS_len, layT_len _ _ (Nat.le_refl _)]
end Go.Proofs.Joy
namespace Go.Proofs.Joy
open Go.Ab

theorem getD_set8 (l : List (BitVec 8)) (i k : Nat) (x : BitVec 8) : (l.set i x).getD k 0#8 = if i = k ∧ k < l.length then x else l.getD k 0#8 := by
  rw [List.getD_eq_getElem?_getD, List.getElem?_set, List.getD_eq_getElem?_getD]
  by_cases h : i = k
  · subst h
    by_cases h2 : i < l.length
    · simp [h2]
    · simp [h2]
  · simp [h]

theorem snoc_ind {P : List B3 → Prop} (h0 : P []) (h1 : ∀ xs s, P xs → P (xs ++ [s])) : ∀ xs, P xs := by
  have : ∀ n xs, xs.length = n → P xs := by
    intro n
    induction n with
    | zero => intro xs h; rw [List.eq_nil_of_length_eq_zero h]; exact h0
    | succ n ih =>
      intro xs h
      have hne : xs ≠ [] := by rintro rfl; simp at h
      rw [← List.dropLast_concat_getLast hne]
      exact h1 _ _ (ih _ (by simp; omega))
  exact fun xs => this _ xs rfl

def d3 : B3 := (0#8, 0#8, 0#8)
/-- What lies at a place of a laid memory. -/
def layG (a : Nat) (xs : List B3) (l : List (BitVec 8)) (k : Nat) : BitVec 8 :=
  if a ≤ k ∧ k < a + xs.length then (xs.getD (k - a) d3).1
  else if a + 128 ≤ k ∧ k < a + 128 + 2 * xs.length then (if (k - (a + 128)) % 2 = 0 then (xs.getD ((k - (a + 128)) / 2) d3).2.1 else (xs.getD ((k - (a + 128)) / 2) d3).2.2)
  else l.getD k 0#8

theorem getD_snoc (xs : List B3) (s : B3) (j : Nat) : (xs ++ [s]).getD j d3 = if j < xs.length then xs.getD j d3 else if j = xs.length then s else d3 := by
  simp only [List.getD_eq_getElem?_getD, List.getElem?_append]
  by_cases h : j < xs.length
  · simp [h]
  · simp only [h, if_false]
    by_cases h2 : j = xs.length
    · subst h2; simp
    · rw [if_neg h2, List.getElem?_eq_none (by simp; omega)]; rfl

theorem layS_get (a : Nat) (l : List (BitVec 8)) (hl : l.length = 16384) (ha : a + 256 ≤ 16384) (k : Nat) (xs : List B3) : xs.length ≤ 64 → (layS a 0 xs l).getD k 0#8 = layG a xs l k := by
  refine snoc_ind (P := fun xs => xs.length ≤ 64 → (layS a 0 xs l).getD k 0#8 = layG a xs l k) ?_ ?_ xs
  · intro _
    unfold layG layS
    rw [if_neg (by simp), if_neg (by simp)]
  · intro xs s ih hx
    rw [List.length_append, List.length_singleton] at hx
    have ih := ih (by omega)
    rw [layS_app]
    simp only [layS, Nat.zero_add]
    rw [if_pos (by omega)]
    simp only [getD_set8, List.length_set, layS_len, hl, ih]
    unfold layG
    simp only [List.length_append, List.length_singleton, getD_snoc]
    by_cases c1 : k = a + 129 + 2 * xs.length
    · subst c1
      rw [if_pos (by omega), if_neg (by omega), if_pos (by omega), if_neg (by omega), if_neg (by omega), if_pos (by omega)]
    rw [if_neg (by omega)]
    by_cases c2 : k = a + 128 + 2 * xs.length
    · subst c2
      rw [if_pos (by omega), if_neg (by omega), if_pos (by omega), if_pos (by omega), if_neg (by omega), if_pos (by omega)]
    rw [if_neg (by omega)]
    by_cases c3 : k = a + xs.length
    · subst c3
      rw [if_pos (by omega), if_pos (by omega), if_neg (by omega), if_pos (by omega)]
    rw [if_neg (by omega)]
    by_cases c4 : a ≤ k ∧ k < a + xs.length
    · rw [if_pos c4, if_pos (by omega), if_pos (by omega)]
    by_cases c5 : a + 128 ≤ k ∧ k < a + 128 + 2 * xs.length
    · have h1 : ¬(a ≤ k ∧ k < a + (xs.length + 1)) := by omega
      have h2 : a + 128 ≤ k ∧ k < a + 128 + 2 * (xs.length + 1) := by omega
      have h3 : (k - (a + 128)) / 2 < xs.length := by omega
      rw [if_neg c4, if_pos c5, if_neg h1, if_pos h2, if_pos h3]
    · have h1 : ¬(a ≤ k ∧ k < a + (xs.length + 1)) := by omega
      have h2 : ¬(a + 128 ≤ k ∧ k < a + 128 + 2 * (xs.length + 1)) := by omega
      rw [if_neg c4, if_neg c5, if_neg h1, if_neg h2]

/-- A picture's memory, place by place. -/
theorem buildS_get (xs : List B3) (hx : xs.length ≤ 64) (ts regs : List (BitVec 8)) (k : Nat) :
    (buildS xs ts regs).getD k 0#8 = if xs.length < 64 ∧ k = (baseS regs).toNat + xs.length then 208#8 else layG (baseS regs).toNat xs (layT ts 16384) k := by
  have hb := baseS_le regs
  have ha : (baseS regs).toNat + 256 ≤ 16384 := by omega
  unfold buildS
  simp only
  have hl := layT_len ts 16384 (Nat.le_refl _)
  by_cases h : xs.length < 64
  · rw [if_pos h, getD_set8, layS_len, hl, layS_get _ _ hl ha _ _ hx]
    by_cases c : k = (baseS regs).toNat + xs.length
    · subst c; rw [if_pos (by omega), if_pos ⟨h, rfl⟩]
    · rw [if_neg (by omega), if_neg (by omega)]
  · rw [if_neg h, layS_get _ _ hl ha _ _ hx, if_neg (by omega)]

theorem atS_nat (bs : List (BitVec 8)) (k : Nat) (h : k < 16384) : atS bs (k : Int) = bs.getD k 0#8 := by
  unfold atS; rw [show ((k : Int) % 16384).toNat = k by omega]
theorem base_nat (regs : List (BitVec 8)) : ((baseS regs).toNat : Int) = baseS regs := by have := baseS_le regs; omega

theorem yS_build {xs : List B3} (hx : xs.length ≤ 64) (ts regs : List (BitVec 8)) {i : Nat} (hi : i < xs.length) : yS (buildS xs ts regs) regs i = (xs.getD i d3).1 := by
  have hb := baseS_le regs
  unfold yS
  rw [← base_nat, ← Int.natCast_add, atS_nat _ _ (by omega), buildS_get _ hx, if_neg (by omega)]
  unfold layG
  rw [if_pos (by omega), show (baseS regs).toNat + i - (baseS regs).toNat = i by omega]
theorem yS_end {xs : List B3} (hx : xs.length < 64) (ts regs : List (BitVec 8)) : yS (buildS xs ts regs) regs xs.length = 208#8 := by
  have hb := baseS_le regs
  unfold yS
  rw [← base_nat, ← Int.natCast_add, atS_nat _ _ (by omega), buildS_get _ (by omega), if_pos ⟨hx, rfl⟩]
theorem xS_build {xs : List B3} (hx : xs.length ≤ 64) (ts regs : List (BitVec 8)) {i : Nat} (hi : i < xs.length) : atS (buildS xs ts regs) (baseS regs + 128 + 2 * i) = (xs.getD i d3).2.1 := by
  have hb := baseS_le regs
  rw [← base_nat, show (((baseS regs).toNat : Int) + 128 + 2 * (i : Int)) = (((baseS regs).toNat + 128 + 2 * i : Nat) : Int) by omega, atS_nat _ _ (by omega), buildS_get _ hx, if_neg (by omega)]
  unfold layG
  rw [if_neg (by omega), if_pos (by omega), if_pos (by omega), show ((baseS regs).toNat + 128 + 2 * i - ((baseS regs).toNat + 128)) / 2 = i by omega]
theorem tS_build {xs : List B3} (hx : xs.length ≤ 64) (ts regs : List (BitVec 8)) {i : Nat} (hi : i < xs.length) : atS (buildS xs ts regs) (baseS regs + 128 + 2 * i + 1) = (xs.getD i d3).2.2 := by
  have hb := baseS_le regs
  rw [← base_nat, show (((baseS regs).toNat : Int) + 128 + 2 * (i : Int) + 1) = (((baseS regs).toNat + 128 + 2 * i + 1 : Nat) : Int) by omega, atS_nat _ _ (by omega), buildS_get _ hx, if_neg (by omega)]
  unfold layG
  rw [if_neg (by omega), if_pos (by omega), if_neg (by omega), show ((baseS regs).toNat + 128 + 2 * i + 1 - ((baseS regs).toNat + 128)) / 2 = i by omega]

/-! Sprites of a list. -/
def onB (regs : List (BitVec 8)) (line : Int) (s : B3) : Bool := decide (topS s.1 ≤ line) && decide (line < topS s.1 + heightS regs)
def goesB (s : B3) : Bool := s.1 != 208#8
theorem onS_build {xs : List B3} (hx : xs.length ≤ 64) (ts regs : List (BitVec 8)) (line : Int) {i : Nat} (hi : i < xs.length) : onS' (buildS xs ts regs) regs line i = onB regs line (xs.getD i d3) := by
  unfold onS' onB; rw [yS_build hx ts regs hi]

theorem takeWhile_len (xs : List B3) : (xs.takeWhile goesB).length ≤ xs.length := (List.takeWhile_sublist _).length_le
theorem takeWhile_goes (xs : List B3) {j : Nat} (h : j < (xs.takeWhile goesB).length) : (xs.getD j d3).1 ≠ 208#8 := by
  induction xs generalizing j with
  | nil => simp at h
  | cons s r ih =>
    rw [List.takeWhile_cons] at h
    split at h
    · rename_i c
      cases j with
      | zero => simpa [goesB] using c
      | succ j => exact ih (by simpa using h)
    · simp at h
theorem takeWhile_stop (xs : List B3) (h : (xs.takeWhile goesB).length < xs.length) : (xs.getD (xs.takeWhile goesB).length d3).1 = 208#8 := by
  induction xs with
  | nil => simp at h
  | cons s r ih =>
    rw [List.takeWhile_cons] at h ⊢
    split
    · rename_i c
      rw [if_pos c] at h
      exact ih (by simpa using h)
    · rename_i c
      simp only [List.length_nil, List.getD_cons_zero]
      simpa [goesB] using c
theorem endS_build {xs : List B3} (hx : xs.length ≤ 64) (ts regs : List (BitVec 8)) : endS (buildS xs ts regs) regs = (xs.takeWhile goesB).length := by
  have h1 := takeWhile_len xs
  have hb : ∀ j, j < (xs.takeWhile goesB).length → yS (buildS xs ts regs) regs j ≠ 208#8 := fun j hj => by
    rw [yS_build hx ts regs (by omega)]; exact takeWhile_goes xs hj
  rcases Nat.lt_or_ge (xs.takeWhile goesB).length xs.length with c | c
  · exact endS_at (by omega) (by rw [yS_build hx ts regs c]; exact takeWhile_stop xs c) hb
  · have e : (xs.takeWhile goesB).length = xs.length := by omega
    rw [e] at hb ⊢
    rcases Nat.lt_or_ge xs.length 64 with d | d
    · exact endS_at d (yS_end d ts regs) hb
    · rw [show xs.length = 64 by omega] at hb ⊢
      exact endS_none hb

theorem range_filter (xs : List B3) (q : B3 → Bool) (e : Nat) (he : e ≤ xs.length) : ((List.range e).filter (fun i => q (xs.getD i d3))).map (fun i => xs.getD i d3) = (xs.take e).filter q := by
  induction e with
  | zero => rfl
  | succ e ih =>
    rw [List.range_succ, List.filter_append, List.map_append, ih (by omega), List.take_add_one, List.filter_append]
    congr 1
    have hg : xs[e]? = some (xs.getD e d3) := by rw [List.getD_eq_getElem?_getD, List.getElem?_eq_getElem (by omega)]; rfl
    rw [hg]
    by_cases c : q (xs.getD e d3) = true
    · simp only [List.filter_cons, List.filter_nil, c, if_true, List.map_cons, List.map_nil, Option.toList_some]
    · simp only [List.filter_cons, List.filter_nil, c, if_false, List.map_nil, Option.toList_some, Bool.false_eq_true]
theorem take_while_len (xs : List B3) : xs.take (xs.takeWhile goesB).length = xs.takeWhile goesB := by
  induction xs with
  | nil => rfl
  | cons s r ih =>
    rw [List.takeWhile_cons]
    split
    · rw [List.length_cons, List.take_succ_cons, ih]
    · rfl
/-- Those of a list that are on a line. -/
def seenB (regs : List (BitVec 8)) (line : Int) (xs : List B3) : List B3 := if line < 0 ∨ 191 < line then [] else (xs.takeWhile goesB).filter (onB regs line)
theorem hits_build {xs : List B3} (hx : xs.length ≤ 64) (ts regs : List (BitVec 8)) (line : Int) : (hitsS (buildS xs ts regs) regs line).map (fun i => xs.getD i d3) = seenB regs line xs := by
  unfold hitsS seenB
  split
  · rfl
  · rw [endS_build hx, hitsTo]
    have h1 := takeWhile_len xs
    rw [← take_while_len xs, ← range_filter xs _ _ h1, List.filter_congr (q := fun i => onB regs line (xs.getD i d3)) (fun i hi => onS_build hx ts regs line (by rw [List.mem_range] at hi; rw [take_while_len] at hi; omega)), take_while_len]
theorem hits_lt {xs : List B3} (hx : xs.length ≤ 64) (ts regs : List (BitVec 8)) (line : Int) {i : Nat} (h : i ∈ hitsS (buildS xs ts regs) regs line) : i < xs.length := by
  unfold hitsS at h
  split at h
  · cases h
  · rw [endS_build hx] at h
    have := List.mem_range.1 (List.mem_filter.1 h).1
    have := takeWhile_len xs
    omega
theorem hits_len {xs : List B3} (hx : xs.length ≤ 64) (ts regs : List (BitVec 8)) (line : Int) : (hitsS (buildS xs ts regs) regs line).length = (seenB regs line xs).length := by
  rw [← hits_build hx ts regs line, List.length_map]
end Go.Proofs.Joy
namespace Go.Proofs.Joy
open Go.Ab

/-- A sprite's dots laid on a row: where it begins, its dots, how wide each. -/
def laid (left : Int) (dots : List (BitVec 8)) (wide : Nat) (s : RowS) : Nat → RowS
  | 0 => s
  | t + 1 => (laid left dots wide s t).put (left + t) (dots.getD (t / wide) 0#8)
theorem sprTo_laid (v regs : List (BitVec 8)) (line : Int) (i : Nat) (s : RowS) (t : Nat) : sprTo v regs line i s t = laid (leftS v regs i) (dotsL v regs i line) (wideS regs) s t := by
  induction t with
  | zero => rfl
  | succ t ih => rw [sprTo, laid, ih]

def leftB (regs : List (BitVec 8)) (s : B3) : Int := s.2.1.toNat - (if regs.getD 0 0#8 &&& 8#8 = 0#8 then 0 else 8)
def numB (regs : List (BitVec 8)) (s : B3) : Int :=
  let n : Nat := s.2.2.toNat + (if regs.getD 6 0#8 &&& 4#8 = 0#8 then 0 else 256)
  if regs.getD 1 0#8 &&& 2#8 = 0#8 then (n : Int) else ((n - n % 2 : Nat) : Int)
def downB (regs : List (BitVec 8)) (line : Int) (s : B3) : Int :=
  if regs.getD 1 0#8 &&& 1#8 = 0#8 then line - topS s.1 else (line - topS s.1).tdiv 2
def dotsB (ts regs : List (BitVec 8)) (line : Int) (s : B3) : List (BitVec 8) := rowS (layT ts 16384) (firstS (numB regs s + (downB regs line s).tdiv 8) ((downB regs line s).tmod 8)) false
def sprB (ts regs : List (BitVec 8)) (line : Int) (r : RowS) (s : B3) : RowS := laid (leftB regs s) (dotsB ts regs line s) (wideS regs) r (8 * wideS regs)
def row0 : RowS := ⟨List.replicate 256 0#8, false⟩
def rowB' (ts regs : List (BitVec 8)) (line : Int) (l : List B3) : RowS := l.foldl (sprB ts regs line) row0

theorem left_build {xs : List B3} (hx : xs.length ≤ 64) (ts regs : List (BitVec 8)) {i : Nat} (hi : i < xs.length) : leftS (buildS xs ts regs) regs i = leftB regs (xs.getD i d3) := by
  unfold leftS leftB; rw [xS_build hx ts regs hi]
theorem num_build {xs : List B3} (hx : xs.length ≤ 64) (ts regs : List (BitVec 8)) {i : Nat} (hi : i < xs.length) : numS (buildS xs ts regs) regs i = numB regs (xs.getD i d3) := by
  unfold numS numB; rw [tS_build hx ts regs hi]
theorem down_build {xs : List B3} (hx : xs.length ≤ 64) (ts regs : List (BitVec 8)) (line : Int) {i : Nat} (hi : i < xs.length) : downS (buildS xs ts regs) regs i line = downB regs line (xs.getD i d3) := by
  unfold downS downB; rw [yS_build hx ts regs hi]

theorem dotS_congr {v w : List (BitVec 8)} {first : Int} (h : ∀ p : Nat, p < 4 → atS v (first + p) = atS w (first + p)) (t : Bool) (j : Nat) : ∀ p, p ≤ 4 → dotS v first t p j = dotS w first t p j := by
  intro p
  induction p with
  | zero => intro _; rfl
  | succ p ih => intro hp; rw [dotS, dotS, ih (by omega), h p (by omega)]
theorem rowS_congr {v w : List (BitVec 8)} {first : Int} (h : ∀ p : Nat, p < 4 → atS v (first + p) = atS w (first + p)) (t : Bool) : rowS v first t = rowS w first t := by
  unfold rowS
  exact List.map_congr_left fun j _ => dotS_congr h t j 4 (Nat.le_refl _)

/-- The table lies above the tiles, and these are the first 256. -/
structure Apart (regs : List (BitVec 8)) : Prop where
  base : regs.getD 5 0#8 = 126#8
  low : regs.getD 6 0#8 &&& 4#8 = 0#8
theorem Apart.at {regs : List (BitVec 8)} (h : regs.getD 5 0#8 = 126#8) : (baseS regs).toNat = 16128 := by unfold baseS; rw [h]; rfl
theorem Apart.num {regs : List (BitVec 8)} (h : Apart regs) (s : B3) : 0 ≤ numB regs s ∧ numB regs s ≤ 255 := by
  have := s.2.2.isLt
  unfold numB
  simp only [h.low, if_true, Nat.add_zero]
  split <;> omega
theorem build_low {xs : List B3} (hx : xs.length ≤ 64) (ts : List (BitVec 8)) {regs : List (BitVec 8)} (h : regs.getD 5 0#8 = 126#8) {k : Nat} (hk : k < 16128) : atS (buildS xs ts regs) (k : Int) = atS (layT ts 16384) (k : Int) := by
  have ha := Apart.at h
  rw [atS_nat _ _ (by omega), atS_nat _ _ (by omega), buildS_get _ hx, ha, if_neg (by omega)]
  unfold layG
  rw [if_neg (by omega), if_neg (by omega)]
theorem dots_build {xs : List B3} (hx : xs.length ≤ 64) (ts : List (BitVec 8)) {regs : List (BitVec 8)} (h : Apart regs) {line : Int} (hl : 0 ≤ line ∧ line < 192) {i : Nat} (hi : i < xs.length) (ho : onB regs line (xs.getD i d3) = true) :
    dotsL (buildS xs ts regs) regs i line = dotsB ts regs line (xs.getD i d3) := by
  unfold dotsL dotsB
  rw [num_build hx ts regs hi, down_build hx ts regs line hi]
  unfold onB at ho
  rw [Bool.and_eq_true, decide_eq_true_eq, decide_eq_true_eq] at ho
  have hn := h.num (xs.getD i d3)
  have ht := topS_le (xs.getD i d3).1
  have hd : 0 ≤ downB regs line (xs.getD i d3) ∧ downB regs line (xs.getD i d3) ≤ 210 := by
    unfold downB
    split
    · omega
    · rw [Int.tdiv_eq_ediv_of_nonneg (by omega)]; omega
  refine rowS_congr (fun p hp => ?_) false
  have hd8 : (downB regs line (xs.getD i d3)).tdiv 8 = downB regs line (xs.getD i d3) / 8 := Int.tdiv_eq_ediv_of_nonneg hd.1
  rw [hd8]
  have hf : 0 ≤ firstS (numB regs (xs.getD i d3) + downB regs line (xs.getD i d3) / 8) ((downB regs line (xs.getD i d3)).tmod 8) ∧ firstS (numB regs (xs.getD i d3) + downB regs line (xs.getD i d3) / 8) ((downB regs line (xs.getD i d3)).tmod 8) ≤ 12000 := by
    unfold firstS; omega
  obtain ⟨q, hq⟩ := Int.eq_ofNat_of_zero_le hf.1
  rw [hq] at hf ⊢
  rw [← Int.natCast_add]
  exact build_low hx ts h.base (by omega)

theorem spr_build {xs : List B3} (hx : xs.length ≤ 64) (ts : List (BitVec 8)) {regs : List (BitVec 8)} (h : Apart regs) {line : Int} (hl : 0 ≤ line ∧ line < 192) {i : Nat} (hi : i < xs.length) (ho : onB regs line (xs.getD i d3) = true) (r : RowS) :
    sprS (buildS xs ts regs) regs line i r = sprB ts regs line r (xs.getD i d3) := by
  unfold sprS sprB
  rw [sprTo_laid, left_build hx ts regs hi, dots_build hx ts h hl hi ho]
theorem rowTo_build {xs : List B3} (hx : xs.length ≤ 64) (ts : List (BitVec 8)) {regs : List (BitVec 8)} (h : Apart regs) {line : Int} (hl : 0 ≤ line ∧ line < 192) (L : List Nat) (hL : ∀ i ∈ L, i < xs.length ∧ onB regs line (xs.getD i d3) = true) (r : RowS) :
    rowTo (buildS xs ts regs) regs line L r = (L.map (fun i => xs.getD i d3)).foldl (sprB ts regs line) r := by
  induction L generalizing r with
  | nil => rfl
  | cons i L ih =>
    obtain ⟨h1, h2⟩ := hL i (List.mem_cons_self)
    rw [rowTo, List.map_cons, List.foldl_cons, spr_build hx ts h hl h1 h2, ih (fun j hj => hL j (List.mem_cons_of_mem _ hj))]
/-- A picture's row, by its list alone. -/
theorem sprites_build {xs : List B3} (hx : xs.length ≤ 64) (ts : List (BitVec 8)) {regs : List (BitVec 8)} (h : Apart regs) {line : Int} (hl : 0 ≤ line ∧ line < 192) :
    spritesS (buildS xs ts regs) regs line = rowB' ts regs line ((seenB regs line xs).take 8) := by
  unfold spritesS rowB'
  rw [rowTo_build hx ts h hl _ (fun i hi => ?_), List.map_take, hits_build hx]
  · rfl
  · have hm := List.mem_of_mem_take hi
    refine ⟨hits_lt hx ts regs line hm, ?_⟩
    have := List.mem_map_of_mem (f := fun i => xs.getD i d3) hm
    rw [hits_build hx] at this
    unfold seenB at this
    rw [if_neg (by omega)] at this
    exact (List.mem_filter.1 this).2

/-! What is seen stays. -/
theorem putC_keep (c : List (BitVec 8)) (x : Int) (d : BitVec 8) (k : Nat) (h : c.getD k 0#8 ≠ 0#8) : (putC c x d).getD k 0#8 = c.getD k 0#8 := by
  unfold putC
  split
  · rfl
  · split
    · rfl
    · rename_i h2
      rw [getD_set8]
      split
      · rename_i e; obtain ⟨e, -⟩ := e; subst e; exact absurd h h2
      · rfl
theorem put_keep (s : RowS) (x : Int) (d : BitVec 8) (k : Nat) (h : s.c.getD k 0#8 ≠ 0#8) : (s.put x d).c.getD k 0#8 = s.c.getD k 0#8 := by
  unfold RowS.put; split
  · exact putC_keep _ _ _ _ h
  · rfl
theorem laid_keep (left : Int) (dots : List (BitVec 8)) (wide : Nat) (s : RowS) (k : Nat) (h : s.c.getD k 0#8 ≠ 0#8) (t : Nat) : (laid left dots wide s t).c.getD k 0#8 = s.c.getD k 0#8 := by
  induction t with
  | zero => rfl
  | succ t ih => rw [laid, put_keep _ _ _ _ (by rw [ih]; exact h), ih]
theorem fold_keep (ts regs : List (BitVec 8)) (line : Int) (l : List B3) (s : RowS) (k : Nat) (h : s.c.getD k 0#8 ≠ 0#8) : (l.foldl (sprB ts regs line) s).c.getD k 0#8 = s.c.getD k 0#8 := by
  induction l generalizing s with
  | nil => rfl
  | cons b l ih =>
    have e : (sprB ts regs line s b).c.getD k 0#8 = s.c.getD k 0#8 := laid_keep _ _ _ _ _ h _
    rw [List.foldl_cons, ih _ (by rw [e]; exact h), e]
theorem row_app (ts regs : List (BitVec 8)) (line : Int) (a b : List B3) (k : Nat) (h : (rowB' ts regs line a).c.getD k 0#8 ≠ 0#8) : (rowB' ts regs line (a ++ b)).c.getD k 0#8 = (rowB' ts regs line a).c.getD k 0#8 := by
  unfold rowB' at h ⊢
  rw [List.foldl_append, fold_keep _ _ _ _ _ _ h]

theorem laid_len (left : Int) (dots : List (BitVec 8)) (wide : Nat) (s : RowS) (t : Nat) : (laid left dots wide s t).c.length = s.c.length := by
  induction t with
  | zero => rfl
  | succ t ih => rw [laid, RowS.put_len, ih]

/-! Moved by some dots. -/
structure Shift (n : Nat) (s s' : RowS) : Prop where
  l : s.c.length = 256
  l' : s'.c.length = 256
  m : s'.m = s.m
  z : ∀ k, k < n → s'.c.getD k 0#8 = 0#8
  c : ∀ k, k + n < 256 → s'.c.getD (k + n) 0#8 = s.c.getD k 0#8
theorem Shift.put {n : Nat} {s s' : RowS} (h : Shift n s s') {k : Nat} (hk : k + n < 256) (d : BitVec 8) : Shift n (s.put (k : Int) d) (s'.put ((k : Int) + n) d) := by
  have e1 : ((k : Int)).toNat = k := by omega
  have e2 : ((k : Int) + n).toNat = k + n := by omega
  have hc := h.c k hk
  unfold RowS.put
  rw [if_pos (by omega), if_pos (by omega)]
  unfold putC putM
  rw [e1, e2, hc]
  by_cases hd : d = 0#8
  · rw [if_pos (.inl hd), if_pos (.inl hd), if_pos (.inl hd), if_pos (.inl hd)]; exact h
  · have d1 : ¬(d = 0#8 ∨ (k : Int) < 0) := fun h1 => h1.elim hd (fun h2 => by omega)
    have d2 : ¬(d = 0#8 ∨ (k : Int) + (n : Int) < 0) := fun h1 => h1.elim hd (fun h2 => by omega)
    rw [if_neg d1, if_neg d1, if_neg d2, if_neg d2]
    by_cases hz : s.c.getD k 0#8 = 0#8
    · have hz' : ¬(s.c.getD k 0#8 ≠ 0#8) := fun h => h hz
      rw [if_neg hz', if_neg hz', if_neg hz', if_neg hz']
      refine ⟨by simp [h.l], by simp [h.l'], h.m, fun j hj => ?_, fun j hj => ?_⟩
      · simp only [getD_set8]
        rw [if_neg (by omega)]; exact h.z j hj
      · simp only [getD_set8, h.l, h.l']
        by_cases e : k = j
        · subst e; rw [if_pos (by omega), if_pos (by omega)]
        · rw [if_neg (by omega), if_neg (by omega)]; exact h.c j hj
    · rw [if_pos hz, if_pos hz, if_pos hz, if_pos hz]
      exact ⟨h.l, h.l', rfl, h.z, h.c⟩
theorem Shift.laid {n : Nat} {s s' : RowS} (h : Shift n s s') {left : Nat} (dots : List (BitVec 8)) (wide : Nat) (t : Nat) (ht : left + t + n ≤ 256) : Shift n (laid left dots wide s t) (laid ((left : Int) + n) dots wide s' t) := by
  induction t with
  | zero => exact h
  | succ t ih =>
    have := (ih (by omega)).put (k := left + t) (by omega) (dots.getD (t / wide) 0#8)
    rw [Joy.laid, Joy.laid, show ((left : Int) + n + (t : Nat)) = ((left + t : Nat) : Int) + n by omega, show (left : Int) + (t : Nat) = ((left + t : Nat) : Int) by omega]
    exact this
theorem getD_rep0 (m k : Nat) : (List.replicate m 0#8).getD k 0#8 = 0#8 := by
  rw [List.getD_eq_getElem?_getD, List.getElem?_replicate]; split <;> rfl
theorem Shift.zero (n : Nat) : Shift n row0 row0 := ⟨List.length_replicate, List.length_replicate, rfl, fun k _ => getD_rep0 _ _, fun k _ => by
  show (List.replicate 256 0#8).getD _ _ = (List.replicate 256 0#8).getD _ _
  rw [getD_rep0, getD_rep0]⟩
def modX (n : Nat) (s : B3) : B3 := (s.1, BitVec.ofNat 8 (s.2.1.toNat % 160 + n), s.2.2)
theorem Shift.fold {n : Nat} (hn : n < 60) (ts : List (BitVec 8)) {regs : List (BitVec 8)} (h0 : regs.getD 0 0#8 &&& 8#8 = 0#8) (line : Int) (l : List B3) {s s' : RowS} (h : Shift n s s') :
    Shift n ((l.map (modX 0)).foldl (sprB ts regs line) s) ((l.map (modX n)).foldl (sprB ts regs line) s') := by
  induction l generalizing s s' with
  | nil => exact h
  | cons b l ih =>
    rw [List.map_cons, List.foldl_cons, List.map_cons, List.foldl_cons]
    refine ih ?_
    have hw := wideS_le regs
    have e0 : leftB regs (modX 0 b) = ((b.2.1.toNat % 160 : Nat) : Int) := by
      unfold leftB modX; rw [if_pos h0]; simp only [BitVec.toNat_ofNat]; omega
    have e1 : leftB regs (modX n b) = ((b.2.1.toNat % 160 : Nat) : Int) + n := by
      unfold leftB modX; rw [if_pos h0]; simp only [BitVec.toNat_ofNat]; omega
    unfold sprB
    rw [e0, e1]
    exact h.laid _ _ _ (by omega)
theorem modX_seen (n : Nat) (regs : List (BitVec 8)) (line : Int) (l : List B3) : seenB regs line (l.map (modX n)) = (seenB regs line l).map (modX n) := by
  unfold seenB
  split
  · rfl
  · rw [List.takeWhile_map, List.filter_map]; rfl
/-- ALL MOVED BY SOME DOTS. -/
theorem moves_shift {n : Nat} (hn : n < 60) (xs : List B3) (hx : xs.length ≤ 64) (ts : List (BitVec 8)) {regs : List (BitVec 8)} (h0 : regs.getD 0 0#8 &&& 8#8 = 0#8) (h : Apart regs) {line : Int} (hl : 0 ≤ line ∧ line < 192) :
    Shift n (spritesS (buildS (xs.map (modX 0)) ts regs) regs line) (spritesS (buildS (xs.map (modX n)) ts regs) regs line) := by
  rw [sprites_build (by simpa using hx) ts h hl, sprites_build (by simpa using hx) ts h hl, modX_seen, modX_seen, ← List.map_take, ← List.map_take]
  exact Shift.fold hn ts h0 line _ (Shift.zero n)
theorem moves_over (n : Nat) (xs : List B3) (hx : xs.length ≤ 64) (ts regs : List (BitVec 8)) (line : Int) : (hitsS (buildS (xs.map (modX n)) ts regs) regs line).length = (seenB regs line xs).length := by
  rw [hits_len (by simpa using hx), modX_seen, List.length_map]

/-! Who is first. -/
theorem takeWhile_self {xs : List B3} (h : ∀ a ∈ xs, goesB a = true) : xs.takeWhile goesB = xs := by
  induction xs with
  | nil => rfl
  | cons a l ih => rw [List.takeWhile_cons, if_pos (h a List.mem_cons_self), ih fun b hb => h b (List.mem_cons_of_mem _ hb)]
theorem takeWhile_mem {xs : List B3} {a : B3} (h : a ∈ xs.takeWhile goesB) : goesB a = true := by
  induction xs with
  | nil => simp at h
  | cons b l ih =>
    rw [List.takeWhile_cons] at h
    split at h
    · rename_i c
      rcases List.mem_cons.1 h with rfl | h
      · exact c
      · exact ih h
    · simp at h
theorem seen_len (regs : List (BitVec 8)) (line : Int) (xs : List B3) : (seenB regs line xs).length ≤ xs.length := by
  unfold seenB
  split
  · simp
  · exact Nat.le_trans (List.length_filter_le _ _) (takeWhile_len xs)
theorem seen_ahead (regs : List (BitVec 8)) (line : Int) (e : B3) (xs : List B3) : ∃ r, seenB regs line (e :: xs) = seenB regs line [e] ++ r := by
  unfold seenB
  split
  · exact ⟨[], rfl⟩
  · simp only [List.takeWhile_cons, List.takeWhile_nil]
    split
    · exact ⟨(xs.takeWhile goesB).filter (onB regs line), by rw [List.filter_cons, List.filter_cons]; split <;> rfl⟩
    · exact ⟨[], rfl⟩
theorem seen_behind (regs : List (BitVec 8)) (line : Int) (e : B3) (xs : List B3) : ∃ r, seenB regs line (xs ++ [e]) = seenB regs line xs ++ r := by
  unfold seenB
  split
  · exact ⟨[], rfl⟩
  · rw [List.takeWhile_append]
    split
    · rename_i h
      refine ⟨([e].takeWhile goesB).filter (onB regs line), ?_⟩
      have e2 : xs.takeWhile goesB = xs := takeWhile_self fun a ha => by
        have := List.takeWhile_prefix (p := goesB) (l := xs)
        have h3 := List.IsPrefix.eq_of_length this h
        rw [← h3] at ha
        exact takeWhile_mem ha
      rw [List.filter_append, e2]
    · exact ⟨[], by simp⟩
theorem first_ahead (xs : List B3) (hx : xs.length ≤ 6) (e : B3) (ts : List (BitVec 8)) {regs : List (BitVec 8)} (h : Apart regs) {line : Int} (hl : 0 ≤ line ∧ line < 192) (k : Nat) (hk : (spritesS (buildS [e] ts regs) regs line).c.getD k 0#8 ≠ 0#8) :
    (spritesS (buildS (e :: xs) ts regs) regs line).c.getD k 0#8 = (spritesS (buildS [e] ts regs) regs line).c.getD k 0#8 := by
  have h1 : (e :: xs).length ≤ 8 := by simp; omega
  have q0 : [e].length ≤ 8 := by simp
  have e1 := sprites_build (show [e].length ≤ 64 by simp) ts h hl
  have e2 := sprites_build (show (e :: xs).length ≤ 64 by omega) ts h hl
  rw [List.take_of_length_le (Nat.le_trans (seen_len _ _ _) q0)] at e1
  rw [List.take_of_length_le (Nat.le_trans (seen_len _ _ _) h1)] at e2
  rw [e1] at hk ⊢
  rw [e2]
  obtain ⟨r, hr⟩ := seen_ahead regs line e xs
  rw [hr]
  exact row_app _ _ _ _ _ _ hk
theorem first_behind (xs : List B3) (hx : xs.length ≤ 6) (e : B3) (ts : List (BitVec 8)) {regs : List (BitVec 8)} (h : Apart regs) {line : Int} (hl : 0 ≤ line ∧ line < 192) (k : Nat) (hk : (spritesS (buildS xs ts regs) regs line).c.getD k 0#8 ≠ 0#8) :
    (spritesS (buildS (xs ++ [e]) ts regs) regs line).c.getD k 0#8 = (spritesS (buildS xs ts regs) regs line).c.getD k 0#8 := by
  have h1 : (xs ++ [e]).length ≤ 8 := by simp; omega
  have e1 := sprites_build (show xs.length ≤ 64 by omega) ts h hl
  have e2 := sprites_build (show (xs ++ [e]).length ≤ 64 by omega) ts h hl
  rw [List.take_of_length_le (Nat.le_trans (seen_len _ _ _) (show xs.length ≤ 8 by omega))] at e1
  rw [List.take_of_length_le (Nat.le_trans (seen_len _ _ _) h1)] at e2
  rw [e1] at hk ⊢
  rw [e2]
  obtain ⟨r, hr⟩ := seen_behind regs line e xs
  rw [hr]
  exact row_app _ _ _ _ _ _ hk
theorem few_hits (xs : List B3) (hx : xs.length ≤ 8) (ts regs : List (BitVec 8)) (line : Int) : (hitsS (buildS xs ts regs) regs line).length ≤ 8 := by
  rw [hits_len (by omega)]; exact Nat.le_trans (seen_len _ _ _) hx

/-! Behind the end. -/
theorem takeWhile_idem (xs : List B3) : (xs.takeWhile goesB).takeWhile goesB = xs.takeWhile goesB := takeWhile_self fun _ ha => takeWhile_mem ha
theorem ends_same (xs : List B3) (hx : xs.length ≤ 64) (ts regs : List (BitVec 8)) (line : Int) : (hitsS (buildS (xs.takeWhile goesB) ts regs) regs line).length = (hitsS (buildS xs ts regs) regs line).length := by
  rw [hits_len (Nat.le_trans (takeWhile_len xs) hx), hits_len hx]
  unfold seenB
  rw [takeWhile_idem]
/-- Higher sprites are on no fewer lines, of the same memory. -/
theorem ends_tall (bs regs regs' : List (BitVec 8)) (hb : baseS regs' = baseS regs) (hh : heightS regs ≤ heightS regs') (line : Int) : (hitsS bs regs line).length ≤ (hitsS bs regs' line).length := by
  have hy : ∀ i, yS bs regs' i = yS bs regs i := fun i => by unfold yS; rw [hb]
  have he : endS bs regs' = endS bs regs := by unfold endS; simp only [hy]
  unfold hitsS
  split
  · exact Nat.le_refl _
  · rw [he]
    unfold hitsTo
    have key : ∀ l : List Nat, (l.filter (onS' bs regs line)).length ≤ (l.filter (onS' bs regs' line)).length := by
      intro l
      induction l with
      | nil => exact Nat.le_refl _
      | cons i l ih =>
        rw [List.filter_cons, List.filter_cons]
        by_cases c : onS' bs regs line i = true
        · have c2 : onS' bs regs' line i = true := by
            unfold onS' at c ⊢
            rw [hy]
            rw [Bool.and_eq_true, decide_eq_true_eq, decide_eq_true_eq] at c ⊢
            omega
          rw [if_pos c, if_pos c2, List.length_cons, List.length_cons]; omega
        · rw [if_neg c]
          split
          · rw [List.length_cons]; omega
          · exact ih
    exact key _
theorem height_tall (regs : List (BitVec 8)) : heightS regs ≤ 32 := (heightS_le regs).2
end Go.Proofs.Joy
namespace Go.Proofs.Joy
open Go.Ab

set_option maxRecDepth 20000
def regsA : List (BitVec 8) := [0#8, 0#8, 0#8, 0#8, 0#8, 126#8, 0#8, 0#8, 0#8, 0#8, 0#8]
def zeroL : List (BitVec 8) := List.replicate 16384 0#8
theorem zeroL_len : zeroL.length = 16384 := List.length_replicate
def memA : List (BitVec 8) := (((zeroL.set 16128 255#8).set 16129 208#8).set 16256 5#8).set 0 128#8
theorem memA_get (k : Nat) : memA.getD k 0#8 = if k = 0 then 128#8 else if k = 16256 then 5#8 else if k = 16129 then 208#8 else if k = 16128 then 255#8 else 0#8 := by
  unfold memA
  simp only [getD_set8, List.length_set, zeroL_len]
  have h0 : zeroL.getD k 0#8 = 0#8 := getD_rep0 _ _
  rw [h0]
  by_cases h1 : k = 0
  · rw [if_pos (by omega), if_pos h1]
  by_cases h2 : k = 16256
  · rw [if_neg (by omega), if_pos (by omega), if_neg h1, if_pos h2]
  by_cases h3 : k = 16129
  · rw [if_neg (by omega), if_neg (by omega), if_pos (by omega), if_neg h1, if_neg h2, if_pos h3]
  by_cases h4 : k = 16128
  · rw [if_neg (by omega), if_neg (by omega), if_neg (by omega), if_pos (by omega), if_neg h1, if_neg h2, if_neg h3, if_pos h4]
  · rw [if_neg (by omega), if_neg (by omega), if_neg (by omega), if_neg (by omega), if_neg h1, if_neg h2, if_neg h3, if_neg h4]
theorem baseA : baseS regsA = 16128 := by decide
theorem yA (i : Nat) (h : i < 64) : yS memA regsA i = if i = 1 then 208#8 else if i = 0 then 255#8 else 0#8 := by
  unfold yS
  rw [baseA, show (16128 : Int) + (i : Int) = ((16128 + i : Nat) : Int) by omega, atS_nat _ _ (by omega), memA_get, if_neg (by omega), if_neg (by omega)]
  by_cases h1 : i = 1
  · subst h1; rfl
  · by_cases h0 : i = 0
    · subst h0; rfl
    · rw [if_neg (by omega), if_neg (by omega), if_neg h1, if_neg h0]
theorem hitsA : hitsS memA regsA 0 = [0] := by
  unfold hitsS
  rw [if_neg (by decide), endS_at (i := 1) (by decide) (by rw [yA 1 (by decide)]; rfl) (fun j hj => by rw [yA j (by omega), show j = 0 by omega]; decide)]
  unfold hitsTo
  have e : onS' memA regsA 0 0 = true := by unfold onS'; rw [yA 0 (by decide)]; decide
  rw [show List.range 1 = [0] from rfl, List.filter_cons, e]; rfl
theorem spritesA : (spritesS memA regsA 0).m = false ∧ (spritesS memA regsA 0).c.getD 5 0#8 = 17#8 ∧ (spritesS memA regsA 0).c.getD 6 0#8 = 0#8 ∧ (spritesS memA regsA 0).c.length = 256 := by
  have el : leftS memA regsA 0 = 5 := by
    unfold leftS
    rw [baseA, show (16128 : Int) + 128 + 2 * ((0 : Nat) : Int) = ((16256 : Nat) : Int) by decide, atS_nat _ _ (by decide), memA_get]; rfl
  have en : numS memA regsA 0 = 0 := by
    unfold numS
    rw [baseA, show (16128 : Int) + 128 + 2 * ((0 : Nat) : Int) + 1 = ((16257 : Nat) : Int) by decide, atS_nat _ _ (by decide), memA_get]; rfl
  have ed : downS memA regsA 0 0 = 0 := by unfold downS; rw [yA 0 (by decide)]; rfl
  have er : dotsL memA regsA 0 0 = [1#8, 0#8, 0#8, 0#8, 0#8, 0#8, 0#8, 0#8] := by
    unfold dotsL
    rw [en, ed]
    have : rowS memA (firstS (0 + Int.tdiv 0 8) (Int.tmod 0 8)) false = rowS [128#8] (firstS (0 + Int.tdiv 0 8) (Int.tmod 0 8)) false := rowS_congr (fun p hp => by
      rw [show firstS (0 + Int.tdiv 0 8) (Int.tmod 0 8) + (p : Int) = (p : Int) by rw [show firstS (0 + Int.tdiv 0 8) (Int.tmod 0 8) = 0 from by decide]; omega, atS_nat _ _ (by omega), atS_nat _ _ (by omega), memA_get]
      match p, hp with
      | 0, _ => rfl
      | 1, _ => rfl
      | 2, _ => rfl
      | 3, _ => rfl) false
    rw [this]
    decide
  have e : spritesS memA regsA 0 = laid 5 [1#8, 0#8, 0#8, 0#8, 0#8, 0#8, 0#8, 0#8] 1 row0 8 := by
    unfold spritesS
    rw [hitsA]
    show sprS memA regsA 0 0 row0 = _
    unfold sprS
    rw [sprTo_laid, el, er]
    rfl
  rw [e]
  exact ⟨by decide +kernel, by decide +kernel, by decide +kernel, laid_len _ _ _ _ _⟩

theorem yZ (i : Nat) (h : i < 64) : yS zeroL regsA i = 0#8 := by
  unfold yS
  rw [baseA, show (16128 : Int) + (i : Int) = ((16128 + i : Nat) : Int) by omega, atS_nat _ _ (by omega)]
  exact getD_rep0 _ _
theorem hitsZ1 : (hitsS zeroL regsA 1).length = 64 := by
  unfold hitsS
  rw [if_neg (by decide), endS_none (fun j hj => by rw [yZ j hj]; decide)]
  unfold hitsTo
  rw [List.filter_eq_self.2 (fun i hi => by unfold onS'; rw [yZ i (List.mem_range.1 hi)]; decide)]
  exact List.length_range
theorem hitsZ0 : hitsS zeroL regsA 0 = [] := by
  unfold hitsS
  rw [if_neg (by decide), endS_none (fun j hj => by rw [yZ j hj]; decide)]
  unfold hitsTo
  rw [List.filter_eq_nil_iff]
  intro i hi
  unfold onS'; rw [yZ i (List.mem_range.1 hi)]; decide
theorem hitsZ2 : hitsS zeroL regsA 192 = [] := by unfold hitsS; rw [if_pos (by decide)]
end Go.Proofs.Joy
namespace Go.Proofs.Joy
open Go.Ab

/-! The ground of a line -/
def colS (regs : List (BitVec 8)) (line x : Int) : Int := if regs.getD 0 0#8 &&& 64#8 ≠ 0#8 ∧ line < 16 then x % 256 else (x % 256 - (regs.getD 8 0#8).toNat) % 256
def lowS (regs : List (BitVec 8)) (line x : Int) : Int := if regs.getD 0 0#8 &&& 128#8 ≠ 0#8 ∧ 192 ≤ x % 256 then line else (line + (regs.getD 9 0#8).toNat) % 224
def tabS (regs : List (BitVec 8)) : Int := ((regs.getD 2 0#8 &&& 14#8).toNat * 1024 : Nat)
/-- What an entry says: which tile, and how. -/
def entN (v : List (BitVec 8)) (a : Int) : Nat := (atS v a).toNat + 256 * (atS v (a + 1)).toNat
def entT (v : List (BitVec 8)) (a : Int) : Int := (entN v a % 512 : Nat)
def entH (v : List (BitVec 8)) (a : Int) : BitVec 8 := BitVec.ofNat 8 (entN v a / 512 % 16)
def plcS (regs : List (BitVec 8)) (row col8 : Int) : Int := tabS regs + 64 * (row / 8) + 2 * col8
def inS (how : BitVec 8) (r : Int) : Int := if how &&& 2#8 = 0#8 then r % 8 else 7 - r % 8
/-- The dots of a place, as they are seen. -/
def seenS (v regs : List (BitVec 8)) (row col8 : Int) : List (BitVec 8) :=
  let a := plcS regs row col8
  rowS v (firstS (entT v a) (inS (entH v a) row)) (decide (entH v a &&& 1#8 ≠ 0#8))
def howS (v regs : List (BitVec 8)) (row col8 : Int) : BitVec 8 := entH v (plcS regs row col8)
def gdotS (v regs : List (BitVec 8)) (line x : Int) : BitVec 8 := (seenS v regs (lowS regs line x) (colS regs line x / 8)).getD (colS regs line x % 8).toNat 0#8
def ghowS (v regs : List (BitVec 8)) (line x : Int) : BitVec 8 := howS v regs (lowS regs line x) (colS regs line x / 8)
def gcolS (v regs : List (BitVec 8)) (line x : Int) : BitVec 8 := gdotS v regs line x + (if ghowS v regs line x &&& 4#8 = 0#8 then 0#8 else 16#8)
def gfrS (v regs : List (BitVec 8)) (line x : Int) : Bool := decide (ghowS v regs line x &&& 8#8 ≠ 0#8) && decide (gdotS v regs line x ≠ 0#8)

/-! A line -/
def paintS (cram : List (BitVec 8)) (n : Int) : BitVec 8 := cram.getD (n % 32).toNat 0#8 &&& 63#8
def edgeS (cram regs : List (BitVec 8)) : BitVec 8 := paintS cram (16 + (regs.getD 7 0#8 &&& 15#8).toNat)
def shownS (regs : List (BitVec 8)) : Bool := decide (regs.getD 1 0#8 &&& 64#8 ≠ 0#8)
def blankS (regs : List (BitVec 8)) : Bool := decide (regs.getD 0 0#8 &&& 32#8 ≠ 0#8)
def inLine (line : Int) : Bool := decide (0 ≤ line) && decide (line < 192)
def mixD (v regs : List (BitVec 8)) (line : Int) (x : Nat) : BitVec 8 :=
  if (spritesS v regs line).c.getD x 0#8 ≠ 0#8 ∧ gfrS v regs line x = false then (spritesS v regs line).c.getD x 0#8 else gcolS v regs line x
/-- A dot of a line, seen through colors. -/
def seeS (v cram regs : List (BitVec 8)) (line : Int) (x : Nat) : BitVec 8 :=
  if inLine line = false then 0#8
  else if shownS regs = false ∨ x < 8 ∧ blankS regs = true then edgeS cram regs
  else paintS cram (mixD v regs line x).toNat
def lineC (v cram regs : List (BitVec 8)) (line : Int) : List (BitVec 8) := (List.range 256).map (seeS v cram regs line)
def lineO (v regs : List (BitVec 8)) (line : Int) : Bool := inLine line && shownS regs && decide (8 < (hitsS v regs line).length)
def lineM (v regs : List (BitVec 8)) (line : Int) : Bool := inLine line && shownS regs && (spritesS v regs line).m

theorem lineC_len (v cram regs : List (BitVec 8)) (line : Int) : (lineC v cram regs line).length = 256 := by simp [lineC]
theorem lineC_getD (v cram regs : List (BitVec 8)) (line : Int) {x : Nat} (h : x < 256) : (lineC v cram regs line).getD x 0#8 = seeS v cram regs line x := by
  simp [lineC, List.getD_eq_getElem?_getD, h]
theorem and63_le (b : BitVec 8) : (b &&& 63#8).toNat ≤ 63 := by rw [BitVec.toNat_and]; exact Nat.and_le_right
theorem paintS_le (cram : List (BitVec 8)) (n : Int) : (paintS cram n).toNat ≤ 63 := and63_le _
theorem seeS_le (v cram regs : List (BitVec 8)) (line : Int) (x : Nat) : (seeS v cram regs line x).toNat ≤ 63 := by
  unfold seeS
  split
  · decide
  · split
    · exact paintS_le _ _
    · exact paintS_le _ _

theorem bit01 (b : BitVec 8) (k : Nat) : (b >>> k) &&& 1#8 = 0#8 ∨ (b >>> k) &&& 1#8 = 1#8 := by
  generalize b >>> k = c
  revert c; decide
theorem umod2 (c : BitVec 8) : c % 2#8 = c &&& 1#8 := by revert c; decide
/-- The reference's way to add up a dot, plane by plane from above. -/
def refD (v : List (BitVec 8)) (first : Int) (i : Nat) : Nat → BitVec 8
  | 0 => 0#8
  | k + 1 => 2#8 * refD v first i k + (atS v (first + (3 - k : Nat)) >>> (7 - i)) % 2#8
theorem refD_dot (v : List (BitVec 8)) (first : Int) (i : Nat) : refD v first i 4 = dotS v first false 4 i := by
  simp only [refD, dotS, bitS, umod2, Nat.reduceSub, if_false, Bool.false_eq_true]
  have h0 := bit01 (atS v (first + (0 : Nat))) (7 - i)
  have h1 := bit01 (atS v (first + (1 : Nat))) (7 - i)
  have h2 := bit01 (atS v (first + (2 : Nat))) (7 - i)
  have h3 := bit01 (atS v (first + (3 : Nat))) (7 - i)
  rcases h0 with h0 | h0 <;> rcases h1 with h1 | h1 <;> rcases h2 with h2 | h2 <;> rcases h3 with h3 | h3 <;> rw [h0, h1, h2, h3] <;> rfl
theorem dotS_turn (v : List (BitVec 8)) (first : Int) (p : Nat) {j : Nat} (hj : j < 8) : dotS v first true p j = dotS v first false p (7 - j) := by
  induction p with
  | zero => rfl
  | succ p ih =>
    simp only [dotS, ih, if_true, Bool.false_eq_true, if_false]
    rw [show 7 - (7 - j) = j by omega]
theorem rowS_getD (v : List (BitVec 8)) (first : Int) (t : Bool) {j : Nat} (hj : j < 8) : (rowS v first t).getD j 0#8 = dotS v first false 4 (if t = true then 7 - j else j) := by
  have : (rowS v first t).getD j 0#8 = dotS v first t 4 j := by simp [rowS, List.getD_eq_getElem?_getD, hj]
  rw [this]
  cases t
  · rfl
  · rw [dotS_turn v first 4 hj]; rfl
theorem refD_lt (v : List (BitVec 8)) (first : Int) (i : Nat) : (refD v first i 4).toNat < 16 := by
  simp only [refD, umod2]
  have h0 := bit01 (atS v (first + (0 : Nat))) (7 - i)
  have h1 := bit01 (atS v (first + (1 : Nat))) (7 - i)
  have h2 := bit01 (atS v (first + (2 : Nat))) (7 - i)
  have h3 := bit01 (atS v (first + (3 : Nat))) (7 - i)
  simp only [Nat.reduceSub]
  rcases h0 with h0 | h0 <;> rcases h1 with h1 | h1 <;> rcases h2 with h2 | h2 <;> rcases h3 with h3 | h3 <;> rw [h0, h1, h2, h3] <;> decide
theorem dotS_lt (v : List (BitVec 8)) (first : Int) (t : Bool) {j : Nat} (hj : j < 8) : (dotS v first t 4 j).toNat < 16 := by
  cases t
  · rw [← refD_dot]; exact refD_lt _ _ _
  · rw [dotS_turn v first 4 hj, ← refD_dot]; exact refD_lt _ _ _
theorem or_hi (a b : Nat) (ha : a < 256) (hb : b < 256) : or64 (a : Int) ((256 * b : Nat) : Int) = ((a + 256 * b : Nat) : Int) := by
  unfold or64
  have e : (BitVec.ofInt 64 (a : Int) ||| BitVec.ofInt 64 ((256 * b : Nat) : Int)).toNat = a + 256 * b := by
    rw [BitVec.toNat_or, BitVec.ofInt_natCast, BitVec.ofInt_natCast, BitVec.toNat_ofNat, BitVec.toNat_ofNat, Nat.mod_eq_of_lt (by omega), Nat.mod_eq_of_lt (by omega)]
    have := Nat.two_pow_add_eq_or_of_lt (i := 8) ha b
    rw [show (2 : Nat) ^ 8 = 256 from rfl] at this
    rw [Nat.or_comm, ← this]; omega
  rw [e, wrap_id _ (by omega) (by omega)]
end Go.Proofs.Joy
namespace Go.Proofs.Joy
open Go.Ab Go.Proofs

set_option maxHeartbeats 1000000
set_option maxRecDepth 20000

theorem tile_entry (v : AV) (bs : List (BitVec 8)) (base line col : Int) (hb : 0 ≤ base ∧ base ≤ 14336) (hl : 0 ≤ line ∧ line < 28) (hc : 0 ≤ col ∧ col < 32) (H : Heap) (n : Nat) (K : AV → Heap → Nat → Prop) (hv : bytesIn H v bs) (hvok : v.ok n = true)
    (h : K (.tu [.i64 (entT bs (base + 64 * line + 2 * col)), .u8 (entH bs (base + 64 * line + 2 * col))]) H n) : ACalls Try.prog 62 [v, .i64 base, .i64 line, .i64 col] H n K := by
  refine ACalls.of_ev dr0 Try.func62 rfl (by decide +kernel) (by decide +kernel) (show 4 ≤ 39 by decide) (by simp [hv.ne]) fun wf => ?_
  have e1 : and64 base 16383 = base := by rw [show (16383 : Int) = ((2 ^ 14 - 1 : Nat) : Int) from rfl, and64_mask 14 (by decide)]; show base % 16384 = _; omega
  have e2 : and64 line 16383 = line := by rw [show (16383 : Int) = ((2 ^ 14 - 1 : Nat) : Int) from rfl, and64_mask 14 (by decide)]; show line % 16384 = _; omega
  have e3 : and64 col 16383 = col := by rw [show (16383 : Int) = ((2 ^ 14 - 1 : Nat) : Int) from rfl, and64_mask 14 (by decide)]; show col % 16384 = _; omega
  have w1 : wrap64 (wrap64 (base + wrap64 (line * 64)) + wrap64 (col * 2)) = base + 64 * line + 2 * col := by
    rw [wrap_id (line * 64) (by omega) (by omega), wrap_id (col * 2) (by omega) (by omega), wrap_id (base + _) (by omega) (by omega), wrap_id _ (by omega) (by omega)]; omega
  simp only [go_sem, Try.f62, e1, e2, e3, w1]
  generalize ha : base + 64 * line + 2 * col = a at h ⊢
  have wa : wrap64 (a + 1) = a + 1 := wrap_id _ (by omega) (by omega)
  refine tile_at v bs _ _ _ _ hv hvok ?_
  simp only [go_sem, wa]
  refine tile_at v bs _ _ _ _ hv hvok ?_
  have x1 := (atS bs a).isLt
  have x2 := (atS bs (a + 1)).isLt
  have w2 : wrap64 (((atS bs (a + 1)).toNat : Int) * 2 ^ 8) = ((256 * (atS bs (a + 1)).toNat : Nat) : Int) := by rw [wrap_id _ (by omega) (by omega)]; omega
  have o1 := or_hi _ _ x1 x2
  have hT : and64 ((entN bs a : Nat) : Int) 511 = entT bs a := by
    rw [show (511 : Int) = ((2 ^ 9 - 1 : Nat) : Int) from rfl, and64_mask 9 (by decide)]; unfold entT; omega
  have hE : BitVec.ofInt 8 (and64 (((entN bs a : Nat) : Int) / 2 ^ 9) 15) = entH bs a := by
    rw [show (15 : Int) = ((2 ^ 4 - 1 : Nat) : Int) from rfl, and64_mask 4 (by decide)]
    unfold entH
    rw [← BitVec.ofInt_natCast]
    congr 1
  unfold entN at hT hE
  simp only [go_sem, w2, o1, hT, hE]
  exact Fin.back wf h (fun _ _ => rfl) rfl
theorem sixty4 : ∀ b : BitVec 8, ((b / 64#8 % 2#8 == 1#8) = (b &&& 64#8 != 0#8)) := by decide
theorem hundred28 : ∀ b : BitVec 8, ((b / 128#8 == 1#8) = (b &&& 128#8 != 0#8)) := by decide

theorem back_source (regs : List (BitVec 8)) (hr : regs.length = 11) (line x : Int) (hl : 0 ≤ line ∧ line < 192) (hx : -100000 ≤ x ∧ x ≤ 100000) (H : Heap) (n : Nat) (K : AV → Heap → Nat → Prop)
    (h : K (.tu [.i64 (colS regs line x), .i64 (lowS regs line x)]) H n) : ACalls Try.prog 61 [.ag (regs.map .u8), .i64 line, .i64 x] H n K := by
  refine ACalls.of_awp Try.func61 rfl (by decide +kernel) (show 3 ≤ 50 by decide) (by simp) fun wf => ?_
  obtain ⟨r0, r1, r2, r3, r4, r5, r6, r7, r8, r9, r10, rfl⟩ := regs11 hr
  have hl1 : ¬ line < 0 := by omega
  have hl2 : ¬ 192 ≤ line := by omega
  have y8 := r8.isLt
  have y9 := r9.isLt
  have e1 : and64 x 255 = x % 256 := and64_mask 8 (by decide) x
  have e2 : and64 (wrap64 (x % 256 - r8.toNat)) 255 = (x % 256 - r8.toNat) % 256 := by rw [wrap_id _ (by omega) (by omega)]; exact and64_mask 8 (by decide) _
  have e3 : (wrap64 (line + r9.toNat)).tmod 224 = (line + r9.toNat) % 224 := by rw [wrap_id _ (by omega) (by omega), Int.tmod_eq_emod_of_nonneg (by omega)]
  refine awp_step dr61 (by decide +kernel) ?_
  simp only [go_sem, Try.f61, List.map_cons, List.map_nil]
  refine awp_gen (fun X => X.wf (n + 1) ∧ X n = some ⟨[.u8 r0, .u8 r1, .u8 r2, .u8 r3, .u8 r4, .u8 r5, .u8 r6, .u8 r7, .u8 r8, .u8 r9, .u8 r10], 66, false⟩ ∧ ∀ k, k < n → X k = H k) ⟨Heap.wf_upd wf (map_u8_ok (bs := [r0, r1, r2, r3, r4, r5, r6, r7, r8, r9, r10])), Heap.upd_same _ _ _, fun k hk => Heap.upd_ne _ _ (by omega)⟩ ?_
  rintro X ⟨xw, x0, xo⟩
  refine awp_step dr61 (by decide +kernel) ?_
  simp only [go_sem, hl1, hl2]
  refine awp_step dr61 (by decide +kernel) ?_
  simp only [go_sem, e1]
  refine awp_step dr61 (by decide +kernel) ?_
  simp only [go_sem, x0, e2, e3]
  refine awp_step dr61 (by decide +kernel) ?_
  simp only [go_sem, x0]
  have hA : (r0 &&& 64#8 != 0#8) = true → line < 16 → colS [r0, r1, r2, r3, r4, r5, r6, r7, r8, r9, r10] line x = x % 256 := fun a b => if_pos ⟨by simpa using a, b⟩
  have hB : (r0 &&& 64#8 != 0#8) = false ∨ ¬ line < 16 → colS [r0, r1, r2, r3, r4, r5, r6, r7, r8, r9, r10] line x = (x % 256 - r8.toNat) % 256 := fun a => if_neg (fun c => by
    rcases a with a | a
    · exact c.1 (by simpa using a)
    · exact a c.2)
  have hC : (r0 &&& 128#8 != 0#8) = true → 192 ≤ x % 256 → lowS [r0, r1, r2, r3, r4, r5, r6, r7, r8, r9, r10] line x = line := fun a b => if_pos ⟨by simpa using a, b⟩
  have hD : (r0 &&& 128#8 != 0#8) = false ∨ ¬ 192 ≤ x % 256 → lowS [r0, r1, r2, r3, r4, r5, r6, r7, r8, r9, r10] line x = (line + r9.toNat) % 224 := fun a => if_neg (fun c => by
    rcases a with a | a
    · exact c.1 (by simpa using a)
    · exact a c.2)
  generalize colS [r0, r1, r2, r3, r4, r5, r6, r7, r8, r9, r10] line x = cc at h hA hB
  generalize lowS [r0, r1, r2, r3, r4, r5, r6, r7, r8, r9, r10] line x = ll at h hC hD
  have two : ∀ c : Int, c = cc → ((r0 &&& 128#8 != 0#8) = true → 192 ≤ x % 256 → K (.tu [.i64 c, .i64 line]) H n) ∧ ((r0 &&& 128#8 != 0#8) = false ∨ ¬ 192 ≤ x % 256 → K (.tu [.i64 c, .i64 ((line + r9.toNat) % 224)]) H n) := fun c hc => by
    subst hc
    exact ⟨fun a b => by rw [← hC a b]; exact h, fun a => by rw [← hD a]; exact h⟩
  refine ⟨fun a1 => ⟨fun a2 => ?_, fun a2 => ?_⟩, fun a1 => ?_⟩
  · obtain ⟨k1, k2⟩ := two _ (hA a1 a2).symm
    refine awp_step dr61 (by decide +kernel) ?_
    simp only [go_sem, x0]
    refine ⟨fun b1 => ⟨fun b2 => ?_, fun b2 => ?_⟩, fun b1 => ?_⟩ <;> refine awp_ev dr0 (by decide +kernel) ?_ <;> simp only [go_sem]
    · exact Fin.back wf (k1 b1 b2) xo rfl
    · exact Fin.back wf (k2 (.inr b2)) xo rfl
    · exact Fin.back wf (k2 (.inl b1)) xo rfl
  · obtain ⟨k1, k2⟩ := two _ (hB (.inr a2)).symm
    refine awp_step dr61 (by decide +kernel) ?_
    simp only [go_sem, x0]
    refine ⟨fun b1 => ⟨fun b2 => ?_, fun b2 => ?_⟩, fun b1 => ?_⟩ <;> refine awp_ev dr0 (by decide +kernel) ?_ <;> simp only [go_sem]
    · exact Fin.back wf (k1 b1 b2) xo rfl
    · exact Fin.back wf (k2 (.inr b2)) xo rfl
    · exact Fin.back wf (k2 (.inl b1)) xo rfl
  · obtain ⟨k1, k2⟩ := two _ (hB (.inl a1)).symm
    refine awp_step dr61 (by decide +kernel) ?_
    simp only [go_sem, x0]
    refine ⟨fun b1 => ⟨fun b2 => ?_, fun b2 => ?_⟩, fun b1 => ?_⟩ <;> refine awp_ev dr0 (by decide +kernel) ?_ <;> simp only [go_sem]
    · exact Fin.back wf (k1 b1 b2) xo rfl
    · exact Fin.back wf (k2 (.inr b2)) xo rfl
    · exact Fin.back wf (k2 (.inl b1)) xo rfl

end Go.Proofs.Joy
namespace Go.Proofs.Joy
open Go.Ab

set_option maxHeartbeats 1000000
set_option maxRecDepth 20000

theorem colS_le (regs : List (BitVec 8)) (line x : Int) : 0 ≤ colS regs line x ∧ colS regs line x < 256 := by
  unfold colS; split <;> omega
theorem lowS_le (regs : List (BitVec 8)) (line x : Int) (h : 0 ≤ line ∧ line < 192) : 0 ≤ lowS regs line x ∧ lowS regs line x < 224 := by
  unfold lowS; split <;> omega
theorem tabS_le (regs : List (BitVec 8)) : 0 ≤ tabS regs ∧ tabS regs ≤ 14336 := by
  unfold tabS
  have : (regs.getD 2 0#8 &&& 14#8).toNat ≤ 14 := by rw [BitVec.toNat_and]; exact Nat.and_le_right
  omega
theorem tab8 : ∀ b : BitVec 8, (b / 2#8 % 8#8 * 2#8) = b &&& 14#8 := by decide
theorem how2 : ∀ b : BitVec 8, ((b / 2#8 % 2#8 == 1#8) = (b &&& 2#8 != 0#8)) := by decide
theorem how1 : ∀ b : BitVec 8, ((b % 2#8 == 1#8) = (b &&& 1#8 != 0#8)) := by decide
theorem how4 : ∀ b : BitVec 8, (16#8 * (b / 4#8 % 2#8) = if b &&& 4#8 = 0#8 then 0#8 else 16#8) := by decide
theorem how8 : ∀ b : BitVec 8, b.toNat < 16 → ((b / 8#8 == 1#8) = (b &&& 8#8 != 0#8)) := by decide
theorem entH_lt (v : List (BitVec 8)) (a : Int) : (entH v a).toNat < 16 := by
  unfold entH; rw [BitVec.toNat_ofNat]; omega

end Go.Proofs.Joy
namespace Go.Proofs.Joy
open Go.Ab Go.Proofs

set_option maxHeartbeats 1000000
set_option maxRecDepth 20000

def grdB (C : List (BitVec 8)) (F : List Bool) : Blk := ⟨C.map .u8 ++ F.map .bo, 86, false⟩
theorem grdB_ok (C : List (BitVec 8)) (F : List Bool) (n : Nat) : ∀ v ∈ (grdB C F).cells, v.ok n = true := by
  intro v hv
  simp only [grdB, List.mem_append, List.mem_map] at hv
  rcases hv with ⟨x, -, rfl⟩ | ⟨x, -, rfl⟩ <;> rfl
theorem back_source' (regs : List (BitVec 8)) (hr : regs.length = 11) (line x : Int) (hl : 0 ≤ line ∧ line < 192) (hx : -100000 ≤ x ∧ x ≤ 100000) (H : Heap) (n : Nat) (K : AV → Heap → Nat → Prop)
    (h : ∀ c l : Int, c = colS regs line x → l = lowS regs line x → K (.tu [.i64 c, .i64 l]) H n) : ACalls Try.prog 61 [.ag (regs.map .u8), .i64 line, .i64 x] H n K := back_source regs hr line x hl hx H n K (h _ _ rfl rfl)
theorem tile_entry' (v : AV) (bs : List (BitVec 8)) (base line col : Int) (hb : 0 ≤ base ∧ base ≤ 14336) (hl : 0 ≤ line ∧ line < 28) (hc : 0 ≤ col ∧ col < 32) (H : Heap) (n : Nat) (K : AV → Heap → Nat → Prop) (hv : bytesIn H v bs) (hvok : v.ok n = true)
    (h : ∀ (tn : Int) (how : BitVec 8), tn = entT bs (base + 64 * line + 2 * col) → how = entH bs (base + 64 * line + 2 * col) → how.toNat < 16 → K (.tu [.i64 tn, .u8 how]) H n) : ACalls Try.prog 62 [v, .i64 base, .i64 line, .i64 col] H n K :=
  tile_entry v bs base line col hb hl hc H n K hv hvok (h _ _ rfl rfl (entH_lt _ _))

/-- While a line of the ground is laid. -/
structure BL where
  j : Nat
  known : Int
  how : BitVec 8
  D : List (BitVec 8)
  X : Heap
structure BI (bs regs : List (BitVec 8)) (line : Int) (H : Heap) (n : Nat) (t : BL) : Prop where
  j : t.j ≤ 256
  wf : t.X.wf (n + 4)
  r : t.X n = some ⟨regs.map .u8, 66, false⟩
  o : t.X (n + 1) = some (grdB (List.replicate 256 0#8) (List.replicate 256 false))
  c : ∃ C F, C.length = 256 ∧ F.length = 256 ∧ (∀ k, k < t.j → C.getD k 0#8 = gcolS bs regs line k) ∧ (∀ k, k < t.j → F.getD k false = gfrS bs regs line k) ∧ t.X (n + 2) = some (grdB C F)
  d : t.X (n + 3) = some ⟨t.D.map .u8, 90, false⟩
  l : t.D.length = 8
  k : t.known = -1 ∨ ∃ row c8 : Int, 0 ≤ row ∧ row < 224 ∧ 0 ≤ c8 ∧ c8 < 32 ∧ t.known = row * 256 + c8 ∧ t.how = howS bs regs row c8 ∧ t.D = seenS bs regs row c8
  old : ∀ k, k < n → t.X k = H k

theorem back_line (v : AV) (bs regs : List (BitVec 8)) (hr : regs.length = 11) (line : Int) (hl : 0 ≤ line ∧ line < 192) (H : Heap) (n : Nat) (K : AV → Heap → Nat → Prop) (hv : bytesIn H v bs)
    (h : ∀ (C : List (BitVec 8)) (F : List Bool), C.length = 256 → F.length = 256 → (∀ k, k < 256 → C.getD k 0#8 = gcolS bs regs line k) → (∀ k, k < 256 → F.getD k false = gfrS bs regs line k) → K (.ag (C.map .u8 ++ F.map .bo)) H n) :
    ACalls Try.prog 59 [v, .ag (regs.map .u8), .i64 line] H n K := by
  refine ACalls.of_awp Try.func59 rfl (by decide +kernel) (show 3 ≤ 106 by decide) (by simp [hv.ne]) fun wf => ?_
  have hvok : v.ok n = true := by
    rcases hv with ⟨rfl, rfl⟩ | ⟨su, b, o, c, blk, rfl, h0, h1, h2, h3⟩
    · rfl
    · exact vw_ok (wf b _ h1).1
  have hl1 : ¬ line < 0 := by omega
  have hl2 : ¬ 192 ≤ line := by omega
  have ht := tabS_le regs
  obtain ⟨r0, r1, r2, r3, r4, r5, r6, r7, r8, r9, r10, hregs⟩ := regs11 hr
  have hr2 : regs.getD 2 0#8 = r2 := by rw [hregs]; rfl
  have hm : regs.map AV.u8 = [.u8 r0, .u8 r1, .u8 r2, .u8 r3, .u8 r4, .u8 r5, .u8 r6, .u8 r7, .u8 r8, .u8 r9, .u8 r10] := by rw [hregs]; rfl
  have e0 : wrap64 (((r2 &&& 14#8).toNat : Int) * 2 ^ 10) = tabS regs := by
    have : (r2 &&& 14#8).toNat ≤ 14 := by rw [BitVec.toNat_and]; exact Nat.and_le_right
    unfold tabS; rw [hr2, wrap_id _ (by omega) (by omega)]; omega
  rw [hm]
  refine awp_step dr0 (by decide +kernel) ?_
  simp only [go_sem, Try.f59]
  refine awp_step dr0 (by decide +kernel) ?_
  simp only [go_sem]
  refine awp_step dr0 (by decide +kernel) ?_
  simp only [go_sem, hl1, hl2]
  have hgc : ∀ X : Heap, X = (((H.upd n (some ⟨[.u8 r0, .u8 r1, .u8 r2, .u8 r3, .u8 r4, .u8 r5, .u8 r6, .u8 r7, .u8 r8, .u8 r9, .u8 r10], 66, false⟩)).upd (n + 1) (some ⟨List.replicate 256 (.u8 0#8) ++ List.replicate 256 (.bo false), 86, false⟩)).upd (n + 2) (some ⟨List.replicate 256 (.u8 0#8) ++ List.replicate 256 (.bo false), 86, false⟩)) →
      X.wf (n + 3) ∧ X n = some ⟨regs.map .u8, 66, false⟩ ∧ X (n + 1) = some (grdB (List.replicate 256 0#8) (List.replicate 256 false)) ∧ X (n + 2) = some (grdB (List.replicate 256 0#8) (List.replicate 256 false)) ∧ ∀ k, k < n → X k = H k := fun X hX => by
    subst hX
    have er : ∀ k, List.replicate k (AV.u8 0#8) ++ List.replicate k (AV.bo false) = (grdB (List.replicate k 0#8) (List.replicate k false)).cells := fun k => by simp only [grdB, List.map_replicate]
    refine ⟨Heap.wf_upd (Heap.wf_upd (Heap.wf_upd wf (by rw [← hm]; exact map_u8_ok)) (by rw [er]; exact grdB_ok _ _ _)) (by rw [er]; exact grdB_ok _ _ _), ?_, ?_, ?_, fun k hk => ?_⟩
    · rw [Heap.upd_ne _ _ (by omega), Heap.upd_ne _ _ (by omega), Heap.upd_same, hm]
    · rw [Heap.upd_ne _ _ (by omega), Heap.upd_same, er]; rfl
    · rw [Heap.upd_same, er]; rfl
    · rw [Heap.upd_ne _ _ (by omega), Heap.upd_ne _ _ (by omega), Heap.upd_ne _ _ (by omega)]
  refine awp_gen (fun X => X.wf (n + 3) ∧ X n = some ⟨regs.map .u8, 66, false⟩ ∧ X (n + 1) = some (grdB (List.replicate 256 0#8) (List.replicate 256 false)) ∧ X (n + 2) = some (grdB (List.replicate 256 0#8) (List.replicate 256 false)) ∧ ∀ k, k < n → X k = H k) (hgc _ rfl) ?_
  rintro X ⟨xw, x0, x1, x2, xo⟩
  rw [hm] at x0
  refine awp_step dr0 (by decide +kernel) ?_
  simp only [go_sem, x0, e0]
  refine awp_step dr0 (by decide +kernel) ?_
  simp only [go_sem]
  refine awp_step dr0 (by decide +kernel) ?_
  simp only [go_sem]
  refine awp_seqF (S := BL) (fun _ => [(6, .pt (n + 1) 0), (7, .pt (n + 2) 0)]) (fun t => t.X) (fun _ => n + 4) (fun t => BI bs regs line H n t ∧ t.j = 256) (fun t ht => ⟨ht.1.wf, Env.okAt_of2 (by simp [AV.ok])⟩) ?_ ?_
  · refine awp_step dr0 (by decide +kernel) ?_
    simp only [go_sem]
    refine awp_block ?_
    refine awp_loopF (S := BL) (fun t => [(0, v), (2, .i64 line), (4, .pt n 0), (6, .pt (n + 1) 0), (7, .pt (n + 2) 0), (8, .i64 (tabS regs)), (9, .pt (n + 3) 0), (10, .u8 t.how), (11, .i64 t.known), (32, .i64 t.j)]) (fun t => t.X) (fun _ => n + 4) (fun t => BI bs regs line H n t) (fun t => 256 - t.j)
      (fun t ht => ⟨ht.wf, Env.okAt_of2 (by simp [AV.ok, AV.ok_mono (show n ≤ n + 4 by omega) _ hvok])⟩) ?_ (⟨0, -1, 0#8, List.replicate 8 0#8, X.upd (n + 3) (some ⟨(List.replicate 8 0#8).map .u8, 90, false⟩)⟩ : BL) ?_ (by repeat (first | exact Env.le_nil _ | refine Env.le_cons rfl ?_)) (fun _ _ => rfl) rfl
    · rintro ⟨j, kn, how, D, Y⟩ hI
      have hj : j ≤ 256 := hI.j
      have hy0 := hI.r
      rw [hm] at hy0
      have hvY := hv.mono hvok hI.old
      have hvok4 : v.ok (n + 4) = true := AV.ok_mono (by omega) _ hvok
      simp only at hy0 hvY ⊢
      refine awp_step dr0 (by decide +kernel) ?_
      simp only [go_sem]
      refine awp_step dr0 (by decide +kernel) ?_
      simp only [go_sem]
      refine ⟨fun hlt => ?_, fun hlt => ?_⟩
      · have hj' : j < 256 := by omega
        have w1 : wrap64 ((j : Int) + 1) = ((j + 1 : Nat) : Int) := by rw [wrap_id _ (by omega) (by omega)]; omega
        refine awp_seq (awp_block ?_)
        refine awp_step dr0 (by decide +kernel) ?_
        simp only [go_sem]
        refine awp_step dr0 (by decide +kernel) ?_
        simp only [go_sem, hy0]
        rw [← hm]
        refine back_source' regs hr line j hl (by omega) _ _ _ ?_
        intro cx lw ecx elw
        have hc := colS_le regs line j
        have hw := lowS_le regs line j hl
        rw [← ecx] at hc
        rw [← elw] at hw
        simp only [go_sem]
        have d1 : wrap64 (lw.tdiv 8) = lw / 8 := by rw [Int.tdiv_eq_ediv_of_nonneg (by omega), wrap_id _ (by omega) (by omega)]
        have d2 : wrap64 (cx.tdiv 8) = cx / 8 := by rw [Int.tdiv_eq_ediv_of_nonneg (by omega), wrap_id _ (by omega) (by omega)]
        have m1 : lw.tmod 8 = lw % 8 := by rw [Int.tmod_eq_emod_of_nonneg (by omega)]
        have m2 : cx.tmod 8 = cx % 8 := by rw [Int.tmod_eq_emod_of_nonneg (by omega)]
        have wp : wrap64 (wrap64 (lw * 256) + cx / 8) = lw * 256 + cx / 8 := by rw [wrap_id (lw * 256) (by omega) (by omega), wrap_id _ (by omega) (by omega)]
        refine awp_seqF (S := BL) (fun t => [(0, v), (2, .i64 line), (4, .pt n 0), (6, .pt (n + 1) 0), (7, .pt (n + 2) 0), (8, .i64 (tabS regs)), (9, .pt (n + 3) 0), (10, .u8 t.how), (11, .i64 t.known), (12, .i64 j), (13, .i64 cx), (32, .i64 j)]) (fun t => t.X) (fun _ => n + 4)
          (fun t => BI bs regs line H n t ∧ t.j = j ∧ t.how = howS bs regs lw (cx / 8) ∧ t.D = seenS bs regs lw (cx / 8)) (fun t ht => ⟨ht.1.wf, Env.okAt_of2 (by simp [AV.ok, hvok4])⟩) ?_ ?_
        · refine awp_ev dr0 (by decide +kernel) ?_
          simp only [go_sem, d2, wp]
          refine ⟨fun hne => ?_, fun heq => ?_⟩
          · rw [d1]
            refine tile_entry' v bs (tabS regs) _ _ ht (by omega) (by omega) _ _ _ hvY hvok4 ?_
            intro tn hw8 et eh hh
            have w7 : wrap64 (7 - lw % 8) = 7 - lw % 8 := wrap_id _ (by omega) (by omega)
            have i1 : (hw8 &&& 2#8 != 0#8) = true → inS hw8 lw = 7 - lw % 8 := fun a => if_neg (by simpa using a)
            have i2 : (hw8 &&& 2#8 != 0#8) = false → inS hw8 lw = lw % 8 := fun a => if_pos (by simpa using a)
            simp only [go_sem, m1, w7]
            have tail : ∀ r, r = inS hw8 lw → (rowS bs (firstS tn r) (hw8 &&& 1#8 != 0#8)) = seenS bs regs lw (cx / 8) ∧ hw8 = howS bs regs lw (cx / 8) := fun r hr' => by
              have e1 : decide (hw8 &&& 1#8 ≠ 0#8) = (hw8 &&& 1#8 != 0#8) := by by_cases c : hw8 &&& 1#8 = 0#8 <;> simp [c]
              constructor
              · unfold seenS plcS
                simp only
                rw [hr', ← e1, et, eh]
              · unfold howS plcS; exact eh
            have hD8 : ∀ r, (rowS bs (firstS tn r) (hw8 &&& 1#8 != 0#8)).length = 8 := fun r => by simp [rowS]
            have hyd : Y (n + 3) = some ⟨D.map .u8, 90, false⟩ := hI.d
            have hDl : D.length = 8 := hI.l
            have es : ∀ r : List (BitVec 8), r.length = 8 → splice (D.map AV.u8) 0 (r.map AV.u8) = r.map AV.u8 := fun r hr' => by simp [splice, hDl, hr']
            have sI : ∀ r, r = inS hw8 lw → BI bs regs line H n ⟨j, lw * 256 + cx / 8, hw8, rowS bs (firstS tn r) (hw8 &&& 1#8 != 0#8), Y.upd (n + 3) (some ⟨(rowS bs (firstS tn r) (hw8 &&& 1#8 != 0#8)).map .u8, 90, false⟩)⟩ := fun r hr' => by
              obtain ⟨t1, t2⟩ := tail r hr'
              obtain ⟨C, F, c1, c2, c3, c4, c5⟩ := hI.c
              exact ⟨hI.j, Heap.wf_set hI.wf (by omega) map_u8_ok, by rw [← hI.r]; exact Heap.upd_ne _ _ (by omega), by rw [← hI.o]; exact Heap.upd_ne _ _ (by omega), ⟨C, F, c1, c2, c3, c4, by rw [← c5]; exact Heap.upd_ne _ _ (by omega)⟩,
                Heap.upd_same _ _ _, hD8 r, .inr ⟨lw, cx / 8, hw.1, hw.2, by omega, by omega, rfl, t2, t1⟩, fun k hk => by rw [← hI.old k hk]; exact Heap.upd_ne _ _ (by omega)⟩
            refine ⟨fun a => ?_, fun a => ?_⟩
            · refine tile_row v bs _ _ _ _ _ _ hvY ?_
              simp only [go_sem, hyd, hDl, hD8, es, List.length_map]
              obtain ⟨t1, t2⟩ := tail _ (i1 a).symm
              exact Ends.mk (⟨j, lw * 256 + cx / 8, hw8, rowS bs (firstS tn (7 - lw % 8)) (hw8 &&& 1#8 != 0#8), Y.upd (n + 3) (some ⟨(rowS bs (firstS tn (7 - lw % 8)) (hw8 &&& 1#8 != 0#8)).map .u8, 90, false⟩)⟩ : BL) ⟨sI _ (i1 a).symm, rfl, t2, t1⟩ (by repeat (first | exact Env.le_nil _ | refine Env.le_cons rfl ?_)) (fun _ _ => rfl) (Nat.le_refl _) (Nat.le_refl _)
            · refine tile_row v bs _ _ _ _ _ _ hvY ?_
              simp only [go_sem, hyd, hDl, hD8, es, List.length_map]
              obtain ⟨t1, t2⟩ := tail _ (i2 a).symm
              exact Ends.mk (⟨j, lw * 256 + cx / 8, hw8, rowS bs (firstS tn (lw % 8)) (hw8 &&& 1#8 != 0#8), Y.upd (n + 3) (some ⟨(rowS bs (firstS tn (lw % 8)) (hw8 &&& 1#8 != 0#8)).map .u8, 90, false⟩)⟩ : BL) ⟨sI _ (i2 a).symm, rfl, t2, t1⟩ (by repeat (first | exact Env.le_nil _ | refine Env.le_cons rfl ?_)) (fun _ _ => rfl) (Nat.le_refl _) (Nat.le_refl _)
          · have heq' : lw * 256 + cx / 8 = kn := by simpa using heq
            rcases hI.k with hk | ⟨row, c8, k1, k2, k3, k4, k5, k6, k7⟩
            · simp only at hk; omega
            simp only at k5 k6 k7
            have e1 : row = lw := by omega
            have e2 : c8 = cx / 8 := by omega
            subst e1 e2
            exact Ends.mk (⟨j, kn, how, D, Y⟩ : BL) ⟨hI, rfl, k6, k7⟩ (by repeat (first | exact Env.le_nil _ | refine Env.le_cons rfl ?_)) (fun _ _ => rfl) (Nat.le_refl _) (Nat.le_refl _)
        clear hI hy0 hvY
        rintro ⟨j', kn, how, D, Z⟩ ⟨hI, hjj, eh, eD⟩
        simp only at eh eD hI hjj ⊢
        replace hjj := hjj.symm
        subst hjj
        obtain ⟨c, hcn⟩ : ∃ c : Nat, cx % 8 = (c : Int) := ⟨(cx % 8).toNat, by omega⟩
        have hc8 : c < 8 := by omega
        have hc8' : (c : Int) < 8 := by omega
        have hDl : D.length = 8 := hI.l
        have hzd : Z (n + 3) = some ⟨D.map .u8, 90, false⟩ := hI.d
        obtain ⟨C, F, c1, c2, c3, c4, c5⟩ := hI.c
        simp only at c3 c4 c5
        have c5' : Z (n + 2) = some ⟨C.map .u8 ++ F.map .bo, 86, false⟩ := c5
        have gD : (D.map AV.u8).getD c .junk = .u8 (gdotS bs regs line j) := by
          rw [getD_map_u8' (by omega)]
          unfold gdotS; rw [← ecx, ← elw, hcn, Int.toNat_natCast, eD]
        have eg : how = ghowS bs regs line j := by unfold ghowS; rw [← ecx, ← elw]; exact eh
        have ec : ∀ d hw8, d = gdotS bs regs line j → hw8 = ghowS bs regs line j → gcolS bs regs line j = d + (if hw8 &&& 4#8 = 0#8 then 0#8 else 16#8) ∧ gfrS bs regs line j = (decide (hw8 &&& 8#8 ≠ 0#8) && decide (d ≠ 0#8)) := fun d hw8 h1 h2 => by subst h1 h2; exact ⟨rfl, rfl⟩
        obtain ⟨ec1, ec2⟩ := ec _ _ rfl eg
        generalize gdotS bs regs line j = d at gD ec1 ec2
        refine awp_step dr0 (by decide +kernel) ?_
        simp only [go_sem, m2, hcn, hzd, hc8, hc8', hDl, gD, List.length_map]
        have cl : ∀ C' : List (BitVec 8), C'.length = 256 → (C'.map AV.u8 ++ F.map AV.bo).length = 512 := fun C' hl => by rw [List.length_append, List.length_map, List.length_map, hl, c2]
        have cs : ∀ (C' : List (BitVec 8)) y, C'.length = 256 → (C'.map AV.u8 ++ F.map AV.bo).set j (.u8 y) = (C'.set j y).map AV.u8 ++ F.map AV.bo := fun C' y hl => by
          rw [List.set_append_left _ _ (by rw [List.length_map]; omega), List.map_set]
        have cg : ∀ (C' : List (BitVec 8)), C'.length = 256 → (C'.map AV.u8 ++ F.map AV.bo).getD j .junk = .u8 (C'.getD j 0#8) := fun C' hl => by
          rw [getD_app_l (by rw [List.length_map]; omega), getD_map_u8' (by omega)]
        have fs : ∀ (C' : List (BitVec 8)) y, C'.length = 256 → (C'.map AV.u8 ++ F.map AV.bo).set (256 + j) (.bo y) = C'.map AV.u8 ++ (F.set j y).map AV.bo := fun C' y hl => by
          rw [List.set_append_right _ _ (by rw [List.length_map]; omega), List.length_map, hl, show 256 + j - 256 = j by omega, List.map_set]
        have hj512 : j < 512 := by omega
        have hjI : (j : Int) < 256 := by omega
        have hj5 : 256 + j < 512 := by omega
        have sl : ∀ y, (C.set j y).length = 256 := fun y => by rw [List.length_set, c1]
        have sg : ∀ y, (C.set j y).getD j 0#8 = y := fun y => by rw [getD_set8]; rw [if_pos ⟨rfl, by omega⟩]
        refine awp_step dr0 (by decide +kernel) ?_
        simp only [go_sem, c5', hjI, hj512, cl C c1, cs C _ c1]
        refine ⟨by omega, ?_⟩
        refine awp_seqF (S := Unit) (fun _ => [(0, v), (2, .i64 line), (4, .pt n 0), (6, .pt (n + 1) 0), (7, .pt (n + 2) 0), (8, .i64 (tabS regs)), (9, .pt (n + 3) 0), (10, .u8 how), (11, .i64 kn), (12, .i64 j), (19, .u8 d), (32, .i64 j)]) (fun _ => Z.upd (n + 2) (some (grdB (C.set j (gcolS bs regs line j)) F))) (fun _ => n + 4) (fun _ => True)
          (fun _ _ => ⟨Heap.wf_set hI.wf (by omega) (grdB_ok _ _ _), Env.okAt_of2 (by simp [AV.ok, hvok4])⟩) ?_ ?_
        · refine awp_ev dr0 (by decide +kernel) ?_
          simp only [go_sem, hjI, hj512, cl _ (sl d), cg _ (sl d), sg, cs _ _ (sl d)]
          refine ⟨fun a => ?_, fun a => ?_⟩
          · refine ⟨by omega, ?_⟩
            rw [List.set_set]
            have e4 : gcolS bs regs line j = d + 16#8 := by rw [ec1, if_neg (by simpa using a)]
            exact Ends.mk () trivial (by repeat (first | exact Env.le_nil _ | refine Env.le_cons rfl ?_)) (fun k _ => by rw [e4]; rfl) (Nat.le_refl _) (Nat.le_refl _)
          · have e4 : gcolS bs regs line j = d := by rw [ec1, if_pos (by simpa using a)]; exact BitVec.add_zero d
            exact Ends.mk () trivial (by repeat (first | exact Env.le_nil _ | refine Env.le_cons rfl ?_)) (fun k _ => by rw [e4]; rfl) (Nat.le_refl _) (Nat.le_refl _)
        rintro - -
        have zu : (Z.upd (n + 2) (some (grdB (C.set j (gcolS bs regs line j)) F))) (n + 2) = some ⟨(C.set j (gcolS bs regs line j)).map .u8 ++ F.map .bo, 86, false⟩ := Heap.upd_same _ _ _
        have e5 : ∀ z, z = gfrS bs regs line j → BI bs regs line H n ⟨j + 1, kn, how, D, (Z.upd (n + 2) (some (grdB (C.set j (gcolS bs regs line j)) (F.set j z))))⟩ := fun z hz =>
          ⟨by simp only; omega, Heap.wf_set hI.wf (by omega) (grdB_ok _ _ _), by rw [← hI.r]; exact Heap.upd_ne _ _ (by omega), by rw [← hI.o]; exact Heap.upd_ne _ _ (by omega),
            ⟨C.set j (gcolS bs regs line j), F.set j z, sl _, by rw [List.length_set, c2], fun k hk => by
              simp only at hk
              rw [getD_set8]
              by_cases e : j = k
              · subst e; rw [if_pos ⟨rfl, by omega⟩]
              · rw [if_neg (fun x => e x.1)]; exact c3 k (by omega), fun k hk => by
              simp only at hk
              by_cases e : j = k
              · subst e; rw [hz]; simp [List.getD_eq_getElem?_getD, c2, hj']
              · rw [← c4 k (by omega)]; simp [List.getD_eq_getElem?_getD, List.getElem?_set, e], Heap.upd_same _ _ _⟩,
            by rw [← hI.d]; exact Heap.upd_ne _ _ (by omega), hI.l, hI.k, fun k hk => by rw [← hI.old k hk]; exact Heap.upd_ne _ _ (by omega)⟩
        have l2 : (C.set j (gcolS bs regs line j)).length = 256 := sl _
        generalize C.set j (gcolS bs regs line j) = C2 at zu e5 l2 ⊢
        have tail : ∀ z, z = gfrS bs regs line j → BI bs regs line H n ⟨j + 1, kn, how, D, (Z.upd (n + 2) (some ⟨C2.map .u8 ++ (F.set j z).map .bo, 86, false⟩))⟩ := e5
        refine awp_ev dr0 (by decide +kernel) ?_
        simp only [go_sem, zu, hjI, hj5, cl _ l2, fs _ _ l2, w1]
        have bd : (d != 0#8) = decide (d ≠ 0#8) := by by_cases c : d = 0#8 <;> simp [c]
        refine ⟨fun a => ⟨by omega, ?_⟩, fun a => ⟨by omega, ?_⟩⟩
        · refine awp_ev dr0 (by decide +kernel) ?_
          simp only [go_sem, w1]
          have a' : how &&& 8#8 ≠ 0#8 := by simpa using a
          refine Ends.mk (⟨j + 1, kn, how, D, Z.upd (n + 2) (some ⟨C2.map .u8 ++ (F.set j (d != 0#8)).map .bo, 86, false⟩)⟩ : BL) ⟨by simp only; omega, tail _ ?_⟩ (by repeat (first | exact Env.le_nil _ | refine Env.le_cons rfl ?_)) (fun k _ => ?_) (Nat.le_refl _) (Nat.le_refl _)
          · rw [ec2, decide_eq_true a', Bool.true_and, bd]
          · by_cases hk : k = n + 2
            · subst hk; simp only [Heap.upd_same]
            · simp only [Heap.upd_ne _ _ hk]
        · refine awp_ev dr0 (by decide +kernel) ?_
          simp only [go_sem, w1]
          have a' : ¬ how &&& 8#8 ≠ 0#8 := by simpa using a
          refine Ends.mk (⟨j + 1, kn, how, D, Z.upd (n + 2) (some ⟨C2.map .u8 ++ (F.set j false).map .bo, 86, false⟩)⟩ : BL) ⟨by simp only; omega, tail _ ?_⟩ (by repeat (first | exact Env.le_nil _ | refine Env.le_cons rfl ?_)) (fun k _ => ?_) (Nat.le_refl _) (Nat.le_refl _)
          · rw [ec2, decide_eq_false a', Bool.false_and]
          · by_cases hk : k = n + 2
            · subst hk; simp only [Heap.upd_same]
            · simp only [Heap.upd_ne _ _ hk]
      · have hj6 : j = 256 := by omega
        exact Ends.mk (⟨j, kn, how, D, Y⟩ : BL) ⟨hI, hj6⟩ (by repeat (first | exact Env.le_nil _ | refine Env.le_cons rfl ?_)) (fun _ _ => rfl) (Nat.le_refl _) (Nat.le_refl _)
    · have z8 : ((List.replicate 8 0#8).map AV.u8).length = 8 := rfl
      exact ⟨Nat.zero_le _, Heap.wf_upd xw map_u8_ok, by rw [hm, ← x0]; exact Heap.upd_ne _ _ (by omega), by rw [← x1]; exact Heap.upd_ne _ _ (by omega), ⟨_, _, List.length_replicate, List.length_replicate, fun k hk => absurd hk (Nat.not_lt_zero _), fun k hk => absurd hk (Nat.not_lt_zero _), by rw [← x2]; exact Heap.upd_ne _ _ (by omega)⟩,
        Heap.upd_same _ _ _, rfl, .inl rfl, fun k hk => by rw [← xo k hk]; exact Heap.upd_ne _ _ (by omega)⟩
  rintro ⟨j, kn, how, D, Y⟩ ⟨hI, hj6⟩
  simp only at hj6 hI ⊢
  subst hj6
  obtain ⟨C, F, c1, c2, c3, c4, c5⟩ := hI.c
  simp only at c3 c4 c5
  have c5' : Y (n + 2) = some ⟨C.map .u8 ++ F.map .bo, 86, false⟩ := c5
  have yo : Y (n + 1) = some ⟨(List.replicate 256 0#8).map .u8 ++ (List.replicate 256 false).map .bo, 86, false⟩ := hI.o
  have l1 : (C.map AV.u8 ++ F.map AV.bo).length = 512 := by rw [List.length_append, List.length_map, List.length_map, c1, c2]
  have l0 : ((List.replicate 256 0#8).map AV.u8 ++ (List.replicate 256 false).map AV.bo).length = 512 := by rw [List.length_append, List.length_map, List.length_map, List.length_replicate, List.length_replicate]
  have hk := h C F c1 c2 c3 c4
  have lok : AV.ok n (.ag (C.map AV.u8 ++ F.map AV.bo)) = true := by
    rw [AV.ok, AV.oks_eq]; simp [AV.ok, AV.one]
  generalize C.map AV.u8 ++ F.map AV.bo = L at c5' l1 hk lok
  generalize (List.replicate 256 0#8).map AV.u8 ++ (List.replicate 256 false).map AV.bo = L0 at yo l0
  refine awp_ev dr0 (by decide +kernel) ?_
  have es : splice L0 0 L = L := by simp [splice, l0, l1]
  have tk : L.take 512 = L := List.take_of_length_le (by omega)
  simp only [go_sem, c5', yo, l1, l0, es, tk]
  exact Fin.back wf hk (fun k hk => by rw [Heap.upd_ne _ _ (by omega)]; exact hI.old k hk) lok
end Go.Proofs.Joy
namespace Go.Proofs.Joy
open Go.Ab Go.Proofs

set_option maxHeartbeats 1000000
set_option maxRecDepth 20000

theorem line_paint (v : AV) (bs : List (BitVec 8)) (x : Int) (H : Heap) (n : Nat) (K : AV → Heap → Nat → Prop) (hv : bytesIn H v bs) (hvok : v.ok n = true) (h : K (.u8 (paintS bs x)) H n) : ACalls Try.prog 57 [v, .i64 x] H n K := by
  refine ACalls.of_ev dr0 Try.func57 rfl (by decide +kernel) (by decide +kernel) (show 2 ≤ 16 by decide) (by simp [hv.ne]) fun wf => ?_
  have hlb : ∀ K, lenB (some .slice) v K = K (.i64 bs.length) := lenB_bytes hv
  have e : and64 x 31 = x % 32 := and64_mask 5 (by decide) x
  have h0 := Int.emod_nonneg x (show (32 : Int) ≠ 0 by decide)
  simp only [go_sem, Try.f57, hlb, e]
  unfold paintS at h
  obtain ⟨k, hk⟩ := Int.eq_ofNat_of_zero_le h0
  rw [hk, Int.toNat_natCast] at h
  rw [hk]
  refine ⟨fun hlt => ?_, fun hlt => ?_⟩
  · have hk' : k < bs.length := by omega
    rcases hv with ⟨rfl, rfl⟩ | ⟨su, b, o, c, blk, rfl, g0, g1, g2, g3⟩
    · simp at hk'
    obtain ⟨q1, q2⟩ := cells_at g2 g3 hk'
    simp only [go_sem, g1, q1, q2, hlt, hk']
    exact Fin.back wf h (fun _ _ => rfl) rfl
  · rw [List.getD_eq_getElem?_getD, List.getElem?_eq_none (by omega)] at h
    exact Fin.back wf h (fun _ _ => rfl) rfl
theorem shows_ok (regs : List (BitVec 8)) (hr : regs.length = 11) (H : Heap) (n : Nat) (K : AV → Heap → Nat → Prop) (h : K (.bo (shownS regs)) H n) : ACalls Try.prog 58 [.ag (regs.map .u8)] H n K := by
  refine ACalls.of_ev dr0 Try.func58 rfl (by decide +kernel) (by decide +kernel) (show 1 ≤ 7 by decide) (by simp) fun wf => ?_
  simp only [go_sem, Try.f58]
  obtain ⟨r0, r1, r2, r3, r4, r5, r6, r7, r8, r9, r10, rfl⟩ := regs11 hr
  simp only [go_sem, Try.f58, List.map_cons, List.map_nil]
  have e : shownS [r0, r1, r2, r3, r4, r5, r6, r7, r8, r9, r10] = (r1 &&& 64#8 != 0#8) := by
    unfold shownS; show decide (r1 &&& 64#8 ≠ 0#8) = _
    by_cases c : r1 &&& 64#8 = 0#8 <;> simp [c]
  rw [e] at h
  exact Fin.back wf h (fun k hk => Heap.upd_ne _ _ (by omega)) rfl
end Go.Proofs.Joy
namespace Go.Proofs.Joy
open Go.Ab Go.Proofs

set_option maxHeartbeats 1000000
set_option maxRecDepth 20000

theorem dots_ok (v : AV) (bs regs : List (BitVec 8)) (hr : regs.length = 11) (i : Nat) (hi : i < 64) (line : Int) (hl : 0 ≤ line ∧ line < 192) (H : Heap) (n : Nat) (K : AV → Heap → Nat → Prop) (hv : bytesIn H v bs) (h : K (.ag ((dotsL bs regs i line).map .u8)) H n) :
    ACalls Try.prog 67 [v, .ag (regs.map .u8), .i64 i, .i64 line] H n K := by
  refine ACalls.of_awp Try.func67 rfl (by decide +kernel) (show 4 ≤ 57 by decide) (by simp [hv.ne]) fun wf => ?_
  have hvok : v.ok n = true := by
    rcases hv with ⟨rfl, rfl⟩ | ⟨su, b, o, c, blk, rfl, h0, h1, h2, h3⟩
    · rfl
    · exact vw_ok (wf b _ h1).1
  obtain ⟨r0, r1, r2, r3, r4, r5, r6, r7, r8, r9, r10, rfl⟩ := regs11 hr
  have hbl := baseS_le [r0, r1, r2, r3, r4, r5, r6, r7, r8, r9, r10]
  let R : List (BitVec 8) := [r0, r1, r2, r3, r4, r5, r6, r7, r8, r9, r10]
  have hRok : ∀ x ∈ (R.map AV.u8), x.ok (n + 1) = true := map_u8_ok
  have hZok : ∀ x ∈ ((List.replicate 8 0#8).map AV.u8), x.ok (n + 2) = true := map_u8_ok
  let G : Heap := (H.upd n (some ⟨R.map .u8, 66, false⟩)).upd (n + 1) (some ⟨(List.replicate 8 0#8).map .u8, 90, false⟩)
  have wfG : G.wf (n + 2) := Heap.wf_upd (Heap.wf_upd wf hRok) hZok
  have hvG : bytesIn G v bs := hv.mono hvok (fun k hk => by show ((H.upd n _).upd (n + 1) _) k = _; rw [Heap.upd_ne _ _ (by omega), Heap.upd_ne _ _ (by omega)])
  have hvok2 : v.ok (n + 2) = true := AV.ok_mono (by omega) _ hvok
  refine awp_step dr0 (by decide +kernel) ?_
  simp only [go_sem, Try.f67, List.map_cons, List.map_nil]
  refine awp_gen (fun X => X = G) rfl ?_
  rintro _ rfl
  have gn : G n = some ⟨R.map .u8, 66, false⟩ := by show ((H.upd n _).upd (n + 1) _) n = _; rw [Heap.upd_ne _ _ (by omega), Heap.upd_same]
  have gn1 : G (n + 1) = some ⟨(List.replicate 8 0#8).map .u8, 90, false⟩ := Heap.upd_same _ _ _
  refine awp_step dr0 (by decide +kernel) ?_
  simp only [go_sem, gn, R, List.map_cons, List.map_nil]
  have ht := topS_le (yS bs [r0, r1, r2, r3, r4, r5, r6, r7, r8, r9, r10] i)
  refine base_ok [r0, r1, r2, r3, r4, r5, r6, r7, r8, r9, r10] hr _ _ _ ?_
  have w1 : wrap64 (baseS [r0, r1, r2, r3, r4, r5, r6, r7, r8, r9, r10] + (i : Int)) = baseS [r0, r1, r2, r3, r4, r5, r6, r7, r8, r9, r10] + i := wrap_id _ (by omega) (by omega)
  simp only [go_sem]
  refine awp_step dr0 (by decide +kernel) ?_
  simp only [go_sem, w1]
  refine tile_at v bs _ _ _ _ hvG hvok2 ?_
  rw [show atS bs (baseS [r0, r1, r2, r3, r4, r5, r6, r7, r8, r9, r10] + (i : Int)) = yS bs [r0, r1, r2, r3, r4, r5, r6, r7, r8, r9, r10] i from rfl]
  simp only [go_sem]
  refine top_ok _ _ _ _ ?_
  have w2 : wrap64 (line - topS (yS bs [r0, r1, r2, r3, r4, r5, r6, r7, r8, r9, r10] i)) = line - topS (yS bs [r0, r1, r2, r3, r4, r5, r6, r7, r8, r9, r10] i) := wrap_id _ (by omega) (by omega)
  have w3 : wrap64 (wrap64 (wrap64 (baseS [r0, r1, r2, r3, r4, r5, r6, r7, r8, r9, r10] + 128) + wrap64 (2 * (i : Int))) + 1) = baseS [r0, r1, r2, r3, r4, r5, r6, r7, r8, r9, r10] + 128 + 2 * i + 1 := by
    rw [wrap_id (baseS _ + 128) (by omega) (by omega), wrap_id (2 * (i : Int)) (by omega) (by omega), wrap_id (_ + 2 * (i : Int)) (by omega) (by omega), wrap_id _ (by omega) (by omega)]
  simp only [go_sem, w2]
  refine awp_step dr0 (by decide +kernel) ?_
  simp only [go_sem, w3]
  refine tile_at v bs _ _ _ _ hvG hvok2 ?_
  simp only [go_sem]
  have hb := (atS bs (baseS [r0, r1, r2, r3, r4, r5, r6, r7, r8, r9, r10] + 128 + 2 * (i : Int) + 1)).isLt
  generalize hbe : atS bs (baseS [r0, r1, r2, r3, r4, r5, r6, r7, r8, r9, r10] + 128 + 2 * (i : Int) + 1) = nb at hb ⊢
  have hd : ∀ a b, numS bs [r0, r1, r2, r3, r4, r5, r6, r7, r8, r9, r10] i + (downS bs [r0, r1, r2, r3, r4, r5, r6, r7, r8, r9, r10] i line).tdiv 8 = a → (downS bs [r0, r1, r2, r3, r4, r5, r6, r7, r8, r9, r10] i line).tmod 8 = b →
      rowS bs (firstS a b) false = dotsL bs [r0, r1, r2, r3, r4, r5, r6, r7, r8, r9, r10] i line := fun a b ha hb => by subst ha hb; rfl
  have hD : -300 ≤ line - topS (yS bs [r0, r1, r2, r3, r4, r5, r6, r7, r8, r9, r10] i) ∧ line - topS (yS bs [r0, r1, r2, r3, r4, r5, r6, r7, r8, r9, r10] i) ≤ 300 := by omega
  have hnum : numS bs [r0, r1, r2, r3, r4, r5, r6, r7, r8, r9, r10] i = if r1 &&& 2#8 = 0#8 then ((nb.toNat + (if r6 &&& 4#8 = 0#8 then 0 else 256) : Nat) : Int) else ((nb.toNat + (if r6 &&& 4#8 = 0#8 then 0 else 256) - (nb.toNat + (if r6 &&& 4#8 = 0#8 then 0 else 256)) % 2 : Nat) : Int) := by
    unfold numS; simp only [hbe]; rfl
  have hdown : downS bs [r0, r1, r2, r3, r4, r5, r6, r7, r8, r9, r10] i line = if r1 &&& 1#8 = 0#8 then line - topS (yS bs [r0, r1, r2, r3, r4, r5, r6, r7, r8, r9, r10] i) else (line - topS (yS bs [r0, r1, r2, r3, r4, r5, r6, r7, r8, r9, r10] i)).tdiv 2 := rfl
  generalize line - topS (yS bs [r0, r1, r2, r3, r4, r5, r6, r7, r8, r9, r10] i) = D at hD hdown ⊢
  have b2 : -300 ≤ D.tdiv 2 ∧ D.tdiv 2 ≤ 300 := tdiv_bd _ _ _ hD
  have b8 : -300 ≤ D.tdiv 8 ∧ D.tdiv 8 ≤ 300 := tdiv_bd _ _ _ hD
  have b28 : -300 ≤ (D.tdiv 2).tdiv 8 ∧ (D.tdiv 2).tdiv 8 ≤ 300 := tdiv_bd _ _ _ b2
  have x1 : wrap64 (D.tdiv 2) = D.tdiv 2 := wrap_id _ (by omega) (by omega)
  have x2 : wrap64 (D.tdiv 8) = D.tdiv 8 := wrap_id _ (by omega) (by omega)
  have x3 : wrap64 ((D.tdiv 2).tdiv 8) = (D.tdiv 2).tdiv 8 := wrap_id _ (by omega) (by omega)
  have x4 : wrap64 ((nb.toNat : Int) + 256) = ((nb.toNat + 256 : Nat) : Int) := by rw [wrap_id _ (by omega) (by omega)]; omega
  have x5 : andNot64 ((nb.toNat + 256 : Nat) : Int) 1 = ((nb.toNat + 256 - (nb.toNat + 256) % 2 : Nat) : Int) := andNot_one _ (by omega)
  have x6 : andNot64 (nb.toNat : Int) 1 = ((nb.toNat - nb.toNat % 2 : Nat) : Int) := andNot_one _ (by omega)
  have fin : ∀ l, l = dotsL bs [r0, r1, r2, r3, r4, r5, r6, r7, r8, r9, r10] i line → ∀ X, Fin n (.ag (l.map .u8)) (G.upd (n + 1) X) (n + 2) K := fun l hl X => by
    subst hl
    exact Fin.back wf h (fun k hk => by rw [Heap.upd_ne _ _ (by omega)]; show ((H.upd n _).upd (n + 1) _) k = _; rw [Heap.upd_ne _ _ (by omega), Heap.upd_ne _ _ (by omega)]) rfl
  refine awp_ev dr0 (by decide +kernel) ?_
  simp only [go_sem, gn, R, List.map_cons, List.map_nil, x1, x2, x3, x4, x5, x6]
  refine ⟨fun a1 => ⟨fun a2 => ⟨fun a3 => ?_, fun a3 => ?_⟩, fun a2 => ⟨fun a3 => ?_, fun a3 => ?_⟩⟩, fun a1 => ⟨fun a2 => ⟨fun a3 => ?_, fun a3 => ?_⟩, fun a2 => ⟨fun a3 => ?_, fun a3 => ?_⟩⟩⟩
  all_goals
    simp only [bne_iff_ne, ne_eq, bne_eq_false_iff_eq] at a1 a2 a3
    simp only [a1, a2, a3, if_true, if_false, Nat.add_zero] at hnum hdown
    refine tile_row v bs _ _ _ _ _ _ hvG ?_
    rw [hd _ _ (by rw [hnum, hdown, wrap_id _ (by omega) (by omega)]) (by rw [hdown])]
    simp only [go_sem, gn1]
    have es : splice ((List.replicate 8 0#8).map AV.u8) 0 ((dotsL bs [r0, r1, r2, r3, r4, r5, r6, r7, r8, r9, r10] i line).map AV.u8) = (dotsL bs [r0, r1, r2, r3, r4, r5, r6, r7, r8, r9, r10] i line).map AV.u8 := by
      simp [splice, dotsL_len]
    rw [es, List.take_of_length_le (l := (dotsL bs [r0, r1, r2, r3, r4, r5, r6, r7, r8, r9, r10] i line).map AV.u8) (by rw [List.length_map, dotsL_len]; exact Nat.le_refl _)]
    exact ⟨by rw [List.length_map, dotsL_len], by decide, by rw [List.length_map, dotsL_len]; exact Nat.le_refl _, fin _ rfl _⟩
end Go.Proofs.Joy
namespace Go.Proofs.Joy
open Go.Ab Go.Proofs

set_option maxHeartbeats 1000000
set_option maxRecDepth 20000

def rowB (c : List (BitVec 8)) (o m : Bool) : Blk := ⟨c.map .u8 ++ [.bo o, .bo m], 88, false⟩
theorem rowB_ok (c : List (BitVec 8)) (o m : Bool) (n : Nat) : ∀ v ∈ (rowB c o m).cells, v.ok n = true := by
  intro v hv
  simp only [rowB, List.mem_append, List.mem_map, List.mem_cons, List.not_mem_nil, or_false] at hv
  rcases hv with ⟨x, -, rfl⟩ | rfl | rfl <;> rfl

theorem put_ok (b : Nat) (c : List (BitVec 8)) (hc : c.length = 256) (o m : Bool) (x : Int) (hx : x < 256) (d : BitVec 8) (H : Heap) (n : Nat) (K : AV → Heap → Nat → Prop) (hb : H b = some (rowB c o m))
    (h : K (.tu []) (H.upd b (some (rowB (putC c x d) o (putM c m x d)))) n) : ACalls Try.prog 68 [.pt b 0, .i64 x, .u8 d] H n K := by
  refine ACalls.of_awp Try.func68 rfl (by decide +kernel) (show 3 ≤ 31 by decide) (by simp) fun wf => ?_
  have hbn := (wf b _ hb).1
  have hb' : H b = some ⟨c.map .u8 ++ [.bo o, .bo m], 88, false⟩ := hb
  by_cases hz : d = 0#8 ∨ x < 0
  · rw [putC, putM, if_pos hz, if_pos hz, ← hb, Heap.upd_self rfl] at h
    refine awp_ev dr0 (by decide +kernel) ?_
    rcases hz with hz | hz
    · subst hz
      simp only [go_sem, Try.f68]
      exact Fin.back wf h (fun _ _ => rfl) rfl
    · have hz' : ¬ 0 ≤ x := by omega
      simp only [go_sem, hz, hz', Try.f68]
      exact ⟨fun _ => Fin.back wf h (fun _ _ => rfl) rfl, fun _ => Fin.back wf h (fun _ _ => rfl) rfl⟩
  · have hd : d ≠ 0#8 := fun e => hz (.inl e)
    obtain ⟨k, rfl⟩ := Int.eq_ofNat_of_zero_le (show 0 ≤ x by omega)
    have hk : k < 256 := by omega
    rw [putC, putM, if_neg hz, if_neg hz, Int.toNat_natCast] at h
    have gd : (c.map AV.u8 ++ [AV.bo o, AV.bo m]).getD k .junk = .u8 (c.getD k 0#8) := by
      rw [getD_app_l (by rw [List.length_map]; omega), getD_map_u8' (by omega)]
    refine awp_ev dr0 (by decide +kernel) ?_
    have hk0 : ¬ (k : Int) < 0 := by omega
    have hk1 : (k : Int) < 256 := by omega
    have hk2 : k < 258 := by omega
    simp only [go_sem, hb', gd, hk, hk0, hk1, hk2, hc, List.length_append, List.length_map, List.length_cons, List.length_nil, Try.f68]
    have s1 : (c.map AV.u8 ++ [AV.bo o, AV.bo m]).set 257 (AV.bo true) = c.map AV.u8 ++ [AV.bo o, AV.bo true] := by
      rw [List.set_append_right _ _ (by rw [List.length_map]; omega), List.length_map, hc]; rfl
    have s2 : ∀ y, (c.map AV.u8 ++ [AV.bo o, AV.bo m]).set k (AV.u8 y) = (c.set k y).map AV.u8 ++ [AV.bo o, AV.bo m] := fun y => by
      rw [List.set_append_left _ _ (by rw [List.length_map]; omega), List.map_set]
    rw [s1, s2]
    refine ⟨fun _ => ⟨fun a1 => ?_, fun a1 => ⟨by omega, ?_⟩⟩, fun a1 => absurd (by simpa using a1) hd⟩
    · simp only [bne_iff_ne, ne_eq] at a1
      rw [if_pos a1, if_pos a1] at h
      exact Fin.putb wf hbn (rowB_ok _ _ _ n) h (fun _ _ => rfl) rfl
    · simp only [bne_eq_false_iff_eq] at a1
      rw [if_neg (by simpa using a1), if_neg (by simpa using a1)] at h
      exact Fin.putb wf hbn (rowB_ok _ _ _ n) h (fun _ _ => rfl) rfl
end Go.Proofs.Joy
namespace Go.Proofs.Joy
open Go.Ab Go.Proofs

set_option maxHeartbeats 1000000
set_option maxRecDepth 20000

/-- What is known of memory while a row is made. -/
structure LI (H : Heap) (n m q : Nat) (regs : List (BitVec 8)) (L : List Nat) (o : Bool) (r : RowS) (X : Heap) : Prop where
  wf : X.wf m
  le : n + 3 ≤ m
  r0 : X n = some ⟨regs.map .u8, 66, false⟩
  r1 : X (n + 1) = some (rowB (List.replicate 256 0#8) false false)
  r2 : X (n + 2) = some (rowB r.c o r.m)
  old : ∀ k, k < n → X k = H k
  hits : L ≠ [] → n + 3 ≤ q ∧ q < m ∧ X q = some ⟨intsC L, 3, false⟩
theorem LI.put {H : Heap} {n m q : Nat} {regs : List (BitVec 8)} {L : List Nat} {o : Bool} {r : RowS} {X : Heap} (h : LI H n m q regs L o r X) (r' : RowS) (o' : Bool) : LI H n m q regs L o' r' (X.upd (n + 2) (some (rowB r'.c o' r'.m))) :=
  ⟨Heap.wf_set h.wf (by have := h.le; omega) (rowB_ok _ _ _ _), h.le, by rw [Heap.upd_ne _ _ (by omega)]; exact h.r0, by rw [Heap.upd_ne _ _ (by omega)]; exact h.r1, Heap.upd_same _ _ _,
   fun k hk => by rw [Heap.upd_ne _ _ (by omega)]; exact h.old k hk, fun hl => by obtain ⟨a, b, c⟩ := h.hits hl; exact ⟨a, b, by rw [Heap.upd_ne _ _ (by omega)]; exact c⟩⟩
theorem LI.bytes {H : Heap} {n m q : Nat} {regs : List (BitVec 8)} {L : List Nat} {o : Bool} {r : RowS} {X : Heap} (h : LI H n m q regs L o r X) {v : AV} {bs : List (BitVec 8)} (hv : bytesIn H v bs) (hvok : v.ok n = true) : bytesIn X v bs := hv.mono hvok h.old

structure LS where
  j : Nat
  X : Heap

theorem u8_oks (n : Nat) (l : List (BitVec 8)) : AV.oks n (l.map AV.u8) = true := by
  rw [AV.oks_eq, List.all_eq_true]; intro x hx; obtain ⟨y, -, rfl⟩ := List.mem_map.1 hx; rfl
theorem u8_one (l : List (BitVec 8)) : (l.map AV.u8).all AV.one = true := by
  rw [List.all_eq_true]; intro x hx; obtain ⟨y, -, rfl⟩ := List.mem_map.1 hx; rfl
theorem dots_av_ok (n : Nat) (l : List (BitVec 8)) : AV.ok n (.ag (l.map AV.u8)) = true := by rw [AV.ok, u8_oks, u8_one]; rfl

theorem line_ok (v : AV) (bs regs : List (BitVec 8)) (hr : regs.length = 11) (line : Int) (hln : -9223372036854775808 ≤ line ∧ line ≤ 9223372036854775807) (H : Heap) (n : Nat) (K : AV → Heap → Nat → Prop) (hv : bytesIn H v bs)
    (h : ∀ (H' : Heap) (m : Nat), n ≤ m → H'.wf m → (∀ i, i < n → H' i = H i) → K (.ag (rowB (spritesS bs regs line).c (decide (8 < (hitsS bs regs line).length)) (spritesS bs regs line).m).cells) H' m) : ACalls Try.prog 60 [v, .ag (regs.map .u8), .i64 line] H n K := by
  refine ACalls.of_awp Try.func60 rfl (by decide +kernel) (show 3 ≤ 83 by decide) (by simp [hv.ne]) fun wf => ?_
  have hvok : v.ok n = true := by
    rcases hv with ⟨rfl, rfl⟩ | ⟨su, b, o, c, blk, rfl, h0, h1, h2, h3⟩
    · rfl
    · exact vw_ok (wf b _ h1).1
  let Z : List (BitVec 8) := List.replicate 256 0#8
  refine awp_step dr0 (by decide +kernel) ?_
  simp only [go_sem, Try.f60]
  have hz : (⟨List.replicate 256 (AV.u8 0#8) ++ [AV.bo false, AV.bo false], 88, false⟩ : Blk) = rowB (List.replicate 256 0#8) false false := by
    unfold rowB; rw [List.map_replicate]
  have okR : ∀ x ∈ regs.map AV.u8, x.ok (n + 1) = true := map_u8_ok
  let G : Heap := ((H.upd n (some ⟨regs.map .u8, 66, false⟩)).upd (n + 1) (some (rowB (List.replicate 256 0#8) false false))).upd (n + 2) (some (rowB (List.replicate 256 0#8) false false))
  have wfG : G.wf (n + 3) := Heap.wf_upd (Heap.wf_upd (Heap.wf_upd wf okR) (rowB_ok _ _ _ _)) (rowB_ok _ _ _ _)
  have oldG : ∀ k, k < n → G k = H k := fun k hk => by
    show ((Heap.upd (Heap.upd H n _) (n + 1) _).upd (n + 2) _) k = _
    rw [Heap.upd_ne _ _ (by omega), Heap.upd_ne _ _ (by omega), Heap.upd_ne _ _ (by omega)]
  have g0 : G n = some ⟨regs.map .u8, 66, false⟩ := by
    show ((Heap.upd (Heap.upd H n _) (n + 1) _).upd (n + 2) _) n = _
    rw [Heap.upd_ne _ _ (by omega), Heap.upd_ne _ _ (by omega), Heap.upd_same]
  have g1 : G (n + 1) = some (rowB (List.replicate 256 0#8) false false) := by
    show ((Heap.upd (Heap.upd H n _) (n + 1) _).upd (n + 2) _) (n + 1) = _
    rw [Heap.upd_ne _ _ (by omega), Heap.upd_same]
  have g2 : G (n + 2) = some (rowB (List.replicate 256 0#8) false false) := Heap.upd_same _ _ _
  have hvG : bytesIn G v bs := hv.mono hvok oldG
  have hvok3 : v.ok (n + 3) = true := AV.ok_mono (by omega) _ hvok
  refine awp_scope ?_
  refine awp_step dr0 (by decide +kernel) ?_
  simp only [go_sem, hz]
  refine awp_gen (fun X => X = G) rfl ?_
  rintro _ rfl
  refine awp_step dr0 (by decide +kernel) ?_
  simp only [go_sem]
  refine awp_step dr0 (by decide +kernel) ?_
  simp only [go_sem, g0, hr, List.length_map, take_map_all hr]
  refine on_ok v bs regs hr line hln _ _ _ hvG ?_
  intro q H1 m hm wf1 old1 hout
  have r0 : H1 n = some ⟨regs.map .u8, 66, false⟩ := by rw [old1 n (by omega), g0]
  have r1 : H1 (n + 1) = some (rowB (List.replicate 256 0#8) false false) := by rw [old1 _ (by omega), g1]
  have r2 : H1 (n + 2) = some (rowB (List.replicate 256 0#8) false false) := by rw [old1 _ (by omega), g2]
  have r2' : H1 (n + 2) = some ⟨List.replicate 256 (AV.u8 0#8) ++ [AV.bo false, AV.bo false], 88, false⟩ := by rw [r2, hz]
  simp only [go_sem, r2']
  refine ⟨by rw [List.length_append, List.length_replicate]; decide, ?_⟩
  have hset : ∀ o : Bool, (List.replicate 256 (AV.u8 0#8) ++ [AV.bo false, AV.bo false]).set 256 (AV.bo o) = (rowB (List.replicate 256 0#8) o false).cells := fun o => by
    rw [List.set_append_right _ _ (by rw [List.length_replicate]; exact Nat.le_refl _), List.length_replicate]; unfold rowB; rw [List.map_replicate]; rfl
  generalize hL : (hitsS bs regs line).take 8 = L at hout ⊢
  have hrow : spritesS bs regs line = rowTo bs regs line L ⟨List.replicate 256 0#8, false⟩ := by unfold spritesS; rw [hL]
  have hLb : ∀ i ∈ L, i < 64 := fun i hi => by rw [← hL] at hi; exact hitsS_lt (List.mem_of_mem_take hi)
  have hLl : L ≠ [] → 0 ≤ line ∧ line < 192 := fun hn => hitsS_line (fun he => hn (by rw [← hL, he]; rfl))
  have hL8 : L.length ≤ 8 := by rw [← hL, List.length_take]; exact Nat.min_le_left _ _
  generalize decide (8 < (hitsS bs regs line).length) = o at h ⊢
  rw [hrow] at h
  refine awp_gen (LI H n m q regs L o ⟨List.replicate 256 0#8, false⟩) ?_ ?_
  · rw [hset]
    exact LI.put (o := false) (r := ⟨List.replicate 256 0#8, false⟩) ⟨wf1, hm, r0, r1, r2, fun k hk => by rw [old1 k (by omega), oldG k hk], fun hn => ⟨(hout hn).1, (wf1 q _ (hout hn).2).1, (hout hn).2⟩⟩ ⟨List.replicate 256 0#8, false⟩ o
  intro X hX
  refine awp_step dr0 (by decide +kernel) ?_
  simp only [go_sem]
  obtain ⟨w1, w2⟩ := wideS_le regs
  have hvok' : v.ok m = true := AV.ok_mono (by omega) _ hvok
  have hsl : (intsV q L.length).ok m = true := intsV_ok fun hz => (hX.hits (by rintro rfl; exact hz rfl)).2.1
  refine awp_seqF (S := Unit) (fun _ => [(0, v), (2, .i64 line), (4, .pt n 0), (6, .pt (n + 1) 0), (7, .pt (n + 2) 0), (8, intsV q L.length), (9, .i64 (wideS regs : Int))]) (fun _ => X) (fun _ => m) (fun _ => True)
    (fun _ _ => ⟨hX.wf, Env.okAt_of2 (by have := hX.le; simp [AV.ok, hvok', hsl]; omega)⟩) ?_ ?_
  · obtain ⟨a0, a1, a2, a3, a4, a5, a6, a7, a8, a9, a10, rfl⟩ := regs11 hr
    refine awp_ev dr0 (by decide +kernel) ?_
    simp only [go_sem, hX.r0, List.map_cons, List.map_nil]
    have wd : wideS [a0, a1, a2, a3, a4, a5, a6, a7, a8, a9, a10] = if a1 &&& 1#8 = 0#8 then 1 else 2 := rfl
    refine ⟨fun c => ?_, fun c => ?_⟩
    · simp only [bne_iff_ne, ne_eq] at c
      rw [if_neg c] at wd
      rw [wd]
      exact Go.Ab.Ends.mk () trivial (Env.le_cons rfl (Env.le_cons rfl (Env.le_cons rfl (Env.le_cons rfl (Env.le_cons rfl (Env.le_cons rfl (Env.le_cons rfl (Env.le_nil _)))))))) (fun _ _ => rfl) (Nat.le_refl _) (Nat.le_refl _)
    · simp only [bne_eq_false_iff_eq] at c
      rw [if_pos c] at wd
      rw [wd]
      exact Go.Ab.Ends.mk () trivial (Env.le_cons rfl (Env.le_cons rfl (Env.le_cons rfl (Env.le_cons rfl (Env.le_cons rfl (Env.le_cons rfl (Env.le_cons rfl (Env.le_nil _)))))))) (fun _ _ => rfl) (Nat.le_refl _) (Nat.le_refl _)
  rintro - -
  refine awp_step dr0 (by decide +kernel) ?_
  simp only [go_sem]
  refine awp_seqF (S := LS) (fun _ => [(6, .pt (n + 1) 0), (7, .pt (n + 2) 0)]) (fun t => t.X) (fun _ => m) (fun t => LI H n m q regs L o (rowTo bs regs line L ⟨List.replicate 256 0#8, false⟩) t.X)
    (fun t ht => ⟨ht.wf, Env.okAt_of2 (by have := ht.le; simp [AV.ok]; omega)⟩) ?_ ?_
  · refine awp_step dr0 (by decide +kernel) ?_
    simp only [go_sem, lenB_ints]
    refine awp_block ?_
    refine awp_loopF (S := LS) (fun t => [(0, v), (2, .i64 line), (4, .pt n 0), (6, .pt (n + 1) 0), (7, .pt (n + 2) 0), (9, .i64 (wideS regs : Int)), (28, intsV q L.length), (29, .i64 L.length), (30, .i64 t.j)]) (fun t => t.X) (fun _ => m)
      (fun t => t.j ≤ L.length ∧ LI H n m q regs L o (rowTo bs regs line (L.take t.j) ⟨List.replicate 256 0#8, false⟩) t.X) (fun t => L.length - t.j)
      (fun t ht => ⟨ht.2.wf, Env.okAt_of2 (by have := ht.2.le; simp [AV.ok, hvok', hsl]; omega)⟩) ?_ ⟨0, X⟩ ⟨Nat.zero_le _, hX⟩
      (Env.le_cons rfl (Env.le_cons rfl (Env.le_cons rfl (Env.le_cons rfl (Env.le_cons rfl (Env.le_cons rfl (Env.le_cons rfl (Env.le_cons rfl (Env.le_cons rfl (Env.le_nil _)))))))))) (fun _ _ => rfl) rfl
    rintro ⟨j, Y⟩ ⟨hj, hY⟩
    simp only at hj hY ⊢
    refine awp_step dr0 (by decide +kernel) ?_
    simp only [go_sem]
    refine awp_step dr0 (by decide +kernel) ?_
    simp only [go_sem]
    refine ⟨fun hlt => ?_, fun hlt => ?_⟩
    · have hjl : j < L.length := by omega
      have hLn : L ≠ [] := by rintro rfl; simp at hjl
      obtain ⟨i, hi⟩ : ∃ i, L[j]? = some i := ⟨L[j], List.getElem?_eq_getElem hjl⟩
      have hi64 : i < 64 := hLb i (List.mem_of_getElem? hi)
      have htk : L.take (j + 1) = L.take j ++ [i] := by rw [List.take_add_one, hi]; rfl
      obtain ⟨q1, q2, q3⟩ := hY.hits hLn
      have hle := hY.le
      have wj : wrap64 ((j : Int) + 1) = ((j + 1 : Nat) : Int) := by rw [wrap_id _ (by omega) (by omega)]; omega
      have hsu : intsV q L.length = .su q 0 L.length 1 := by unfold intsV; rw [if_neg (by omega)]
      have e28 : ∀ e : Env, e.get 28 = .su q 0 L.length 1 → e.get 28 = intsV q L.length := fun e he => by rw [hsu]; exact he
      have hgd : (intsC L).getD j .junk = .i64 (i : Int) := by unfold intsC; rw [List.getD_eq_getElem?_getD, List.getElem?_map, hi]; rfl
      have hcl : (intsC L).length = L.length := by simp [intsC]
      refine awp_seqF (S := LS) (fun t => [(0, v), (2, .i64 line), (4, .pt n 0), (6, .pt (n + 1) 0), (7, .pt (n + 2) 0), (9, .i64 (wideS regs : Int)), (28, intsV q L.length), (29, .i64 L.length), (30, .i64 j)]) (fun t => t.X) (fun _ => m)
        (fun t => LI H n m q regs L o (rowTo bs regs line (L.take (j + 1)) ⟨List.replicate 256 0#8, false⟩) t.X)
        (fun t ht => ⟨ht.wf, Env.okAt_of2 (by have := ht.le; simp [AV.ok, hvok', hsl]; omega)⟩) ?_ ?_
      · refine awp_block ?_
        refine awp_step dr0 (by decide +kernel) ?_
        simp only [go_sem, hsu, q3, hgd, hcl, hlt, hjl]
        have hb := baseS_le regs
        have hvY : bytesIn Y v bs := hY.bytes hv hvok
        have w3 : wrap64 (wrap64 (baseS regs + 128) + wrap64 (2 * (i : Int))) = baseS regs + 128 + 2 * i := by
          rw [wrap_id (baseS _ + 128) (by omega) (by omega), wrap_id (2 * (i : Int)) (by omega) (by omega), wrap_id _ (by omega) (by omega)]
        refine awp_step dr0 (by decide +kernel) ?_
        simp only [go_sem, hY.r0, hr, List.length_map, take_map_all hr]
        refine base_ok regs hr _ _ _ ?_
        simp only [go_sem, w3]
        refine tile_at v bs _ _ _ _ hvY hvok' ?_
        simp only [go_sem]
        have hbb := (atS bs (baseS regs + 128 + 2 * (i : Int))).isLt
        refine awp_seqF (S := Unit) (fun _ => [(0, v), (2, .i64 line), (4, .pt n 0), (6, .pt (n + 1) 0), (7, .pt (n + 2) 0), (9, .i64 (wideS regs : Int)), (11, .i64 i), (12, .i64 (leftS bs regs i)), (28, intsV q L.length), (29, .i64 L.length), (30, .i64 j)]) (fun _ => Y) (fun _ => m)
          (fun _ => True) (fun _ _ => ⟨hY.wf, Env.okAt_of2 (by simp [AV.ok, hvok', hsl]; omega)⟩) ?_ ?_
        · have hleft : leftS bs regs i = (atS bs (baseS regs + 128 + 2 * (i : Int))).toNat - (if regs.getD 0 0#8 &&& 8#8 = 0#8 then 0 else 8) := rfl
          have hg0 : (regs.map AV.u8).getD 0 .junk = .u8 (regs.getD 0 0#8) := getD_map_u8' (by omega)
          refine awp_ev dr0 (by decide +kernel) ?_
          simp only [go_sem, hY.r0, hg0, hr, List.length_map]
          have wl : wrap64 (((atS bs (baseS regs + 128 + 2 * (i : Int))).toNat : Int) - 8) = ((atS bs (baseS regs + 128 + 2 * (i : Int))).toNat : Int) - 8 := wrap_id _ (by omega) (by omega)
          refine ⟨fun c => ?_, fun c => ?_⟩
          · simp only [bne_iff_ne, ne_eq] at c
            rw [if_neg c] at hleft
            rw [wl, hleft]
            exact Go.Ab.Ends.mk () trivial (Env.le_cons rfl (Env.le_cons rfl (Env.le_cons rfl (Env.le_cons rfl (Env.le_cons rfl (Env.le_cons rfl (Env.le_cons rfl (Env.le_cons rfl (Env.le_cons (e28 _ rfl) (Env.le_cons rfl (Env.le_cons rfl (Env.le_nil _)))))))))))) (fun _ _ => rfl) (Nat.le_refl _) (Nat.le_refl _)
          · simp only [bne_eq_false_iff_eq] at c
            rw [if_pos c, Int.sub_zero] at hleft
            rw [hleft]
            exact Go.Ab.Ends.mk () trivial (Env.le_cons rfl (Env.le_cons rfl (Env.le_cons rfl (Env.le_cons rfl (Env.le_cons rfl (Env.le_cons rfl (Env.le_cons rfl (Env.le_cons rfl (Env.le_cons (e28 _ rfl) (Env.le_cons rfl (Env.le_cons rfl (Env.le_nil _)))))))))))) (fun _ _ => rfl) (Nat.le_refl _) (Nat.le_refl _)
        rintro - -
        refine awp_step dr0 (by decide +kernel) ?_
        simp only [go_sem, hY.r0, hr, List.length_map, take_map_all hr]
        refine dots_ok v bs regs hr i hi64 line (hLl hLn) _ _ _ hvY ?_
        simp only [go_sem]
        generalize hs0 : rowTo bs regs line (L.take j) ⟨List.replicate 256 0#8, false⟩ = s0 at hY ⊢
        have hs1 : rowTo bs regs line (L.take (j + 1)) ⟨List.replicate 256 0#8, false⟩ = sprTo bs regs line i s0 (8 * wideS regs) := by rw [htk, rowTo_app, hs0]; rfl
        have hs0l : s0.c.length = 256 := by rw [← hs0, rowTo_len]; exact List.length_replicate ..
        have hll := leftS_le bs regs i
        refine awp_block ?_
        refine awp_loopF (S := LS) (fun t => [(0, v), (2, .i64 line), (4, .pt n 0), (6, .pt (n + 1) 0), (7, .pt (n + 2) 0), (9, .i64 (wideS regs : Int)), (12, .i64 (leftS bs regs i)), (28, intsV q L.length), (29, .i64 L.length), (30, .i64 j), (53, .ag ((dotsL bs regs i line).map .u8)), (54, .i64 t.j)]) (fun t => t.X) (fun _ => m)
          (fun t => t.j ≤ 8 ∧ LI H n m q regs L o (sprTo bs regs line i s0 (t.j * wideS regs)) t.X) (fun t => 8 - t.j)
          (fun t ht => ⟨ht.2.wf, Env.okAt_of2 (by have := ht.2.le; simp [dots_av_ok, hvok', hsl]; simp [AV.ok]; omega)⟩) ?_ ⟨0, Y⟩ ⟨Nat.zero_le _, by simp only [Nat.zero_mul]; exact hY⟩
          (Env.le_cons rfl (Env.le_cons rfl (Env.le_cons rfl (Env.le_cons rfl (Env.le_cons rfl (Env.le_cons rfl (Env.le_cons rfl (Env.le_cons rfl (Env.le_cons rfl (Env.le_cons rfl (Env.le_cons rfl (Env.le_cons rfl (Env.le_nil _))))))))))))) (fun _ _ => rfl) rfl
        rintro ⟨k, W⟩ ⟨hk, hW⟩
        simp only at hk hW ⊢
        refine awp_step dr0 (by decide +kernel) ?_
        simp only [go_sem]
        refine awp_step dr0 (by decide +kernel) ?_
        simp only [go_sem]
        refine ⟨fun hkl => ?_, fun hkl => ?_⟩
        · have hk8 : k < 8 := by omega
          have hdl : (dotsL bs regs i line).length = 8 := dotsL_len _ _ _ _
          have hgk : ((dotsL bs regs i line).map AV.u8).getD k .junk = .u8 ((dotsL bs regs i line).getD k 0#8) := getD_map_u8' (by omega)
          have wk : wrap64 ((k : Int) + 1) = ((k + 1 : Nat) : Int) := by rw [wrap_id _ (by omega) (by omega)]; omega
          refine awp_seq (awp_block ?_)
          refine awp_step dr0 (by decide +kernel) ?_
          simp only [go_sem, hgk, hk8, hkl, hdl, List.length_map]
          refine awp_step dr0 (by decide +kernel) ?_
          simp only [go_sem]
          refine awp_block ?_
          refine awp_loopF (S := LS) (fun t => [(0, v), (2, .i64 line), (4, .pt n 0), (6, .pt (n + 1) 0), (7, .pt (n + 2) 0), (9, .i64 (wideS regs : Int)), (12, .i64 (leftS bs regs i)), (13, .i64 k), (14, .u8 ((dotsL bs regs i line).getD k 0#8)), (28, intsV q L.length), (29, .i64 L.length), (30, .i64 j), (53, .ag ((dotsL bs regs i line).map .u8)), (54, .i64 k), (58, .i64 (wideS regs : Int)), (59, .i64 t.j)]) (fun t => t.X) (fun _ => m)
            (fun t => t.j ≤ wideS regs ∧ LI H n m q regs L o (sprTo bs regs line i s0 (k * wideS regs + t.j)) t.X) (fun t => wideS regs - t.j)
            (fun t ht => ⟨ht.2.wf, Env.okAt_of2 (by have := ht.2.le; simp [dots_av_ok, hvok', hsl]; simp [AV.ok]; omega)⟩) ?_ ⟨0, W⟩ ⟨Nat.zero_le _, hW⟩
            (Env.le_cons rfl (Env.le_cons rfl (Env.le_cons rfl (Env.le_cons rfl (Env.le_cons rfl (Env.le_cons rfl (Env.le_cons rfl (Env.le_cons rfl (Env.le_cons rfl (Env.le_cons rfl (Env.le_cons rfl (Env.le_cons rfl (Env.le_cons rfl (Env.le_cons rfl (Env.le_cons rfl (Env.le_cons rfl (Env.le_nil _))))))))))))))))) (fun _ _ => rfl) rfl
          rintro ⟨w, V⟩ ⟨hw, hV⟩
          simp only at hw hV ⊢
          refine awp_step dr0 (by decide +kernel) ?_
          simp only [go_sem]
          refine awp_step dr0 (by decide +kernel) ?_
          simp only [go_sem]
          refine ⟨fun hwl => ?_, fun hwl => ?_⟩
          · have hw' : w < wideS regs := by omega
            have hkw : k * wideS regs ≤ 14 := by
              have := Nat.mul_le_mul (show k ≤ 7 by omega) w2; omega
            have wm : wrap64 (wrap64 (leftS bs regs i + wrap64 ((k : Int) * (wideS regs : Int))) + (w : Int)) = leftS bs regs i + (k * wideS regs + w : Nat) := by
              rw [show ((k : Int) * (wideS regs : Int)) = ((k * wideS regs : Nat) : Int) by simp, wrap_id ((k * wideS regs : Nat) : Int) (by omega) (by omega), wrap_id (leftS _ _ _ + _) (by omega) (by omega), wrap_id _ (by omega) (by omega)]; omega
            have ww : wrap64 ((w : Int) + 1) = ((w + 1 : Nat) : Int) := by rw [wrap_id _ (by omega) (by omega)]; omega
            refine awp_ev dr0 (by decide +kernel) ?_
            simp only [go_sem, wm]
            refine ⟨fun hge => ?_, fun hge => ?_⟩
            · have he := sprTo_end bs regs line i s0 (k * wideS regs + w) hge (8 * wideS regs - (k * wideS regs + w))
              have hle8 : k * wideS regs + w ≤ 8 * wideS regs := by
                have := Nat.mul_le_mul_right (wideS regs) (show k + 1 ≤ 8 by omega)
                rw [Nat.succ_mul] at this; omega
              rw [Nat.add_sub_cancel' hle8, ← hs1] at he
              rw [← he] at hV
              exact Go.Ab.Ends.mk ⟨0, V⟩ hV (Env.le_cons rfl (Env.le_cons rfl (Env.le_cons rfl (Env.le_cons rfl (Env.le_cons rfl (Env.le_cons rfl (Env.le_cons (by rw [← hsu]; rfl) (Env.le_cons rfl (Env.le_cons rfl (Env.le_nil _)))))))))) (fun _ _ => rfl) (Nat.le_refl _) (Nat.le_refl _)
            · have hdiv : (k * wideS regs + w) / wideS regs = k := by
                rw [Nat.mul_comm, Nat.mul_add_div (by omega), Nat.div_eq_of_lt hw', Nat.add_zero]
              have hst : sprTo bs regs line i s0 (k * wideS regs + (w + 1)) = (sprTo bs regs line i s0 (k * wideS regs + w)).put (leftS bs regs i + (k * wideS regs + w : Nat)) ((dotsL bs regs i line).getD k 0#8) := by
                rw [← Nat.add_assoc, sprTo, hdiv]
              rw [RowS.put, if_pos (by omega)] at hst
              refine put_ok (n + 2) _ (by rw [sprTo_len]; exact hs0l) o _ _ (by omega) _ _ _ _ hV.r2 ?_
              simp only [go_sem, ww]
              have hP := hV.put (sprTo bs regs line i s0 (k * wideS regs + (w + 1))) o
              rw [hst] at hP
              exact Go.Ab.Ends.mk (⟨w + 1, _⟩ : LS) ⟨by simp only; omega, by simp only; omega, by simp only; rw [hst]; exact hP⟩ (Env.le_cons rfl (Env.le_cons rfl (Env.le_cons rfl (Env.le_cons rfl (Env.le_cons rfl (Env.le_cons rfl (Env.le_cons rfl (Env.le_cons rfl (Env.le_cons rfl (Env.le_cons rfl (Env.le_cons rfl (Env.le_cons rfl (Env.le_cons rfl (Env.le_cons rfl (Env.le_cons rfl (Env.le_cons rfl (Env.le_nil _))))))))))))))))) (fun _ _ => rfl) (Nat.le_refl _) (Nat.le_refl _)
          · have hwe : w = wideS regs := by omega
            subst hwe
            refine awp_ev dr0 (by decide +kernel) ?_
            simp only [go_sem, wk]
            exact Go.Ab.Ends.mk ⟨k + 1, V⟩ ⟨by simp only; omega, hk8, by simp only; rw [Nat.succ_mul]; exact hV⟩ (Env.le_cons rfl (Env.le_cons rfl (Env.le_cons rfl (Env.le_cons rfl (Env.le_cons rfl (Env.le_cons rfl (Env.le_cons rfl (Env.le_cons rfl (Env.le_cons rfl (Env.le_cons rfl (Env.le_cons rfl (Env.le_cons rfl (Env.le_nil _))))))))))))) (fun _ _ => rfl) (Nat.le_refl _) (Nat.le_refl _)
        · have hke : k = 8 := by omega
          subst hke
          rw [← hs1] at hW
          exact Go.Ab.Ends.mk ⟨0, W⟩ hW (Env.le_cons rfl (Env.le_cons rfl (Env.le_cons rfl (Env.le_cons rfl (Env.le_cons rfl (Env.le_cons rfl (Env.le_cons (by rw [← hsu]; rfl) (Env.le_cons rfl (Env.le_cons rfl (Env.le_nil _)))))))))) (fun _ _ => rfl) (Nat.le_refl _) (Nat.le_refl _)
      rintro ⟨j2, Y2⟩ hY2
      simp only at hY2 ⊢
      refine awp_ev dr0 (by decide +kernel) ?_
      simp only [go_sem, wj]
      exact Go.Ab.Ends.mk ⟨j + 1, Y2⟩ ⟨by simp only; omega, hjl, hY2⟩ (Env.le_cons rfl (Env.le_cons rfl (Env.le_cons rfl (Env.le_cons rfl (Env.le_cons rfl (Env.le_cons rfl (Env.le_cons rfl (Env.le_cons rfl (Env.le_cons rfl (Env.le_nil _)))))))))) (fun _ _ => rfl) (Nat.le_refl _) (Nat.le_refl _)
    · have hje : j = L.length := by omega
      subst hje
      rw [List.take_length] at hY
      exact Go.Ab.Ends.mk ⟨0, Y⟩ hY (Env.le_cons rfl (Env.le_cons rfl (Env.le_nil _))) (fun _ _ => rfl) (Nat.le_refl _) (Nat.le_refl _)
  rintro ⟨j, Y⟩ hY
  simp only at hY ⊢
  have y1 := hY.r1; have y2 := hY.r2
  refine awp_ev dr0 (by decide +kernel) ?_
  have hcl : (rowTo bs regs line L ⟨List.replicate 256 0#8, false⟩).c.length = 256 := by rw [rowTo_len]; exact List.length_replicate ..
  simp only [go_sem, y1, y2]
  have l1 : (rowB (rowTo bs regs line L ⟨List.replicate 256 0#8, false⟩).c o (rowTo bs regs line L ⟨List.replicate 256 0#8, false⟩).m).cells.length = 258 := by
    unfold rowB; rw [List.length_append, List.length_map, hcl]; rfl
  have l2 : (rowB (List.replicate 256 0#8) false false).cells.length = 258 := by
    unfold rowB; rw [List.length_append, List.length_map, List.length_replicate]; rfl
  rw [List.take_of_length_le (l := (rowB (rowTo bs regs line L ⟨List.replicate 256 0#8, false⟩).c o (rowTo bs regs line L ⟨List.replicate 256 0#8, false⟩).m).cells) (by rw [l1]; exact Nat.le_refl _),
    splice_whole (by rw [l1, l2]), List.take_of_length_le (l := (rowB (rowTo bs regs line L ⟨List.replicate 256 0#8, false⟩).c o (rowTo bs regs line L ⟨List.replicate 256 0#8, false⟩).m).cells) (by rw [l1]; exact Nat.le_refl _), l1, l2]
  refine ⟨Nat.le_refl _, rfl, rfl, Nat.le_refl _, Nat.le_refl _, ?_⟩
  have yle := hY.le
  have key := h (Y.upd (n + 1) (some ⟨(rowB (rowTo bs regs line L ⟨List.replicate 256 0#8, false⟩).c o (rowTo bs regs line L ⟨List.replicate 256 0#8, false⟩).m).cells, 88, false⟩)) m (by omega)
    (Heap.wf_set hY.wf (by omega) (rowB_ok _ _ _ _)) (fun k hk => by rw [Heap.upd_ne _ _ (by omega)]; exact hY.old k hk)
  exact Fin.keep key
end Go.Proofs.Joy
namespace Go.Proofs.Joy
open Go.Ab Go.Proofs

set_option maxHeartbeats 1000000
set_option maxRecDepth 20000

def picB (C : List (BitVec 8)) (o m : Bool) : Blk := ⟨C.map .u8 ++ [.bo o, .bo m], 74, false⟩
theorem picB_ok (C : List (BitVec 8)) (o m : Bool) (n : Nat) : ∀ v ∈ (picB C o m).cells, v.ok n = true := by
  intro v hv
  simp only [picB, List.mem_append, List.mem_map, List.mem_cons, List.not_mem_nil, or_false] at hv
  rcases hv with ⟨x, -, rfl⟩ | rfl | rfl <;> rfl
theorem pic_av (C : List (BitVec 8)) (o m : Bool) (n : Nat) : AV.ok n (.ag (C.map .u8 ++ [.bo o, .bo m])) = true := by
  rw [AV.ok, AV.oks_eq]; simp [AV.ok, AV.one]
theorem bits_ne (b c : BitVec 8) : (b &&& c != 0#8) = decide (b &&& c ≠ 0#8) := by by_cases h : b &&& c = 0#8 <;> simp [h]

structure DrS where
  j : Nat
  m : Nat
  X : Heap
structure DrI (H : Heap) (n : Nat) (regs : List (BitVec 8)) (f : Nat → BitVec 8) (o mm : Bool) (j m : Nat) (X : Heap) : Prop where
  wf : X.wf m
  le : n + 3 ≤ m
  r : X n = some ⟨regs.map .u8, 66, false⟩
  z : X (n + 1) = some (picB (List.replicate 256 0#8) false false)
  c : X (n + 2) = some (picB (layF f 256 j) o mm)
  old : ∀ k, k < n → X k = H k
theorem DrI.put {H : Heap} {n : Nat} {regs : List (BitVec 8)} {f : Nat → BitVec 8} {o mm : Bool} {j m : Nat} {X : Heap} (h : DrI H n regs f o mm j m X) (f' : Nat → BitVec 8) (o' mm' : Bool) (j' : Nat) : DrI H n regs f' o' mm' j' m (X.upd (n + 2) (some (picB (layF f' 256 j') o' mm'))) :=
  ⟨Heap.wf_set h.wf (by have := h.le; omega) (picB_ok _ _ _ _), h.le, by rw [Heap.upd_ne _ _ (by omega)]; exact h.r, by rw [Heap.upd_ne _ _ (by omega)]; exact h.z, Heap.upd_same _ _ _, fun k hk => by rw [Heap.upd_ne _ _ (by omega)]; exact h.old k hk⟩
theorem pic_set (f : Nat → BitVec 8) (o m : Bool) {j : Nat} (hj : j < 256) (y : BitVec 8) (hy : y = f j) : ((layF f 256 j).map AV.u8 ++ [AV.bo o, AV.bo m]).set j (.u8 y) = (layF f 256 (j + 1)).map AV.u8 ++ [AV.bo o, AV.bo m] := by
  rw [List.set_append_left _ _ (by rw [List.length_map, layF_len _ (by omega)]; exact hj), ← List.map_set, hy, layF_set _ hj]
theorem pic_len (f : Nat → BitVec 8) (o m : Bool) {j : Nat} (hj : j ≤ 256) : ((layF f 256 j).map AV.u8 ++ [AV.bo o, AV.bo m]).length = 258 := by
  rw [List.length_append, List.length_map, layF_len _ hj]; rfl

theorem draw_ok (v cv : AV) (bs cs regs : List (BitVec 8)) (hr : regs.length = 11) (line : Int) (hln : -9223372036854775808 ≤ line ∧ line ≤ 9223372036854775807) (H : Heap) (n : Nat) (K : AV → Heap → Nat → Prop) (hv : bytesIn H v bs) (hc : bytesIn H cv cs)
    (h : K (.ag ((lineC bs cs regs line).map .u8 ++ [.bo (lineO bs regs line), .bo (lineM bs regs line)])) H n) :
    ACalls Try.prog 44 [v, cv, .ag (regs.map .u8), .i64 line] H n K := by
  refine ACalls.of_awp Try.func44 rfl (by decide +kernel) (show 4 ≤ 100 by decide) (by simp [hv.ne, hc.ne]) fun wf => ?_
  have okOf : ∀ {v : AV} {bs : List (BitVec 8)}, bytesIn H v bs → v.ok n = true := fun hv => by
    rcases hv with ⟨rfl, rfl⟩ | ⟨su, b, o, c, blk, rfl, h0, h1, h2, h3⟩
    · rfl
    · exact vw_ok (wf b _ h1).1
  have hvok := okOf hv
  have hcok := okOf hc
  obtain ⟨r0, r1, r2, r3, r4, r5, r6, r7, r8, r9, r10, hregs⟩ := regs11 hr
  have hr0 : regs.getD 0 0#8 = r0 := by rw [hregs]; rfl
  have hr7 : regs.getD 7 0#8 = r7 := by rw [hregs]; rfl
  have hm : regs.map AV.u8 = [.u8 r0, .u8 r1, .u8 r2, .u8 r3, .u8 r4, .u8 r5, .u8 r6, .u8 r7, .u8 r8, .u8 r9, .u8 r10] := by rw [hregs]; rfl
  have hgc : ∀ X : Heap, X = (((H.upd n (some ⟨[.u8 r0, .u8 r1, .u8 r2, .u8 r3, .u8 r4, .u8 r5, .u8 r6, .u8 r7, .u8 r8, .u8 r9, .u8 r10], 66, false⟩)).upd (n + 1) (some ⟨List.replicate 256 (.u8 0#8) ++ [.bo false, .bo false], 74, false⟩)).upd (n + 2) (some ⟨List.replicate 256 (.u8 0#8) ++ [.bo false, .bo false], 74, false⟩)) →
      ∀ f, DrI H n regs f false false 0 (n + 3) X := fun X hX f => by
    subst hX
    have er : ∀ k, List.replicate k (AV.u8 0#8) ++ [AV.bo false, AV.bo false] = (picB (List.replicate k 0#8) false false).cells := fun k => by simp only [picB, List.map_replicate]
    refine ⟨Heap.wf_upd (Heap.wf_upd (Heap.wf_upd wf (by rw [← hm]; exact map_u8_ok)) (by rw [er]; exact picB_ok _ _ _ _)) (by rw [er]; exact picB_ok _ _ _ _), Nat.le_refl _, ?_, ?_, ?_, fun k hk => ?_⟩
    · rw [Heap.upd_ne _ _ (by omega), Heap.upd_ne _ _ (by omega), Heap.upd_same, hm]
    · rw [Heap.upd_ne _ _ (by omega), Heap.upd_same, er]; rfl
    · rw [Heap.upd_same, er, layF_zero]; rfl
    · rw [Heap.upd_ne _ _ (by omega), Heap.upd_ne _ _ (by omega), Heap.upd_ne _ _ (by omega)]
  rw [hm]
  refine awp_step dr44 (by decide +kernel) ?_
  simp only [go_sem, Try.f44]
  refine awp_step dr44 (by decide +kernel) ?_
  simp only [go_sem]
  refine awp_gen (fun X => ∀ f, DrI H n regs f false false 0 (n + 3) X) (hgc _ rfl) ?_
  intro X hX
  have x0 := (hX (fun _ => 0#8)).r
  rw [hm] at x0
  have xz : X (n + 1) = some ⟨(List.replicate 256 0#8).map .u8 ++ [.bo false, .bo false], 74, false⟩ := (hX (fun _ => 0#8)).z
  have xc : X (n + 2) = some ⟨(List.replicate 256 0#8).map .u8 ++ [.bo false, .bo false], 74, false⟩ := by
    rw [(hX (fun _ => 0#8)).c, layF_zero]; rfl
  have xo := (hX (fun _ => 0#8)).old
  have l0 : ((List.replicate 256 0#8).map AV.u8 ++ [AV.bo false, AV.bo false]).length = 258 := by rw [List.length_append, List.length_map, List.length_replicate]; rfl
  have es0 : ∀ L : List AV, L.length = 258 → splice ((List.replicate 256 0#8).map AV.u8 ++ [AV.bo false, AV.bo false]) 0 L = L := fun L hL => by simp [splice, hL]
  have hvX := hv.mono hvok xo
  have hcX := hc.mono hcok xo
  have hvok3 : v.ok (n + 3) = true := AV.ok_mono (by omega) _ hvok
  have hcok3 : cv.ok (n + 3) = true := AV.ok_mono (by omega) _ hcok
  by_cases hin : line < 0 ∨ 192 ≤ line
  · have hno : inLine line = false := by unfold inLine; rcases hin with a | a <;> simp <;> omega
    have eC : lineC bs cs regs line = List.replicate 256 0#8 := by
      unfold lineC
      have : ∀ x, seeS bs cs regs line x = 0#8 := fun x => by unfold seeS; rw [if_pos hno]
      rw [List.map_congr_left (fun x _ => this x), List.map_const', List.length_range]
    have eO : lineO bs regs line = false := by unfold lineO; rw [hno]; rfl
    have eM : lineM bs regs line = false := by unfold lineM; rw [hno]; rfl
    rw [eC, eO, eM] at h
    have pa := pic_av (List.replicate 256 0#8) false false n
    have e1 := es0 _ l0
    generalize (List.replicate 256 0#8).map AV.u8 ++ [AV.bo false, AV.bo false] = L at xz xc l0 e1 h pa
    have tk : L.take 258 = L := List.take_of_length_le (by omega)
    refine awp_step dr44 (by decide +kernel) ?_
    rcases hin with hin | hin
    · simp only [go_sem, hin, xz, xc, l0, e1, tk]
      exact Fin.back wf h (fun k hk => by rw [Heap.upd_ne _ _ (by omega)]; exact xo k hk) pa
    · have hin' : ¬ line < 0 := by omega
      simp only [go_sem, hin, hin', xz, xc, l0, e1, tk]
      exact Fin.back wf h (fun k hk => by rw [Heap.upd_ne _ _ (by omega)]; exact xo k hk) pa
  have hl : 0 ≤ line ∧ line < 192 := by omega
  have hl1 : ¬ line < 0 := by omega
  have hl2 : ¬ 192 ≤ line := by omega
  have hyes : inLine line = true := by unfold inLine; simp; omega
  refine awp_step dr44 (by decide +kernel) ?_
  simp only [go_sem, hl1, hl2]
  refine awp_step dr44 (by decide +kernel) ?_
  have h7 : (r7 &&& 15#8).toNat ≤ 15 := by rw [BitVec.toNat_and]; exact Nat.and_le_right
  have we : wrap64 (16 + ((r7 &&& 15#8).toNat : Int)) = 16 + (r7 &&& 15#8).toNat := wrap_id _ (by omega) (by omega)
  simp only [go_sem, x0, we]
  refine line_paint cv cs _ _ _ _ hcX hcok3 ?_
  have eE : paintS cs (16 + ((r7 &&& 15#8).toNat : Int)) = edgeS cs regs := by unfold edgeS; rw [hr7]
  rw [eE]
  simp only [go_sem]
  refine awp_step dr44 (by decide +kernel) ?_
  simp only [go_sem, x0]
  rw [← hm]
  refine shows_ok regs hr _ _ _ ?_
  simp only [go_sem]
  by_cases hs : shownS regs = false
  · have eO : lineO bs regs line = false := by unfold lineO; rw [hs, Bool.and_false]; rfl
    have eM : lineM bs regs line = false := by unfold lineM; rw [hs, Bool.and_false]; rfl
    have eC : ∀ x, seeS bs cs regs line x = edgeS cs regs := fun x => by unfold seeS; rw [if_neg (by rw [hyes]; decide), if_pos (.inl hs)]
    rw [hs]
    simp only [go_sem]
    have eC' : lineC bs cs regs line = layF (fun _ => edgeS cs regs) 256 256 := by unfold lineC; rw [layF_all]; exact List.map_congr_left fun x _ => eC x
    rw [eO, eM, eC'] at h
    generalize edgeS cs regs = ed at hX h ⊢
    refine awp_loopF (S := DrS) (fun t => [(3, .i64 line), (8, .pt (n + 1) 0), (9, .pt (n + 2) 0), (10, .u8 ed), (33, .i64 t.j)]) (fun t => t.X) (fun _ => n + 3) (fun t => t.j ≤ 256 ∧ DrI H n regs (fun _ => ed) false false t.j (n + 3) t.X) (fun t => 256 - t.j)
      (fun t ht => ⟨ht.2.wf, Env.okAt_of2 (by simp [AV.ok])⟩) ?_ (⟨0, 0, X⟩ : DrS) ⟨Nat.zero_le _, hX _⟩ (by repeat (first | exact Env.le_nil _ | refine Env.le_cons rfl ?_)) (fun _ _ => rfl) rfl
    rintro ⟨j, _, Y⟩ ⟨hj, hI⟩
    simp only at hj hI ⊢
    have yc : Y (n + 2) = some ⟨(layF (fun _ => ed) 256 j).map .u8 ++ [.bo false, .bo false], 74, false⟩ := hI.c
    have yz : Y (n + 1) = some ⟨(List.replicate 256 0#8).map .u8 ++ [.bo false, .bo false], 74, false⟩ := hI.z
    refine awp_step dr44 (by decide +kernel) ?_
    simp only [go_sem]
    refine awp_step dr44 (by decide +kernel) ?_
    simp only [go_sem]
    refine ⟨fun hlt => ?_, fun hlt => ?_⟩
    · have hj' : j < 256 := by omega
      have hjI : (j : Int) < 256 := by omega
      have hj2 : j < 258 := by omega
      have w1 : wrap64 ((j : Int) + 1) = ((j + 1 : Nat) : Int) := by rw [wrap_id _ (by omega) (by omega)]; omega
      refine awp_seq (awp_block ?_)
      refine awp_ev dr44 (by decide +kernel) ?_
      simp only [go_sem, yc, hjI, hj2, pic_len _ _ _ hj, pic_set (fun _ => ed) false false hj' ed rfl]
      refine ⟨by omega, ?_⟩
      refine awp_ev dr44 (by decide +kernel) ?_
      simp only [go_sem, w1]
      exact Ends.mk (⟨j + 1, 0, Y.upd (n + 2) (some (picB (layF (fun _ => ed) 256 (j + 1)) false false))⟩ : DrS) ⟨by simp only; omega, by simp only; omega, hI.put _ _ _ _⟩ (by repeat (first | exact Env.le_nil _ | refine Env.le_cons rfl ?_)) (fun k _ => rfl) (Nat.le_refl _) (Nat.le_refl _)
    · have hj6 : j = 256 := by omega
      subst hj6
      have pa := pic_av (layF (fun _ => ed) 256 256) false false n
      have e1 := es0 _ (pic_len (fun _ => ed) false false hj)
      have l1 := pic_len (fun _ => ed) false false hj
      generalize (layF (fun _ => ed) 256 256).map AV.u8 ++ [AV.bo false, AV.bo false] = L at yc l1 e1 h pa
      have tk : L.take 258 = L := List.take_of_length_le (by omega)
      simp only [go_sem, yc, yz, l0, l1, e1, tk]
      exact Fin.back wf h (fun k hk => by rw [Heap.upd_ne _ _ (by omega)]; exact hI.old k hk) pa
  · have hs' : shownS regs = true := by simpa using hs
    rw [hs']
    simp only [go_sem]
    refine awp_step dr44 (by decide +kernel) ?_
    rw [hm]
    simp only [go_sem, x0]
    rw [← hm]
    refine back_line v bs regs hr line hl _ _ _ hvX ?_
    intro C F c1 c2 c3 c4
    simp only [go_sem]
    have ld : ∀ {Y : Heap}, (∀ i, i < n + 3 → Y i = X i) → loadB (Y n) (some (true, 11)) 0 fun x => x = AV.ag (regs.map .u8) := fun hY => by
      rw [hY n (by omega), hm, x0]; simp only [go_sem]
    refine ⟨ld (fun _ _ => rfl), ?_⟩
    refine line_ok v bs regs hr line hln _ _ _ hvX ?_
    intro X' m hm3 xw' xo'
    have x0' := x0
    rw [← xo' n (by omega)] at x0'
    have xc' := xc
    rw [← xo' (n + 2) (by omega)] at xc'
    simp only [go_sem]
    have hS : (spritesS bs regs line).c.length = 256 := by unfold spritesS; rw [rowTo_len, List.length_replicate]
    have gl : (C.map AV.u8 ++ F.map AV.bo).length = 512 := by rw [List.length_append, List.length_map, List.length_map, c1, c2]
    have ml : ∀ o mm, ((spritesS bs regs line).c.map AV.u8 ++ [AV.bo o, AV.bo mm]).length = 258 := fun o mm => by rw [List.length_append, List.length_map, hS]; rfl
    refine ⟨ld (fun i hi => by rw [Heap.upd_ne _ _ (by omega)]; exact xo' i hi), ld (fun i hi => by rw [Heap.upd_ne _ _ (by omega), Heap.upd_ne _ _ (by omega)]; exact xo' i hi), gl, by simp, ml _ _, by simp, ?_⟩
    have s1 : splice (List.replicate 256 (AV.u8 0#8) ++ List.replicate 256 (AV.bo false)) 0 (C.map AV.u8 ++ F.map AV.bo) = C.map AV.u8 ++ F.map AV.bo := by simp [splice, c1, c2]
    have s2 : splice (List.replicate 256 (AV.u8 0#8) ++ [AV.bo false, AV.bo false]) 0 (rowB (spritesS bs regs line).c (decide (8 < (hitsS bs regs line).length)) (spritesS bs regs line).m).cells = (spritesS bs regs line).c.map AV.u8 ++ [AV.bo (decide (8 < (hitsS bs regs line).length)), AV.bo (spritesS bs regs line).m] := by
      unfold rowB; simp [splice, hS]
    rw [s1, s2]
    have eO : lineO bs regs line = decide (8 < (hitsS bs regs line).length) := by unfold lineO; rw [hyes, hs']; simp
    have eM : lineM bs regs line = (spritesS bs regs line).m := by unfold lineM; rw [hyes, hs']; simp
    have eF : ∀ j : Nat, mixD bs regs line j = if (spritesS bs regs line).c.getD j 0#8 ≠ 0#8 ∧ gfrS bs regs line j = false then (spritesS bs regs line).c.getD j 0#8 else gcolS bs regs line j := fun j => rfl
    rw [← eO, ← eM]
    have hh : lineC bs cs regs line = layF (seeS bs cs regs line) 256 256 := by unfold lineC; rw [layF_all]
    rw [hh] at h
    generalize spritesS bs regs line = S at hS ml s2 eM eF ⊢
    generalize lineO bs regs line = oo at h ⊢
    generalize lineM bs regs line = mm at h ⊢
    refine awp_gen (fun W => W.wf (m + 2) ∧ W m = some ⟨C.map .u8 ++ F.map .bo, 86, false⟩ ∧ W (m + 1) = some ⟨S.c.map .u8 ++ [.bo oo, .bo mm], 88, false⟩ ∧ ∀ i, i < m → W i = X' i) ?_ ?_
    · have k1 : ∀ k, ∀ y ∈ (C.map AV.u8 ++ F.map AV.bo), y.ok k = true := fun k => grdB_ok C F k
      have k2 : ∀ k, ∀ y ∈ (S.c.map AV.u8 ++ [AV.bo oo, AV.bo mm]), y.ok k = true := fun k => picB_ok S.c oo mm k
      have k3 : ∀ k, ∀ y ∈ (List.replicate 256 (AV.u8 0#8) ++ List.replicate 256 (AV.bo false)), y.ok k = true := fun k y hy => by
        rcases List.mem_append.1 hy with a | a <;> rw [(List.mem_replicate.1 a).2] <;> rfl
      have k4 : ∀ k, ∀ y ∈ (List.replicate 256 (AV.u8 0#8) ++ [AV.bo false, AV.bo false]), y.ok k = true := fun k y hy => by
        rcases List.mem_append.1 hy with a | a
        · rw [(List.mem_replicate.1 a).2]; rfl
        · simp only [List.mem_cons, List.not_mem_nil, or_false] at a; rcases a with rfl | rfl <;> rfl
      exact ⟨Heap.wf_set (Heap.wf_set (Heap.wf_upd (Heap.wf_upd xw' (k3 _)) (k4 _)) (by omega) (k1 _)) (by omega) (k2 _), by rw [Heap.upd_ne _ _ (by omega), Heap.upd_same], Heap.upd_same _ _ _, fun i hi => by
        rw [Heap.upd_ne _ _ (by omega), Heap.upd_ne _ _ (by omega), Heap.upd_ne _ _ (by omega), Heap.upd_ne _ _ (by omega)]⟩
    rintro W ⟨ww, wg, wm, wo⟩
    have wx : ∀ i, i < n + 3 → W i = X i := fun i hi => by rw [wo i (by omega), xo' i hi]
    have wc : W (n + 2) = some ⟨(List.replicate 256 0#8).map .u8 ++ [.bo false, .bo false], 74, false⟩ := by rw [wx _ (by omega), xc]
    have gm1 : (S.c.map AV.u8 ++ [AV.bo oo, AV.bo mm]).getD 256 .junk = .bo oo := by rw [getD_app_r (by rw [List.length_map, hS]; exact Nat.le_refl _), List.length_map, hS]; rfl
    have gm2 : (S.c.map AV.u8 ++ [AV.bo oo, AV.bo mm]).getD 257 .junk = .bo mm := by rw [getD_app_r (by rw [List.length_map, hS]; omega), List.length_map, hS]; rfl
    have st : (((List.replicate 256 0#8).map AV.u8 ++ [AV.bo false, AV.bo false]).set 256 (.bo oo)).set 257 (.bo mm) = (List.replicate 256 0#8).map AV.u8 ++ [AV.bo oo, AV.bo mm] := by
      rw [List.set_append_right _ _ (by simp), List.set_append_right _ _ (by simp)]; simp
    refine awp_step dr44 (by decide +kernel) ?_
    simp only [go_sem, wm, wc, ml, l0, gm1, gm2]
    refine ⟨by rw [Heap.upd_ne _ _ (by omega), wm]; simp only [go_sem, gm2, ml], by rw [List.length_set, l0]; exact Nat.le_refl _, ?_⟩
    rw [st]
    have hI0 : DrI H n regs (seeS bs cs regs line) oo mm 0 (m + 2) (W.upd (n + 2) (some ⟨(List.replicate 256 0#8).map .u8 ++ [.bo oo, .bo mm], 74, false⟩)) := by
      have d0 := hX (seeS bs cs regs line)
      refine ⟨Heap.wf_set ww (by omega) (picB_ok _ _ _ _), by omega, ?_, ?_, ?_, fun k hk => ?_⟩
      · rw [Heap.upd_ne _ _ (by omega), wx _ (by omega)]; exact d0.r
      · rw [Heap.upd_ne _ _ (by omega), wx _ (by omega)]; exact d0.z
      · rw [Heap.upd_same, layF_zero]; rfl
      · rw [Heap.upd_ne _ _ (by omega), wx _ (by omega)]; exact xo k hk
    have hG0 : (W.upd (n + 2) (some ⟨(List.replicate 256 0#8).map .u8 ++ [.bo oo, .bo mm], 74, false⟩)) m = some ⟨C.map .u8 ++ F.map .bo, 86, false⟩ := by rw [Heap.upd_ne _ _ (by omega), wg]
    have hM0 : (W.upd (n + 2) (some ⟨(List.replicate 256 0#8).map .u8 ++ [.bo oo, .bo mm], 74, false⟩)) (m + 1) = some ⟨S.c.map .u8 ++ [.bo oo, .bo mm], 88, false⟩ := by rw [Heap.upd_ne _ _ (by omega), wm]
    generalize W.upd (n + 2) (some ⟨(List.replicate 256 0#8).map .u8 ++ [.bo oo, .bo mm], 74, false⟩) = W0 at hI0 hG0 hM0 ⊢
    have hvokm : v.ok (m + 2) = true := AV.ok_mono (by omega) _ hvok
    have hcokm : cv.ok (m + 2) = true := AV.ok_mono (by omega) _ hcok
    refine awp_seqF (S := DrS) (fun _ => [(8, .pt (n + 1) 0), (9, .pt (n + 2) 0)]) (fun t => t.X) (fun _ => m + 2) (fun t => DrI H n regs (seeS bs cs regs line) oo mm 256 (m + 2) t.X) (fun t ht => ⟨ht.wf, Env.okAt_of2 (by simp [AV.ok]; omega)⟩) ?_ ?_
    · refine awp_step dr44 (by decide +kernel) ?_
      simp only [go_sem]
      refine awp_block ?_
      refine awp_loopF (S := DrS) (fun t => [(0, v), (1, cv), (3, .i64 line), (6, .pt n 0), (8, .pt (n + 1) 0), (9, .pt (n + 2) 0), (10, .u8 (edgeS cs regs)), (12, .pt m 0), (13, .pt (m + 1) 0), (56, .i64 t.j)]) (fun t => t.X) (fun _ => m + 2)
        (fun t => t.j ≤ 256 ∧ DrI H n regs (seeS bs cs regs line) oo mm t.j (m + 2) t.X ∧ t.X m = some ⟨C.map .u8 ++ F.map .bo, 86, false⟩ ∧ t.X (m + 1) = some ⟨S.c.map .u8 ++ [.bo oo, .bo mm], 88, false⟩) (fun t => 256 - t.j)
        (fun t ht => ⟨ht.2.1.wf, Env.okAt_of2 (by simp [AV.ok, hvokm, hcokm]; omega)⟩) ?_ (⟨0, 0, W0⟩ : DrS) ⟨Nat.zero_le _, hI0, hG0, hM0⟩ (by repeat (first | exact Env.le_nil _ | refine Env.le_cons rfl ?_)) (fun _ _ => rfl) rfl
      rintro ⟨j, _, Y⟩ ⟨hj, hI, hG, hM⟩
      simp only at hj hI hG hM ⊢
      have yc : Y (n + 2) = some ⟨(layF (seeS bs cs regs line) 256 j).map .u8 ++ [.bo oo, .bo mm], 74, false⟩ := hI.c
      have y0 := hI.r
      rw [hm] at y0
      have hcY := hc.mono hcok hI.old
      refine awp_step dr44 (by decide +kernel) ?_
      simp only [go_sem]
      refine awp_step dr44 (by decide +kernel) ?_
      simp only [go_sem]
      refine ⟨fun hlt => ?_, fun hlt => ?_⟩
      · have hj' : j < 256 := by omega
        have hjI : (j : Int) < 256 := by omega
        have hj2 : j < 258 := by omega
        have hj5 : j < 512 := by omega
        have hj6 : 256 + j < 512 := by omega
        have w1 : wrap64 ((j : Int) + 1) = ((j + 1 : Nat) : Int) := by rw [wrap_id _ (by omega) (by omega)]; omega
        have gc : (C.map AV.u8 ++ F.map AV.bo).getD j .junk = .u8 (gcolS bs regs line j) := by
          rw [getD_app_l (by rw [List.length_map]; omega), getD_map_u8' (by omega), c3 j hj']
        have gf : (C.map AV.u8 ++ F.map AV.bo).getD (256 + j) .junk = .bo (gfrS bs regs line j) := by
          rw [getD_app_r (by rw [List.length_map]; omega), List.length_map, c1, show 256 + j - 256 = j by omega, ← c4 j hj']
          simp [List.getD_eq_getElem?_getD, c2, hj']
        have gs : (S.c.map AV.u8 ++ [AV.bo oo, AV.bo mm]).getD j .junk = .u8 (S.c.getD j 0#8) := by
          rw [getD_app_l (by rw [List.length_map]; omega), getD_map_u8' (by omega)]
        have ex := eF j
        generalize S.c.getD j 0#8 = sd at gs ex
        refine awp_seq (awp_block ?_)
        refine awp_step dr44 (by decide +kernel) ?_
        simp only [go_sem]
        refine awp_step dr44 (by decide +kernel) ?_
        simp only [go_sem, hG, gl, gc, hjI, hj5]
        refine awp_seqF (S := Unit) (fun _ => [(0, v), (1, cv), (3, .i64 line), (6, .pt n 0), (8, .pt (n + 1) 0), (9, .pt (n + 2) 0), (10, .u8 (edgeS cs regs)), (12, .pt m 0), (13, .pt (m + 1) 0), (14, .i64 j), (15, .u8 (mixD bs regs line j)), (56, .i64 j)]) (fun _ => Y) (fun _ => m + 2) (fun _ => True) (fun _ _ => ⟨hI.wf, Env.okAt_of2 (by simp [AV.ok, hvokm, hcokm]; omega)⟩) ?_ ?_
        · refine awp_ev dr44 (by decide +kernel) ?_
          simp only [go_sem, hM, hG, ml, gl, gs, gf, hjI, hj2, hj6]
          have d1 : (sd != 0#8) = true → (!gfrS bs regs line j) = true → mixD bs regs line j = sd := fun a b => by rw [ex, if_pos ⟨by simpa using a, by simpa using b⟩]
          have d2 : (sd != 0#8) = false ∨ (!gfrS bs regs line j) = false → mixD bs regs line j = gcolS bs regs line j := fun a => by
            rw [ex, if_neg (fun c => by
              rcases a with a | a
              · exact c.1 (by simpa using a)
              · have := c.2; rw [this] at a; simp at a)]
          refine ⟨fun a => ⟨fun b => ?_, fun b => ?_⟩, fun a => ?_⟩
          · rw [d1 a b]; exact Ends.mk () trivial (by repeat (first | exact Env.le_nil _ | refine Env.le_cons rfl ?_)) (fun _ _ => rfl) (Nat.le_refl _) (Nat.le_refl _)
          · rw [d2 (.inr b)]; exact Ends.mk () trivial (by repeat (first | exact Env.le_nil _ | refine Env.le_cons rfl ?_)) (fun _ _ => rfl) (Nat.le_refl _) (Nat.le_refl _)
          · rw [d2 (.inl a)]; exact Ends.mk () trivial (by repeat (first | exact Env.le_nil _ | refine Env.le_cons rfl ?_)) (fun _ _ => rfl) (Nat.le_refl _) (Nat.le_refl _)
        rintro - -
        refine awp_step dr44 (by decide +kernel) ?_
        simp only [go_sem]
        refine line_paint cv cs _ _ _ _ hcY hcokm ?_
        have es1 : seeS bs cs regs line j = if j < 8 ∧ blankS regs = true then edgeS cs regs else paintS cs (mixD bs regs line j).toNat := by
          unfold seeS
          rw [if_neg (by rw [hyes]; decide), hs']
          by_cases c : j < 8 ∧ blankS regs = true
          · rw [if_pos c, if_pos (.inr c)]
          · rw [if_neg c, if_neg (fun x => by rcases x with x | x; exact absurd x (by decide); exact c x)]
        have eb : (r0 &&& 32#8 != 0#8) = blankS regs := by unfold blankS; rw [hr0, bits_ne]
        generalize paintS cs (mixD bs regs line j).toNat = pp at es1 ⊢
        have ss : ∀ y, ((layF (seeS bs cs regs line) 256 j).map AV.u8 ++ [AV.bo oo, AV.bo mm]).set j (.u8 y) = ((layF (seeS bs cs regs line) 256 j).set j y).map AV.u8 ++ [AV.bo oo, AV.bo mm] := fun y => by
          rw [List.set_append_left _ _ (by rw [List.length_map, layF_len _ hj]; exact hj'), List.map_set]
        have ll := pic_len (seeS bs cs regs line) oo mm hj
        simp only [go_sem, yc, ll, hjI, hj2, ss]
        refine ⟨by omega, ?_⟩
        have yn0 : ∀ V, (Y.upd (n + 2) V) n = some ⟨[.u8 r0, .u8 r1, .u8 r2, .u8 r3, .u8 r4, .u8 r5, .u8 r6, .u8 r7, .u8 r8, .u8 r9, .u8 r10], 66, false⟩ := fun V => by rw [Heap.upd_ne _ _ (by omega)]; exact y0
        have l2 : ∀ y, (((layF (seeS bs cs regs line) 256 j).set j y).map AV.u8 ++ [AV.bo oo, AV.bo mm]).length = 258 := fun y => by
          rw [List.length_append, List.length_map, List.length_set, layF_len _ hj]; rfl
        have s3 : ∀ x y, (((layF (seeS bs cs regs line) 256 j).set j x).map AV.u8 ++ [AV.bo oo, AV.bo mm]).set j (.u8 y) = ((layF (seeS bs cs regs line) 256 j).set j y).map AV.u8 ++ [AV.bo oo, AV.bo mm] := fun x y => by
          rw [List.set_append_left _ _ (by rw [List.length_map, List.length_set, layF_len _ hj]; exact hj'), ← List.map_set, List.set_set]
        have tail : ∀ y, y = seeS bs cs regs line j → j + 1 ≤ 256 ∧ DrI H n regs (seeS bs cs regs line) oo mm (j + 1) (m + 2) (Y.upd (n + 2) (some ⟨((layF (seeS bs cs regs line) 256 j).set j y).map .u8 ++ [.bo oo, .bo mm], 74, false⟩)) ∧
            (Y.upd (n + 2) (some ⟨((layF (seeS bs cs regs line) 256 j).set j y).map .u8 ++ [.bo oo, .bo mm], 74, false⟩)) m = some ⟨C.map .u8 ++ F.map .bo, 86, false⟩ ∧
            (Y.upd (n + 2) (some ⟨((layF (seeS bs cs regs line) 256 j).set j y).map .u8 ++ [.bo oo, .bo mm], 74, false⟩)) (m + 1) = some ⟨S.c.map .u8 ++ [.bo oo, .bo mm], 88, false⟩ := fun y hy => by
          rw [hy, layF_set _ hj']
          exact ⟨by omega, hI.put _ _ _ _, by rw [Heap.upd_ne _ _ (by omega)]; exact hG, by rw [Heap.upd_ne _ _ (by omega)]; exact hM⟩
        refine awp_ev dr44 (by decide +kernel) ?_
        simp only [go_sem, yn0, l2, s3, hjI, hj2, eb]
        refine ⟨fun a => ⟨fun b => ⟨by omega, ?_⟩, fun b => ?_⟩, fun a => ?_⟩ <;> refine awp_ev dr0 (by decide +kernel) ?_ <;> simp only [go_sem, w1]
        · exact Ends.mk (⟨j + 1, 0, Y.upd (n + 2) (some ⟨((layF (seeS bs cs regs line) 256 j).set j (edgeS cs regs)).map .u8 ++ [.bo oo, .bo mm], 74, false⟩)⟩ : DrS) ⟨by simp only; omega, tail _ (by rw [es1, if_pos ⟨by omega, b⟩])⟩ (by repeat (first | exact Env.le_nil _ | refine Env.le_cons rfl ?_)) (fun k _ => by
            by_cases hk : k = n + 2
            · subst hk; simp only [Heap.upd_same]
            · simp only [Heap.upd_ne _ _ hk]) (Nat.le_refl _) (Nat.le_refl _)
        · exact Ends.mk (⟨j + 1, 0, Y.upd (n + 2) (some ⟨((layF (seeS bs cs regs line) 256 j).set j pp).map .u8 ++ [.bo oo, .bo mm], 74, false⟩)⟩ : DrS) ⟨by simp only; omega, tail _ (by rw [es1, if_neg (fun c => by rw [c.2] at b; cases b)])⟩ (by repeat (first | exact Env.le_nil _ | refine Env.le_cons rfl ?_)) (fun k _ => rfl) (Nat.le_refl _) (Nat.le_refl _)
        · exact Ends.mk (⟨j + 1, 0, Y.upd (n + 2) (some ⟨((layF (seeS bs cs regs line) 256 j).set j pp).map .u8 ++ [.bo oo, .bo mm], 74, false⟩)⟩ : DrS) ⟨by simp only; omega, tail _ (by rw [es1, if_neg (fun c => by omega)])⟩ (by repeat (first | exact Env.le_nil _ | refine Env.le_cons rfl ?_)) (fun k _ => rfl) (Nat.le_refl _) (Nat.le_refl _)
      · have hj6 : j = 256 := by omega
        subst hj6
        exact Ends.mk (⟨256, 0, Y⟩ : DrS) hI (by repeat (first | exact Env.le_nil _ | refine Env.le_cons rfl ?_)) (fun _ _ => rfl) (Nat.le_refl _) (Nat.le_refl _)
    rintro ⟨_, _, Y⟩ hI
    simp only at hI ⊢
    have yc : Y (n + 2) = some ⟨(layF (seeS bs cs regs line) 256 256).map .u8 ++ [.bo oo, .bo mm], 74, false⟩ := hI.c
    have yz : Y (n + 1) = some ⟨(List.replicate 256 0#8).map .u8 ++ [.bo false, .bo false], 74, false⟩ := hI.z
    have pa := pic_av (layF (seeS bs cs regs line) 256 256) oo mm n
    have e1 := es0 _ (pic_len (seeS bs cs regs line) oo mm (Nat.le_refl _))
    have l1 := pic_len (seeS bs cs regs line) oo mm (Nat.le_refl 256)
    generalize (layF (seeS bs cs regs line) 256 256).map AV.u8 ++ [AV.bo oo, AV.bo mm] = L at yc l1 e1 h pa
    have tk : L.take 258 = L := List.take_of_length_le (by omega)
    refine awp_ev dr44 (by decide +kernel) ?_
    simp only [go_sem, yc, yz, l0, l1, e1, tk]
    exact Fin.back wf h (fun k hk => by rw [Heap.upd_ne _ _ (by omega)]; exact hI.old k hk) pa
end Go.Proofs.Joy
namespace Go.Proofs.Joy
open Go.Ab

/-- A picture chip's memory, and how it is reached. -/
structure PortS where
  vram : List (BitVec 8)
  cram : List (BitVec 8)
  regs : List (BitVec 8)
  addr : BitVec 16
  code : BitVec 8
  low : BitVec 8
  buf : BitVec 8
  sec : Bool

structure PortS.ok (p : PortS) : Prop where
  vram : p.vram.length = 16384
  cram : p.cram.length = 32
  regs : p.regs.length = 11
  addr : p.addr.toNat < 16384

/-- Its rows have their lengths. -/
structure PortS.lens (p : PortS) : Prop where
  vram : p.vram.length = 16384
  cram : p.cram.length = 32
  regs : p.regs.length = 11
theorem PortS.ok.lens {p : PortS} (h : p.ok) : p.lens := ⟨h.vram, h.cram, h.regs⟩
@[go_sem] theorem PortS.lens_mk (a b c : List (BitVec 8)) (d : BitVec 16) (e f g : BitVec 8) (s : Bool) : (PortS.mk a b c d e f g s).lens = (a.length = 16384 ∧ b.length = 32 ∧ c.length = 11) :=
  propext ⟨fun h => ⟨h.1, h.2, h.3⟩, fun h => ⟨h.1, h.2.1, h.2.2⟩⟩
def PortS.kc (p : PortS) : List AV := [.u16 p.addr, .u8 p.code, .u8 p.low, .u8 p.buf, .bo p.sec]
def PortS.cells (p : PortS) : List AV := p.vram.map AV.u8 ++ (p.cram.map .u8 ++ (p.regs.map AV.u8 ++ p.kc))

def onS (p : PortS) : PortS := { p with addr := (p.addr + 1#16) &&& 16383#16 }
def fillS (p : PortS) : PortS := onS { p with buf := p.vram.getD p.addr.toNat 0#8 }
def controlS (p : PortS) (v : BitVec 8) : PortS :=
  if p.sec = false then { p with sec := true, low := v, addr := p.addr &&& 16128#16 ||| v.setWidth 16 }
  else
    let q := { p with sec := false, code := v >>> 6, addr := (v &&& 63#8).setWidth 16 <<< 8 ||| p.low.setWidth 16 }
    if v >>> 6 = 0#8 then fillS q else if v >>> 6 = 2#8 then (if (v &&& 15#8).toNat < 11 then { q with regs := p.regs.set (v &&& 15#8).toNat p.low } else q) else q
def forgetS (p : PortS) : PortS := { p with sec := false }
def writeS (p : PortS) (v : BitVec 8) : PortS :=
  onS (if p.code = 3#8 then { p with sec := false, cram := p.cram.set (p.addr % 32#16).toNat (v &&& 63#8), buf := v } else { p with sec := false, vram := p.vram.set p.addr.toNat v, buf := v })
def readS (p : PortS) : PortS := fillS { p with sec := false }
def newS : PortS := ⟨List.replicate 16384 0#8, List.replicate 32 0#8, List.replicate 11 0#8, 0#16, 0#8, 0#8, 0#8, false⟩

theorem newS_ok : newS.ok := ⟨List.length_replicate, List.length_replicate, List.length_replicate, by decide⟩

theorem and_16383 (x : BitVec 16) : (x &&& 16383#16).toNat < 16384 := by
  rw [BitVec.toNat_and]; exact Nat.lt_of_le_of_lt Nat.and_le_right (by decide)
theorem onS_ok {p : PortS} (hv : p.vram.length = 16384) (hc : p.cram.length = 32) (hr : p.regs.length = 11) : (onS p).ok := ⟨hv, hc, hr, and_16383 _⟩
theorem first_addr (a : BitVec 16) (v : BitVec 8) : (a &&& 16128#16 ||| v.setWidth 16).toNat < 16384 := by
  rw [BitVec.toNat_or]
  refine Nat.or_lt_two_pow (n := 14) ?_ ?_
  · rw [BitVec.toNat_and]; exact Nat.lt_of_le_of_lt Nat.and_le_right (by decide)
  · rw [BitVec.toNat_setWidth, Nat.mod_eq_of_lt (by omega)]; omega
theorem low6 (v : BitVec 8) : (v &&& 63#8).toNat < 64 := by
  rw [BitVec.toNat_and]; exact Nat.lt_of_le_of_lt Nat.and_le_right (by decide)
theorem second_addr (v low : BitVec 8) : ((v &&& 63#8).setWidth 16 <<< 8 ||| low.setWidth 16).toNat = (v &&& 63#8).toNat * 256 + low.toNat := by
  have h1 := low6 v
  have h2 := low.isLt
  rw [BitVec.toNat_or, BitVec.toNat_shiftLeft, BitVec.toNat_setWidth, BitVec.toNat_setWidth, Nat.mod_eq_of_lt (show (v &&& 63#8).toNat < 2 ^ 16 by omega), Nat.mod_eq_of_lt (show low.toNat < 2 ^ 16 by omega), Nat.shiftLeft_eq, Nat.mod_eq_of_lt (by omega)]
  rw [← Nat.shiftLeft_eq, ← Nat.shiftLeft_add_eq_or_of_lt (by omega), Nat.shiftLeft_eq]
theorem second_addr_lt (v low : BitVec 8) : ((v &&& 63#8).setWidth 16 <<< 8 ||| low.setWidth 16).toNat < 16384 := by
  rw [second_addr]; have := low6 v; have := low.isLt; omega

theorem PortS.ok.fill {p : PortS} (hv : p.vram.length = 16384) (hc : p.cram.length = 32) (hr : p.regs.length = 11) : (fillS p).ok := onS_ok hv hc hr
theorem PortS.ok.control {p : PortS} (h : p.ok) (v : BitVec 8) : (controlS p v).ok := by
  unfold controlS
  split
  · exact ⟨h.vram, h.cram, h.regs, first_addr _ _⟩
  · dsimp only
    split
    · exact onS_ok h.vram h.cram h.regs
    · split
      · split
        · exact ⟨h.vram, h.cram, by simp [h.regs], second_addr_lt _ _⟩
        · exact ⟨h.vram, h.cram, h.regs, second_addr_lt _ _⟩
      · exact ⟨h.vram, h.cram, h.regs, second_addr_lt _ _⟩
theorem PortS.ok.forget {p : PortS} (h : p.ok) : (forgetS p).ok := ⟨h.vram, h.cram, h.regs, h.addr⟩
theorem PortS.ok.write {p : PortS} (h : p.ok) (v : BitVec 8) : (writeS p v).ok := by
  unfold writeS
  split
  · exact onS_ok h.vram (by simp [h.cram]) h.regs
  · exact onS_ok (by simp [h.vram]) h.cram h.regs
theorem PortS.ok.read {p : PortS} (h : p.ok) : (readS p).ok := onS_ok h.vram h.cram h.regs

/-! ### Its cells -/
section
variable {p : PortS} (h : p.lens)
include h
theorem PortS.len : p.cells.length = 16432 := by simp [PortS.cells, PortS.kc, h.vram, h.cram, h.regs]
theorem PortS.get_vram {i : Nat} (hi : i < 16384) : p.cells.getD i .junk = .u8 (p.vram.getD i 0#8) := by
  unfold PortS.cells
  rw [getD_app_l (by simp [h.vram, hi])]
  exact getD_map_u8' (by rw [h.vram]; exact hi)
theorem PortS.tail (i : Nat) : p.cells.getD (16384 + i) .junk = (p.cram.map AV.u8 ++ (p.regs.map AV.u8 ++ p.kc)).getD i .junk := by
  unfold PortS.cells
  rw [getD_app_r (by simp [h.vram])]
  simp [h.vram]
theorem PortS.get_cram {i : Nat} (hi : i < 32) : p.cells.getD (16384 + i) .junk = .u8 (p.cram.getD i 0#8) := by
  rw [PortS.tail h, getD_app_l (by simp [h.cram, hi])]
  exact getD_map_u8' (by rw [h.cram]; exact hi)
theorem PortS.tail2 (i : Nat) : p.cells.getD (16416 + i) .junk = (p.regs.map AV.u8 ++ p.kc).getD i .junk := by
  rw [show 16416 + i = 16384 + (32 + i) by omega, PortS.tail h, getD_app_r (by simp [h.cram])]
  simp [h.cram]
theorem PortS.get_regs {i : Nat} (hi : i < 11) : p.cells.getD (16416 + i) .junk = .u8 (p.regs.getD i 0#8) := by
  rw [PortS.tail2 h, getD_app_l (by simp [h.regs, hi])]
  exact getD_map_u8' (by rw [h.regs]; exact hi)
theorem PortS.tail3 (i : Nat) : p.cells.getD (16427 + i) .junk = p.kc.getD i .junk := by
  rw [show 16427 + i = 16416 + (11 + i) by omega, PortS.tail2 h, getD_app_r (by simp [h.regs])]
  simp [h.regs]
theorem PortS.get_addr : p.cells.getD 16427 .junk = .u16 p.addr := PortS.tail3 h 0
theorem PortS.get_code : p.cells.getD 16428 .junk = .u8 p.code := PortS.tail3 h 1
theorem PortS.get_low : p.cells.getD 16429 .junk = .u8 p.low := PortS.tail3 h 2
theorem PortS.get_buf : p.cells.getD 16430 .junk = .u8 p.buf := PortS.tail3 h 3
theorem PortS.get_sec : p.cells.getD 16431 .junk = .bo p.sec := PortS.tail3 h 4
theorem PortS.get_allregs : (p.cells.drop 16416).take 11 = p.regs.map .u8 := by
  unfold PortS.cells
  rw [List.drop_append, List.drop_of_length_le (by simp [h.vram]), List.nil_append, List.drop_append, List.drop_of_length_le (by simp [h.vram, h.cram]), List.nil_append]
  simp [h.vram, h.cram, h.regs, List.take_append]
theorem PortS.get_allvram : p.cells.take 16384 = p.vram.map .u8 := by
  unfold PortS.cells
  rw [List.take_append, List.take_of_length_le (by simp [h.vram])]
  simp [h.vram]
theorem PortS.get_allcram : (p.cells.drop 16384).take 32 = p.cram.map .u8 := by
  unfold PortS.cells
  rw [List.drop_append, List.drop_of_length_le (by simp [h.vram]), List.nil_append]
  simp [h.vram, h.cram, List.take_append]
theorem PortS.set_vram {i : Nat} (hi : i < 16384) (v : BitVec 8) : p.cells.set i (.u8 v) = ({ p with vram := p.vram.set i v } : PortS).cells := by
  unfold PortS.cells
  rw [List.set_append_left _ _ (by simp [h.vram, hi]), List.map_set]
  rfl
theorem PortS.set_tail (i : Nat) (x : AV) : p.cells.set (16384 + i) x = p.vram.map AV.u8 ++ (p.cram.map AV.u8 ++ (p.regs.map AV.u8 ++ p.kc)).set i x := by
  unfold PortS.cells
  rw [List.set_append_right _ _ (by simp [h.vram])]
  simp [h.vram]
theorem PortS.set_cram {i : Nat} (hi : i < 32) (v : BitVec 8) : p.cells.set (16384 + i) (.u8 v) = ({ p with cram := p.cram.set i v } : PortS).cells := by
  rw [PortS.set_tail h, List.set_append_left _ _ (by simp [h.cram, hi]), ← List.map_set]
  rfl
theorem PortS.set_tail2 (i : Nat) (x : AV) : p.cells.set (16416 + i) x = p.vram.map AV.u8 ++ (p.cram.map AV.u8 ++ (p.regs.map AV.u8 ++ p.kc).set i x) := by
  rw [show 16416 + i = 16384 + (32 + i) by omega, PortS.set_tail h, List.set_append_right _ _ (by simp [h.cram])]
  simp [h.cram]
theorem PortS.set_regs {i : Nat} (hi : i < 11) (v : BitVec 8) : p.cells.set (16416 + i) (.u8 v) = ({ p with regs := p.regs.set i v } : PortS).cells := by
  rw [PortS.set_tail2 h, List.set_append_left _ _ (by simp [h.regs, hi]), ← List.map_set]
  rfl
theorem PortS.set_tail3 (i : Nat) (x : AV) : p.cells.set (16427 + i) x = p.vram.map AV.u8 ++ (p.cram.map AV.u8 ++ (p.regs.map AV.u8 ++ p.kc.set i x)) := by
  rw [show 16427 + i = 16416 + (11 + i) by omega, PortS.set_tail2 h, List.set_append_right _ _ (by simp [h.regs])]
  simp [h.regs]
theorem PortS.set_addr (x : BitVec 16) : p.cells.set 16427 (.u16 x) = ({ p with addr := x } : PortS).cells := PortS.set_tail3 h 0 _
theorem PortS.set_code (x : BitVec 8) : p.cells.set 16428 (.u8 x) = ({ p with code := x } : PortS).cells := PortS.set_tail3 h 1 _
theorem PortS.set_low (x : BitVec 8) : p.cells.set 16429 (.u8 x) = ({ p with low := x } : PortS).cells := PortS.set_tail3 h 2 _
theorem PortS.set_buf (x : BitVec 8) : p.cells.set 16430 (.u8 x) = ({ p with buf := x } : PortS).cells := PortS.set_tail3 h 3 _
theorem PortS.set_sec (x : Bool) : p.cells.set 16431 (.bo x) = ({ p with sec := x } : PortS).cells := PortS.set_tail3 h 4 _
end
theorem PortS.splice_vram {p : PortS} (h : p.lens) {xs : List (BitVec 8)} (hx : xs.length = 16384) : splice p.cells 0 (xs.map .u8) = ({ p with vram := xs } : PortS).cells := by
  unfold PortS.cells
  rw [splice_app_l (by simp [h.vram, hx]), splice_whole (by simp [h.vram, hx])]
  rfl
theorem PortS.splice_cram {p : PortS} (h : p.lens) {xs : List (BitVec 8)} (hx : xs.length = 32) : splice p.cells 16384 (xs.map .u8) = ({ p with cram := xs } : PortS).cells := by
  unfold PortS.cells
  have e : (16384 : Nat) = (p.vram.map AV.u8).length + 0 := by simp [h.vram]
  rw [e, splice_app_r, splice_app_l (by simp [h.cram, hx]), splice_whole (by simp [h.cram, hx])]
  rfl
theorem PortS.splice_regs {p : PortS} (h : p.lens) {xs : List (BitVec 8)} (hx : xs.length = 11) : splice p.cells 16416 (xs.map .u8) = ({ p with regs := xs } : PortS).cells := by
  unfold PortS.cells
  have e : (16416 : Nat) = (p.vram.map AV.u8).length + ((p.cram.map AV.u8).length + 0) := by simp [h.vram, h.cram]
  rw [e, splice_app_r, splice_app_r, splice_app_l (by simp [h.regs, hx]), splice_whole (by simp [h.regs, hx])]
  rfl
theorem PortS.splice_kept {p : PortS} (h : p.lens) (a : BitVec 16) (c l b : BitVec 8) (s : Bool) : splice p.cells 16427 [.u16 a, .u8 c, .u8 l, .u8 b, .bo s] = ({ p with addr := a, code := c, low := l, buf := b, sec := s } : PortS).cells := by
  unfold PortS.cells
  have e : (16427 : Nat) = (p.vram.map AV.u8).length + ((p.cram.map AV.u8).length + ((p.regs.map AV.u8).length + 0)) := by simp [h.vram, h.cram, h.regs]
  rw [e, splice_app_r, splice_app_r, splice_app_r, splice_whole (by simp [PortS.kc])]
  rfl
theorem PortS.cells_ok (p : PortS) (n : Nat) : ∀ v ∈ p.cells, v.ok n = true := by
  intro v hv
  simp only [PortS.cells, PortS.kc, List.mem_append, List.mem_map, List.mem_cons, List.not_mem_nil, or_false] at hv
  rcases hv with ⟨_, _, rfl⟩ | ⟨_, _, rfl⟩ | ⟨_, _, rfl⟩ | rfl | rfl | rfl | rfl | rfl <;> rfl
attribute [go_sem] PortS.len PortS.get_addr PortS.get_code PortS.get_low PortS.get_buf PortS.get_sec PortS.get_allregs PortS.get_allvram PortS.get_allcram PortS.set_addr PortS.set_code PortS.set_low PortS.set_buf PortS.set_sec List.length_set
end Go.Proofs.Joy
namespace Go.Proofs.Joy
open Go.Ab
set_option maxHeartbeats 1000000
set_option maxRecDepth 20000

def portFits (d : List (BitVec 8)) : Bool := d.length == 16433 && !((d.drop 16384).take 32).any (fun c => decide (63#8 < c)) && !decide (63#8 < d.getD 16428 0#8) && !decide (3#8 < d.getD 16429 0#8) && !decide (1#8 < d.getD 16431 0#8)
def pportOf (d : List (BitVec 8)) : PortS :=
  ⟨d.take 16384, (d.drop 16384).take 32, (d.drop 16416).take 11, (d.getD 16427 0#8).setWidth 16 ||| (d.getD 16428 0#8).setWidth 16 <<< 8, d.getD 16429 0#8, d.getD 16430 0#8, d.getD 16432 0#8, d.getD 16431 0#8 == 1#8⟩

def dumpL (p : PortS) : List (BitVec 8) := p.vram ++ (p.cram ++ (p.regs ++ [p.addr.setWidth 8, (p.addr >>> 8).setWidth 8, p.code, p.low, if p.sec then 1#8 else 0#8, p.buf]))

theorem getD_setp {l : List (BitVec 8)} {i j : Nat} {x d : BitVec 8} (h : i < l.length) : (l.set i x).getD j d = if i = j then x else l.getD j d := by
  rw [List.getD_eq_getElem?_getD, List.getElem?_set]
  split
  · rw [Option.getD_some]
  · rw [← List.getD_eq_getElem?_getD]
structure PortS.good (p : PortS) : Prop where
  ok : p.ok
  code : p.code.toNat < 4
  cram : ∀ j, j < 32 → (p.cram.getD j 0#8).toNat < 64

theorem newS_good : newS.good := ⟨newS_ok, by decide, fun j hj => by
  show ((List.replicate 32 0#8).getD j 0#8).toNat < 64
  rw [List.getD_eq_getElem?_getD, List.getElem?_replicate, if_pos hj]; decide⟩
theorem PortS.good.control {p : PortS} (h : p.good) (v : BitVec 8) : (controlS p v).good := by
  refine ⟨h.ok.control v, ?_, ?_⟩
  · have hc := h.code
    have hv : (v >>> 6).toNat < 4 := by simp; have := v.isLt; omega
    unfold controlS
    split
    · exact hc
    · dsimp only
      split
      · exact hv
      · split
        · split
          · exact hv
          · exact hv
        · exact hv
  · have hc := h.cram
    unfold controlS
    split
    · exact hc
    · dsimp only
      split
      · exact hc
      · split
        · split
          · exact hc
          · exact hc
        · exact hc
theorem PortS.good.forget {p : PortS} (h : p.good) : (forgetS p).good := ⟨h.ok.forget, h.code, h.cram⟩
theorem PortS.good.write {p : PortS} (h : p.good) (v : BitVec 8) : (writeS p v).good := by
  refine ⟨h.ok.write v, ?_, ?_⟩
  · unfold writeS; split
    · exact h.code
    · exact h.code
  · unfold writeS; split
    · intro j hj
      simp only [onS]
      rw [getD_setp (by rw [h.ok.cram, BitVec.toNat_umod]; exact Nat.mod_lt _ (by decide))]
      split
      · exact low6 v
      · exact h.cram j hj
    · exact h.cram
theorem PortS.good.read {p : PortS} (h : p.good) : (readS p).good := ⟨h.ok.read, h.code, h.cram⟩

theorem dumpL_len {p : PortS} (h : p.lens) : (dumpL p).length = 16433 := by
  simp [dumpL, h.vram, h.cram, h.regs]
theorem dumpL_take {p : PortS} (h : p.lens) : (dumpL p).take 16384 = p.vram := by
  rw [dumpL, List.take_append_of_le_length (by rw [h.vram]; exact Nat.le_refl _), List.take_of_length_le (by rw [h.vram]; exact Nat.le_refl _)]
theorem dumpL_drop {p : PortS} (h : p.lens) : (dumpL p).drop 16384 = p.cram ++ (p.regs ++ [p.addr.setWidth 8, (p.addr >>> 8).setWidth 8, p.code, p.low, if p.sec then 1#8 else 0#8, p.buf]) := by
  rw [dumpL]; exact List.drop_left' h.vram
theorem dumpL_drop2 {p : PortS} (h : p.lens) : (dumpL p).drop 16416 = p.regs ++ [p.addr.setWidth 8, (p.addr >>> 8).setWidth 8, p.code, p.low, if p.sec then 1#8 else 0#8, p.buf] := by
  rw [show 16416 = 16384 + 32 by rfl, ← List.drop_drop, dumpL_drop h]; exact List.drop_left' h.cram
theorem dumpL_drop3 {p : PortS} (h : p.lens) : (dumpL p).drop 16427 = [p.addr.setWidth 8, (p.addr >>> 8).setWidth 8, p.code, p.low, if p.sec then 1#8 else 0#8, p.buf] := by
  rw [show 16427 = 16416 + 11 by rfl, ← List.drop_drop, dumpL_drop2 h]; exact List.drop_left' h.regs
theorem dumpL_get {p : PortS} (h : p.lens) (k : Nat) : (dumpL p).getD (16427 + k) 0#8 = ([p.addr.setWidth 8, (p.addr >>> 8).setWidth 8, p.code, p.low, if p.sec then 1#8 else 0#8, p.buf] : List (BitVec 8)).getD k 0#8 := by
  rw [← dumpL_drop3 h, List.getD_eq_getElem?_getD, List.getD_eq_getElem?_getD, List.getElem?_drop]

theorem addr_back (a : BitVec 16) : (a.setWidth 8).setWidth 16 ||| ((a >>> 8).setWidth 8).setWidth 16 <<< 8 = a := by
  apply BitVec.eq_of_toNat_eq
  have := a.isLt
  rw [BitVec.or_comm, BitVec.toNat_or, BitVec.toNat_shiftLeft]
  simp only [BitVec.toNat_setWidth, BitVec.toNat_ushiftRight, Nat.shiftRight_eq_div_pow]
  rw [Nat.mod_eq_of_lt (show a.toNat / 2 ^ 8 % 2 ^ 8 < 2 ^ 16 by omega), Nat.mod_eq_of_lt (show a.toNat % 2 ^ 8 < 2 ^ 16 by omega), Nat.shiftLeft_eq, Nat.mod_eq_of_lt (by omega)]
  rw [← Nat.shiftLeft_eq, ← Nat.shiftLeft_add_eq_or_of_lt (by omega), Nat.shiftLeft_eq]
  omega

theorem pportOf_dump {p : PortS} (h : p.lens) : pportOf (dumpL p) = p := by
  unfold pportOf
  have g := fun k => dumpL_get h k
  rw [dumpL_take h, dumpL_drop h, dumpL_drop2 h]
  rw [show (dumpL p).getD 16427 0#8 = _ from g 0, show (dumpL p).getD 16428 0#8 = _ from g 1, show (dumpL p).getD 16429 0#8 = _ from g 2, show (dumpL p).getD 16430 0#8 = _ from g 3, show (dumpL p).getD 16431 0#8 = _ from g 4, show (dumpL p).getD 16432 0#8 = _ from g 5]
  rw [List.take_left' h.cram, List.take_left' h.regs]
  simp only [List.getD_cons_zero, List.getD_cons_succ, addr_back]
  cases p with
  | mk a b c d e f g s => cases s <;> rfl
theorem portFits_dump {p : PortS} (h : p.good) : portFits (dumpL p) = true := by
  have hl := h.ok.lens
  have g := fun k => dumpL_get hl k
  unfold portFits
  rw [dumpL_drop hl, List.take_left' hl.cram, dumpL_len hl]
  rw [show (dumpL p).getD 16428 0#8 = _ from g 1, show (dumpL p).getD 16429 0#8 = _ from g 2, show (dumpL p).getD 16431 0#8 = _ from g 4]
  simp only [List.getD_cons_zero, List.getD_cons_succ]
  have a1 : p.cram.any (fun c => decide (63#8 < c)) = false := by
    rw [List.any_eq_false]
    intro x hx
    obtain ⟨j, hj, rfl⟩ := List.mem_iff_getElem.1 hx
    have := h.cram j (by rw [hl.cram] at hj; exact hj)
    rw [List.getD_eq_getElem?_getD, List.getElem?_eq_getElem hj] at this
    simp only [Option.getD_some] at this
    simp only [BitVec.lt_def, decide_eq_true_eq, show (63#8).toNat = 63 from rfl]; omega
  have a2 : ¬ 63#8 < (p.addr >>> 8).setWidth 8 := by
    rw [BitVec.lt_def]; simp [Nat.shiftRight_eq_div_pow]; have := h.ok.addr; omega
  have a3 : ¬ 3#8 < p.code := by rw [BitVec.lt_def, show (3#8).toNat = 3 from rfl]; have := h.code; omega
  have a4 : ¬ 1#8 < (if p.sec then 1#8 else 0#8) := by cases p.sec <;> decide
  rw [a1, decide_eq_false a2, decide_eq_false a3, decide_eq_false a4]
  rfl

end Go.Proofs.Joy
namespace Go.Proofs.Joy
open Go.Ab Go.Proofs

set_option maxHeartbeats 1000000
set_option maxRecDepth 20000

theorem Fin.pput {n0 : Nat} {v : AV} {H H0 : Heap} {n b : Nat} {blk : Blk} {K : AV → Heap → Nat → Prop} (wf : H0.wf n0) (hb : b < n0) (hc : ∀ v ∈ blk.cells, v.ok n0 = true) (h : K v (H0.upd b (some blk)) n0)
    (hd : ∀ i, i < n0 → H i = (H0.upd b (some blk)) i) (hv : v.ok n0 = true) : Fin n0 v H n K := Fin.back (Heap.wf_set wf hb hc) h hd hv

theorem psplice_all {α : Type} {l vs : List α} (h : vs.length = l.length) : splice l 0 vs = vs := by
  simp [splice, h]

def portB (p : PortS) : Blk := ⟨p.cells, 71, false⟩

theorem port_on (b : Nat) (p : PortS) (hp : p.lens) (H : Heap) (n : Nat) (K : AV → Heap → Nat → Prop) (hb : H b = some (portB p)) (h : K (.tu []) (H.upd b (some (portB (onS p)))) n) :
    ACalls Try.prog 51 [.pt b 0] H n K := by
  refine ACalls.of_ev dr0 Try.func51 rfl (by decide +kernel) (by decide +kernel) (show 1 ≤ 13 by decide) (by simp) fun wf => ?_
  simp only [go_sem, Try.f51]
  simp only [go_sem, hb, portB, hp]
  exact Fin.pput wf (wf b _ hb).1 (PortS.cells_ok _ _) h (fun _ _ => rfl) rfl

theorem port_fill (b : Nat) (p : PortS) (hp : p.lens) (ha : p.addr.toNat < 16384) (H : Heap) (n : Nat) (K : AV → Heap → Nat → Prop) (hb : H b = some (portB p)) (h : K (.tu []) (H.upd b (some (portB (fillS p)))) n) :
    ACalls Try.prog 50 [.pt b 0] H n K := by
  refine ACalls.of_ev dr50 Try.func50 rfl (by decide +kernel) (by decide +kernel) (show 1 ≤ 18 by decide) (by simp) fun wf => ?_
  simp only [go_sem, Try.f50]
  have hg := PortS.get_vram hp ha
  have ha' : p.addr.toNat < 16432 := by omega
  have ha2 : (p.addr.toNat : Int) < 16384 := by omega
  simp only [go_sem, hb, portB, hp, hg, ha', ha2, hp.vram, hp.cram, hp.regs]
  refine port_on b { p with buf := p.vram.getD p.addr.toNat 0#8 } ⟨hp.vram, hp.cram, hp.regs⟩ _ _ _ (by simp only [go_sem, portB]) ?_
  simp only [go_sem, hb, portB]
  exact Fin.pput wf (wf b _ hb).1 (PortS.cells_ok _ _) h (fun _ _ => rfl) rfl

theorem port_forget (b : Nat) (p : PortS) (hp : p.lens) (H : Heap) (n : Nat) (K : AV → Heap → Nat → Prop) (hb : H b = some (portB p)) (h : K (.tu []) (H.upd b (some (portB (forgetS p)))) n) :
    ACalls Try.prog 42 [.pt b 0] H n K := by
  refine ACalls.of_ev dr0 Try.func42 rfl (by decide +kernel) (by decide +kernel) (show 1 ≤ 6 by decide) (by simp) fun wf => ?_
  simp only [go_sem, Try.f42]
  simp only [go_sem, hb, portB, hp]
  exact Fin.pput wf (wf b _ hb).1 (PortS.cells_ok _ _) h (fun _ _ => rfl) rfl

theorem port_control (b : Nat) (p : PortS) (hp : p.lens) (v : BitVec 8) (H : Heap) (n : Nat) (K : AV → Heap → Nat → Prop) (hb : H b = some (portB p)) (h : K (.tu []) (H.upd b (some (portB (controlS p v)))) n) :
    ACalls Try.prog 25 [.pt b 0, .u8 v] H n K := by
  refine ACalls.of_ev dr25 Try.func25 rfl (by decide +kernel) (by decide +kernel) (show 2 ≤ 85 by decide) (by simp) fun wf => ?_
  have hbn := (wf b _ hb).1
  cases hs : p.sec
  · simp only [go_sem, Try.f25, hb, portB, hp, hs, hp.vram, hp.cram, hp.regs]
    refine Fin.pput wf hbn (PortS.cells_ok _ _) h (fun _ _ => ?_) rfl
    simp only [controlS, hs, portB, if_true]
  · simp only [go_sem, Try.f25, hb, portB, hp, hs, hp.vram, hp.cram, hp.regs]
    have e1 := second_addr_lt v p.low
    refine ⟨fun h1 => ?_, fun h1 => ⟨fun h2 => ⟨fun h3 => ?_, fun h3 => ?_⟩, fun h2 => ?_⟩⟩
    all_goals simp only [beq_iff_eq, beq_eq_false_iff_ne, ne_eq] at h1
    · refine port_fill b { p with sec := false, code := v >>> 6, addr := (v &&& 63#8).setWidth 16 <<< 8 ||| p.low.setWidth 16 } ⟨hp.vram, hp.cram, hp.regs⟩ e1 _ _ _ (by simp only [go_sem, portB]) ?_
      simp only [go_sem, hb, portB]
      refine Fin.pput wf hbn (PortS.cells_ok _ _) h (fun _ _ => ?_) rfl
      simp only [controlS, hs, portB, Bool.true_eq_false, if_false]
      rw [if_pos h1]
    · simp only [beq_iff_eq] at h2
      have h3' : (v &&& 15#8).toNat < 11 := by omega
      refine ⟨h3, by omega, ?_⟩
      rw [PortS.set_regs (by exact ⟨hp.vram, hp.cram, hp.regs⟩) h3']
      refine Fin.pput wf hbn (PortS.cells_ok _ _) h (fun _ _ => ?_) rfl
      simp only [controlS, hs, portB, Bool.true_eq_false, if_false]
      rw [if_neg h1, if_pos h2, if_pos h3']
    · simp only [beq_iff_eq] at h2
      have h3' : ¬ (v &&& 15#8).toNat < 11 := by omega
      refine Fin.pput wf hbn (PortS.cells_ok _ _) h (fun _ _ => ?_) rfl
      simp only [controlS, hs, portB, Bool.true_eq_false, if_false]
      rw [if_neg h1, if_pos h2, if_neg h3']
    · simp only [beq_eq_false_iff_ne, ne_eq] at h2
      refine Fin.pput wf hbn (PortS.cells_ok _ _) h (fun _ _ => ?_) rfl
      simp only [controlS, hs, portB, Bool.true_eq_false, if_false]
      rw [if_neg h1, if_neg h2]

theorem port_write (b : Nat) (p : PortS) (hp : p.lens) (ha : p.addr.toNat < 16384) (v : BitVec 8) (H : Heap) (n : Nat) (K : AV → Heap → Nat → Prop) (hb : H b = some (portB p)) (h : K (.tu []) (H.upd b (some (portB (writeS p v)))) n) :
    ACalls Try.prog 26 [.pt b 0, .u8 v] H n K := by
  refine ACalls.of_ev dr26 Try.func26 rfl (by decide +kernel) (by decide +kernel) (show 2 ≤ 41 by decide) (by simp) fun wf => ?_
  simp only [go_sem, Try.f26]
  have hbn := (wf b _ hb).1
  refine port_forget b p hp _ _ _ (by simp only [go_sem, hb]) ?_
  simp only [go_sem, hb, portB, forgetS, hp.vram, hp.cram, hp.regs]
  have hm : (p.addr % 32#16).toNat < 32 := by rw [BitVec.toNat_umod]; exact Nat.mod_lt _ (by decide)
  refine ⟨fun h1 => ⟨by omega, by omega, ?_⟩, fun h1 => ⟨by omega, by omega, ?_⟩⟩
  · simp only [beq_iff_eq] at h1
    rw [PortS.set_cram (by exact ⟨hp.vram, hp.cram, hp.regs⟩) hm]
    simp only [go_sem, hp.vram, hp.cram, hp.regs]
    refine port_on b { p with sec := false, cram := p.cram.set (p.addr % 32#16).toNat (v &&& 63#8), buf := v } ⟨hp.vram, by simp [hp.cram], hp.regs⟩ _ _ _ (by simp only [go_sem, portB]) ?_
    simp only [go_sem, hb, portB]
    refine Fin.pput wf hbn (PortS.cells_ok _ _) h (fun _ _ => ?_) rfl
    simp only [writeS, portB]
    rw [if_pos h1]
  · simp only [beq_eq_false_iff_ne, ne_eq] at h1
    rw [PortS.set_vram (by exact ⟨hp.vram, hp.cram, hp.regs⟩) ha]
    simp only [go_sem, hp.vram, hp.cram, hp.regs]
    refine port_on b { p with sec := false, vram := p.vram.set p.addr.toNat v, buf := v } ⟨by simp [hp.vram], hp.cram, hp.regs⟩ _ _ _ (by simp only [go_sem, portB]) ?_
    simp only [go_sem, hb, portB]
    refine Fin.pput wf hbn (PortS.cells_ok _ _) h (fun _ _ => ?_) rfl
    simp only [writeS, portB]
    rw [if_neg h1]

theorem port_reg (b : Nat) (p : PortS) (hp : p.lens) (i : Int) (H : Heap) (n : Nat) (K : AV → Heap → Nat → Prop) (hb : H b = some (portB p)) (h : K (.u8 (if 0 ≤ i ∧ i < 11 then p.regs.getD i.toNat 0#8 else 0#8)) H n) :
    ACalls Try.prog 37 [.pt b 0, .i64 i] H n K := by
  refine ACalls.of_ev dr0 Try.func37 rfl (by decide +kernel) (by decide +kernel) (show 2 ≤ 17 by decide) (by simp) fun wf => ?_
  simp only [go_sem, Try.f37]
  have hbn := (wf b _ hb).1
  simp only [go_sem, hb, portB, hp, hp.vram, hp.cram, hp.regs]
  refine ⟨fun h1 => ⟨fun h2 => ?_, fun h2 => ⟨by omega, by omega, by omega, ?_⟩⟩, fun h1 => ?_⟩
  · rw [if_neg (by omega)] at h; exact Fin.back wf h (fun _ _ => rfl) rfl
  · rw [if_pos (by omega)] at h
    rw [PortS.get_regs hp (by omega)]
    exact ⟨by simp, Fin.back wf h (fun _ _ => rfl) rfl⟩
  · rw [if_neg (by omega)] at h; exact Fin.back wf h (fun _ _ => rfl) rfl

theorem port_regs (b : Nat) (p : PortS) (hp : p.lens) (H : Heap) (n : Nat) (K : AV → Heap → Nat → Prop) (hb : H b = some (portB p)) (h : K (.ag (p.regs.map .u8)) H n) :
    ACalls Try.prog 47 [.pt b 0] H n K := by
  refine ACalls.of_ev dr0 Try.func47 rfl (by decide +kernel) (by decide +kernel) (show 1 ≤ 7 by decide) (by simp) fun wf => ?_
  simp only [go_sem, Try.f47]
  have hbn := (wf b _ hb).1
  simp only [go_sem, hbn, hb, portB, hp, hp.regs, List.length_map]
  rw [psplice_all (by simp [hp.regs])]
  refine ⟨by simp [hp.regs], ?_⟩
  rw [List.take_of_length_le (by simp [hp.regs])]
  exact Fin.back wf h (fun i hi => by simp only [go_sem, hi]) (by rw [AV.ok, AV.oks_eq]; simp [AV.ok, AV.one])

theorem port_new (H : Heap) (n : Nat) (K : AV → Heap → Nat → Prop) (h : K (.pt n 0) (H.upd n (some (portB newS))) (n + 1)) :
    ACalls Try.prog 23 [] H n K := by
  refine ACalls.of_ev dr0 Try.func23 rfl (by decide +kernel) (by decide +kernel) (show 0 ≤ 3 by decide) (by simp) fun wf => ?_
  simp only [go_sem, Try.f23]
  have e : newS.cells = List.replicate 16427 (AV.u8 0#8) ++ [AV.u16 0#16, AV.u8 0#8, AV.u8 0#8, AV.u8 0#8, AV.bo false] := by
    unfold PortS.cells PortS.kc newS
    simp only [List.map_replicate, ← List.append_assoc, List.replicate_append_replicate]
  rw [← e]
  exact Fin.keep h
end Go.Proofs.Joy
