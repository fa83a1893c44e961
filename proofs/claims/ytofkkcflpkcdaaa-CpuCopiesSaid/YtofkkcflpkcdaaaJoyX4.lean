/- Parts of the proof: contracts of the seat's functions. -/
import Derived.Test.YtofkkcflpkcdaaaJoyW2
import Derived.Test.YtofkkcflpkcdaaaProg
import Derived.KernelRfl
import Derived.Test.YtofkkcflpkcdaaaJoyW3
set_option linter.unusedSimpArgs false
set_option linter.unusedVariables false
namespace Go.Proofs.Joy
open Go.Ab Go.Proofs
@[go_sem] theorem F.ty35 : tyA Try.prog 35 = some (false, 1) := by kernel_rfl
@[go_sem] theorem F.ty113 : tyA Try.prog 113 = some (true, 8) := by kernel_rfl
@[go_sem] theorem F.ty110 : tyA Try.prog 110 = some (true, 4) := by kernel_rfl
@[go_sem] theorem F.ty45 : tyA Try.prog 45 = some (false, 1) := by kernel_rfl
@[go_sem] theorem F.ty53 : tyA Try.prog 53 = some (true, 5) := by kernel_rfl
@[go_sem] theorem F.ty3 : tyA Try.prog 3 = some (false, 1) := by kernel_rfl
@[go_sem] theorem F.ty28 : tyA Try.prog 28 = some (false, 1) := by kernel_rfl
@[go_sem] theorem F.ty23 : tyA Try.prog 23 = some (false, 1) := by kernel_rfl
@[go_sem] theorem F.ty4 : tyA Try.prog 4 = some (false, 1) := by kernel_rfl
@[go_sem] theorem F.ty5 : tyA Try.prog 5 = some (false, 1) := by kernel_rfl
@[go_sem] theorem F.ty25 : tyA Try.prog 25 = some (true, 29) := by kernel_rfl
@[go_sem] theorem F.fld37_1 : fldT Try.prog 37 1 = some (1, false, 1) := by kernel_rfl
@[go_sem] theorem F.fld25_8 : fldT Try.prog 25 8 = some (8, true, 8) := by kernel_rfl
@[go_sem] theorem F.fld25_5 : fldT Try.prog 25 5 = some (5, false, 1) := by kernel_rfl
@[go_sem] theorem F.fld25_4 : fldT Try.prog 25 4 = some (4, false, 1) := by kernel_rfl
@[go_sem] theorem F.fld53_3 : fldT Try.prog 53 3 = some (3, false, 1) := by kernel_rfl
@[go_sem] theorem F.fld53_4 : fldT Try.prog 53 4 = some (4, false, 1) := by kernel_rfl
@[go_sem] theorem F.fld48_1 : fldT Try.prog 48 1 = some (29, false, 1) := by kernel_rfl
@[go_sem] theorem F.fld53_2 : fldT Try.prog 53 2 = some (2, false, 1) := by kernel_rfl
@[go_sem] theorem F.fld53_1 : fldT Try.prog 53 1 = some (1, false, 1) := by kernel_rfl
@[go_sem] theorem F.fld53_0 : fldT Try.prog 53 0 = some (0, false, 1) := by kernel_rfl
@[go_sem] theorem F.fld25_14 : fldT Try.prog 25 14 = some (21, false, 1) := by kernel_rfl
@[go_sem] theorem F.fld48_2 : fldT Try.prog 48 2 = some (30, false, 1) := by kernel_rfl
@[go_sem] theorem F.fld48_0 : fldT Try.prog 48 0 = some (0, true, 29) := by kernel_rfl
@[go_sem] theorem F.fld25_16 : fldT Try.prog 25 16 = some (23, false, 1) := by kernel_rfl
@[go_sem] theorem F.fld25_10 : fldT Try.prog 25 10 = some (17, false, 1) := by kernel_rfl
@[go_sem] theorem F.fld25_18 : fldT Try.prog 25 18 = some (25, false, 1) := by kernel_rfl
@[go_sem] theorem F.fld25_19 : fldT Try.prog 25 19 = some (26, false, 1) := by kernel_rfl
@[go_sem] theorem F.fld25_9 : fldT Try.prog 25 9 = some (16, false, 1) := by kernel_rfl
@[go_sem] theorem F.fld25_0 : fldT Try.prog 25 0 = some (0, false, 1) := by kernel_rfl
@[go_sem] theorem F.fld25_3 : fldT Try.prog 25 3 = some (3, false, 1) := by kernel_rfl
@[go_sem] theorem F.fld25_2 : fldT Try.prog 25 2 = some (2, false, 1) := by kernel_rfl
@[go_sem] theorem F.fld25_7 : fldT Try.prog 25 7 = some (7, false, 1) := by kernel_rfl
@[go_sem] theorem F.fld25_6 : fldT Try.prog 25 6 = some (6, false, 1) := by kernel_rfl
@[go_sem] theorem F.fld37_0 : fldT Try.prog 37 0 = some (0, false, 1) := by kernel_rfl
@[go_sem] theorem F.fld25_1 : fldT Try.prog 25 1 = some (1, false, 1) := by kernel_rfl
@[go_sem] theorem F.fld25_21 : fldT Try.prog 25 21 = some (28, false, 1) := by kernel_rfl
@[go_sem] theorem F.fld25_13 : fldT Try.prog 25 13 = some (20, false, 1) := by kernel_rfl
@[go_sem] theorem F.fld25_15 : fldT Try.prog 25 15 = some (22, false, 1) := by kernel_rfl
@[go_sem] theorem F.fld25_12 : fldT Try.prog 25 12 = some (19, false, 1) := by kernel_rfl
@[go_sem] theorem F.fld25_11 : fldT Try.prog 25 11 = some (18, false, 1) := by kernel_rfl
@[go_sem] theorem F.fld25_20 : fldT Try.prog 25 20 = some (27, false, 1) := by kernel_rfl
@[go_sem] theorem F.fld25_17 : fldT Try.prog 25 17 = some (24, false, 1) := by kernel_rfl
@[go_sem] theorem F.ix22 : ixT Try.prog 22 = some (some 8, false, 1) := by kernel_rfl
@[go_sem] theorem F.ix113 : ixT Try.prog 113 = some (some 8, false, 1) := by kernel_rfl
@[go_sem] theorem F.ix9 : ixT Try.prog 9 = none := by kernel_rfl
@[go_sem] theorem F.ix110 : ixT Try.prog 110 = some (some 4, false, 1) := by kernel_rfl
@[go_sem] theorem F.ix72 : ixT Try.prog 72 = some (some 4, false, 1) := by kernel_rfl
@[go_sem] theorem F.ix28 : ixT Try.prog 28 = some (none, false, 1) := by kernel_rfl
@[go_sem] theorem F.ix29 : ixT Try.prog 29 = some (none, false, 1) := by kernel_rfl
@[go_sem] theorem F.str9 : isStrT Try.prog 9 = true := by kernel_rfl
@[go_sem] theorem F.zero5 : zeroT Try.prog 5 = some ([.u8 0#8]) := by kernel_rfl
@[go_sem] theorem F.zero28 : zeroT Try.prog 28 = some ([.sn]) := by kernel_rfl
@[go_sem] theorem F.zero3 : zeroT Try.prog 3 = some ([.i64 0]) := by kernel_rfl
@[go_sem] theorem F.zero113 : zeroT Try.prog 113 = some ([.pn, .pn, .pn, .pn, .pn, .pn, .pn, .pn]) := by kernel_rfl
@[go_sem] theorem F.zero110 : zeroT Try.prog 110 = some ([.u8 0#8, .u8 0#8, .u8 0#8, .u8 0#8]) := by kernel_rfl
@[go_sem] theorem F.zero53 : zeroT Try.prog 53 = some ([.i64 0, .i64 0, .i64 0, .i64 0, .i64 0]) := by kernel_rfl
@[go_sem] theorem F.zero72 : zeroT Try.prog 72 = some ([.i64 0, .i64 0, .i64 0, .i64 0]) := by kernel_rfl
@[go_sem] theorem F.zero48 : zeroT Try.prog 48 = some ([.u8 0#8, .u8 0#8, .u8 0#8, .u8 0#8, .u8 0#8, .u8 0#8, .u8 0#8, .u8 0#8, .u8 0#8, .u8 0#8, .u8 0#8, .u8 0#8, .u8 0#8, .u8 0#8, .u8 0#8, .u8 0#8, .u16 0#16, .u16 0#16, .u16 0#16, .u16 0#16, .u16 0#16, .u8 0#8, .u8 0#8, .u8 0#8, .u8 0#8, .bo false, .bo false, .bo false, .bo false, .ifn, .u8 0#8]) := by kernel_rfl
@[go_sem] theorem F.zero37 : zeroT Try.prog 37 = some ([.sn, .sn]) := by kernel_rfl
@[go_sem] theorem F.zero25 : zeroT Try.prog 25 = some ([.u8 0#8, .u8 0#8, .u8 0#8, .u8 0#8, .u8 0#8, .u8 0#8, .u8 0#8, .u8 0#8, .u8 0#8, .u8 0#8, .u8 0#8, .u8 0#8, .u8 0#8, .u8 0#8, .u8 0#8, .u8 0#8, .u16 0#16, .u16 0#16, .u16 0#16, .u16 0#16, .u16 0#16, .u8 0#8, .u8 0#8, .u8 0#8, .u8 0#8, .bo false, .bo false, .bo false, .bo false]) := by kernel_rfl
@[go_sem] theorem F.el35 : elT Try.prog 35 = some (3, 1, 8) := by kernel_rfl
@[go_sem] theorem F.el29 : elT Try.prog 29 = some (28, 1, 24) := by kernel_rfl
@[go_sem] theorem F.el28 : elT Try.prog 28 = some (5, 1, 1) := by kernel_rfl
@[go_sem] theorem F.eq25 : eqT Try.prog 25 = some ([.int .u8, .int .u8, .int .u8, .int .u8, .int .u8, .int .u8, .int .u8, .int .u8, .int .u8, .int .u8, .int .u8, .int .u8, .int .u8, .int .u8, .int .u8, .int .u8, .int .u16, .int .u16, .int .u16, .int .u16, .int .u16, .int .u8, .int .u8, .int .u8, .int .u8, .bool, .bool, .bool, .bool]) := by kernel_rfl
@[go_sem] theorem F.kind4 : kindT Try.prog 4 = some .bool := by kernel_rfl
@[go_sem] theorem F.kind23 : kindT Try.prog 23 = none := by kernel_rfl
@[go_sem] theorem F.kind25 : kindT Try.prog 25 = none := by kernel_rfl
@[go_sem] theorem F.kind3 : kindT Try.prog 3 = none := by kernel_rfl
@[go_sem] theorem F.kind5 : kindT Try.prog 5 = none := by kernel_rfl
@[go_sem] theorem F.conv3_38 : convT Try.prog 3 38 = some (.int .u64) := by kernel_rfl
@[go_sem] theorem F.conv106_23 : convT Try.prog 106 23 = some (.int .u16) := by kernel_rfl
@[go_sem] theorem F.conv5_106 : convT Try.prog 5 106 = some (.int .i8) := by kernel_rfl
@[go_sem] theorem F.conv88_5 : convT Try.prog 88 5 = some (.int .u8) := by kernel_rfl
@[go_sem] theorem F.conv88_23 : convT Try.prog 88 23 = some (.int .u16) := by kernel_rfl
@[go_sem] theorem F.conv23_88 : convT Try.prog 23 88 = some (.int .u32) := by kernel_rfl
@[go_sem] theorem F.conv5_88 : convT Try.prog 5 88 = some (.int .u32) := by kernel_rfl
@[go_sem] theorem F.conv5_23 : convT Try.prog 5 23 = some (.int .u16) := by kernel_rfl
@[go_sem] theorem F.conv5_3 : convT Try.prog 5 3 = some (.int .i64) := by kernel_rfl
@[go_sem] theorem F.conv3_23 : convT Try.prog 3 23 = some (.int .u16) := by kernel_rfl
@[go_sem] theorem F.conv23_3 : convT Try.prog 23 3 = some (.int .i64) := by kernel_rfl
@[go_sem] theorem F.conv3_5 : convT Try.prog 3 5 = some (.int .u8) := by kernel_rfl
@[go_sem] theorem F.conv23_5 : convT Try.prog 23 5 = some (.int .u8) := by kernel_rfl
@[go_sem] theorem F.nif30 : notIface Try.prog 30 = true := by kernel_rfl
@[go_sem] theorem F.len35 : lenT Try.prog 35 = some .slice := by kernel_rfl
@[go_sem] theorem F.len28 : lenT Try.prog 28 = some .slice := by kernel_rfl
@[go_sem] theorem F.len29 : lenT Try.prog 29 = some .slice := by kernel_rfl
@[go_sem] theorem F.nint35 : notIntT Try.prog 35 = true := by kernel_rfl
@[go_sem] theorem F.nint28 : notIntT Try.prog 28 = true := by kernel_rfl
@[go_sem] theorem F.app35 : appT Try.prog 35 = some ⟨3, 1, 8, [.i64 0]⟩ := by kernel_rfl
@[go_sem] theorem F.app28 : appT Try.prog 28 = some ⟨5, 1, 1, [.u8 0#8]⟩ := by kernel_rfl
@[go_sem] theorem F.bld113 : bldT Try.prog 113 = true := by kernel_rfl
@[go_sem] theorem F.bld110 : bldT Try.prog 110 = true := by kernel_rfl
@[go_sem] theorem F.bld53 : bldT Try.prog 53 = true := by kernel_rfl
@[go_sem] theorem F.bld72 : bldT Try.prog 72 = true := by kernel_rfl
@[go_sem] theorem F.bld48 : bldT Try.prog 48 = true := by kernel_rfl
@[go_sem] theorem F.bld37 : bldT Try.prog 37 = true := by kernel_rfl
@[go_sem] theorem F.bld25 : bldT Try.prog 25 = true := by kernel_rfl
@[go_sem] theorem F.pl113_7 : plT Try.prog 113 7 = some (7, 1) := by kernel_rfl
@[go_sem] theorem F.pl113_6 : plT Try.prog 113 6 = some (6, 1) := by kernel_rfl
@[go_sem] theorem F.pl113_5 : plT Try.prog 113 5 = some (5, 1) := by kernel_rfl
@[go_sem] theorem F.pl113_4 : plT Try.prog 113 4 = some (4, 1) := by kernel_rfl
@[go_sem] theorem F.pl113_3 : plT Try.prog 113 3 = some (3, 1) := by kernel_rfl
@[go_sem] theorem F.pl113_2 : plT Try.prog 113 2 = some (2, 1) := by kernel_rfl
@[go_sem] theorem F.pl113_1 : plT Try.prog 113 1 = some (1, 1) := by kernel_rfl
@[go_sem] theorem F.pl113_0 : plT Try.prog 113 0 = some (0, 1) := by kernel_rfl
@[go_sem] theorem F.pl110_3 : plT Try.prog 110 3 = some (3, 1) := by kernel_rfl
@[go_sem] theorem F.pl110_2 : plT Try.prog 110 2 = some (2, 1) := by kernel_rfl
@[go_sem] theorem F.pl110_1 : plT Try.prog 110 1 = some (1, 1) := by kernel_rfl
@[go_sem] theorem F.pl110_0 : plT Try.prog 110 0 = some (0, 1) := by kernel_rfl
@[go_sem] theorem F.pl53_4 : plT Try.prog 53 4 = some (4, 1) := by kernel_rfl
@[go_sem] theorem F.pl53_3 : plT Try.prog 53 3 = some (3, 1) := by kernel_rfl
@[go_sem] theorem F.pl53_2 : plT Try.prog 53 2 = some (2, 1) := by kernel_rfl
@[go_sem] theorem F.pl53_1 : plT Try.prog 53 1 = some (1, 1) := by kernel_rfl
@[go_sem] theorem F.pl53_0 : plT Try.prog 53 0 = some (0, 1) := by kernel_rfl
@[go_sem] theorem F.pl72_3 : plT Try.prog 72 3 = some (3, 1) := by kernel_rfl
@[go_sem] theorem F.pl72_2 : plT Try.prog 72 2 = some (2, 1) := by kernel_rfl
@[go_sem] theorem F.pl72_1 : plT Try.prog 72 1 = some (1, 1) := by kernel_rfl
@[go_sem] theorem F.pl72_0 : plT Try.prog 72 0 = some (0, 1) := by kernel_rfl
@[go_sem] theorem F.pl48_1 : plT Try.prog 48 1 = some (29, 1) := by kernel_rfl
@[go_sem] theorem F.pl48_0 : plT Try.prog 48 0 = some (0, 29) := by kernel_rfl
@[go_sem] theorem F.pl37_0 : plT Try.prog 37 0 = some (0, 1) := by kernel_rfl
@[go_sem] theorem F.pl25_10 : plT Try.prog 25 10 = some (17, 1) := by kernel_rfl
@[go_sem] theorem F.pl25_9 : plT Try.prog 25 9 = some (16, 1) := by kernel_rfl
@[go_sem] theorem F.pl25_15 : plT Try.prog 25 15 = some (22, 1) := by kernel_rfl
@[go_sem] theorem F.pl25_16 : plT Try.prog 25 16 = some (23, 1) := by kernel_rfl
@[go_sem] theorem F.pl25_19 : plT Try.prog 25 19 = some (26, 1) := by kernel_rfl
@[go_sem] theorem F.pl25_21 : plT Try.prog 25 21 = some (28, 1) := by kernel_rfl
@[go_sem] theorem F.pl25_18 : plT Try.prog 25 18 = some (25, 1) := by kernel_rfl
@[go_sem] theorem F.pl25_20 : plT Try.prog 25 20 = some (27, 1) := by kernel_rfl
@[go_sem] theorem F.pl25_12 : plT Try.prog 25 12 = some (19, 1) := by kernel_rfl
@[go_sem] theorem F.pl25_0 : plT Try.prog 25 0 = some (0, 1) := by kernel_rfl
@[go_sem] theorem F.pl25_3 : plT Try.prog 25 3 = some (3, 1) := by kernel_rfl
@[go_sem] theorem F.pl25_2 : plT Try.prog 25 2 = some (2, 1) := by kernel_rfl
@[go_sem] theorem F.pl25_5 : plT Try.prog 25 5 = some (5, 1) := by kernel_rfl
@[go_sem] theorem F.pl25_4 : plT Try.prog 25 4 = some (4, 1) := by kernel_rfl
@[go_sem] theorem F.pl25_7 : plT Try.prog 25 7 = some (7, 1) := by kernel_rfl
@[go_sem] theorem F.pl25_6 : plT Try.prog 25 6 = some (6, 1) := by kernel_rfl
@[go_sem] theorem F.mth30_In : mthT Try.prog 30 "In" = some 113 := by kernel_rfl
@[go_sem] theorem F.mth30_Out : mthT Try.prog 30 "Out" = some 114 := by kernel_rfl
@[go_sem] theorem F.mth30_Read : mthT Try.prog 30 "Read" = some 115 := by kernel_rfl
@[go_sem] theorem F.mth30_Write : mthT Try.prog 30 "Write" = some 116 := by kernel_rfl
-- joystick/joysticklaw12.CpuBack
@[go_sem] def dr3 : Nat → Draw
  | 9 => ⟨[0, 1, 0, 0, 12, 28, 63, 127], [(0, []), (1, []), (2, []), (3, []), (4, []), (5, []), (6, []), (7, [])], []⟩
  | _ => {}
-- joystick/joysticklaw12.CpuNames
@[go_sem] def dr7 : Nat → Draw
  | 2 => ⟨[0, 0, 2, 6, 15, 31, 63, 63, 0, 383, 1023], [(0, []), (1, [0]), (2, [0]), (3, []), (4, []), (5, []), (6, []), (7, []), (8, [0]), (9, []), (10, [])], [(8, 3)]⟩
  | _ => {}
-- (*joystick/cpu.core).extended
@[go_sem] def dr16 : Nat → Draw
  | 8 => ⟨[0, 1, 3, 7, 0, 16, 15, 79, 255, 511], [(0, []), (1, []), (2, []), (3, []), (4, []), (6, []), (7, []), (5, [3]), (8, []), (9, [])], []⟩
  | 14 => ⟨[0, 1, 3, 7, 0, 16, 0, 0, 128, 496, 15, 1039, 4095], [(0, []), (1, []), (2, []), (3, []), (4, []), (6, []), (7, []), (8, []), (10, []), (11, []), (5, [3, 8]), (9, [3]), (12, [])], []⟩
  | 22 => ⟨[0, 0, 0, 0, 8, 28, 0, 64, 192, 448, 960, 2047, 4095, 8191, 8191, 16383, 65535], [(0, []), (1, []), (2, []), (3, []), (4, []), (6, []), (7, []), (8, []), (9, []), (10, []), (5, [10]), (11, []), (12, []), (13, []), (14, []), (15, []), (16, [])], []⟩
  | 31 => ⟨[0, 0, 2, 0, 0, 24, 63], [(0, []), (1, []), (2, []), (3, []), (4, []), (5, [2]), (6, [])], []⟩
  | _ => {}
-- (*joystick/cpu.core).turned
@[go_sem] def dr18 : Nat → Draw
  | 11 => ⟨[0, 0, 0, 4, 12, 28, 0, 124, 0, 256, 768, 1792, 3840, 7936, 16128, 32767, 65535, 131071, 131071, 262143, 1048575], [(0, []), (1, []), (2, []), (3, []), (4, []), (5, []), (6, []), (8, []), (9, []), (10, []), (11, []), (12, []), (13, []), (14, []), (7, [1, 12]), (15, []), (16, []), (17, []), (18, []), (19, []), (20, [])], []⟩
  | _ => {}
-- (*joystick/cpu.core).next
@[go_sem] def dr24 : Nat → Draw
  | 1 => ⟨[0, 1, 3, 7, 0, 16, 48, 112, 240, 15, 527, 2047, 4095], [(0, []), (1, []), (2, []), (3, []), (4, []), (5, []), (6, []), (7, []), (8, []), (9, []), (10, []), (11, []), (12, [])], []⟩
  | _ => {}
-- (*joystick/cpu.core).many
@[go_sem] def dr25 : Nat → Draw
  | 18 => ⟨[0, 0, 2, 6, 14, 30, 0, 0, 128, 384, 896, 1920, 0, 4096, 16382, 32767, 65535, 131071, 262143], [(0, []), (1, []), (2, []), (3, []), (4, []), (5, []), (6, []), (7, []), (8, []), (9, []), (10, []), (11, []), (12, []), (13, []), (14, []), (15, []), (16, []), (17, []), (18, [])], []⟩
  | 23 => ⟨[0, 0, 2, 6, 14, 30, 0, 64, 192, 448, 0, 1984, 0, 4096, 12288, 28672, 61440, 0, 131072, 524286, 1048574, 2097150, 2097150, 4194303, 12582911, 29360127, 62914559, 134217727], [(0, []), (1, []), (2, []), (3, []), (4, []), (5, []), (6, []), (7, []), (8, []), (9, []), (10, []), (12, []), (13, []), (14, []), (15, []), (16, []), (17, []), (18, []), (11, [5, 16]), (19, []), (20, []), (21, []), (22, []), (23, []), (24, []), (25, []), (26, []), (27, [])], []⟩
  | 29 => ⟨[0, 0, 0, 4, 12, 28, 60, 0, 128, 508, 0, 1024, 3072, 7168, 15360, 32766, 65535, 131071, 262143, 524287], [(0, []), (1, []), (2, []), (3, []), (4, []), (5, []), (6, []), (7, []), (8, []), (9, []), (10, []), (11, []), (12, []), (13, []), (14, []), (15, []), (16, []), (17, []), (18, []), (19, [])], []⟩
  | 9 => ⟨[0, 1, 3, 7, 0, 16, 0, 15, 143, 511], [(0, []), (1, []), (2, []), (3, []), (4, []), (6, []), (7, []), (8, []), (5, [3]), (9, [])], []⟩
  | _ => {}
-- (*joystick/cpu.core).pair
@[go_sem] def dr26 : Nat → Draw
  | 1 => ⟨[0, 1, 3, 7, 0, 0, 48, 127, 255], [(0, []), (1, []), (2, []), (3, []), (4, []), (5, []), (6, [3]), (7, []), (8, [])], []⟩
  | _ => {}
-- (*joystick/cpu.core).told
@[go_sem] def dr27 : Nat → Draw
  | 0 => ⟨[0, 0, 2, 6, 14, 30, 62, 0, 128, 510, 1023, 2047, 4095, 8191], [(0, []), (1, []), (2, []), (3, []), (4, []), (5, []), (6, []), (7, []), (8, [5]), (9, []), (10, []), (11, []), (12, []), (13, [])], []⟩
  | _ => {}
-- (*joystick/cpu.core).setOne
@[go_sem] def dr28 : Nat → Draw
  | 0 => ⟨[0, 0, 2, 6, 14, 0, 0, 64, 192, 448, 0, 2046, 4095, 8191, 16383], [(0, []), (1, []), (2, []), (3, []), (4, []), (5, []), (6, []), (7, []), (8, []), (9, []), (10, []), (11, []), (12, []), (13, []), (14, [])], []⟩
  | _ => {}
-- (*joystick/cpu.core).one
@[go_sem] def dr29 : Nat → Draw
  | 1 => ⟨[0, 1, 3, 7, 0, 0, 32, 96, 224, 511, 1023], [(0, []), (1, []), (2, []), (3, []), (4, []), (5, []), (6, []), (7, []), (8, []), (9, []), (10, [])], []⟩
  | _ => {}
-- (*joystick/cpu.core).setPair
@[go_sem] def dr32 : Nat → Draw
  | 0 => ⟨[0, 0, 2, 6, 14, 0, 0, 96, 0, 510, 1023, 2047, 4095], [(0, []), (1, []), (2, []), (3, []), (4, []), (5, []), (6, []), (8, []), (7, [4]), (9, []), (10, []), (11, []), (12, [])], []⟩
  | _ => {}
-- (*joystick/cpu.core).special
@[go_sem] def dr37 : Nat → Draw
  | 12 => ⟨[0, 0, 2, 6, 14, 30, 62, 0, 128, 384, 896, 1920, 3968, 8190, 16383, 32767, 65535, 131071], [(0, []), (1, []), (2, []), (3, []), (4, []), (5, []), (6, []), (7, []), (8, []), (9, []), (10, []), (11, []), (12, [5]), (13, []), (14, []), (15, []), (16, []), (17, [])], []⟩
  | 19 => ⟨[0, 1, 0, 4, 12, 28, 60, 0, 128, 384, 896, 0, 3968, 0, 8192, 24576, 57344, 122880, 262143, 524287, 1048575, 1048575, 1048575, 2097151, 12582911, 33554431], [(0, []), (1, []), (2, []), (3, []), (4, []), (5, []), (6, []), (7, []), (8, []), (9, []), (10, []), (11, []), (13, []), (14, []), (15, []), (16, []), (17, []), (12, [6, 17]), (18, []), (19, []), (20, []), (21, []), (22, []), (23, []), (24, []), (25, [])], []⟩
  | _ => {}
-- (*joystick/cpu.core).turnedFar
@[go_sem] def dr38 : Nat → Draw
  | 3 => ⟨[0, 0, 0, 4, 12, 28, 0, 124, 0, 256, 768, 1792, 3840, 7936, 16128, 32767, 65535, 131071, 131071, 262143, 1048575], [(0, []), (1, []), (2, []), (3, []), (4, []), (5, []), (6, []), (8, []), (9, []), (10, []), (11, []), (12, []), (13, []), (14, []), (7, [1, 12]), (15, []), (16, []), (17, []), (18, []), (19, []), (20, [])], []⟩
  | _ => {}
-- (*joystick/cpu.core).bits
@[go_sem] def dr39 : Nat → Draw
  | 3 => ⟨[0, 1, 0, 0, 8, 24, 56, 120, 255, 511, 1023, 1023, 2047, 8191], [(0, []), (1, []), (2, []), (3, []), (4, []), (5, []), (6, []), (7, []), (8, []), (9, []), (10, []), (11, []), (12, []), (13, [])], []⟩
  | 7 => ⟨[0, 0, 2, 0, 0, 16, 48, 112, 240, 0, 1022, 2047, 4095, 8191, 16383], [(0, []), (1, []), (2, []), (3, []), (4, []), (5, []), (6, []), (7, []), (8, []), (9, []), (10, []), (11, []), (12, []), (13, []), (14, [])], []⟩
  | _ => {}
-- (*joystick/cpu.core).low
@[go_sem] def dr41 : Nat → Draw
  | 6 => ⟨[0, 0, 2, 0, 8, 31], [(0, []), (1, []), (2, []), (3, []), (4, [2]), (5, [])], []⟩
  | 10 => ⟨[0, 0, 0, 4, 14, 0, 32, 96, 224, 480, 1023, 2047, 4095, 4095, 8191, 32767], [(0, []), (1, []), (2, []), (3, []), (5, []), (6, []), (7, []), (8, []), (9, []), (4, [9]), (10, []), (11, []), (12, []), (13, []), (14, []), (15, [])], []⟩
  | 27 => ⟨[0, 0, 2, 0, 8, 31], [(0, []), (1, []), (2, []), (3, []), (4, [2]), (5, [])], []⟩
  | 31 => ⟨[0, 1, 3, 7, 0, 0, 32, 15, 143, 511], [(0, []), (1, []), (2, []), (3, []), (4, []), (5, []), (7, []), (8, []), (6, [3]), (9, [])], []⟩
  | _ => {}
-- (*joystick/cpu.core).move
@[go_sem] def dr42 : Nat → Draw
  | 6 => ⟨[0, 1, 3, 7, 0, 0, 0, 64, 224, 15, 527, 2047], [(0, []), (1, []), (2, []), (3, []), (4, []), (5, []), (6, []), (7, []), (9, []), (10, []), (8, [3]), (11, [])], []⟩
  | 9 => ⟨[0, 0, 2, 0, 8, 24, 56, 0, 248, 511], [(0, []), (1, []), (2, []), (3, []), (4, []), (5, []), (6, []), (7, []), (8, [2]), (9, [])], []⟩
  | 2 => ⟨[0, 0, 2, 0, 0, 16, 56, 127], [(0, []), (1, []), (2, []), (3, []), (4, []), (5, []), (6, [2]), (7, [])], []⟩
  | _ => {}
-- (*joystick/cpu.core).sum
@[go_sem] def dr43 : Nat → Draw
  | 2 => ⟨[0, 0, 0, 4, 0, 16, 48, 112, 240, 0, 0, 1024, 3584, 0, 8192, 24576, 57344, 122880, 262140, 524284, 1048572, 1048572, 2097149, 6291453, 14680061, 31457277, 67108863, 134217727, 268435455, 536870911], [(0, []), (1, []), (2, []), (3, []), (4, []), (5, []), (6, []), (7, []), (8, []), (9, []), (10, []), (11, []), (13, []), (14, []), (15, []), (16, []), (17, []), (12, [3, 8, 17]), (18, []), (19, []), (20, []), (21, []), (22, []), (23, []), (24, []), (25, []), (26, []), (27, []), (28, []), (29, [])], []⟩
  | 5 => ⟨[0, 0, 0, 4, 0, 16, 48, 112, 240, 0, 512, 1536, 3584, 0, 8192, 7680, 40448, 130560, 0, 262144, 786432, 1835008, 3932160, 8388604, 16777212, 33554428, 33554428, 67108861, 201326589, 469762045, 1006632957, 2147483647, 4294967295, 8589934591, 17179869183], [(0, []), (1, []), (2, []), (3, []), (4, []), (5, []), (6, []), (7, []), (8, []), (9, []), (10, []), (11, []), (12, []), (13, []), (15, []), (16, []), (18, []), (19, []), (20, []), (21, []), (22, []), (14, [3, 8, 12, 22]), (17, [3, 8, 22]), (23, []), (24, []), (25, []), (26, []), (27, []), (28, []), (29, []), (30, []), (31, []), (32, []), (33, []), (34, [])], []⟩
  | _ => {}
-- (*joystick/cpu.core).high
@[go_sem] def dr44 : Nat → Draw
  | 1 => ⟨[0, 1, 3, 7, 15, 0, 32, 127, 255], [(0, []), (1, []), (2, []), (3, []), (4, []), (5, []), (6, []), (7, []), (8, [])], []⟩
  | 23 => ⟨[0, 0, 0, 4, 0, 16, 48, 112, 240, 0, 512, 0, 2048, 6144, 14336, 30720, 65532, 131068, 262140, 262140, 524285, 1572861, 3670013, 7864317, 16777215, 33554431, 67108863, 134217727], [(0, []), (1, []), (2, []), (3, []), (4, []), (5, []), (6, []), (7, []), (8, []), (9, []), (11, []), (12, []), (13, []), (14, []), (15, []), (10, [3, 8, 15]), (16, []), (17, []), (18, []), (19, []), (20, []), (21, []), (22, []), (23, []), (24, []), (25, []), (26, []), (27, [])], []⟩
  | _ => {}
-- (*joystick/cpu.core).push
@[go_sem] def dr45 : Nat → Draw
  | 2 => ⟨[0, 1, 3, 7, 0, 16, 48, 112, 240, 0, 15, 1039, 4095], [(0, []), (1, []), (2, []), (3, []), (4, []), (5, []), (6, []), (7, []), (8, []), (9, []), (10, []), (11, []), (12, [])], []⟩
  | 4 => ⟨[0, 1, 3, 7, 0, 16, 48, 112, 240, 0, 15, 1039, 4095], [(0, []), (1, []), (2, []), (3, []), (4, []), (5, []), (6, []), (7, []), (8, []), (9, []), (10, []), (11, []), (12, [])], []⟩
  | _ => {}
-- joystick/regs.SetOne
@[go_sem] def dr54 : Nat → Draw
  | 13 => ⟨[0, 0, 0, 0, 12, 31, 63], [(0, []), (1, []), (2, []), (3, []), (4, [0]), (5, []), (6, [])], []⟩
  | 15 => ⟨[0, 0, 0, 0, 12, 31, 63], [(0, []), (1, []), (2, []), (3, []), (4, [0]), (5, []), (6, [])], []⟩
  | _ => {}
-- joystick/regs.One
@[go_sem] def dr55 : Nat → Draw
  | 1 => ⟨[0, 0, 2, 7, 15, 31, 63, 63, 127, 511], [(0, []), (1, []), (2, [0]), (3, []), (4, []), (5, []), (6, []), (7, []), (8, []), (9, [])], []⟩
  | _ => {}
-- (*joystick/cpu.core).jump
@[go_sem] def dr64 : Nat → Draw
  | 3 => ⟨[0, 1, 3, 7, 15, 0, 32, 96, 255, 511], [(0, []), (1, []), (2, []), (3, []), (4, []), (5, []), (6, []), (7, []), (8, []), (9, [])], []⟩
  | _ => {}
-- (*joystick/cpu.core).there
@[go_sem] def dr66 : Nat → Draw
  | 18 => ⟨[0, 1, 3, 7, 0, 0, 32, 96, 224, 480, 15, 1039, 4095], [(0, []), (1, []), (2, []), (3, []), (4, []), (5, []), (6, []), (7, []), (8, []), (9, []), (10, []), (11, []), (12, [])], []⟩
  | _ => {}
-- (*joystick/cpu.core).count
@[go_sem] def dr67 : Nat → Draw
  | 5 => ⟨[0, 0, 0, 4, 14, 0, 32, 96, 224, 480, 1023, 2047, 4095, 4095, 8191, 32767], [(0, []), (1, []), (2, []), (3, []), (5, []), (6, []), (7, []), (8, []), (9, []), (4, [9]), (10, []), (11, []), (12, []), (13, []), (14, []), (15, [])], []⟩
  | 11 => ⟨[0, 0, 2, 6, 14, 0, 62, 0, 128, 384, 896, 1920, 4095, 8191, 16383, 16383, 32767, 131071], [(0, []), (1, []), (2, []), (3, []), (4, []), (5, []), (7, []), (8, []), (9, []), (10, []), (11, []), (6, [11]), (12, []), (13, []), (14, []), (15, []), (16, []), (17, [])], []⟩
  | _ => {}
-- (*joystick/cpu.core).quick
@[go_sem] def dr69 : Nat → Draw
  | 2 => ⟨[0, 0, 0, 0, 8, 24, 56, 120, 0, 256, 768, 1792, 3840, 8188, 16380, 32764, 32764, 65533, 196605, 458749, 983037, 2097151, 4194303, 8388607, 16777215], [(0, []), (1, []), (2, []), (3, []), (4, []), (5, []), (6, []), (7, []), (8, []), (9, []), (10, []), (11, []), (12, []), (13, []), (14, []), (15, []), (16, []), (17, []), (18, []), (19, []), (20, []), (21, []), (22, []), (23, []), (24, [])], []⟩
  | 4 => ⟨[0, 0, 0, 4, 12, 28, 60, 0, 128, 384, 896, 1920, 4092, 8188, 16380, 16380, 32765, 98301, 229373, 491517, 1048575, 2097151, 4194303, 8388607], [(0, []), (1, []), (2, []), (3, []), (4, []), (5, []), (6, []), (7, []), (8, []), (9, []), (10, []), (11, []), (12, []), (13, []), (14, []), (15, []), (16, []), (17, []), (18, []), (19, []), (20, []), (21, []), (22, []), (23, [])], []⟩
  | 0 => ⟨[0, 0, 0, 4, 0, 16, 48, 112, 240, 0, 512, 1536, 3584, 7680, 16380, 32764, 65532, 65532, 131069, 393213, 917501, 1966077, 4194303, 8388607, 16777215, 33554431], [(0, []), (1, []), (2, []), (3, []), (4, []), (5, []), (6, []), (7, []), (8, []), (9, []), (10, []), (11, []), (12, []), (13, []), (14, []), (15, []), (16, []), (17, []), (18, []), (19, []), (20, []), (21, []), (22, []), (23, []), (24, []), (25, [])], []⟩
  | _ => {}
-- (*joystick/cpu.core).others
@[go_sem] def dr74 : Nat → Draw
  | 7 => ⟨[0, 1, 3, 7, 0, 16, 48, 112, 240, 0, 1008, 0, 2048, 6144, 14336, 30720, 15, 65551, 262143], [(0, []), (1, []), (2, []), (3, []), (4, []), (5, []), (6, []), (7, []), (8, []), (9, []), (11, []), (12, []), (13, []), (14, []), (15, []), (16, []), (17, []), (10, [3, 15]), (18, [])], []⟩
  | 11 => ⟨[0, 1, 3, 7, 15, 0, 32, 127, 255], [(0, []), (1, []), (2, []), (3, []), (4, []), (5, []), (6, [4]), (7, []), (8, [])], []⟩
  | 17 => ⟨[0, 0, 2, 6, 14, 30, 0, 64, 255], [(0, []), (1, []), (2, []), (3, []), (4, []), (5, []), (6, []), (7, [5]), (8, [])], []⟩
  | 21 => ⟨[0, 0, 0, 0, 0, 16, 48, 112, 240, 0, 512, 1536, 3584, 7680, 0, 16384, 49152, 114688, 245760, 0, 524288, 1572864, 3670016, 7864320, 16777201, 33554417, 67108849, 134217713, 268435443, 536870899, 1073741811, 2147483635, 4294967287, 8589934583, 17179869175, 34359738359, 68719476735, 137438953471, 274877906943, 549755813887], [(0, []), (1, []), (2, []), (3, []), (4, []), (5, []), (6, []), (7, []), (8, []), (9, []), (10, []), (11, []), (12, []), (13, []), (14, []), (15, []), (16, []), (17, []), (18, []), (19, []), (20, []), (21, []), (22, []), (23, []), (24, []), (25, []), (26, []), (27, []), (28, []), (29, []), (30, []), (31, []), (32, []), (33, []), (34, []), (35, []), (36, []), (37, []), (38, []), (39, [])], []⟩
  | 23 => ⟨[0, 0, 0, 4, 12, 0, 32, 96, 29, 285, 797, 1821, 4095, 8191, 16383, 32767], [(0, []), (1, []), (2, []), (3, []), (4, []), (5, []), (6, []), (7, []), (8, []), (9, []), (10, []), (11, [6]), (12, []), (13, []), (14, []), (15, [])], []⟩
  | _ => {}
-- joystick/regs.Swap
@[go_sem] def dr86 : Nat → Draw
  | 6 => ⟨[0, 0, 0, 0, 12, 28, 0, 64, 192, 509, 1021, 0, 4095, 8191], [(0, []), (1, []), (2, []), (3, []), (4, []), (5, []), (6, []), (7, []), (8, []), (9, []), (11, []), (10, []), (12, []), (13, [])], []⟩
  | _ => {}
def dr0 : Nat → Draw := fun _ => {}
end Go.Proofs.Joy
namespace Go.Proofs.Joy
open Go.Ab
set_option maxHeartbeats 1000000

/-! A processor, apart from any program. -/
/-- Its registers. -/
structure Rg where
  a : BitVec 8
  f : BitVec 8
  b : BitVec 8
  c : BitVec 8
  d : BitVec 8
  e : BitVec 8
  h : BitVec 8
  l : BitVec 8
  a2 : BitVec 8
  f2 : BitVec 8
  b2 : BitVec 8
  c2 : BitVec 8
  d2 : BitVec 8
  e2 : BitVec 8
  h2 : BitVec 8
  l2 : BitVec 8
  ix : BitVec 16
  iy : BitVec 16
  sp : BitVec 16
  pc : BitVec 16
  wz : BitVec 16
  i : BitVec 8
  r : BitVec 8
  im : BitVec 8
  pre : BitVec 8
  iff1 : Bool
  iff2 : Bool
  hlt : Bool
  dly : Bool
  deriving DecidableEq
def Rg.cells (r : Rg) : List AV := [.u8 r.a, .u8 r.f, .u8 r.b, .u8 r.c, .u8 r.d, .u8 r.e, .u8 r.h, .u8 r.l, .u8 r.a2, .u8 r.f2, .u8 r.b2, .u8 r.c2, .u8 r.d2, .u8 r.e2, .u8 r.h2, .u8 r.l2, .u16 r.ix, .u16 r.iy, .u16 r.sp, .u16 r.pc, .u16 r.wz, .u8 r.i, .u8 r.r, .u8 r.im, .u8 r.pre, .bo r.iff1, .bo r.iff2, .bo r.hlt, .bo r.dly]
def Rg.right (r : Rg) : Bool := decide (r.im ≤ 2#8) && (r.pre == 0#8 || r.pre == 0xDD#8 || r.pre == 0xFD#8)

/-- What a step does outside: bytes of memory, and ports. -/
inductive Eff (α : Type) : Type where
  | ret (x : α)
  | rd (a : BitVec 16) (k : BitVec 8 → Eff α)
  | wr (a : BitVec 16) (v : BitVec 8) (k : Eff α)
  | inp (p : BitVec 16) (t : Int) (k : BitVec 8 → Eff α)
  | out (p : BitVec 16) (v : BitVec 8) (t : Int) (k : Eff α)
def Eff.bind {α β : Type} : Eff α → (α → Eff β) → Eff β
  | .ret x, g => g x
  | .rd a k, g => .rd a fun v => (k v).bind g
  | .wr a v k, g => .wr a v (k.bind g)
  | .inp p t k, g => .inp p t fun v => (k v).bind g
  | .out p v t k, g => .out p v t (k.bind g)
/-- A world of one's own. -/
structure Ops (σ : Type) where
  rd : σ → BitVec 16 → BitVec 8 × σ
  wr : σ → BitVec 16 → BitVec 8 → σ
  inp : σ → BitVec 16 → Int → BitVec 8 × σ
  out : σ → BitVec 16 → BitVec 8 → Int → σ
def Eff.run {α σ : Type} (O : Ops σ) : Eff α → σ → α × σ
  | .ret x, s => (x, s)
  | .rd a k, s => (k (O.rd s a).1).run O (O.rd s a).2
  | .wr a v k, s => k.run O (O.wr s a v)
  | .inp p t k, s => (k (O.inp s p t).1).run O (O.inp s p t).2
  | .out p v t k, s => k.run O (O.out s p v t)
theorem Eff.run_ret {α σ : Type} (O : Ops σ) (x : α) (s : σ) : (Eff.ret x).run O s = (x, s) := rfl
theorem Eff.run_bind {α β σ : Type} (O : Ops σ) : ∀ (m : Eff α) (g : α → Eff β) (s : σ), (m.bind g).run O s = (g (m.run O s).1).run O (m.run O s).2
  | .ret _, _, _ => rfl
  | .rd a k, g, s => Eff.run_bind O (k (O.rd s a).1) g _
  | .wr _ _ k, g, _ => Eff.run_bind O k g _
  | .inp p t k, g, s => Eff.run_bind O (k (O.inp s p t).1) g _
  | .out _ _ _ k, g, _ => Eff.run_bind O k g _
theorem Eff.bind_ret {α β : Type} (x : α) (g : α → Eff β) : (Eff.ret x).bind g = g x := rfl
theorem Eff.bind_assoc {α β γ : Type} : ∀ (m : Eff α) (g : α → Eff β) (k : β → Eff γ), (m.bind g).bind k = m.bind fun x => (g x).bind k
  | .ret _, _, _ => rfl
  | .rd a k, g, q => by simp only [Eff.bind]; congr 1; funext v; exact Eff.bind_assoc (k v) g q
  | .wr _ _ k, g, q => by simp only [Eff.bind]; congr 1; exact Eff.bind_assoc k g q
  | .inp p t k, g, q => by simp only [Eff.bind]; congr 1; funext v; exact Eff.bind_assoc (k v) g q
  | .out _ _ _ k, g, q => by simp only [Eff.bind]; congr 1; exact Eff.bind_assoc k g q
def rdE (a : BitVec 16) : Eff (BitVec 8) := .rd a .ret
def wrE (a : BitVec 16) (v : BitVec 8) : Eff Unit := .wr a v (.ret ())
def inE (p : BitVec 16) (t : Int) : Eff (BitVec 8) := .inp p t .ret
def outE (p : BitVec 16) (v : BitVec 8) (t : Int) : Eff Unit := .out p v t (.ret ())

/-! Bytes and pairs -/
def joinS (hi lo : BitVec 8) : BitVec 16 := hi.setWidth 16 <<< 8 ||| lo.setWidth 16
def hiS (v : BitVec 16) : BitVec 8 := (v >>> 8).setWidth 8
def loS (v : BitVec 16) : BitVec 8 := v.setWidth 8
def moveS (v : BitVec 16) (by_ : BitVec 8) : BitVec 16 := v + by_.signExtend 16
def shapeS (v : BitVec 8) : BitVec 8 := v &&& 168#8 ||| (if v == 0#8 then 64#8 else 0#8)
def onesS (v : BitVec 8) : Nat := ((List.range 8).filter fun i => v.getLsbD i).length
def parityS (v : BitVec 8) : Bool := onesS v % 2 == 0
def bit16 (c : Bool) : BitVec 16 := if c then 1#16 else 0#16
def addS (a b : BitVec 8) (c : Bool) : BitVec 8 × BitVec 8 :=
  let sum := a.setWidth 16 + b.setWidth 16 + bit16 c
  let v : BitVec 8 := sum.setWidth 8
  (v, (shapeS v ||| (sum >>> 8).setWidth 8 * 1#8) ||| ((a ^^^ b ^^^ v) &&& 16#8) ||| ((((a ^^^ v) &&& (b ^^^ v)) >>> 5) &&& 4#8))
def subS (a b : BitVec 8) (c : Bool) : BitVec 8 × BitVec 8 := ((addS a (~~~b) (!c)).1, (addS a (~~~b) (!c)).2 ^^^ 17#8 ||| 2#8)
def logicS (v : BitVec 8) : BitVec 8 := shapeS v ||| (if parityS v then 4#8 else 0#8)
def compareS (a b : BitVec 8) : BitVec 8 := (subS a b false).2 &&& ~~~40#8 ||| b &&& 40#8
def doS (op : Nat) (a b f : BitVec 8) : BitVec 8 × BitVec 8 :=
  let c := (f &&& 1#8) != 0#8
  if op % 8 = 0 then addS a b false else if op % 8 = 1 then addS a b c else if op % 8 = 2 then subS a b false else if op % 8 = 3 then subS a b c
  else if op % 8 = 4 then (a &&& b, logicS (a &&& b) ||| 16#8) else if op % 8 = 5 then (a ^^^ b, logicS (a ^^^ b)) else if op % 8 = 6 then (a ||| b, logicS (a ||| b)) else (a, compareS a b)
def incS (v f : BitVec 8) : BitVec 8 × BitVec 8 := ((addS v 1#8 false).1, (addS v 1#8 false).2 &&& ~~~1#8 ||| f &&& 1#8)
def decS (v f : BitVec 8) : BitVec 8 × BitVec 8 := ((subS v 1#8 false).1, (subS v 1#8 false).2 &&& ~~~1#8 ||| f &&& 1#8)
def daaS (a f : BitVec 8) : BitVec 8 × BitVec 8 :=
  let mend : BitVec 8 := (if (f &&& 16#8) != 0#8 || decide (9#8 < a &&& 15#8) then 6#8 else 0#8) ||| (if (f &&& 1#8) != 0#8 || decide (0x99#8 < a) then 0x60#8 else 0#8)
  let v := if (f &&& 2#8) != 0#8 then a - mend else a + mend
  (v, logicS v ||| f &&& 2#8 ||| (if decide (0x60#8 ≤ mend) then 1#8 else 0#8) ||| (a ^^^ v) &&& 16#8)
def flipS (op : Nat) (a f : BitVec 8) : BitVec 8 × BitVec 8 :=
  let kept := f &&& 196#8
  if op = 0 then (~~~a, kept ||| f &&& 1#8 ||| 16#8 ||| 2#8 ||| ~~~a &&& 40#8)
  else if op = 1 then (a, kept ||| 1#8 ||| a &&& 40#8)
  else if op = 2 then (a, kept ||| (if (f &&& 1#8) == 0#8 then 1#8 else 0#8) ||| (if (f &&& 1#8) != 0#8 then 16#8 else 0#8) ||| a &&& 40#8)
  else (a, f)
/-! Sums of pairs -/
def halfS (a b v : BitVec 16) : BitVec 8 := ((a ^^^ b ^^^ v) >>> 8).setWidth 8 &&& 16#8
def add16 (a b : BitVec 16) (f : BitVec 8) : BitVec 16 × BitVec 8 :=
  let sum : BitVec 32 := a.setWidth 32 + b.setWidth 32
  let v : BitVec 16 := sum.setWidth 16
  (v, f &&& 196#8 ||| (v >>> 8).setWidth 8 &&& 40#8 ||| halfS a b v ||| (sum >>> 16).setWidth 8 * 1#8)
def full16 (a b : BitVec 16) (c : BitVec 32) : BitVec 16 × BitVec 8 :=
  let sum : BitVec 32 := a.setWidth 32 + b.setWidth 32 + c
  let v : BitVec 16 := sum.setWidth 16
  let f : BitVec 8 := (v >>> 8).setWidth 8 &&& 168#8 ||| halfS a b v ||| (sum >>> 16).setWidth 8 * 1#8
  let g := f ||| (((a ^^^ v) &&& (b ^^^ v)) >>> 13).setWidth 8 &&& 4#8
  (v, if v == 0#16 then g ||| 64#8 else g)
def adc16 (a b : BitVec 16) (f : BitVec 8) : BitVec 16 × BitVec 8 := full16 a b ((f &&& 1#8).setWidth 32)
def sbc16 (a b : BitVec 16) (f : BitVec 8) : BitVec 16 × BitVec 8 := ((full16 a (~~~b) ((~~~f &&& 1#8).setWidth 32)).1, (full16 a (~~~b) ((~~~f &&& 1#8).setWidth 32)).2 ^^^ 17#8 ||| 2#8)
/-! Bits that go round -/
def turnS (op : Nat) (v f : BitVec 8) : BitVec 8 × BitVec 8 :=
  let top := v >>> 7
  let carry := f &&& 1#8
  if op % 8 = 0 then (v.rotateLeft 1, top) else if op % 8 = 1 then (v.rotateLeft 7, v &&& 1#8) else if op % 8 = 2 then (v <<< 1 ||| carry, top) else if op % 8 = 3 then (v >>> 1 ||| carry <<< 7, v &&& 1#8)
  else if op % 8 = 4 then (v <<< 1, top) else if op % 8 = 5 then (v >>> 1 ||| top <<< 7, v &&& 1#8) else if op % 8 = 6 then (v <<< 1 ||| 1#8, top) else (v >>> 1, v &&& 1#8)
def saidS (v : BitVec 8) : BitVec 8 := if parityS v then shapeS v ||| 4#8 else shapeS v
def rotS (op : Nat) (v f : BitVec 8) : BitVec 8 × BitVec 8 := ((turnS op v f).1, saidS (turnS op v f).1 ||| (turnS op v f).2 * 1#8)
def quickS (op : Nat) (a f : BitVec 8) : BitVec 8 × BitVec 8 := ((turnS (op % 4) a f).1, f &&& 196#8 ||| (turnS (op % 4) a f).1 &&& 40#8 ||| (turnS (op % 4) a f).2 * 1#8)
def bitS8 (n : Nat) (v f from_ : BitVec 8) : BitVec 8 :=
  let g := f &&& 1#8 ||| 16#8 ||| from_ &&& 40#8
  let bit := v &&& (1#8 <<< (n % 8))
  if bit == 0#8 then g ||| 64#8 ||| 4#8 else g ||| bit &&& 128#8
def putS8 (n : Nat) (v : BitVec 8) (on : Bool) : BitVec 8 := if on then v ||| (1#8 <<< (n % 8)) else v &&& ~~~(1#8 <<< (n % 8))
def digitsS (left : Bool) (a m f : BitVec 8) : BitVec 8 × BitVec 8 × BitVec 8 :=
  let b := if left then a &&& 0xF0#8 ||| m >>> 4 else a &&& 0xF0#8 ||| m &&& 0x0F#8
  let n := if left then m <<< 4 ||| a &&& 0x0F#8 else a <<< 4 ||| m >>> 4
  (b, n, saidS b ||| f &&& 1#8)
/-! Steps over many bytes -/
def oddS (n : BitVec 8) : BitVec 8 := n <<< 4 &&& 32#8 ||| n &&& 8#8
def moreS (left : BitVec 16) : BitVec 8 := if left == 0#16 then 0#8 else 4#8
def repLoad (a v f : BitVec 8) (left : BitVec 16) : BitVec 8 := f &&& 193#8 ||| moreS left ||| oddS (a + v)
def repSeek (a v f : BitVec 8) (left : BitVec 16) : BitVec 8 × Bool :=
  let n := (subS a v false).1
  let g := (subS a v false).2
  let half := g &&& 16#8
  (g &&& 194#8 ||| half ||| f &&& 1#8 ||| moreS left ||| oddS (n - half / 16#8), left != 0#16 && (g &&& 64#8) == 0#8)
def repPort (v with_ b : BitVec 8) : BitVec 8 :=
  let sum := v.setWidth 16 + with_.setWidth 16
  let f := shapeS b ||| v >>> 7 * 2#8
  let f1 := if decide (255#16 < sum) then f ||| 17#8 else f
  if parityS ((sum.setWidth 8 &&& 7#8) ^^^ b) then f1 ||| 4#8 else f1
end Go.Proofs.Joy
namespace Go.Proofs.Joy
open Go.Ab
set_option maxHeartbeats 1000000

/-! Registers, by numbers -/
def idxS (pr : BitVec 8) : Nat := if pr == 0xDD#8 then 5 else if pr == 0xFD#8 then 6 else 2
def pairR (r : Rg) (n : Nat) : BitVec 16 :=
  if n = 0 then joinS r.b r.c else if n = 1 then joinS r.d r.e else if n = 2 then joinS r.h r.l else if n = 3 then r.sp else if n = 4 then joinS r.a r.f else if n = 5 then r.ix else if n = 6 then r.iy else 0#16
def setPairR (r : Rg) (n : Nat) (v : BitVec 16) : Rg :=
  if n = 0 then { r with b := hiS v, c := loS v } else if n = 1 then { r with d := hiS v, e := loS v } else if n = 2 then { r with h := hiS v, l := loS v } else if n = 3 then { r with sp := v }
  else if n = 4 then { r with a := hiS v, f := loS v } else if n = 5 then { r with ix := v } else if n = 6 then { r with iy := v } else r
def oneR (r : Rg) (n : Nat) (pr : BitVec 8) : BitVec 8 :=
  if n = 0 then r.b else if n = 1 then r.c else if n = 2 then r.d else if n = 3 then r.e else if n = 4 then hiS (pairR r (idxS pr)) else if n = 5 then loS (pairR r (idxS pr)) else if n = 7 then r.a else 0#8
def setOneR (r : Rg) (n : Nat) (pr v : BitVec 8) : Rg :=
  if n = 0 then { r with b := v } else if n = 1 then { r with c := v } else if n = 2 then { r with d := v } else if n = 3 then { r with e := v }
  else if n = 4 then setPairR r (idxS pr) (joinS v (loS (pairR r (idxS pr)))) else if n = 5 then setPairR r (idxS pr) (joinS (hiS (pairR r (idxS pr))) v) else if n = 7 then { r with a := v } else r
def swapR (r : Rg) (all : Bool) : Rg :=
  if all then { r with b := r.b2, c := r.c2, d := r.d2, e := r.e2, h := r.h2, l := r.l2, b2 := r.b, c2 := r.c, d2 := r.d, e2 := r.e, h2 := r.h, l2 := r.l }
  else { r with a := r.a2, f := r.f2, a2 := r.a, f2 := r.f }
def tickR (r : Rg) : Rg := { r with r := r.r &&& 128#8 ||| (r.r + 1#8) &&& 127#8 }
def flagOf (k : Nat) : BitVec 8 := if k = 0 then 64#8 else if k = 1 then 1#8 else if k = 2 then 4#8 else 128#8
def metR (f : BitVec 8) (k : Nat) : Bool := ((f &&& flagOf (k / 2)) != 0#8) == decide (k % 2 = 1)

/-! A processor within a step -/
structure Core where
  r : Rg
  pr : BitVec 8
abbrev CM (α : Type) := Core → Eff (α × Core)
def whichS (pr : BitVec 8) (n : Nat) : Nat := if n = 2 then idxS pr else n
def Core.pair (c : Core) (n : Nat) : BitVec 16 := pairR c.r (whichS c.pr n)
def Core.setPair (c : Core) (n : Nat) (v : BitVec 16) : Core := { c with r := setPairR c.r (whichS c.pr n) v }
def Core.one (c : Core) (n : Nat) : BitVec 8 := oneR c.r n c.pr
def Core.setOne (c : Core) (n : Nat) (v : BitVec 8) : Core := { c with r := setOneR c.r n c.pr v }
def Core.to (c : Core) (a : BitVec 16) : Core := { c with r := { c.r with pc := a, wz := a } }
def Core.wz (c : Core) (a : BitVec 16) : Core := { c with r := { c.r with wz := a } }
def Core.setF (c : Core) (f : BitVec 8) : Core := { c with r := { c.r with f := f } }
def Core.setAF (c : Core) (x : BitVec 8 × BitVec 8) : Core := { c with r := { c.r with a := x.1, f := x.2 } }
def pushedS (p : Nat) : Nat := if p = 3 then 4 else p
def longerS (pr : BitVec 8) (plain far : Nat) : Nat := if pr != 0#8 then far else plain
def toldS (v f : BitVec 8) : BitVec 8 := if parityS v then f &&& 1#8 ||| shapeS v ||| 4#8 else f &&& 1#8 ||| shapeS v

def nextM : CM (BitVec 8) := fun c => (rdE c.r.pc).bind fun v => .ret (v, { c with r := { c.r with pc := c.r.pc + 1#16 } })
def fetchM : CM (BitVec 8) := fun c => nextM { c with r := tickR c.r }
def wordM : CM (BitVec 16) := fun c => (nextM c).bind fun lo => (nextM lo.2).bind fun hi => .ret (joinS hi.1 lo.1, hi.2)
def loadM (a : BitVec 16) : CM (BitVec 16) := fun c => (rdE a).bind fun lo => (rdE (a + 1#16)).bind fun hi => .ret (joinS hi lo, c)
def storeM (a v : BitVec 16) : CM Unit := fun c => (wrE a (loS v)).bind fun _ => (wrE (a + 1#16) (hiS v)).bind fun _ => .ret ((), c)
def pushM (v : BitVec 16) : CM Unit := fun c => (wrE (c.r.sp - 1#16) (hiS v)).bind fun _ => (wrE (c.r.sp - 1#16 - 1#16) (loS v)).bind fun _ => .ret ((), { c with r := { c.r with sp := c.r.sp - 1#16 - 1#16 } })
def popM : CM (BitVec 16) := fun c => (loadM c.r.sp c).bind fun v => .ret (v.1, { c with r := { c.r with sp := c.r.sp + 2#16 } })
def pointedM : CM (BitVec 16) := fun c =>
  if c.pr != 0#8 then (nextM c).bind fun d => .ret (moveS (c.pair 2) d.1, ⟨{ d.2.r with wz := moveS (c.pair 2) d.1 }, 0#8⟩)
  else .ret (c.pair 2, c)
def xO (op : BitVec 8) : Nat := (op >>> 6).toNat
def yO (op : BitVec 8) : Nat := (op >>> 3 &&& 7#8).toNat
def zO (op : BitVec 8) : Nat := (op &&& 7#8).toNat

/-! The page CB -/
def bitsS (op v from_ f : BitVec 8) : BitVec 8 × Bool × BitVec 8 :=
  if xO op = 0 then ((rotS (yO op) v f).1, true, (rotS (yO op) v f).2) else if xO op = 1 then (v, false, bitS8 (yO op) v f from_) else (putS8 (yO op) v (decide (xO op = 3)), true, f)
def turnedFarM : CM Nat := fun c => (pointedM c).bind fun a => (nextM a.2).bind fun op => (rdE a.1).bind fun v =>
  let t := bitsS op.1 v (hiS op.2.r.wz) op.2.r.f
  let c1 := op.2.setF t.2.2
  if t.2.1 = false then .ret (16, c1) else (wrE a.1 t.1).bind fun _ => .ret (19, if zO op.1 = 6 then c1 else c1.setOne (zO op.1) t.1)
def turnedM : CM Nat := fun c => if c.pr != 0#8 then turnedFarM c else (fetchM c).bind fun op =>
  if zO op.1 = 6 then (pointedM op.2).bind fun a => (rdE a.1).bind fun v =>
    let t := bitsS op.1 v (hiS a.2.r.wz) a.2.r.f
    let c1 := a.2.setF t.2.2
    if t.2.1 = false then .ret (12, c1) else (wrE a.1 t.1).bind fun _ => .ret (15, c1)
  else
    let v := op.2.one (zO op.1)
    let t := bitsS op.1 v v op.2.r.f
    let c1 := op.2.setF t.2.2
    .ret (8, if t.2.1 = false then c1 else c1.setOne (zO op.1) t.1)

/-! The page ED -/
def manyM (op : BitVec 8) : CM Nat := fun c =>
  let y := yO op
  let z := zO op
  let by_ : BitVec 16 := if y % 2 = 1 then ~~~0#16 else 1#16
  let hl := c.pair 2
  let bc := c.pair 0
  let fin : Bool → Core → Eff (Nat × Core) := fun on c =>
    let c1 : Core := { c with r := setPairR c.r 2 (hl + by_) }
    if y < 6 ∨ on = false then .ret (16, c1)
    else
      let c2 : Core := { c1 with r := { c1.r with pc := c1.r.pc - 2#16 } }
      .ret (21, if z < 2 then c2.wz (c2.r.pc + 1#16) else c2)
  if z = 0 then (rdE hl).bind fun v => (wrE (c.pair 1) v).bind fun _ =>
    let c1 := (c.setPair 1 (c.pair 1 + by_)).setPair 0 (bc - 1#16)
    fin (bc != 1#16) (c1.setF (repLoad c1.r.a v c1.r.f (bc - 1#16)))
  else if z = 1 then
    let c1 := (c.wz (c.r.wz + by_)).setPair 0 (bc - 1#16)
    (rdE hl).bind fun v => fin (repSeek c1.r.a v c1.r.f (bc - 1#16)).2 (c1.setF (repSeek c1.r.a v c1.r.f (bc - 1#16)).1)
  else if z = 2 then
    let c1 := c.wz (bc + by_)
    (inE bc 13).bind fun v => (wrE hl v).bind fun _ =>
      let c2 : Core := { c1 with r := { c1.r with b := c1.r.b - 1#8 } }
      fin (c2.r.b != 0#8) (c2.setF (repPort v (c2.r.c + loS by_) c2.r.b))
  else (rdE hl).bind fun v =>
    let c2 : Core := { c with r := { c.r with b := c.r.b - 1#8 } }
    (outE (c2.pair 0) v 13).bind fun _ =>
      let c3 := c2.wz (c2.pair 0 + by_)
      fin (c3.r.b != 0#8) (c3.setF (repPort v (loS (hl + by_)) c3.r.b))
def specialM (y : Nat) : CM Nat := fun c =>
  if y = 0 then .ret (9, { c with r := { c.r with i := c.r.a } })
  else if y = 1 then .ret (9, { c with r := { c.r with r := c.r.a } })
  else if y = 2 ∨ y = 3 then
    let a := if y = 3 then c.r.r else c.r.i
    let f := c.r.f &&& 1#8 ||| shapeS a
    .ret (9, { c with r := { c.r with a := a, f := if c.r.iff2 then f ||| 4#8 else f } })
  else if y = 4 ∨ y = 5 then
    let a := c.pair 2
    let c1 := c.wz (a + 1#16)
    (rdE a).bind fun v =>
      let t := digitsS (decide (y = 5)) c1.r.a v c1.r.f
      (wrE a t.2.1).bind fun _ => .ret (18, c1.setAF (t.1, t.2.2))
  else .ret (8, c)
def imS (y : Nat) : BitVec 8 := if y % 4 = 2 then 1#8 else if y % 4 = 3 then 2#8 else 0#8
def extendedM (op : BitVec 8) : CM Nat := fun c =>
  let y := yO op
  let z := zO op
  let p := y / 2
  let q := y % 2
  if xO op = 2 ∧ 3 < y ∧ z < 4 then manyM op c
  else if xO op ≠ 1 then .ret (8, c)
  else if z = 0 then
    let c1 := c.wz (c.pair 0 + 1#16)
    (inE (c1.pair 0) 9).bind fun v => .ret (12, (c1.setF (toldS v c1.r.f)).setOne y v)
  else if z = 1 then
    let c1 := c.wz (c.pair 0 + 1#16)
    (outE (c1.pair 0) (c1.one y) 9).bind fun _ => .ret (12, c1)
  else if z = 2 then
    let v := c.pair 2
    let c1 := c.wz (v + 1#16)
    let t := if q = 1 then adc16 v (c1.pair p) c1.r.f else sbc16 v (c1.pair p) c1.r.f
    .ret (15, (c1.setPair 2 t.1).setF t.2)
  else if z = 3 then (wordM c).bind fun a =>
    let c1 := a.2.wz (a.1 + 1#16)
    if q = 0 then (storeM a.1 (c1.pair p) c1).bind fun x => .ret (20, x.2) else (loadM a.1 c1).bind fun v => .ret (20, v.2.setPair p v.1)
  else if z = 4 then .ret (8, c.setAF (subS 0#8 c.r.a false))
  else if z = 5 then (popM c).bind fun v =>
    let c1 := v.2.to v.1
    .ret (14, { c1 with r := { c1.r with iff1 := c1.r.iff2 } })
  else if z = 6 then .ret (8, { c with r := { c.r with im := imS y } })
  else specialM y c

/-! Without a prefix, or behind DD or FD -/
def moveM (op : BitVec 8) : CM Nat := fun c =>
  if yO op = 6 then (pointedM c).bind fun a => (wrE a.1 (a.2.one (zO op))).bind fun _ => .ret (longerS c.pr 7 15, a.2)
  else if zO op = 6 then (pointedM c).bind fun a => (rdE a.1).bind fun v => .ret (longerS c.pr 7 15, a.2.setOne (yO op) v)
  else .ret (4, c.setOne (yO op) (c.one (zO op)))
def sumM (op : BitVec 8) : CM Nat := fun c =>
  if zO op = 6 then (pointedM c).bind fun a => (rdE a.1).bind fun v => .ret (longerS c.pr 7 15, a.2.setAF (doS (yO op) a.2.r.a v a.2.r.f))
  else .ret (4, c.setAF (doS (yO op) c.r.a (c.one (zO op)) c.r.f))
def quickC (n : Nat) (c : Core) : Core := if n < 4 then c.setAF (quickS n c.r.a c.r.f) else if n = 4 then c.setAF (daaS c.r.a c.r.f) else c.setAF (flipS (n - 5) c.r.a c.r.f)
def countM (op : BitVec 8) : CM Nat := fun c =>
  let by_ : BitVec 8 → BitVec 8 → BitVec 8 × BitVec 8 := if zO op = 5 then decS else incS
  if yO op = 6 then (pointedM c).bind fun a => (rdE a.1).bind fun v => (wrE a.1 (by_ v a.2.r.f).1).bind fun _ => .ret (longerS c.pr 11 19, a.2.setF (by_ v a.2.r.f).2)
  else .ret (4, (c.setOne (yO op) (by_ (c.one (yO op)) c.r.f).1).setF (by_ (c.one (yO op)) c.r.f).2)
def thereM (op : BitVec 8) : CM Nat := fun c =>
  let p := yO op / 2
  let q := yO op % 2
  let fin : BitVec 16 → Nat → CM Nat := fun a clocks c =>
    let c1 := c.wz (a + 1#16)
    if q = 1 then (rdE a).bind fun v => .ret (clocks, { c1 with r := { c1.r with a := v } })
    else (wrE a c1.r.a).bind fun _ => .ret (clocks, c1.wz (joinS c1.r.a (loS (a + 1#16))))
  if p < 2 then fin (c.pair p) 7 c
  else if p = 2 then (wordM c).bind fun a =>
    let c1 := a.2.wz (a.1 + 1#16)
    if q = 0 then (storeM a.1 (c1.pair 2) c1).bind fun x => .ret (16, x.2) else (loadM a.1 c1).bind fun v => .ret (16, v.2.setPair 2 v.1)
  else (wordM c).bind fun a => fin a.1 13 a.2
def jumpM (op : BitVec 8) : CM Nat := fun c =>
  let y := yO op
  if y = 0 then .ret (4, c)
  else if y = 1 then .ret (4, { c with r := swapR c.r false })
  else
    let c1 : Core := if y = 2 then { c with r := { c.r with b := c.r.b - 1#8 } } else c
    let met : Bool := if y = 2 then c1.r.b != 0#8 else if y = 3 then true else metR c1.r.f (y - 4)
    let clocks := if y = 2 then 8 else 7
    (nextM c1).bind fun e => if met = false then .ret (clocks, e.2) else .ret (clocks + 5, e.2.to (moveS e.2.r.pc e.1))
def lowM (op : BitVec 8) : CM Nat := fun c =>
  let z := zO op
  let p := yO op / 2
  let q := yO op % 2
  if z = 0 then jumpM op c
  else if z = 1 then
    if q = 0 then (wordM c).bind fun v => .ret (10, v.2.setPair p v.1)
    else
      let v := c.pair 2
      let c1 := c.wz (v + 1#16)
      let t := add16 v (c1.pair p) c1.r.f
      .ret (11, (c1.setPair 2 t.1).setF t.2)
  else if z = 2 then thereM op c
  else if z = 3 then .ret (6, c.setPair p (if q = 1 then c.pair p + 1#16 - 2#16 else c.pair p + 1#16))
  else if z = 4 ∨ z = 5 then countM op c
  else if z = 6 then
    if yO op = 6 then (pointedM c).bind fun a => (nextM a.2).bind fun v => (wrE a.1 v.1).bind fun _ => .ret (longerS c.pr 10 15, v.2)
    else (nextM c).bind fun v => .ret (7, v.2.setOne (yO op) v.1)
  else .ret (4, quickC (yO op) c)
def jumpToM (met : Bool) : CM Unit := fun c => (wordM c).bind fun a => let c1 := a.2.wz a.1; .ret ((), if met then { c1 with r := { c1.r with pc := a.1 } } else c1)
def callM (met : Bool) : CM Nat := fun c => (wordM c).bind fun a =>
  let c1 := a.2.wz a.1
  if met = false then .ret (10, c1) else (pushM c1.r.pc c1).bind fun x => .ret (17, { x.2 with r := { x.2.r with pc := x.2.r.wz } })
def backM (op : BitVec 8) : CM Nat := fun c =>
  let p := yO op / 2
  if yO op % 2 = 0 then (popM c).bind fun v => .ret (10, v.2.setPair (pushedS p) v.1)
  else if p = 0 then (popM c).bind fun v => .ret (10, v.2.to v.1)
  else if p = 1 then .ret (4, { c with r := swapR c.r true })
  else if p = 2 then .ret (4, { c with r := { c.r with pc := c.pair 2 } })
  else .ret (6, { c with r := { c.r with sp := c.pair 2 } })
def othersM (op : BitVec 8) : CM Nat := fun c =>
  let y := yO op
  if y = 0 then (jumpToM true c).bind fun x => .ret (10, x.2)
  else if y = 2 then (nextM c).bind fun n => (outE (joinS n.2.r.a n.1) n.2.r.a 8).bind fun _ => .ret (11, n.2.wz (joinS n.2.r.a (n.1 + 1#8)))
  else if y = 3 then (nextM c).bind fun n =>
    let port := joinS c.r.a n.1
    let c1 := n.2.wz (port + 1#16)
    (inE port 8).bind fun v => .ret (11, { c1 with r := { c1.r with a := v } })
  else if y = 4 then (loadM c.r.sp c).bind fun v =>
    let c1 := v.2.wz v.1
    (storeM c1.r.sp (c1.pair 2) c1).bind fun x => .ret (19, x.2.setPair 2 x.2.r.wz)
  else if y = 5 then .ret (4, { c with r := { c.r with d := c.r.h, e := c.r.l, h := c.r.d, l := c.r.e } })
  else .ret (4, { c with r := { c.r with iff1 := decide (y = 7), iff2 := decide (y = 7), dly := decide (y = 7) } })
def highM (op : BitVec 8) : CM Nat := fun c =>
  let y := yO op
  let z := zO op
  let met := metR c.r.f y
  if z = 0 then (if met = false then .ret (5, c) else (popM c).bind fun v => .ret (11, v.2.to v.1))
  else if z = 1 then backM op c
  else if z = 2 then (jumpToM met c).bind fun x => .ret (10, x.2)
  else if z = 3 then othersM op c
  else if z = 4 then callM met c
  else if z = 5 then (if y % 2 = 1 then callM true c else (pushM (c.pair (pushedS (y / 2))) c).bind fun x => .ret (11, x.2))
  else if z = 6 then (nextM c).bind fun v => .ret (7, v.2.setAF (doS y c.r.a v.1 c.r.f))
  else (pushM c.r.pc c).bind fun x => .ret (11, x.2.to (BitVec.ofNat 16 (8 * y)))
def plainM (op : BitVec 8) : CM Nat := fun c =>
  if xO op = 0 then lowM op c
  else if xO op = 1 ∧ yO op = 6 ∧ zO op = 6 then .ret (4, { c with r := { c.r with hlt := true } })
  else if xO op = 1 then moveM op c
  else if xO op = 2 then sumM op c
  else highM op c

/-- One step. -/
def stepE (r : Rg) : Eff (Rg × Nat) :=
  if r.hlt then .ret (tickR r, 4) else
  (fetchM ⟨{ r with dly := false, pre := 0#8 }, 0#8⟩).bind fun op =>
    if op.1 == 0xDD#8 || op.1 == 0xFD#8 then .ret ({ op.2.r with pre := op.1 }, 4)
    else if op.1 == 0xED#8 then (fetchM op.2).bind fun o2 => (extendedM o2.1 o2.2).bind fun x => .ret (x.2.r, x.1)
    else if op.1 == 0xCB#8 then (turnedM { op.2 with pr := r.pre }).bind fun x => .ret (x.2.r, x.1)
    else (plainM op.1 { op.2 with pr := r.pre }).bind fun x => .ret (x.2.r, x.1)
def beginM (a : BitVec 16) : CM Unit := fun c =>
  let c1 : Core := { c with r := tickR { c.r with hlt := false } }
  (pushM c1.r.pc c1).bind fun x => .ret ((), x.2.to a)
/-- Something comes between. -/
def interE (r : Rg) (pause line : Bool) : Eff (Rg × Nat) :=
  if r.pre != 0#8 then .ret (r, 0)
  else if pause then (beginM 0x66#16 ⟨{ r with iff1 := false }, 0#8⟩).bind fun x => .ret (x.2.r, 11)
  else if line = false ∨ r.iff1 = false ∨ r.dly = true then .ret (r, 0)
  else (beginM 0x38#16 ⟨{ r with iff1 := false, iff2 := false }, 0#8⟩).bind fun x =>
    if x.2.r.im < 2#8 then .ret (x.2.r, 13) else (loadM (joinS x.2.r.i 0xFF#8) x.2).bind fun v => .ret ((v.2.to v.1).r, 19)
end Go.Proofs.Joy
namespace Go.Proofs.Joy
/-- One register changes places with the other one. -/
def swap1 (r : Rg) (j : Nat) : Rg :=
  match j with
  | 0 => { r with a := r.a2, a2 := r.a } | 1 => { r with f := r.f2, f2 := r.f } | 2 => { r with b := r.b2, b2 := r.b } | 3 => { r with c := r.c2, c2 := r.c }
  | 4 => { r with d := r.d2, d2 := r.d } | 5 => { r with e := r.e2, e2 := r.e } | 6 => { r with h := r.h2, h2 := r.h } | 7 => { r with l := r.l2, l2 := r.l } | _ => r
def swapTo (r : Rg) (all : Bool) : Nat → Rg
  | 0 => r
  | j + 1 => if all = decide (1 < j) then swap1 (swapTo r all j) j else swapTo r all j
theorem swapTo_all (r : Rg) (all : Bool) : swapTo r all 8 = swapR r all := by cases all <;> rfl
end Go.Proofs.Joy
namespace Go.Proofs.Joy
open Go.Ab Go.Proofs

set_option maxHeartbeats 1000000
set_option maxRecDepth 20000

theorem c_join (a b : BitVec 8) (H : Heap) (n : Nat) (K : AV → Heap → Nat → Prop) (h : K (.u16 (joinS a b)) H n) : ACalls Try.prog 23 [.u8 a, .u8 b] H n K := by
  refine ACalls.of_ev dr0 Try.func23 rfl (by decide +kernel) (by decide +kernel) (show 2 ≤ 11 by decide) (by simp) fun wf => ?_
  simp only [go_sem, Try.f23]
  exact Fin.back wf h (fun _ _ => rfl) rfl
theorem c_split (v : BitVec 16) (H : Heap) (n : Nat) (K : AV → Heap → Nat → Prop) (h : K (.tu [.u8 (hiS v), .u8 (loS v)]) H n) : ACalls Try.prog 57 [.u16 v] H n K := by
  refine ACalls.of_ev dr0 Try.func57 rfl (by decide +kernel) (by decide +kernel) (show 1 ≤ 9 by decide) (by simp) fun wf => ?_
  simp only [go_sem, Try.f57]
  exact Fin.back wf h (fun _ _ => rfl) rfl
theorem c_move (v : BitVec 16) (b : BitVec 8) (H : Heap) (n : Nat) (K : AV → Heap → Nat → Prop) (h : K (.u16 (moveS v b)) H n) : ACalls Try.prog 63 [.u16 v, .u8 b] H n K := by
  refine ACalls.of_ev dr0 Try.func63 rfl (by decide +kernel) (by decide +kernel) (show 2 ≤ 10 by decide) (by simp) fun wf => ?_
  simp only [go_sem, Try.f63]
  exact Fin.back wf h (fun _ _ => rfl) rfl
theorem c_half (a b v : BitVec 16) (H : Heap) (n : Nat) (K : AV → Heap → Nat → Prop) (h : K (.u8 (halfS a b v)) H n) : ACalls Try.prog 82 [.u16 a, .u16 b, .u16 v] H n K := by
  refine ACalls.of_ev dr0 Try.func82 rfl (by decide +kernel) (by decide +kernel) (show 3 ≤ 15 by decide) (by simp) fun wf => ?_
  simp only [go_sem, Try.f82]
  exact Fin.back wf h (fun _ _ => rfl) rfl
theorem c_flag (f : BitVec 8) (y : Bool) (H : Heap) (n : Nat) (K : AV → Heap → Nat → Prop) (h : K (.u8 (if y then f else 0#8)) H n) : ACalls Try.prog 80 [.u8 f, .bo y] H n K := by
  refine ACalls.of_ev dr0 Try.func80 rfl (by decide +kernel) (by decide +kernel) (show 2 ≤ 7 by decide) (by simp) fun wf => ?_
  simp only [go_sem, Try.f80]
  refine ⟨fun e => ?_, fun e => ?_⟩
  · exact Fin.keep (by simpa [e] using h)
  · exact Fin.keep (by simpa [e] using h)
theorem c_bit (y : Bool) (H : Heap) (n : Nat) (K : AV → Heap → Nat → Prop) (h : K (.u16 (bit16 y)) H n) : ACalls Try.prog 83 [.bo y] H n K := by
  refine ACalls.of_ev dr0 Try.func83 rfl (by decide +kernel) (by decide +kernel) (show 1 ≤ 4 by decide) (by simp) fun wf => ?_
  simp only [go_sem, Try.f83]
  refine ⟨fun e => ?_, fun e => ?_⟩
  · exact Fin.keep (by simpa [e, bit16] using h)
  · exact Fin.keep (by simpa [e, bit16] using h)
theorem c_shape (v : BitVec 8) (H : Heap) (n : Nat) (K : AV → Heap → Nat → Prop) (h : K (.u8 (shapeS v)) H n) : ACalls Try.prog 52 [.u8 v] H n K := by
  refine ACalls.of_ev dr0 Try.func52 rfl (by decide +kernel) (by decide +kernel) (show 1 ≤ 9 by decide) (by simp) fun wf => ?_
  simp only [go_sem, Try.f52]
  refine c_flag _ _ _ _ _ ?_
  simp only [go_sem]
  exact Fin.back wf h (fun _ _ => rfl) rfl
theorem c_ones (v : BitVec 8) (H : Heap) (n : Nat) (K : AV → Heap → Nat → Prop) (h : K (.i64 (onesS v)) H n) : ACalls Try.prog 81 [.u8 v] H n K := by
  refine ACalls.of_ev dr0 Try.func81 rfl (by decide +kernel) (by decide +kernel) (show 1 ≤ 6 by decide) (by simp) fun wf => ?_
  simp only [go_sem, Try.f81]
  generalize hL : List.map UInt8.toBitVec _ = L
  have hT : L.length = 256 ∧ ∀ q : Fin 256, (L.getD q.val 0#8).toNat = onesS (BitVec.ofFin q) := by subst hL; decide +kernel
  have h1 := hT.2 ⟨v.toNat, v.isLt⟩
  have h2 : BitVec.ofFin (⟨v.toNat, v.isLt⟩ : Fin (2 ^ 8)) = v := rfl
  simp only at h1
  rw [h2] at h1
  have := v.isLt
  rw [hT.1, h1]
  exact ⟨by omega, Fin.back wf h (fun _ _ => rfl) rfl⟩
theorem c_parity (v : BitVec 8) (H : Heap) (n : Nat) (K : AV → Heap → Nat → Prop) (h : K (.bo (parityS v)) H n) : ACalls Try.prog 53 [.u8 v] H n K := by
  refine ACalls.of_ev dr0 Try.func53 rfl (by decide +kernel) (by decide +kernel) (show 1 ≤ 7 by decide) (by simp) fun wf => ?_
  simp only [go_sem, Try.f53]
  refine c_ones _ _ _ _ ?_
  have e : ((((onesS v : Nat) : Int)).tmod 2 == 0) = parityS v := by
    rw [Int.tmod_eq_emod_of_nonneg (by omega)]; unfold parityS
    rw [Bool.eq_iff_iff, beq_iff_eq, beq_iff_eq]; omega
  simp only [go_sem, e]
  exact Fin.back wf h (fun _ _ => rfl) rfl
theorem c_add (a b : BitVec 8) (c : Bool) (H : Heap) (n : Nat) (K : AV → Heap → Nat → Prop) (h : K (.tu [.u8 (addS a b c).1, .u8 (addS a b c).2]) H n) : ACalls Try.prog 58 [.u8 a, .u8 b, .bo c] H n K := by
  refine ACalls.of_ev dr0 Try.func58 rfl (by decide +kernel) (by decide +kernel) (show 3 ≤ 49 by decide) (by simp) fun wf => ?_
  simp only [go_sem, Try.f58]
  refine c_bit _ _ _ _ ?_
  simp only [go_sem]
  refine c_shape _ _ _ _ ?_
  simp only [go_sem]
  exact Fin.back wf h (fun _ _ => rfl) rfl
theorem c_sub (a b : BitVec 8) (c : Bool) (H : Heap) (n : Nat) (K : AV → Heap → Nat → Prop) (h : K (.tu [.u8 (subS a b c).1, .u8 (subS a b c).2]) H n) : ACalls Try.prog 35 [.u8 a, .u8 b, .bo c] H n K := by
  refine ACalls.of_ev dr0 Try.func35 rfl (by decide +kernel) (by decide +kernel) (show 3 ≤ 23 by decide) (by simp) fun wf => ?_
  simp only [go_sem, Try.f35]
  refine c_add _ _ _ _ _ _ ?_
  simp only [go_sem]
  exact Fin.back wf h (fun _ _ => rfl) rfl
theorem c_logic (v : BitVec 8) (H : Heap) (n : Nat) (K : AV → Heap → Nat → Prop) (h : K (.u8 (logicS v)) H n) : ACalls Try.prog 97 [.u8 v] H n K := by
  refine ACalls.of_ev dr0 Try.func97 rfl (by decide +kernel) (by decide +kernel) (show 1 ≤ 9 by decide) (by simp) fun wf => ?_
  simp only [go_sem, Try.f97]
  refine c_shape _ _ _ _ ?_
  simp only [go_sem]
  refine c_parity _ _ _ _ ?_
  simp only [go_sem]
  refine c_flag _ _ _ _ _ ?_
  simp only [go_sem]
  exact Fin.back wf h (fun _ _ => rfl) rfl
theorem c_and (a b : BitVec 8) (H : Heap) (n : Nat) (K : AV → Heap → Nat → Prop) (h : K (.tu [.u8 (a &&& b), .u8 (logicS (a &&& b) ||| 16#8)]) H n) : ACalls Try.prog 92 [.u8 a, .u8 b] H n K := by
  refine ACalls.of_ev dr0 Try.func92 rfl (by decide +kernel) (by decide +kernel) (show 2 ≤ 14 by decide) (by simp) fun wf => ?_
  simp only [go_sem, Try.f92]
  refine c_logic _ _ _ _ ?_
  simp only [go_sem]
  exact Fin.back wf h (fun _ _ => rfl) rfl
theorem c_xor (a b : BitVec 8) (H : Heap) (n : Nat) (K : AV → Heap → Nat → Prop) (h : K (.tu [.u8 (a ^^^ b), .u8 (logicS (a ^^^ b))]) H n) : ACalls Try.prog 93 [.u8 a, .u8 b] H n K := by
  refine ACalls.of_ev dr0 Try.func93 rfl (by decide +kernel) (by decide +kernel) (show 2 ≤ 13 by decide) (by simp) fun wf => ?_
  simp only [go_sem, Try.f93]
  refine c_logic _ _ _ _ ?_
  simp only [go_sem]
  exact Fin.back wf h (fun _ _ => rfl) rfl
theorem c_or (a b : BitVec 8) (H : Heap) (n : Nat) (K : AV → Heap → Nat → Prop) (h : K (.tu [.u8 (a ||| b), .u8 (logicS (a ||| b))]) H n) : ACalls Try.prog 94 [.u8 a, .u8 b] H n K := by
  refine ACalls.of_ev dr0 Try.func94 rfl (by decide +kernel) (by decide +kernel) (show 2 ≤ 13 by decide) (by simp) fun wf => ?_
  simp only [go_sem, Try.f94]
  refine c_logic _ _ _ _ ?_
  simp only [go_sem]
  exact Fin.back wf h (fun _ _ => rfl) rfl
theorem c_compare (a b : BitVec 8) (H : Heap) (n : Nat) (K : AV → Heap → Nat → Prop) (h : K (.u8 (compareS a b)) H n) : ACalls Try.prog 95 [.u8 a, .u8 b] H n K := by
  refine ACalls.of_ev dr0 Try.func95 rfl (by decide +kernel) (by decide +kernel) (show 2 ≤ 18 by decide) (by simp) fun wf => ?_
  simp only [go_sem, Try.f95]
  refine c_sub _ _ _ _ _ _ ?_
  simp only [go_sem]
  exact Fin.back wf h (fun _ _ => rfl) rfl
theorem c_inc (v f : BitVec 8) (H : Heap) (n : Nat) (K : AV → Heap → Nat → Prop) (h : K (.tu [.u8 (incS v f).1, .u8 (incS v f).2]) H n) : ACalls Try.prog 87 [.u8 v, .u8 f] H n K := by
  refine ACalls.of_ev dr0 Try.func87 rfl (by decide +kernel) (by decide +kernel) (show 2 ≤ 19 by decide) (by simp) fun wf => ?_
  simp only [go_sem, Try.f87]
  refine c_add _ _ _ _ _ _ ?_
  simp only [go_sem]
  exact Fin.back wf h (fun _ _ => rfl) rfl
theorem c_dec (v f : BitVec 8) (H : Heap) (n : Nat) (K : AV → Heap → Nat → Prop) (h : K (.tu [.u8 (decS v f).1, .u8 (decS v f).2]) H n) : ACalls Try.prog 88 [.u8 v, .u8 f] H n K := by
  refine ACalls.of_ev dr0 Try.func88 rfl (by decide +kernel) (by decide +kernel) (show 2 ≤ 19 by decide) (by simp) fun wf => ?_
  simp only [go_sem, Try.f88]
  refine c_sub _ _ _ _ _ _ ?_
  simp only [go_sem]
  exact Fin.back wf h (fun _ _ => rfl) rfl
theorem and7 (k : Nat) : and64 (k : Int) 7 = ((k % 8 : Nat) : Int) := by
  have := and64_mask 3 (by decide) (k : Int)
  rw [show (((2 ^ 3 - 1 : Nat) : Nat) : Int) = 7 from rfl] at this
  rw [this]; omega
theorem and3 (k : Nat) : and64 (k : Int) 3 = ((k % 4 : Nat) : Int) := by
  have := and64_mask 2 (by decide) (k : Int)
  rw [show (((2 ^ 2 - 1 : Nat) : Nat) : Int) = 3 from rfl] at this
  rw [this]; omega
theorem eqN (a b : Nat) : (((a : Nat) : Int) == ((b : Nat) : Int)) = decide (a = b) := by
  rw [Bool.eq_iff_iff, beq_iff_eq, decide_eq_true_eq]; omega
theorem c_do (op : Nat) (a b f : BitVec 8) (H : Heap) (n : Nat) (K : AV → Heap → Nat → Prop) (h : K (.tu [.u8 (doS op a b f).1, .u8 (doS op a b f).2]) H n) : ACalls Try.prog 70 [.i64 op, .u8 a, .u8 b, .u8 f] H n K := by
  refine ACalls.of_ev dr0 Try.func70 rfl (by decide +kernel) (by decide +kernel) (show 4 ≤ 71 by decide) (by simp) fun wf => ?_
  simp only [go_sem, Try.f70]
  rw [and7]
  have h8 : op % 8 < 8 := Nat.mod_lt _ (by decide)
  unfold doS at h
  generalize op % 8 = q at h h8 ⊢
  obtain rfl | rfl | rfl | rfl | rfl | rfl | rfl | rfl : q = 0 ∨ q = 1 ∨ q = 2 ∨ q = 3 ∨ q = 4 ∨ q = 5 ∨ q = 6 ∨ q = 7 := by omega
  all_goals simp +decide only [if_true, if_false] at h
  all_goals simp only [go_sem]
  · refine c_add _ _ _ _ _ _ ?_
    simp only [go_sem]
    exact Fin.back wf h (fun _ _ => rfl) rfl
  · refine c_add _ _ _ _ _ _ ?_
    simp only [go_sem]
    exact Fin.back wf h (fun _ _ => rfl) rfl
  · refine c_sub _ _ _ _ _ _ ?_
    simp only [go_sem]
    exact Fin.back wf h (fun _ _ => rfl) rfl
  · refine c_sub _ _ _ _ _ _ ?_
    simp only [go_sem]
    exact Fin.back wf h (fun _ _ => rfl) rfl
  · refine c_and _ _ _ _ _ ?_
    simp only [go_sem]
    exact Fin.back wf h (fun _ _ => rfl) rfl
  · refine c_xor _ _ _ _ _ ?_
    simp only [go_sem]
    exact Fin.back wf h (fun _ _ => rfl) rfl
  · refine c_or _ _ _ _ _ ?_
    simp only [go_sem]
    exact Fin.back wf h (fun _ _ => rfl) rfl
  · refine c_compare _ _ _ _ _ ?_
    simp only [go_sem]
    exact Fin.back wf h (fun _ _ => rfl) rfl
theorem c_daa (a f : BitVec 8) (H : Heap) (n : Nat) (K : AV → Heap → Nat → Prop) (h : K (.tu [.u8 (daaS a f).1, .u8 (daaS a f).2]) H n) : ACalls Try.prog 90 [.u8 a, .u8 f] H n K := by
  refine ACalls.of_awp Try.func90 rfl (by decide +kernel) (show 2 ≤ 50 by decide) (by simp) fun wf => ?_
  refine awp_ev dr0 (by decide +kernel) ?_
  unfold daaS at h
  cases h1 : (f &&& 16#8 != 0#8) <;> cases h2 : (f &&& 1#8 != 0#8) <;> cases h3 : (f &&& 2#8 != 0#8)
  all_goals
    simp only [h1, h2, h3, Bool.true_or, Bool.false_or, Bool.false_eq_true, if_false, if_true, decide_eq_true_eq] at h
    simp only [go_sem, Try.f90, h1, h2, h3]
    refine c_flag _ _ _ _ _ ?_
    simp only [go_sem, h1, h2, h3]
    refine c_flag _ _ _ _ _ ?_
    simp only [go_sem, h1, h2, h3, Bool.false_eq_true, if_false, if_true]
    refine c_logic _ _ _ _ ?_
    simp only [go_sem, h1, h2, h3]
    refine c_flag _ _ _ _ _ ?_
    simp only [go_sem, h1, h2, h3]
    exact Fin.back wf h (fun _ _ => rfl) rfl
theorem c_flip (op : Nat) (a f : BitVec 8) (H : Heap) (n : Nat) (K : AV → Heap → Nat → Prop) (h : K (.tu [.u8 (flipS op a f).1, .u8 (flipS op a f).2]) H n) : ACalls Try.prog 91 [.i64 op, .u8 a, .u8 f] H n K := by
  refine ACalls.of_awp Try.func91 rfl (by decide +kernel) (show 3 ≤ 53 by decide) (by simp) fun wf => ?_
  refine awp_ev dr0 (by decide +kernel) ?_
  unfold flipS at h
  by_cases h0 : op = 0
  · subst h0
    simp +decide only [if_true] at h
    simp only [go_sem, Try.f91]
    exact Fin.back wf h (fun _ _ => rfl) rfl
  by_cases h1 : op = 1
  · subst h1
    simp +decide only [if_true, if_false] at h
    simp only [go_sem, Try.f91]
    exact Fin.back wf h (fun _ _ => rfl) rfl
  by_cases h2 : op = 2
  · subst h2
    simp +decide only [if_true, if_false] at h
    simp only [go_sem, Try.f91]
    refine c_flag _ _ _ _ _ ?_
    simp only [go_sem]
    refine c_flag _ _ _ _ _ ?_
    simp only [go_sem]
    exact Fin.back wf h (fun _ _ => rfl) rfl
  simp only [h0, h1, h2, if_false] at h
  have e0 : (((op : Nat) : Int) == 0) = false := by simpa using h0
  have e1 : (((op : Nat) : Int) == 1) = false := by rw [beq_eq_false_iff_ne]; omega
  have e2 : (((op : Nat) : Int) == 2) = false := by rw [beq_eq_false_iff_ne]; omega
  simp only [go_sem, Try.f91, e0, e1, e2]
  exact Fin.back wf h (fun _ _ => rfl) rfl
theorem c_add16 (a b : BitVec 16) (f : BitVec 8) (H : Heap) (n : Nat) (K : AV → Heap → Nat → Prop) (h : K (.tu [.u16 (add16 a b f).1, .u8 (add16 a b f).2]) H n) : ACalls Try.prog 65 [.u16 a, .u16 b, .u8 f] H n K := by
  refine ACalls.of_ev dr0 Try.func65 rfl (by decide +kernel) (by decide +kernel) (show 3 ≤ 37 by decide) (by simp) fun wf => ?_
  simp only [go_sem, Try.f65]
  refine c_half _ _ _ _ _ _ ?_
  simp only [go_sem]
  exact Fin.back wf h (fun _ _ => rfl) rfl
theorem c_full (a b : BitVec 16) (c : BitVec 32) (H : Heap) (n : Nat) (K : AV → Heap → Nat → Prop) (h : K (.tu [.u16 (full16 a b c).1, .u8 (full16 a b c).2]) H n) : ACalls Try.prog 56 [.u16 a, .u16 b, .u32 c] H n K := by
  refine ACalls.of_ev dr0 Try.func56 rfl (by decide +kernel) (by decide +kernel) (show 3 ≤ 52 by decide) (by simp) fun wf => ?_
  simp only [go_sem, Try.f56]
  refine c_half _ _ _ _ _ _ ?_
  simp only [go_sem]
  unfold full16 at h
  refine ⟨fun e => ?_, fun e => ?_⟩
  · simp only [e, if_true] at h
    exact Fin.back wf h (fun _ _ => rfl) rfl
  · simp only [e, Bool.false_eq_true, if_false] at h
    exact Fin.back wf h (fun _ _ => rfl) rfl
theorem c_adc16 (a b : BitVec 16) (f : BitVec 8) (H : Heap) (n : Nat) (K : AV → Heap → Nat → Prop) (h : K (.tu [.u16 (adc16 a b f).1, .u8 (adc16 a b f).2]) H n) : ACalls Try.prog 31 [.u16 a, .u16 b, .u8 f] H n K := by
  refine ACalls.of_ev dr0 Try.func31 rfl (by decide +kernel) (by decide +kernel) (show 3 ≤ 16 by decide) (by simp) fun wf => ?_
  simp only [go_sem, Try.f31]
  refine c_full _ _ _ _ _ _ ?_
  simp only [go_sem]
  exact Fin.back wf h (fun _ _ => rfl) rfl
theorem c_sbc16 (a b : BitVec 16) (f : BitVec 8) (H : Heap) (n : Nat) (K : AV → Heap → Nat → Prop) (h : K (.tu [.u16 (sbc16 a b f).1, .u8 (sbc16 a b f).2]) H n) : ACalls Try.prog 30 [.u16 a, .u16 b, .u8 f] H n K := by
  refine ACalls.of_ev dr0 Try.func30 rfl (by decide +kernel) (by decide +kernel) (show 3 ≤ 25 by decide) (by simp) fun wf => ?_
  simp only [go_sem, Try.f30]
  refine c_full _ _ _ _ _ _ ?_
  simp only [go_sem]
  exact Fin.back wf h (fun _ _ => rfl) rfl
theorem c_said (v : BitVec 8) (H : Heap) (n : Nat) (K : AV → Heap → Nat → Prop) (h : K (.u8 (saidS v)) H n) : ACalls Try.prog 84 [.u8 v] H n K := by
  refine ACalls.of_ev dr0 Try.func84 rfl (by decide +kernel) (by decide +kernel) (show 1 ≤ 11 by decide) (by simp) fun wf => ?_
  simp only [go_sem, Try.f84]
  refine c_shape _ _ _ _ ?_
  simp only [go_sem]
  refine c_parity _ _ _ _ ?_
  simp only [go_sem]
  unfold saidS at h
  refine ⟨fun e => ?_, fun e => ?_⟩
  · simp only [e, if_true] at h
    exact Fin.back wf h (fun _ _ => rfl) rfl
  · simp only [e, Bool.false_eq_true, if_false] at h
    exact Fin.back wf h (fun _ _ => rfl) rfl
theorem rol8 : ∀ x : BitVec 8, (x <<< 1 ||| x >>> 7) = x.rotateLeft 1 := by decide +kernel
theorem ror8 : ∀ x : BitVec 8, (x <<< 7 ||| x >>> 1) = x.rotateLeft 7 := by decide +kernel
theorem c_rol (x : BitVec 8) (H : Heap) (n : Nat) (K : AV → Heap → Nat → Prop) (h : K (.u8 (x.rotateLeft 1)) H n) : ACalls Try.prog 96 [.u8 x, .i64 1] H n K := by
  refine ACalls.of_ev dr0 Try.func96 rfl (by decide +kernel) (by decide +kernel) (show 2 ≤ 17 by decide) (by simp) fun wf => ?_
  simp only [go_sem, Try.f96]
  rw [rol8]
  exact Fin.back wf h (fun _ _ => rfl) rfl
theorem c_ror (x : BitVec 8) (H : Heap) (n : Nat) (K : AV → Heap → Nat → Prop) (h : K (.u8 (x.rotateLeft 7)) H n) : ACalls Try.prog 96 [.u8 x, .i64 (-1)] H n K := by
  refine ACalls.of_ev dr0 Try.func96 rfl (by decide +kernel) (by decide +kernel) (show 2 ≤ 17 by decide) (by simp) fun wf => ?_
  simp only [go_sem, Try.f96]
  rw [ror8]
  exact Fin.back wf h (fun _ _ => rfl) rfl
theorem c_turn (op : Nat) (v f : BitVec 8) (H : Heap) (n : Nat) (K : AV → Heap → Nat → Prop) (h : K (.tu [.u8 (turnS op v f).1, .u8 (turnS op v f).2]) H n) : ACalls Try.prog 85 [.i64 op, .u8 v, .u8 f] H n K := by
  refine ACalls.of_ev dr0 Try.func85 rfl (by decide +kernel) (by decide +kernel) (show 3 ≤ 67 by decide) (by simp) fun wf => ?_
  simp only [go_sem, Try.f85]
  rw [and7]
  have h8 : op % 8 < 8 := Nat.mod_lt _ (by decide)
  unfold turnS at h
  generalize op % 8 = q at h h8 ⊢
  obtain rfl | rfl | rfl | rfl | rfl | rfl | rfl | rfl : q = 0 ∨ q = 1 ∨ q = 2 ∨ q = 3 ∨ q = 4 ∨ q = 5 ∨ q = 6 ∨ q = 7 := by omega
  all_goals simp +decide only [if_true, if_false] at h
  all_goals simp only [go_sem]
  · refine c_rol _ _ _ _ ?_
    simp only [go_sem]
    exact Fin.back wf h (fun _ _ => rfl) rfl
  · refine c_ror _ _ _ _ ?_
    simp only [go_sem]
    exact Fin.back wf h (fun _ _ => rfl) rfl
  all_goals exact Fin.back wf h (fun _ _ => rfl) rfl
theorem c_rot (op : Nat) (v f : BitVec 8) (H : Heap) (n : Nat) (K : AV → Heap → Nat → Prop) (h : K (.tu [.u8 (rotS op v f).1, .u8 (rotS op v f).2]) H n) : ACalls Try.prog 60 [.i64 op, .u8 v, .u8 f] H n K := by
  refine ACalls.of_ev dr0 Try.func60 rfl (by decide +kernel) (by decide +kernel) (show 3 ≤ 23 by decide) (by simp) fun wf => ?_
  simp only [go_sem, Try.f60]
  refine c_turn _ _ _ _ _ _ ?_
  simp only [go_sem]
  refine c_said _ _ _ _ ?_
  simp only [go_sem]
  exact Fin.back wf h (fun _ _ => rfl) rfl
theorem c_quick (op : Nat) (v f : BitVec 8) (H : Heap) (n : Nat) (K : AV → Heap → Nat → Prop) (h : K (.tu [.u8 (quickS op v f).1, .u8 (quickS op v f).2]) H n) : ACalls Try.prog 89 [.i64 op, .u8 v, .u8 f] H n K := by
  refine ACalls.of_ev dr0 Try.func89 rfl (by decide +kernel) (by decide +kernel) (show 3 ≤ 27 by decide) (by simp) fun wf => ?_
  simp only [go_sem, Try.f89]
  rw [and3]
  refine c_turn _ _ _ _ _ _ ?_
  simp only [go_sem]
  exact Fin.back wf h (fun _ _ => rfl) rfl
theorem c_bitt (m : Nat) (v f from_ : BitVec 8) (H : Heap) (n : Nat) (K : AV → Heap → Nat → Prop) (h : K (.u8 (bitS8 m v f from_)) H n) : ACalls Try.prog 61 [.i64 m, .u8 v, .u8 f, .u8 from_] H n K := by
  refine ACalls.of_ev dr0 Try.func61 rfl (by decide +kernel) (by decide +kernel) (show 4 ≤ 31 by decide) (by simp) fun wf => ?_
  simp only [go_sem, Try.f61]
  simp only [go_sem, and7]
  unfold bitS8 at h
  refine ⟨fun e => ?_, fun e => ?_⟩
  · simp only [e, if_true] at h
    exact Fin.back wf h (fun _ _ => rfl) rfl
  · simp only [e, Bool.false_eq_true, if_false] at h
    exact Fin.back wf h (fun _ _ => rfl) rfl
theorem c_put (m : Nat) (v : BitVec 8) (on : Bool) (H : Heap) (n : Nat) (K : AV → Heap → Nat → Prop) (h : K (.u8 (putS8 m v on)) H n) : ACalls Try.prog 62 [.i64 m, .u8 v, .bo on] H n K := by
  refine ACalls.of_ev dr0 Try.func62 rfl (by decide +kernel) (by decide +kernel) (show 3 ≤ 18 by decide) (by simp) fun wf => ?_
  simp only [go_sem, Try.f62]
  simp only [and7, Int.toNat_natCast]
  unfold putS8 at h
  refine ⟨by omega, fun e => ?_, fun e => ?_⟩
  · simp only [e, if_true] at h
    exact Fin.back wf h (fun _ _ => rfl) rfl
  · simp only [e, Bool.false_eq_true, if_false] at h
    exact Fin.back wf h (fun _ _ => rfl) rfl
theorem c_digits (left : Bool) (a m f : BitVec 8) (H : Heap) (n : Nat) (K : AV → Heap → Nat → Prop) (h : K (.tu [.u8 (digitsS left a m f).1, .u8 (digitsS left a m f).2.1, .u8 (digitsS left a m f).2.2]) H n) : ACalls Try.prog 59 [.bo left, .u8 a, .u8 m, .u8 f] H n K := by
  refine ACalls.of_awp Try.func59 rfl (by decide +kernel) (show 4 ≤ 42 by decide) (by simp) fun wf => ?_
  refine awp_ev dr0 (by decide +kernel) ?_
  unfold digitsS at h
  cases left
  all_goals
    simp only [Bool.false_eq_true, if_false, if_true] at h
    simp only [go_sem, Try.f59]
    refine c_said _ _ _ _ ?_
    simp only [go_sem]
    exact Fin.back wf h (fun _ _ => rfl) rfl
theorem c_odd (x : BitVec 8) (H : Heap) (n : Nat) (K : AV → Heap → Nat → Prop) (h : K (.u8 (oddS x)) H n) : ACalls Try.prog 78 [.u8 x] H n K := by
  refine ACalls.of_ev dr0 Try.func78 rfl (by decide +kernel) (by decide +kernel) (show 1 ≤ 9 by decide) (by simp) fun wf => ?_
  simp only [go_sem, Try.f78]
  exact Fin.back wf h (fun _ _ => rfl) rfl
theorem c_more (x : BitVec 16) (H : Heap) (n : Nat) (K : AV → Heap → Nat → Prop) (h : K (.u8 (moreS x)) H n) : ACalls Try.prog 77 [.u16 x] H n K := by
  refine ACalls.of_ev dr0 Try.func77 rfl (by decide +kernel) (by decide +kernel) (show 1 ≤ 5 by decide) (by simp) fun wf => ?_
  simp only [go_sem, Try.f77]
  unfold moreS at h
  refine ⟨fun e => ?_, fun e => ?_⟩
  · simp only [e, if_true] at h
    exact Fin.back wf h (fun _ _ => rfl) rfl
  · simp only [e, Bool.false_eq_true, if_false] at h
    exact Fin.back wf h (fun _ _ => rfl) rfl
theorem c_rload (a v f : BitVec 8) (l : BitVec 16) (H : Heap) (n : Nat) (K : AV → Heap → Nat → Prop) (h : K (.u8 (repLoad a v f l)) H n) : ACalls Try.prog 46 [.u8 a, .u8 v, .u8 f, .u16 l] H n K := by
  refine ACalls.of_ev dr0 Try.func46 rfl (by decide +kernel) (by decide +kernel) (show 4 ≤ 19 by decide) (by simp) fun wf => ?_
  simp only [go_sem, Try.f46]
  refine c_more _ _ _ _ ?_
  simp only [go_sem]
  refine c_odd _ _ _ _ ?_
  simp only [go_sem]
  exact Fin.back wf h (fun _ _ => rfl) rfl
theorem c_rseek (a v f : BitVec 8) (l : BitVec 16) (H : Heap) (n : Nat) (K : AV → Heap → Nat → Prop) (h : K (.tu [.u8 (repSeek a v f l).1, .bo (repSeek a v f l).2]) H n) : ACalls Try.prog 47 [.u8 a, .u8 v, .u8 f, .u16 l] H n K := by
  refine ACalls.of_ev dr0 Try.func47 rfl (by decide +kernel) (by decide +kernel) (show 4 ≤ 46 by decide) (by simp) fun wf => ?_
  simp only [go_sem, Try.f47]
  refine c_sub _ _ _ _ _ _ ?_
  simp only [go_sem]
  refine c_more _ _ _ _ ?_
  simp only [go_sem]
  refine c_odd _ _ _ _ ?_
  simp only [go_sem]
  unfold repSeek at h
  refine ⟨fun e => ?_, fun e => ?_⟩
  · simp only [e, Bool.true_and] at h
    exact Fin.back wf h (fun _ _ => rfl) rfl
  · simp only [e, Bool.false_and] at h
    exact Fin.back wf h (fun _ _ => rfl) rfl
theorem c_rport (v w b : BitVec 8) (H : Heap) (n : Nat) (K : AV → Heap → Nat → Prop) (h : K (.u8 (repPort v w b)) H n) : ACalls Try.prog 48 [.u8 v, .u8 w, .u8 b] H n K := by
  refine ACalls.of_ev dr0 Try.func48 rfl (by decide +kernel) (by decide +kernel) (show 3 ≤ 33 by decide) (by simp) fun wf => ?_
  simp only [go_sem, Try.f48]
  refine c_shape _ _ _ _ ?_
  simp only [go_sem]
  unfold repPort at h
  refine ⟨fun e => ?_, fun e => ?_⟩
  all_goals
    simp only [e, decide_true, decide_false, Bool.false_eq_true, if_true, if_false] at h
    refine c_parity _ _ _ _ ?_
    cases hp : parityS ((BitVec.setWidth 8 (BitVec.setWidth 16 v + BitVec.setWidth 16 w) &&& 7#8) ^^^ b)
    · simp only [hp, Bool.false_eq_true, if_false] at h
      simp only [go_sem]
      exact Fin.back wf h (fun _ _ => rfl) rfl
    · simp only [hp, if_true] at h
      simp only [go_sem]
      exact Fin.back wf h (fun _ _ => rfl) rfl
end Go.Proofs.Joy
namespace Go.Proofs.Joy
open Go.Ab Go.Proofs

set_option maxHeartbeats 2000000
set_option maxRecDepth 20000

theorem c_index (p : BitVec 8) (H : Heap) (n : Nat) (K : AV → Heap → Nat → Prop) (h : K (.i64 (idxS p)) H n) : ACalls Try.prog 79 [.u8 p] H n K := by
  refine ACalls.of_ev dr0 Try.func79 rfl (by decide +kernel) (by decide +kernel) (show 1 ≤ 8 by decide) (by simp) fun wf => ?_
  simp only [go_sem, Try.f79]
  unfold idxS at h
  refine ⟨fun e => ?_, fun e => ⟨fun e2 => ?_, fun e2 => ?_⟩⟩
  · simp only [e, if_true] at h
    exact Fin.back wf h (fun _ _ => rfl) rfl
  · simp only [e, e2, Bool.false_eq_true, if_false, if_true] at h
    exact Fin.back wf h (fun _ _ => rfl) rfl
  · simp only [e, e2, Bool.false_eq_true, if_false] at h
    exact Fin.back wf h (fun _ _ => rfl) rfl
theorem idxS_lt (p : BitVec 8) : idxS p < 7 := by unfold idxS; split <;> (try split) <;> decide
theorem rg_ok (r : Rg) (n : Nat) : (AV.ag r.cells).ok n = true := by simp [AV.ok, AV.oks, AV.one, Rg.cells]
theorem rg_keep {H X : Heap} {n : Nat} (h : ∀ i, i < n → X i = H i) : ∀ i, i < n → X i = H i := h
theorem c_pair (r : Rg) (m : Nat) (hm : m < 7) (H : Heap) (n : Nat) (K : AV → Heap → Nat → Prop) (h : K (.u16 (pairR r m)) H n) : ACalls Try.prog 50 [.ag r.cells, .i64 m] H n K := by
  refine ACalls.of_awp Try.func50 rfl (by decide +kernel) (show 2 ≤ 46 by decide) (by simp) fun wf => ?_
  refine awp_ev dr0 (by decide +kernel) ?_
  unfold pairR at h
  obtain rfl | rfl | rfl | rfl | rfl | rfl | rfl : m = 0 ∨ m = 1 ∨ m = 2 ∨ m = 3 ∨ m = 4 ∨ m = 5 ∨ m = 6 := by omega
  all_goals simp +decide only [if_true, if_false] at h
  all_goals simp only [go_sem, Try.f50, Rg.cells]
  all_goals try (refine c_join _ _ _ _ _ ?_; simp only [go_sem])
  all_goals exact Fin.back wf h (fun i hi => by rw [Heap.upd_ne _ _ (by omega)]) rfl
theorem c_setpair (r : Rg) (m : Nat) (hm : m < 7) (v : BitVec 16) (H : Heap) (n : Nat) (K : AV → Heap → Nat → Prop) (h : K (.ag (setPairR r m v).cells) H n) : ACalls Try.prog 49 [.ag r.cells, .i64 m, .u16 v] H n K := by
  refine ACalls.of_awp Try.func49 rfl (by decide +kernel) (show 3 ≤ 52 by decide) (by simp) fun wf => ?_
  refine awp_ev dr0 (by decide +kernel) ?_
  unfold setPairR at h
  obtain rfl | rfl | rfl | rfl | rfl | rfl | rfl : m = 0 ∨ m = 1 ∨ m = 2 ∨ m = 3 ∨ m = 4 ∨ m = 5 ∨ m = 6 := by omega
  all_goals simp +decide only [if_true, if_false] at h
  all_goals simp only [go_sem, Try.f49, Rg.cells]
  all_goals (refine c_split _ _ _ _ ?_; simp only [go_sem])
  all_goals exact Fin.back wf h (fun i hi => by repeat (rw [Heap.upd_ne _ _ (by omega)])) (rg_ok _ _)
theorem c_one (r : Rg) (m : Nat) (hm : m < 8) (p : BitVec 8) (H : Heap) (n : Nat) (K : AV → Heap → Nat → Prop) (h : K (.u8 (oneR r m p)) H n) : ACalls Try.prog 55 [.ag r.cells, .i64 m, .u8 p] H n K := by
  refine ACalls.of_awp Try.func55 rfl (by decide +kernel) (show 3 ≤ 44 by decide) (by simp) fun wf => ?_
  refine awp_ev dr55 (by decide +kernel) ?_
  unfold oneR at h
  have hx : ∀ (r : Rg), [AV.u8 r.a, .u8 r.f, .u8 r.b, .u8 r.c, .u8 r.d, .u8 r.e, .u8 r.h, .u8 r.l, .u8 r.a2, .u8 r.f2, .u8 r.b2, .u8 r.c2, .u8 r.d2, .u8 r.e2, .u8 r.h2, .u8 r.l2, .u16 r.ix, .u16 r.iy, .u16 r.sp, .u16 r.pc, .u16 r.wz, .u8 r.i, .u8 r.r, .u8 r.im, .u8 r.pre, .bo r.iff1, .bo r.iff2, .bo r.hlt, .bo r.dly] = r.cells := fun r => rfl
  obtain rfl | rfl | rfl | rfl | rfl | rfl | rfl | rfl : m = 0 ∨ m = 1 ∨ m = 2 ∨ m = 3 ∨ m = 4 ∨ m = 5 ∨ m = 6 ∨ m = 7 := by omega
  all_goals simp +decide only [if_true, if_false] at h
  all_goals
    simp only [go_sem, Try.f55, Rg.cells]
    refine c_index _ _ _ _ ?_
    simp only [go_sem]
    refine c_pair r (idxS p) (idxS_lt p) _ _ _ ?_
    simp only [go_sem]
    refine c_split _ _ _ _ ?_
    simp only [go_sem]
    exact Fin.back wf h (fun i hi => by repeat (rw [Heap.upd_ne _ _ (by omega)])) rfl
theorem c_setone (r : Rg) (m : Nat) (hm : m < 8) (p v : BitVec 8) (H : Heap) (n : Nat) (K : AV → Heap → Nat → Prop) (h : K (.ag (setOneR r m p v).cells) H n) : ACalls Try.prog 54 [.ag r.cells, .i64 m, .u8 p, .u8 v] H n K := by
  refine ACalls.of_awp Try.func54 rfl (by decide +kernel) (show 4 ≤ 59 by decide) (by simp) fun wf => ?_
  refine awp_ev dr54 (by decide +kernel) ?_
  unfold setOneR at h
  obtain rfl | rfl | rfl | rfl | rfl | rfl | rfl | rfl : m = 0 ∨ m = 1 ∨ m = 2 ∨ m = 3 ∨ m = 4 ∨ m = 5 ∨ m = 6 ∨ m = 7 := by omega
  all_goals simp +decide only [if_true, if_false] at h
  all_goals
    simp only [go_sem, Try.f54, Rg.cells]
    refine c_index _ _ _ _ ?_
    simp only [go_sem]
    refine c_pair r (idxS p) (idxS_lt p) _ _ _ ?_
    simp only [go_sem]
    refine c_split _ _ _ _ ?_
    simp only [go_sem]
  all_goals try
    refine c_join _ _ _ _ _ ?_
    simp only [go_sem]
    refine c_setpair r (idxS p) (idxS_lt p) _ _ _ _ ?_
    simp only [go_sem, Rg.cells]
  all_goals exact Fin.back wf h (fun i hi => by repeat (rw [Heap.upd_ne _ _ (by omega)])) (rg_ok _ _)
theorem c_tick (r : Rg) (H : Heap) (n : Nat) (K : AV → Heap → Nat → Prop) (h : K (.ag (tickR r).cells) H n) : ACalls Try.prog 14 [.ag r.cells] H n K := by
  refine ACalls.of_awp Try.func14 rfl (by decide +kernel) (show 1 ≤ 13 by decide) (by simp) fun wf => ?_
  refine awp_ev dr0 (by decide +kernel) ?_
  simp only [go_sem, Try.f14, Rg.cells]
  exact Fin.back wf h (fun i hi => by repeat (rw [Heap.upd_ne _ _ (by omega)])) (rg_ok _ _)
theorem mW1 : wrap64 1 = 1 := by decide
theorem mW2 : wrap64 2 = 2 := by decide
theorem mW3 : wrap64 3 = 3 := by decide
theorem mA0 : and64 0 7 = 0 := by decide
theorem mD0 : wrap64 ((0 : Int).tdiv 2) = 0 := by decide
theorem mM0 : (0 : Int).tmod 2 = 0 := by decide
theorem mA1 : and64 1 7 = 1 := by decide
theorem mD1 : wrap64 ((1 : Int).tdiv 2) = 0 := by decide
theorem mM1 : (1 : Int).tmod 2 = 1 := by decide
theorem mA2 : and64 2 7 = 2 := by decide
theorem mD2 : wrap64 ((2 : Int).tdiv 2) = 1 := by decide
theorem mM2 : (2 : Int).tmod 2 = 0 := by decide
theorem mA3 : and64 3 7 = 3 := by decide
theorem mD3 : wrap64 ((3 : Int).tdiv 2) = 1 := by decide
theorem mM3 : (3 : Int).tmod 2 = 1 := by decide
theorem mA4 : and64 4 7 = 4 := by decide
theorem mD4 : wrap64 ((4 : Int).tdiv 2) = 2 := by decide
theorem mM4 : (4 : Int).tmod 2 = 0 := by decide
theorem mA5 : and64 5 7 = 5 := by decide
theorem mD5 : wrap64 ((5 : Int).tdiv 2) = 2 := by decide
theorem mM5 : (5 : Int).tmod 2 = 1 := by decide
theorem mA6 : and64 6 7 = 6 := by decide
theorem mD6 : wrap64 ((6 : Int).tdiv 2) = 3 := by decide
theorem mM6 : (6 : Int).tmod 2 = 0 := by decide
theorem mA7 : and64 7 7 = 7 := by decide
theorem mD7 : wrap64 ((7 : Int).tdiv 2) = 3 := by decide
theorem mM7 : (7 : Int).tmod 2 = 1 := by decide
theorem c_met (f : BitVec 8) (m : Nat) (hm : m < 8) (H : Heap) (n : Nat) (K : AV → Heap → Nat → Prop) (h : K (.bo (metR f m)) H n) : ACalls Try.prog 71 [.u8 f, .i64 m] H n K := by
  refine ACalls.of_awp Try.func71 rfl (by decide +kernel) (show 2 ≤ 21 by decide) (by simp) fun wf => ?_
  refine awp_ev dr0 (by decide +kernel) ?_
  unfold metR flagOf at h
  obtain rfl | rfl | rfl | rfl | rfl | rfl | rfl | rfl : m = 0 ∨ m = 1 ∨ m = 2 ∨ m = 3 ∨ m = 4 ∨ m = 5 ∨ m = 6 ∨ m = 7 := by omega
  all_goals simp +decide only [if_true, if_false] at h
  all_goals simp only [go_sem, Try.f71, mW1, mW2, mW3, mA0, mD0, mM0, mA1, mD1, mM1, mA2, mD2, mM2, mA3, mD3, mM3, mA4, mD4, mM4, mA5, mD5, mM5, mA6, mD6, mM6, mA7, mD7, mM7]
  all_goals exact Fin.back wf h (fun i hi => by repeat (rw [Heap.upd_ne _ _ (by omega)])) rfl
end Go.Proofs.Joy
namespace Go.Proofs.Joy
open Go.Ab
set_option maxHeartbeats 1000000

/-- What a processor meets, as a heap bears it: its state is of a kind of one's own; F tells which blocks are its own. -/
structure WC (P : Program) (σ : Type) where
  O : Ops σ
  v : AV
  kr : FuncId
  kw : FuncId
  ki : FuncId
  ko : FuncId
  rep : σ → Heap → Nat → (Nat → Prop) → Prop
  left : σ → Nat
  lrd : ∀ s a, left s ≤ left (O.rd s a).2 + 1
  lwr : ∀ s a x, left s ≤ left (O.wr s a x) + 1
  lin : ∀ s p u, left s ≤ left (O.inp s p u).2 + 1
  lout : ∀ s p x u, left s ≤ left (O.out s p x u) + 1
  vok : ∀ {s H n F}, rep s H n F → v.ok n = true
  low : ∀ {s H n F i}, rep s H n F → F i → i < n
  stable : ∀ {s H n F H' n'}, rep s H n F → (∀ i, F i → H' i = H i) → n ≤ n' → rep s H' n' F
  read : ∀ {s : σ} {a : BitVec 16} {H : Heap} {n : Nat} {F : Nat → Prop} {K : AV → Heap → Nat → Prop}, 1 ≤ left s → rep s H n F → (∀ H' n' F', H'.wf n' → n ≤ n' → rep (O.rd s a).2 H' n' F' → (∀ i, F' i → F i ∨ n ≤ i) → (∀ i, i < n → ¬ F i → H' i = H i) → K (.u8 (O.rd s a).1) H' n') → ACalls P kr [v, .u16 a] H n K
  write : ∀ {s : σ} {a : BitVec 16} {x : BitVec 8} {H : Heap} {n : Nat} {F : Nat → Prop} {K : AV → Heap → Nat → Prop}, 1 ≤ left s → rep s H n F → (∀ H' n' F', H'.wf n' → n ≤ n' → rep (O.wr s a x) H' n' F' → (∀ i, F' i → F i ∨ n ≤ i) → (∀ i, i < n → ¬ F i → H' i = H i) → K (.tu []) H' n') → ACalls P kw [v, .u16 a, .u8 x] H n K
  inp : ∀ {s : σ} {p : BitVec 16} {t : Int} {H : Heap} {n : Nat} {F : Nat → Prop} {K : AV → Heap → Nat → Prop}, 0 ≤ t ∧ t ≤ 100 → 1 ≤ left s → rep s H n F → (∀ H' n' F', H'.wf n' → n ≤ n' → rep (O.inp s p t).2 H' n' F' → (∀ i, F' i → F i ∨ n ≤ i) → (∀ i, i < n → ¬ F i → H' i = H i) → K (.u8 (O.inp s p t).1) H' n') → ACalls P ki [v, .u16 p, .i64 t] H n K
  out : ∀ {s : σ} {p : BitVec 16} {x : BitVec 8} {t : Int} {H : Heap} {n : Nat} {F : Nat → Prop} {K : AV → Heap → Nat → Prop}, 0 ≤ t ∧ t ≤ 100 → 1 ≤ left s → rep s H n F → (∀ H' n' F', H'.wf n' → n ≤ n' → rep (O.out s p x t) H' n' F' → (∀ i, F' i → F i ∨ n ≤ i) → (∀ i, i < n → ¬ F i → H' i = H i) → K (.tu []) H' n') → ACalls P ko [v, .u16 p, .u8 x, .i64 t] H n K
/-- Its type's methods. -/
structure MT {P : Program} {σ : Type} (W : WC P σ) (t : TypeId) : Prop where
  r : mthT P t "Read" = some W.kr
  w : mthT P t "Write" = some W.kw
  i : mthT P t "In" = some W.ki
  o : mthT P t "Out" = some W.ko

/-- A processor stands at k in a heap that came of another one. -/
structure At {P : Program} {σ : Type} (W : WC P σ) (T t : TypeId) (H0 : Heap) (n0 : Nat) (F0 : Nat → Prop) (k : Nat) (c : Core) (s : σ) (H : Heap) (n : Nat) : Prop where
  wf : H.wf n
  le : n0 ≤ n
  blk : H k = some ⟨c.r.cells ++ [.ifc t W.v, .u8 c.pr], T, false⟩
  fp : ∃ F, W.rep s H n F ∧ ¬ F k ∧ ∀ i, F i → F0 i ∨ n0 ≤ i
  fr : ∀ i, i < n0 → i ≠ k → ¬ F0 i → H i = H0 i
variable {P : Program} {σ : Type} {W : WC P σ} {T t : TypeId} {H0 : Heap} {n0 : Nat} {F0 : Nat → Prop} {k : Nat} {c : Core} {s : σ} {H : Heap} {n : Nat}
theorem cells_ok (c : Core) (n : Nat) : ∀ v ∈ c.r.cells, v.ok n = true := by
  intro v hv
  simp only [Rg.cells, List.mem_cons, List.not_mem_nil, or_false] at hv
  rcases hv with rfl | rfl | rfl | rfl | rfl | rfl | rfl | rfl | rfl | rfl | rfl | rfl | rfl | rfl | rfl | rfl | rfl | rfl | rfl | rfl | rfl | rfl | rfl | rfl | rfl | rfl | rfl | rfl | rfl <;> rfl
theorem At.kn (A : At W T t H0 n0 F0 k c s H n) : k < n := (A.wf _ _ A.blk).1
theorem At.vok (A : At W T t H0 n0 F0 k c s H n) : W.v.ok n = true := let ⟨_, h, _⟩ := A.fp; W.vok h
theorem core_ok (A : At W T t H0 n0 F0 k c s H n) (c' : Core) : ∀ v ∈ c'.r.cells ++ [.ifc t W.v, .u8 c'.pr], v.ok n = true := by
  intro v hv
  rcases List.mem_append.1 hv with hv | hv
  · exact cells_ok _ _ v hv
  · simp only [List.mem_cons, List.not_mem_nil, or_false] at hv
    rcases hv with rfl | rfl
    · exact A.vok
    · rfl
/-- Its registers have turned. -/
theorem At.put (A : At W T t H0 n0 F0 k c s H n) (c' : Core) : At W T t H0 n0 F0 k c' s (H.upd k (some ⟨c'.r.cells ++ [.ifc t W.v, .u8 c'.pr], T, false⟩)) n :=
  let ⟨F, h1, h2, h3⟩ := A.fp
  ⟨Heap.wf_set A.wf A.kn (core_ok A c'), A.le, Heap.upd_same _ _ _, ⟨F, W.stable h1 (fun i hi => Heap.upd_ne _ _ (fun e => h2 (e ▸ hi))) (Nat.le_refl _), h2, h3⟩, fun i hi hk hF => by rw [Heap.upd_ne _ _ hk]; exact A.fr i hi hk hF⟩
/-- Something new stands beside. -/
theorem At.mono (A : At W T t H0 n0 F0 k c s H n) {H' : Heap} {n' : Nat} (hw : H'.wf n') (hn : n ≤ n') (he : ∀ i, i < n → H' i = H i) : At W T t H0 n0 F0 k c s H' n' :=
  let ⟨F, h1, h2, h3⟩ := A.fp
  ⟨hw, Nat.le_trans A.le hn, by rw [he _ A.kn]; exact A.blk, ⟨F, W.stable h1 (fun i hi => he i (W.low h1 hi)) hn, h2, h3⟩, fun i hi hk hF => by rw [he i (Nat.lt_of_lt_of_le hi A.le)]; exact A.fr i hi hk hF⟩
/-- Something turned outside. -/
theorem At.out (A : At W T t H0 n0 F0 k c s H n) {F : Nat → Prop} (h1 : W.rep s H n F) (h2 : ¬ F k) (h3 : ∀ i, F i → F0 i ∨ n0 ≤ i) {s' : σ} {H' : Heap} {n' : Nat} {F' : Nat → Prop} (hw : H'.wf n') (hn : n ≤ n') (hr : W.rep s' H' n' F') (hF : ∀ i, F' i → F i ∨ n ≤ i) (he : ∀ i, i < n → ¬ F i → H' i = H i) : At W T t H0 n0 F0 k c s' H' n' :=
  ⟨hw, Nat.le_trans A.le hn, by rw [he _ A.kn h2]; exact A.blk, ⟨F', hr, fun hk => by rcases hF _ hk with h | h; exact h2 h; exact Nat.lt_irrefl _ (Nat.lt_of_lt_of_le A.kn h), fun i hi => by
      rcases hF i hi with h | h
      · exact h3 i h
      · exact .inr (Nat.le_trans A.le h)⟩,
    fun i hi hk hF0 => by
      rw [he i (Nat.lt_of_lt_of_le hi A.le) (fun h => by rcases h3 i h with h | h; exact hF0 h; exact Nat.lt_irrefl _ (Nat.lt_of_lt_of_le hi h))]; exact A.fr i hi hk hF0⟩
theorem At.read (A : At W T t H0 n0 F0 k c s H n) {a : BitVec 16} {K : AV → Heap → Nat → Prop} (hl : 1 ≤ W.left s) (h : ∀ H' n', At W T t H0 n0 F0 k c (W.O.rd s a).2 H' n' → K (.u8 (W.O.rd s a).1) H' n') : ACalls P W.kr [W.v, .u16 a] H n K :=
  let ⟨_, h1, h2, h3⟩ := A.fp
  W.read hl h1 fun H' n' _ hw hn hr hF he => h H' n' (A.out h1 h2 h3 hw hn hr hF he)
theorem At.write (A : At W T t H0 n0 F0 k c s H n) {a : BitVec 16} {x : BitVec 8} {K : AV → Heap → Nat → Prop} (hl : 1 ≤ W.left s) (h : ∀ H' n', At W T t H0 n0 F0 k c (W.O.wr s a x) H' n' → K (.tu []) H' n') : ACalls P W.kw [W.v, .u16 a, .u8 x] H n K :=
  let ⟨_, h1, h2, h3⟩ := A.fp
  W.write hl h1 fun H' n' _ hw hn hr hF he => h H' n' (A.out h1 h2 h3 hw hn hr hF he)
theorem At.inp (A : At W T t H0 n0 F0 k c s H n) {p : BitVec 16} {u : Int} {K : AV → Heap → Nat → Prop} (hu : 0 ≤ u ∧ u ≤ 100) (hl : 1 ≤ W.left s) (h : ∀ H' n', At W T t H0 n0 F0 k c (W.O.inp s p u).2 H' n' → K (.u8 (W.O.inp s p u).1) H' n') : ACalls P W.ki [W.v, .u16 p, .i64 u] H n K :=
  let ⟨_, h1, h2, h3⟩ := A.fp
  W.inp hu hl h1 fun H' n' _ hw hn hr hF he => h H' n' (A.out h1 h2 h3 hw hn hr hF he)
theorem At.outp (A : At W T t H0 n0 F0 k c s H n) {p : BitVec 16} {x : BitVec 8} {u : Int} {K : AV → Heap → Nat → Prop} (hu : 0 ≤ u ∧ u ≤ 100) (hl : 1 ≤ W.left s) (h : ∀ H' n', At W T t H0 n0 F0 k c (W.O.out s p x u) H' n' → K (.tu []) H' n') : ACalls P W.ko [W.v, .u16 p, .u8 x, .i64 u] H n K :=
  let ⟨_, h1, h2, h3⟩ := A.fp
  W.out hu hl h1 fun H' n' _ hw hn hr hF he => h H' n' (A.out h1 h2 h3 hw hn hr hF he)
end Go.Proofs.Joy
namespace Go.Proofs.Joy
open Go.Ab Go.Proofs

set_option maxHeartbeats 4000000
set_option maxRecDepth 20000

structure SwS where
  j : Nat
def swZ : List AV := [.u8 0#8, .u8 0#8, .u8 0#8, .u8 0#8, .u8 0#8, .u8 0#8, .u8 0#8, .u8 0#8, .u8 0#8, .u8 0#8, .u8 0#8, .u8 0#8, .u8 0#8, .u8 0#8, .u8 0#8, .u8 0#8, .u16 0#16, .u16 0#16, .u16 0#16, .u16 0#16, .u16 0#16, .u8 0#8, .u8 0#8, .u8 0#8, .u8 0#8, .bo false, .bo false, .bo false, .bo false]
def swP (n : Nat) : List AV := [.pt n 0, .pt n 1, .pt n 2, .pt n 3, .pt n 4, .pt n 5, .pt n 6, .pt n 7]
theorem rg_ok' (r : Rg) (n : Nat) : ∀ v ∈ r.cells, v.ok n = true := cells_ok ⟨r, 0#8⟩ n
theorem swW1 : wrap64 1 = 1 := by decide
theorem swW2 : wrap64 2 = 2 := by decide
theorem swW3 : wrap64 3 = 3 := by decide
theorem swW4 : wrap64 4 = 4 := by decide
theorem swW5 : wrap64 5 = 5 := by decide
theorem swW6 : wrap64 6 = 6 := by decide
theorem swW7 : wrap64 7 = 7 := by decide
theorem swW8 : wrap64 8 = 8 := by decide
theorem swTF : (true == false) = false := rfl
theorem swFT : (false == true) = false := rfl
theorem c_swap (r : Rg) (all : Bool) (H : Heap) (n : Nat) (K : AV → Heap → Nat → Prop) (h : K (.ag (swapR r all).cells) H n) : ACalls Try.prog 86 [.ag r.cells, .bo all] H n K := by
  refine ACalls.of_awp Try.func86 rfl (by decide +kernel) (show 2 ≤ 40 by decide) (by simp) fun wf => ?_
  rw [← swapTo_all] at h
  refine awp_step dr86 (by decide +kernel) ?_
  simp only [go_sem, Try.f86, Rg.cells]
  refine awp_step dr86 (by decide +kernel) ?_
  simp only [go_sem]
  refine awp_seqF (S := SwS) (fun _ => [(2, .pt n 0), (4, .pt (n + 1) 0)]) (fun _ => ((H.upd n (some ⟨(swapTo r all 8).cells, 25, false⟩)).upd (n + 1) (some ⟨swZ, 25, false⟩)).upd (n + 2) (some ⟨swP n, 113, false⟩)) (fun _ => n + 3) (fun _ => True) (fun _ _ => ⟨Heap.wf_upd (Heap.wf_upd (Heap.wf_upd wf (rg_ok' _ _)) (by simp [swZ, AV.ok])) (by simp [swP, AV.ok]; omega), Env.okAt_of2 (by simp [AV.ok])⟩) ?_ ?_
  · refine awp_step dr86 (by decide +kernel) ?_
    simp only [go_sem]
    refine awp_block ?_
    refine awp_loopF (S := SwS) (fun s => [(1, .bo all), (2, .pt n 0), (4, .pt (n + 1) 0), (17, .ag (swP n)), (18, .i64 s.j)]) (fun s => ((H.upd n (some ⟨(swapTo r all s.j).cells, 25, false⟩)).upd (n + 1) (some ⟨swZ, 25, false⟩)).upd (n + 2) (some ⟨swP n, 113, false⟩)) (fun _ => n + 3) (fun s => s.j ≤ 8) (fun s => 8 - s.j)
      (fun s _ => ⟨Heap.wf_upd (Heap.wf_upd (Heap.wf_upd wf (rg_ok' _ _)) (by simp [swZ, AV.ok])) (by simp [swP, AV.ok]; omega), Env.okAt_of2 (by simp [swP, AV.ok, AV.oks, AV.one])⟩) ?_ ⟨0⟩ (Nat.zero_le _) (by repeat (first | exact Env.le_nil _ | refine Env.le_cons rfl ?_)) (fun _ _ => rfl) rfl
    rintro ⟨j⟩ hj
    simp only at hj ⊢
    refine awp_step dr0 (by decide +kernel) ?_
    simp only [go_sem]
    refine awp_step dr0 (by decide +kernel) ?_
    simp only [go_sem]
    refine ⟨fun hlt => ?_, fun hlt => ?_⟩
    · have hj8 : j < 8 := by omega
      simp only [swapTo]
      generalize hq : swapTo r all j = q
      have key : ∀ (A B Y W : Option Blk), (((H.upd n A).upd (n + 1) Y).upd (n + 2) W).upd n B = ((H.upd n B).upd (n + 1) Y).upd (n + 2) W := fun A B Y W => by
        rw [Heap.upd_swap _ _ _ (show n + 2 ≠ n by omega), Heap.upd_swap _ _ _ (show n + 1 ≠ n by omega), Heap.upd_upd]
      obtain rfl | rfl | rfl | rfl | rfl | rfl | rfl | rfl : j = 0 ∨ j = 1 ∨ j = 2 ∨ j = 3 ∨ j = 4 ∨ j = 5 ∨ j = 6 ∨ j = 7 := by omega
      all_goals cases all
      · refine awp_ev dr86 (by decide +kernel) ?_
        simp only [go_sem, Rg.cells, swP, decide_true, decide_false, swTF, swFT, swW1]
        exact Ends.mk (⟨1⟩ : SwS) ⟨by simp only; omega, by simp only; omega⟩ (by repeat (first | exact Env.le_nil _ | refine Env.le_cons rfl ?_)) (fun i _ => by rw [key]; have e1 : swapTo r false 1 = swap1 q 0 := (by rw [← hq]; rfl); simp only [e1]; try rfl) (Nat.le_refl _) (Nat.le_refl _)
      · refine awp_ev dr86 (by decide +kernel) ?_
        simp only [go_sem, Rg.cells, swP, decide_true, decide_false, swTF, swFT, swW1]
        exact Ends.mk (⟨1⟩ : SwS) ⟨by simp only; omega, by simp only; omega⟩ (by repeat (first | exact Env.le_nil _ | refine Env.le_cons rfl ?_)) (fun i _ => by have e1 : swapTo r true 1 = q := (by rw [← hq]; rfl); simp only [e1]; try rfl) (Nat.le_refl _) (Nat.le_refl _)
      · refine awp_ev dr86 (by decide +kernel) ?_
        simp only [go_sem, Rg.cells, swP, decide_true, decide_false, swTF, swFT, swW2]
        exact Ends.mk (⟨2⟩ : SwS) ⟨by simp only; omega, by simp only; omega⟩ (by repeat (first | exact Env.le_nil _ | refine Env.le_cons rfl ?_)) (fun i _ => by rw [key]; have e1 : swapTo r false 2 = swap1 q 1 := (by rw [← hq]; rfl); simp only [e1]; try rfl) (Nat.le_refl _) (Nat.le_refl _)
      · refine awp_ev dr86 (by decide +kernel) ?_
        simp only [go_sem, Rg.cells, swP, decide_true, decide_false, swTF, swFT, swW2]
        exact Ends.mk (⟨2⟩ : SwS) ⟨by simp only; omega, by simp only; omega⟩ (by repeat (first | exact Env.le_nil _ | refine Env.le_cons rfl ?_)) (fun i _ => by have e1 : swapTo r true 2 = q := (by rw [← hq]; rfl); simp only [e1]; try rfl) (Nat.le_refl _) (Nat.le_refl _)
      · refine awp_ev dr86 (by decide +kernel) ?_
        simp only [go_sem, Rg.cells, swP, decide_true, decide_false, swTF, swFT, swW3]
        exact Ends.mk (⟨3⟩ : SwS) ⟨by simp only; omega, by simp only; omega⟩ (by repeat (first | exact Env.le_nil _ | refine Env.le_cons rfl ?_)) (fun i _ => by have e1 : swapTo r false 3 = q := (by rw [← hq]; rfl); simp only [e1]; try rfl) (Nat.le_refl _) (Nat.le_refl _)
      · refine awp_ev dr86 (by decide +kernel) ?_
        simp only [go_sem, Rg.cells, swP, decide_true, decide_false, swTF, swFT, swW3]
        exact Ends.mk (⟨3⟩ : SwS) ⟨by simp only; omega, by simp only; omega⟩ (by repeat (first | exact Env.le_nil _ | refine Env.le_cons rfl ?_)) (fun i _ => by rw [key]; have e1 : swapTo r true 3 = swap1 q 2 := (by rw [← hq]; rfl); simp only [e1]; try rfl) (Nat.le_refl _) (Nat.le_refl _)
      · refine awp_ev dr86 (by decide +kernel) ?_
        simp only [go_sem, Rg.cells, swP, decide_true, decide_false, swTF, swFT, swW4]
        exact Ends.mk (⟨4⟩ : SwS) ⟨by simp only; omega, by simp only; omega⟩ (by repeat (first | exact Env.le_nil _ | refine Env.le_cons rfl ?_)) (fun i _ => by have e1 : swapTo r false 4 = q := (by rw [← hq]; rfl); simp only [e1]; try rfl) (Nat.le_refl _) (Nat.le_refl _)
      · refine awp_ev dr86 (by decide +kernel) ?_
        simp only [go_sem, Rg.cells, swP, decide_true, decide_false, swTF, swFT, swW4]
        exact Ends.mk (⟨4⟩ : SwS) ⟨by simp only; omega, by simp only; omega⟩ (by repeat (first | exact Env.le_nil _ | refine Env.le_cons rfl ?_)) (fun i _ => by rw [key]; have e1 : swapTo r true 4 = swap1 q 3 := (by rw [← hq]; rfl); simp only [e1]; try rfl) (Nat.le_refl _) (Nat.le_refl _)
      · refine awp_ev dr86 (by decide +kernel) ?_
        simp only [go_sem, Rg.cells, swP, decide_true, decide_false, swTF, swFT, swW5]
        exact Ends.mk (⟨5⟩ : SwS) ⟨by simp only; omega, by simp only; omega⟩ (by repeat (first | exact Env.le_nil _ | refine Env.le_cons rfl ?_)) (fun i _ => by have e1 : swapTo r false 5 = q := (by rw [← hq]; rfl); simp only [e1]; try rfl) (Nat.le_refl _) (Nat.le_refl _)
      · refine awp_ev dr86 (by decide +kernel) ?_
        simp only [go_sem, Rg.cells, swP, decide_true, decide_false, swTF, swFT, swW5]
        exact Ends.mk (⟨5⟩ : SwS) ⟨by simp only; omega, by simp only; omega⟩ (by repeat (first | exact Env.le_nil _ | refine Env.le_cons rfl ?_)) (fun i _ => by rw [key]; have e1 : swapTo r true 5 = swap1 q 4 := (by rw [← hq]; rfl); simp only [e1]; try rfl) (Nat.le_refl _) (Nat.le_refl _)
      · refine awp_ev dr86 (by decide +kernel) ?_
        simp only [go_sem, Rg.cells, swP, decide_true, decide_false, swTF, swFT, swW6]
        exact Ends.mk (⟨6⟩ : SwS) ⟨by simp only; omega, by simp only; omega⟩ (by repeat (first | exact Env.le_nil _ | refine Env.le_cons rfl ?_)) (fun i _ => by have e1 : swapTo r false 6 = q := (by rw [← hq]; rfl); simp only [e1]; try rfl) (Nat.le_refl _) (Nat.le_refl _)
      · refine awp_ev dr86 (by decide +kernel) ?_
        simp only [go_sem, Rg.cells, swP, decide_true, decide_false, swTF, swFT, swW6]
        exact Ends.mk (⟨6⟩ : SwS) ⟨by simp only; omega, by simp only; omega⟩ (by repeat (first | exact Env.le_nil _ | refine Env.le_cons rfl ?_)) (fun i _ => by rw [key]; have e1 : swapTo r true 6 = swap1 q 5 := (by rw [← hq]; rfl); simp only [e1]; try rfl) (Nat.le_refl _) (Nat.le_refl _)
      · refine awp_ev dr86 (by decide +kernel) ?_
        simp only [go_sem, Rg.cells, swP, decide_true, decide_false, swTF, swFT, swW7]
        exact Ends.mk (⟨7⟩ : SwS) ⟨by simp only; omega, by simp only; omega⟩ (by repeat (first | exact Env.le_nil _ | refine Env.le_cons rfl ?_)) (fun i _ => by have e1 : swapTo r false 7 = q := (by rw [← hq]; rfl); simp only [e1]; try rfl) (Nat.le_refl _) (Nat.le_refl _)
      · refine awp_ev dr86 (by decide +kernel) ?_
        simp only [go_sem, Rg.cells, swP, decide_true, decide_false, swTF, swFT, swW7]
        exact Ends.mk (⟨7⟩ : SwS) ⟨by simp only; omega, by simp only; omega⟩ (by repeat (first | exact Env.le_nil _ | refine Env.le_cons rfl ?_)) (fun i _ => by rw [key]; have e1 : swapTo r true 7 = swap1 q 6 := (by rw [← hq]; rfl); simp only [e1]; try rfl) (Nat.le_refl _) (Nat.le_refl _)
      · refine awp_ev dr86 (by decide +kernel) ?_
        simp only [go_sem, Rg.cells, swP, decide_true, decide_false, swTF, swFT, swW8]
        exact Ends.mk (⟨8⟩ : SwS) ⟨by simp only; omega, by simp only; omega⟩ (by repeat (first | exact Env.le_nil _ | refine Env.le_cons rfl ?_)) (fun i _ => by have e1 : swapTo r false 8 = q := (by rw [← hq]; rfl); simp only [e1]; try rfl) (Nat.le_refl _) (Nat.le_refl _)
      · refine awp_ev dr86 (by decide +kernel) ?_
        simp only [go_sem, Rg.cells, swP, decide_true, decide_false, swTF, swFT, swW8]
        exact Ends.mk (⟨8⟩ : SwS) ⟨by simp only; omega, by simp only; omega⟩ (by repeat (first | exact Env.le_nil _ | refine Env.le_cons rfl ?_)) (fun i _ => by rw [key]; have e1 : swapTo r true 8 = swap1 q 7 := (by rw [← hq]; rfl); simp only [e1]; try rfl) (Nat.le_refl _) (Nat.le_refl _)
    · have hj8 : j = 8 := by omega
      subst hj8
      exact Ends.mk (⟨0⟩ : SwS) trivial (by repeat (first | exact Env.le_nil _ | refine Env.le_cons rfl ?_)) (fun _ _ => rfl) (Nat.le_refl _) (Nat.le_refl _)
  rintro - -
  generalize swapTo r all 8 = q at h ⊢
  refine awp_ev dr0 (by decide +kernel) ?_
  simp only [go_sem, Rg.cells, swZ]
  exact Fin.back wf h (fun i hi => by repeat (rw [Heap.upd_ne _ _ (by omega)])) (rg_ok _ _)
end Go.Proofs.Joy
namespace Go.Proofs.Joy
open Go.Ab
set_option maxHeartbeats 1000000

theorem Eff.run_of {α β σ : Type} {O : Ops σ} {m : Eff α} {g : α → Eff β} {s s1 : σ} {x : α} {r : β × σ} (e : m.run O s = (x, s1)) (h : (g x).run O s1 = r) : (m.bind g).run O s = r := by
  rw [Eff.run_bind, e]; exact h
section
variable {P : Program} {σ : Type} {W : WC P σ} {T t : TypeId} {H0 : Heap} {n0 : Nat} {F0 : Nat → Prop} {k : Nat} {c : Core} {s : σ} {H : Heap} {n : Nat}
/-- Its registers have turned, each told. -/
theorem At.put29 (A : At W T t H0 n0 F0 k c s H n) {a f b c_ d e h l a2 f2 b2 c2 d2 e2 h2 l2 : BitVec 8} {ix iy sp pc wz : BitVec 16} {i r im pre : BitVec 8} {x1 x2 x3 x4 : Bool} {pr : BitVec 8} :
    At W T t H0 n0 F0 k ⟨⟨a, f, b, c_, d, e, h, l, a2, f2, b2, c2, d2, e2, h2, l2, ix, iy, sp, pc, wz, i, r, im, pre, x1, x2, x3, x4⟩, pr⟩ s
      (H.upd k (some ⟨[.u8 a, .u8 f, .u8 b, .u8 c_, .u8 d, .u8 e, .u8 h, .u8 l, .u8 a2, .u8 f2, .u8 b2, .u8 c2, .u8 d2, .u8 e2, .u8 h2, .u8 l2, .u16 ix, .u16 iy, .u16 sp, .u16 pc, .u16 wz, .u8 i, .u8 r, .u8 im, .u8 pre, .bo x1, .bo x2, .bo x3, .bo x4, .ifc t W.v, .u8 pr], T, false⟩)) n :=
  A.put ⟨⟨a, f, b, c_, d, e, h, l, a2, f2, b2, c2, d2, e2, h2, l2, ix, iy, sp, pc, wz, i, r, im, pre, x1, x2, x3, x4⟩, pr⟩
theorem At.blk29 (A : At W T t H0 n0 F0 k c s H n) : H k = some ⟨[.u8 c.r.a, .u8 c.r.f, .u8 c.r.b, .u8 c.r.c, .u8 c.r.d, .u8 c.r.e, .u8 c.r.h, .u8 c.r.l, .u8 c.r.a2, .u8 c.r.f2, .u8 c.r.b2, .u8 c.r.c2, .u8 c.r.d2, .u8 c.r.e2, .u8 c.r.h2, .u8 c.r.l2, .u16 c.r.ix, .u16 c.r.iy, .u16 c.r.sp, .u16 c.r.pc, .u16 c.r.wz, .u8 c.r.i, .u8 c.r.r, .u8 c.r.im, .u8 c.r.pre, .bo c.r.iff1, .bo c.r.iff2, .bo c.r.hlt, .bo c.r.dly, .ifc t W.v, .u8 c.pr], T, false⟩ := A.blk
theorem At.rd (A : At W T t H0 n0 F0 k c s H n) {a : BitVec 16} {K : AV → Heap → Nat → Prop} (hl : 1 ≤ W.left s) (h : ∀ v s' H' n', (rdE a).run W.O s = (v, s') → W.left s ≤ W.left s' + 1 → At W T t H0 n0 F0 k c s' H' n' → K (.u8 v) H' n') : ACalls P W.kr [W.v, .u16 a] H n K :=
  A.read hl fun H' n' A' => h _ _ H' n' rfl (W.lrd _ _) A'
theorem At.wr (A : At W T t H0 n0 F0 k c s H n) {a : BitVec 16} {x : BitVec 8} {K : AV → Heap → Nat → Prop} (hl : 1 ≤ W.left s) (h : ∀ s' H' n', (wrE a x).run W.O s = ((), s') → W.left s ≤ W.left s' + 1 → At W T t H0 n0 F0 k c s' H' n' → K (.tu []) H' n') : ACalls P W.kw [W.v, .u16 a, .u8 x] H n K :=
  A.write hl fun H' n' A' => h _ H' n' rfl (W.lwr _ _ _) A'
theorem At.ip (A : At W T t H0 n0 F0 k c s H n) {p : BitVec 16} {u : Int} {K : AV → Heap → Nat → Prop} (hu : 0 ≤ u ∧ u ≤ 100) (hl : 1 ≤ W.left s) (h : ∀ v s' H' n', (inE p u).run W.O s = (v, s') → W.left s ≤ W.left s' + 1 → At W T t H0 n0 F0 k c s' H' n' → K (.u8 v) H' n') : ACalls P W.ki [W.v, .u16 p, .i64 u] H n K :=
  A.inp hu hl fun H' n' A' => h _ _ H' n' rfl (W.lin _ _ _) A'
theorem At.op (A : At W T t H0 n0 F0 k c s H n) {p : BitVec 16} {x : BitVec 8} {u : Int} {K : AV → Heap → Nat → Prop} (hu : 0 ≤ u ∧ u ≤ 100) (hl : 1 ≤ W.left s) (h : ∀ s' H' n', (outE p x u).run W.O s = ((), s') → W.left s ≤ W.left s' + 1 → At W T t H0 n0 F0 k c s' H' n' → K (.tu []) H' n') : ACalls P W.ko [W.v, .u16 p, .u8 x, .i64 u] H n K :=
  A.outp hu hl fun H' n' A' => h _ H' n' rfl (W.lout _ _ _ _) A'
/-- Something of a function's own stands beside. -/
theorem At.boxed (A : At W T t H0 n0 F0 k c s H n) (bl : Blk) (hok : ∀ v ∈ bl.cells, v.ok (n + 1) = true) :
    ∃ F1, At W T t (H.upd n (some bl)) (n + 1) F1 k c s (H.upd n (some bl)) (n + 1) ∧
      ∀ {c' : Core} {s' : σ} {H' : Heap} {n' : Nat}, At W T t (H.upd n (some bl)) (n + 1) F1 k c' s' H' n' → At W T t H0 n0 F0 k c' s' H' n' ∧ H' n = some bl ∧ n ≠ k ∧ n < n' := by
  obtain ⟨F, h1, h2, h3⟩ := A.fp
  have hne : n ≠ k := fun e => Nat.lt_irrefl _ (e ▸ A.kn)
  have hFn : ¬ F n := fun h => Nat.lt_irrefl _ (W.low h1 h)
  refine ⟨F, ⟨Heap.wf_upd A.wf hok, Nat.le_refl _, by rw [Heap.upd_ne _ _ (Ne.symm hne)]; exact A.blk, ⟨F, W.stable h1 (fun i hi => Heap.upd_ne _ _ (fun e => hFn (e ▸ hi))) (Nat.le_succ _), h2, fun i hi => .inl hi⟩, fun _ _ _ _ => rfl⟩, ?_⟩
  intro c' s' H' n' B
  obtain ⟨F', g1, g2, g3⟩ := B.fp
  refine ⟨⟨B.wf, Nat.le_trans A.le (Nat.le_trans (Nat.le_succ _) B.le), B.blk, ⟨F', g1, g2, fun i hi => ?_⟩, fun i hi hk hF => ?_⟩, ?_, hne, Nat.lt_of_lt_of_le (Nat.lt_succ_self _) B.le⟩
  · rcases g3 i hi with h | h
    · exact h3 i h
    · exact .inr (Nat.le_trans A.le (Nat.le_trans (Nat.le_succ _) h))
  · have hin : i < n := Nat.lt_of_lt_of_le hi A.le
    rw [B.fr i (Nat.lt_succ_of_lt hin) hk (fun h => by rcases h3 i h with h | h; exact hF h; omega), Heap.upd_ne _ _ (Nat.ne_of_lt hin)]
    exact A.fr i hi hk hF
  · rw [B.fr n (Nat.lt_succ_self _) hne hFn, Heap.upd_same]
end
end Go.Proofs.Joy
namespace Go.Proofs.Joy
theorem Eff.run_t {α σ : Type} {O : Ops σ} {p : Prop} [Decidable p] {x y : Eff α} {s : σ} {r : α × σ} (hp : p) (h : x.run O s = r) : (if p then x else y).run O s = r := by rw [if_pos hp]; exact h
theorem Eff.run_f {α σ : Type} {O : Ops σ} {p : Prop} [Decidable p] {x y : Eff α} {s : σ} {r : α × σ} (hp : ¬ p) (h : y.run O s = r) : (if p then x else y).run O s = r := by rw [if_neg hp]; exact h
theorem dT {p : Prop} [Decidable p] (h : decide p = true) : p := of_decide_eq_true h
theorem dF {p : Prop} [Decidable p] (h : decide p = false) : ¬ p := of_decide_eq_false h
theorem nF {b : Bool} (h : b = false) : ¬ b = true := by rw [h]; decide
theorem nT {b : Bool} (h : b = true) : ¬ b = false := by rw [h]; decide
end Go.Proofs.Joy
namespace Go.Proofs.Joy
theorem iT {x y : Int} (h : (x != y) = true) : ¬ x = y := by simpa using h
theorem iF {x y : Int} (h : (x != y) = false) : x = y := by simpa using h
end Go.Proofs.Joy
namespace Go.Proofs.Joy
open Go.Ab Go.Proofs in
theorem nbT0 : True := trivial
theorem nbT {b : Bool} (h : (!b) = true) : b = false := by cases b <;> simp_all
theorem nbF {b : Bool} (h : (!b) = false) : b = true := by cases b <;> simp_all
open Go Go.Ab Go.Proofs in
theorem wrap_sub {y j : Nat} (hj : j ≤ y) (hy : y < 8) : wrap64 ((y : Int) - (j : Int)) = ((y - j : Nat) : Int) := by
  have h : ∀ y j : Fin 8, j.val ≤ y.val → wrap64 ((y.val : Int) - (j.val : Int)) = ((y.val - j.val : Nat) : Int) := by decide
  exact h ⟨y, hy⟩ ⟨j, by omega⟩ hj
end Go.Proofs.Joy
namespace Go.Proofs.Joy
end Go.Proofs.Joy
namespace Go.Proofs.Joy
open Go.Ab Go.Proofs

set_option maxHeartbeats 2000000
set_option maxRecDepth 20000

abbrev AtC {σ : Type} (W : WC Try.prog σ) (t : TypeId) := At W 48 t
section
variable {σ : Type} {W : WC Try.prog σ} {t : TypeId} {H0 : Heap} {n0 : Nat} {F0 : Nat → Prop} {k : Nat} {c : Core} {s : σ} {H : Heap} {n : Nat} {K : AV → Heap → Nat → Prop}

theorem m_which (A : AtC W t H0 n0 F0 k c s H n) (m : Nat) (h : K (.i64 (whichS c.pr m)) H n) : ACalls Try.prog 51 [.pt k 0, .i64 m] H n K := by
  refine ACalls.of_awp Try.func51 rfl (by decide +kernel) (show 2 ≤ 13 by decide) (by simp) fun wf => ?_
  have hb := A.blk29
  unfold whichS at h
  refine awp_ev dr0 (by decide +kernel) ?_
  simp only [go_sem, Try.f51, hb]
  refine ⟨fun e => ?_, fun e => ?_⟩
  · rw [if_pos (by have := of_decide_eq_true e; omega)] at h
    refine c_index _ _ _ _ ?_
    simp only [go_sem]
    exact Fin.keep h
  · rw [if_neg (by have := of_decide_eq_false e; omega)] at h
    exact Fin.keep h
theorem which_lt (pr : BitVec 8) {m : Nat} (hm : m < 7) : whichS pr m < 7 := by unfold whichS; split; exact idxS_lt _; exact hm
theorem m_pair (A : AtC W t H0 n0 F0 k c s H n) (m : Nat) (hm : m < 7) (h : K (.u16 (c.pair m)) H n) : ACalls Try.prog 26 [.pt k 0, .i64 m] H n K := by
  refine ACalls.of_awp Try.func26 rfl (by decide +kernel) (show 2 ≤ 13 by decide) (by simp) fun wf => ?_
  have hb := A.blk29
  refine awp_ev dr26 (by decide +kernel) ?_
  simp only [go_sem, Try.f26, hb]
  refine m_which A m ?_
  simp only [go_sem, hb]
  refine c_pair c.r _ (which_lt _ hm) _ _ _ ?_
  simp only [go_sem]
  exact Fin.keep h
theorem m_setpair (A : AtC W t H0 n0 F0 k c s H n) (m : Nat) (hm : m < 7) (v : BitVec 16) (h : ∀ H' n', AtC W t H0 n0 F0 k (c.setPair m v) s H' n' → K (.tu []) H' n') : ACalls Try.prog 32 [.pt k 0, .i64 m, .u16 v] H n K := by
  refine ACalls.of_awp Try.func32 rfl (by decide +kernel) (show 3 ≤ 18 by decide) (by simp) fun wf => ?_
  have hb := A.blk29
  refine awp_ev dr32 (by decide +kernel) ?_
  simp only [go_sem, Try.f32, hb]
  refine m_which A m ?_
  simp only [go_sem, hb]
  refine c_setpair c.r _ (which_lt _ hm) _ _ _ _ ?_
  simp only [go_sem, hb, Rg.cells]
  exact Fin.keep (h _ _ A.put29)
theorem m_one (A : AtC W t H0 n0 F0 k c s H n) (m : Nat) (hm : m < 8) (h : K (.u8 (c.one m)) H n) : ACalls Try.prog 29 [.pt k 0, .i64 m] H n K := by
  refine ACalls.of_awp Try.func29 rfl (by decide +kernel) (show 2 ≤ 15 by decide) (by simp) fun wf => ?_
  have hb := A.blk29
  refine awp_ev dr29 (by decide +kernel) ?_
  simp only [go_sem, Try.f29, hb]
  refine c_one c.r m hm _ _ _ _ ?_
  simp only [go_sem]
  exact Fin.keep h
theorem m_setone (A : AtC W t H0 n0 F0 k c s H n) (m : Nat) (hm : m < 8) (v : BitVec 8) (h : ∀ H' n', AtC W t H0 n0 F0 k (c.setOne m v) s H' n' → K (.tu []) H' n') : ACalls Try.prog 28 [.pt k 0, .i64 m, .u8 v] H n K := by
  refine ACalls.of_awp Try.func28 rfl (by decide +kernel) (show 3 ≤ 20 by decide) (by simp) fun wf => ?_
  have hb := A.blk29
  refine awp_ev dr28 (by decide +kernel) ?_
  simp only [go_sem, Try.f28, hb]
  refine c_setone c.r m hm _ _ _ _ _ ?_
  simp only [go_sem, hb, Rg.cells]
  exact Fin.keep (h _ _ A.put29)
theorem m_to (A : AtC W t H0 n0 F0 k c s H n) (a : BitVec 16) (h : ∀ H' n', AtC W t H0 n0 F0 k (c.to a) s H' n' → K (.tu []) H' n') : ACalls Try.prog 21 [.pt k 0, .u16 a] H n K := by
  refine ACalls.of_awp Try.func21 rfl (by decide +kernel) (show 2 ≤ 14 by decide) (by simp) fun wf => ?_
  have hb := A.blk29
  refine awp_ev dr0 (by decide +kernel) ?_
  simp only [go_sem, Try.f21, hb]
  exact Fin.keep (h _ _ A.put29)
theorem m_told (A : AtC W t H0 n0 F0 k c s H n) (v : BitVec 8) (h : ∀ H' n', AtC W t H0 n0 F0 k (c.setF (toldS v c.r.f)) s H' n' → K (.tu []) H' n') : ACalls Try.prog 27 [.pt k 0, .u8 v] H n K := by
  refine ACalls.of_awp Try.func27 rfl (by decide +kernel) (show 2 ≤ 28 by decide) (by simp) fun wf => ?_
  have hb := A.blk29
  unfold toldS at h
  refine awp_ev dr27 (by decide +kernel) ?_
  simp only [go_sem, Try.f27, hb]
  refine c_shape _ _ _ _ ?_
  simp only [go_sem, hb]
  refine c_parity _ _ _ _ ?_
  simp only [go_sem]
  refine ⟨fun e => ?_, fun e => ?_⟩
  · rw [if_pos e] at h
    exact Fin.keep (h _ _ A.put29)
  · rw [if_neg (by rw [e]; decide)] at h
    exact Fin.keep (h _ _ A.put29)
theorem c_longer (pr : BitVec 8) (x y : Nat) (H : Heap) (n : Nat) (K : AV → Heap → Nat → Prop) (h : K (.i64 (longerS pr x y)) H n) : ACalls Try.prog 68 [.u8 pr, .i64 x, .i64 y] H n K := by
  refine ACalls.of_awp Try.func68 rfl (by decide +kernel) (show 3 ≤ 11 by decide) (by simp) fun wf => ?_
  unfold longerS at h
  refine awp_ev dr0 (by decide +kernel) ?_
  simp only [go_sem, Try.f68]
  refine ⟨fun e => ?_, fun e => ?_⟩
  · rw [if_pos e] at h; exact Fin.keep h
  · rw [if_neg (by rw [e]; decide)] at h; exact Fin.keep h
theorem c_pushed (p : Nat) (H : Heap) (n : Nat) (K : AV → Heap → Nat → Prop) (h : K (.i64 (pushedS p)) H n) : ACalls Try.prog 76 [.i64 p] H n K := by
  refine ACalls.of_awp Try.func76 rfl (by decide +kernel) (show 1 ≤ 6 by decide) (by simp) fun wf => ?_
  unfold pushedS at h
  refine awp_ev dr0 (by decide +kernel) ?_
  simp only [go_sem, Try.f76]
  refine ⟨fun e => ?_, fun e => ?_⟩
  · rw [if_pos (by have := of_decide_eq_true e; omega)] at h; exact Fin.keep h
  · rw [if_neg (by have := of_decide_eq_false e; omega)] at h; exact Fin.keep h
theorem cut_p : ∀ op : BitVec 8, wrap64 (((op >>> 3 &&& 7#8).toNat : Int).tdiv 2) = (((op >>> 3 &&& 7#8).toNat / 2 : Nat) : Int) := by decide +kernel
theorem cut_q : ∀ op : BitVec 8, ((op >>> 3 &&& 7#8).toNat : Int).tmod 2 = (((op >>> 3 &&& 7#8).toNat % 2 : Nat) : Int) := by decide +kernel
theorem c_cut (op : BitVec 8) (H : Heap) (n : Nat) (K : AV → Heap → Nat → Prop) (h : K (.ag [.i64 (xO op), .i64 (yO op), .i64 (zO op), .i64 (yO op / 2 : Nat), .i64 (yO op % 2 : Nat)]) H n) : ACalls Try.prog 17 [.u8 op] H n K := by
  refine ACalls.of_awp Try.func17 rfl (by decide +kernel) (show 1 ≤ 20 by decide) (by simp) fun wf => ?_
  refine awp_ev dr0 (by decide +kernel) ?_
  simp only [go_sem, Try.f17]
  rw [cut_p, cut_q]
  exact Fin.back wf h (fun i hi => by rw [Heap.upd_ne _ _ (by omega)]) rfl

variable (M : MT W t)
include M
theorem m_next (A : AtC W t H0 n0 F0 k c s H n) (hl : 1 ≤ W.left s) (h : ∀ v s' H' n', (nextM c).run W.O s = ((v, ⟨{ c.r with pc := c.r.pc + 1#16 }, c.pr⟩), s') → W.left s ≤ W.left s' + 1 → AtC W t H0 n0 F0 k ⟨{ c.r with pc := c.r.pc + 1#16 }, c.pr⟩ s' H' n' → K (.u8 v) H' n') : ACalls Try.prog 24 [.pt k 0] H n K := by
  refine ACalls.of_awp Try.func24 rfl (by decide +kernel) (show 1 ≤ 26 by decide) (by simp) fun wf => ?_
  have hb := A.blk29
  have mr := M.r
  refine awp_ev dr24 (by decide +kernel) ?_
  simp only [go_sem, Try.f24, hb, mr]
  refine A.rd (by omega) fun v s H n e lf A => ?_
  have hb := A.blk29
  simp only [go_sem, hb]
  exact Fin.keep (h _ _ _ _ (Eff.run_of e rfl) (by omega) A.put29)
theorem m_fetch (A : AtC W t H0 n0 F0 k c s H n) (hl : 1 ≤ W.left s) (h : ∀ v c' s' H' n', (fetchM c).run W.O s = ((v, c'), s') → W.left s ≤ W.left s' + 1 → AtC W t H0 n0 F0 k c' s' H' n' → K (.u8 v) H' n') : ACalls Try.prog 15 [.pt k 0] H n K := by
  refine ACalls.of_awp Try.func15 rfl (by decide +kernel) (show 1 ≤ 13 by decide) (by simp) fun wf => ?_
  have hb := A.blk29
  refine awp_ev dr0 (by decide +kernel) ?_
  simp only [go_sem, Try.f15, hb]
  refine c_tick c.r _ _ _ ?_
  simp only [go_sem, hb, Rg.cells]
  refine m_next M A.put29 (by omega) fun v s H n e lf A => ?_
  simp only [go_sem]
  exact Fin.keep (h _ _ _ _ _ e (by omega) A)
theorem m_word (A : AtC W t H0 n0 F0 k c s H n) (hl : 2 ≤ W.left s) (h : ∀ v c' s' H' n', (wordM c).run W.O s = ((v, c'), s') → W.left s ≤ W.left s' + 2 → AtC W t H0 n0 F0 k c' s' H' n' → K (.u16 v) H' n') : ACalls Try.prog 33 [.pt k 0] H n K := by
  refine ACalls.of_awp Try.func33 rfl (by decide +kernel) (show 1 ≤ 10 by decide) (by simp) fun wf => ?_
  refine awp_ev dr0 (by decide +kernel) ?_
  simp only [go_sem, Try.f33]
  refine m_next M A (by omega) fun v s H n e lf A => ?_
  simp only [go_sem]
  refine m_next M A (by omega) fun v2 s H n e2 lf A => ?_
  simp only [go_sem]
  refine c_join _ _ _ _ _ ?_
  simp only [go_sem]
  exact Fin.keep (h _ _ _ _ _ (Eff.run_of e (Eff.run_of e2 rfl)) (by omega) A)
theorem m_load (A : AtC W t H0 n0 F0 k c s H n) (a : BitVec 16) (hl : 2 ≤ W.left s) (h : ∀ v s' H' n', (loadM a c).run W.O s = ((v, c), s') → W.left s ≤ W.left s' + 2 → AtC W t H0 n0 F0 k c s' H' n' → K (.u16 v) H' n') : ACalls Try.prog 22 [.pt k 0, .u16 a] H n K := by
  refine ACalls.of_awp Try.func22 rfl (by decide +kernel) (show 2 ≤ 21 by decide) (by simp) fun wf => ?_
  have hb := A.blk29
  have mr := M.r
  refine awp_ev dr0 (by decide +kernel) ?_
  simp only [go_sem, Try.f22, hb, mr]
  refine A.rd (by omega) fun v s H n e lf A => ?_
  have hb := A.blk29
  simp only [go_sem, hb, mr]
  refine A.rd (by omega) fun v s H n e2 lf A => ?_
  simp only [go_sem]
  refine c_join _ _ _ _ _ ?_
  simp only [go_sem]
  exact Fin.keep (h _ _ _ _ (Eff.run_of e (Eff.run_of e2 rfl)) (by omega) A)
theorem m_store (A : AtC W t H0 n0 F0 k c s H n) (a v : BitVec 16) (hl : 2 ≤ W.left s) (h : ∀ s' H' n', (storeM a v c).run W.O s = (((), c), s') → W.left s ≤ W.left s' + 2 → AtC W t H0 n0 F0 k c s' H' n' → K (.tu []) H' n') : ACalls Try.prog 34 [.pt k 0, .u16 a, .u16 v] H n K := by
  refine ACalls.of_awp Try.func34 rfl (by decide +kernel) (show 3 ≤ 28 by decide) (by simp) fun wf => ?_
  have mw := M.w
  refine awp_ev dr0 (by decide +kernel) ?_
  simp only [go_sem, Try.f34]
  refine c_split _ _ _ _ ?_
  have hb := A.blk29
  simp only [go_sem, hb, mw]
  refine A.wr (by omega) fun s H n e lf A => ?_
  have hb := A.blk29
  simp only [go_sem, hb, mw]
  refine A.wr (by omega) fun s H n e2 lf A => ?_
  simp only [go_sem]
  exact Fin.keep (h _ _ _ (Eff.run_of e (Eff.run_of e2 rfl)) (by omega) A)
theorem m_push (A : AtC W t H0 n0 F0 k c s H n) (v : BitVec 16) (hl : 2 ≤ W.left s) (h : ∀ c' s' H' n', (pushM v c).run W.O s = (((), c'), s') → W.left s ≤ W.left s' + 2 → AtC W t H0 n0 F0 k c' s' H' n' → K (.tu []) H' n') : ACalls Try.prog 45 [.pt k 0, .u16 v] H n K := by
  refine ACalls.of_awp Try.func45 rfl (by decide +kernel) (show 2 ≤ 55 by decide) (by simp) fun wf => ?_
  have mw := M.w
  refine awp_ev dr45 (by decide +kernel) ?_
  simp only [go_sem, Try.f45]
  refine c_split _ _ _ _ ?_
  have hb := A.blk29
  simp only [go_sem, hb, mw]
  refine A.put29.wr (by omega) fun s H n e lf A => ?_
  have hb := A.blk29
  simp only [go_sem, hb, mw]
  refine A.put29.wr (by omega) fun s H n e2 lf A => ?_
  simp only [go_sem]
  exact Fin.keep (h _ _ _ _ (Eff.run_of e (Eff.run_of e2 rfl)) (by omega) A)
theorem m_pop (A : AtC W t H0 n0 F0 k c s H n) (hl : 2 ≤ W.left s) (h : ∀ v c' s' H' n', (popM c).run W.O s = ((v, c'), s') → W.left s ≤ W.left s' + 2 → AtC W t H0 n0 F0 k c' s' H' n' → K (.u16 v) H' n') : ACalls Try.prog 36 [.pt k 0] H n K := by
  refine ACalls.of_awp Try.func36 rfl (by decide +kernel) (show 1 ≤ 21 by decide) (by simp) fun wf => ?_
  have hb := A.blk29
  refine awp_ev dr0 (by decide +kernel) ?_
  simp only [go_sem, Try.f36, hb]
  refine m_load M A _ (by omega) fun v s H n e lf A => ?_
  have hb := A.blk29
  simp only [go_sem, hb]
  exact Fin.keep (h _ _ _ _ _ (Eff.run_of e rfl) (by omega) A.put29)
theorem m_pointed (A : AtC W t H0 n0 F0 k c s H n) (hl : 1 ≤ W.left s) (h : ∀ v p w q s' H' n', (pointedM c).run W.O s = ((v, ⟨{ c.r with pc := p, wz := w }, q⟩), s') → W.left s ≤ W.left s' + 1 → AtC W t H0 n0 F0 k ⟨{ c.r with pc := p, wz := w }, q⟩ s' H' n' → K (.u16 v) H' n') : ACalls Try.prog 40 [.pt k 0] H n K := by
  refine ACalls.of_awp Try.func40 rfl (by decide +kernel) (show 1 ≤ 24 by decide) (by simp) fun wf => ?_
  have hb := A.blk29
  unfold pointedM at h
  refine awp_ev dr0 (by decide +kernel) ?_
  simp only [go_sem, Try.f40, hb]
  refine m_pair A 2 (by decide) ?_
  simp only [go_sem, hb]
  refine ⟨fun e => ?_, fun e => ?_⟩
  · rw [if_pos e] at h
    refine m_next M A (by omega) fun v s H n e lf A => ?_
    have hb := A.blk29
    simp only [go_sem]
    refine c_move _ _ _ _ _ ?_
    simp only [go_sem, hb]
    exact Fin.keep (h _ _ _ _ _ _ _ (Eff.run_of e rfl) (by omega) A.put29)
  · rw [if_neg (by rw [e]; decide)] at h
    exact Fin.keep (h _ c.r.pc c.r.wz c.pr _ _ _ rfl (by omega) A)
end
end Go.Proofs.Joy
namespace Go.Proofs.Joy
open Go.Ab Go.Proofs

set_option maxHeartbeats 4000000
set_option maxRecDepth 20000
theorem yO_lt (op : BitVec 8) : yO op < 8 := by revert op; decide +kernel
theorem zO_lt (op : BitVec 8) : zO op < 8 := by revert op; decide +kernel
theorem xO_lt (op : BitVec 8) : xO op < 4 := by revert op; decide +kernel
theorem pushed_lt {p : Nat} (h : p < 4) : pushedS p < 7 := by unfold pushedS; split <;> omega
section
variable {σ : Type} {W : WC Try.prog σ} {t : TypeId} {H0 : Heap} {n0 : Nat} {F0 : Nat → Prop} {k : Nat} {c : Core} {s : σ} {H : Heap} {n : Nat} {K : AV → Heap → Nat → Prop} (M : MT W t)
include M
theorem m_move (A : AtC W t H0 n0 F0 k c s H n) (op : BitVec 8) (hl : 4 ≤ W.left s) (h : ∀ (v : Nat) c' s' H' n', (moveM op c).run W.O s = ((v, c'), s') → W.left s ≤ W.left s' + 4 → AtC W t H0 n0 F0 k c' s' H' n' → K (.i64 v) H' n') : ACalls Try.prog 42 [.pt k 0, .ag [.i64 (xO op), .i64 (yO op), .i64 (zO op), .i64 (yO op / 2 : Nat), .i64 (yO op % 2 : Nat)]] H n K := by
  refine ACalls.of_awp Try.func42 rfl (by decide +kernel) (show 2 ≤ 56 by decide) (by simp) fun wf => ?_
  obtain ⟨F1, A, up⟩ := A.boxed ⟨[.i64 (xO op), .i64 (yO op), .i64 (zO op), .i64 (yO op / 2 : Nat), .i64 (yO op % 2 : Nat)], 53, false⟩ (by simp [AV.ok])
  have hb := A.blk29
  have hk := (up A).2.2.1
  have hu := fun X Y => Heap.upd_ne X Y hk
  have mr := M.r
  have mw := M.w
  have mi := M.i
  have mo := M.o
  refine awp_ev dr42 (by decide +kernel) ?_
  simp only [go_sem, Try.f42, hb, hu]
  (repeat' first | (((with_reducible refine And.intro ?_ ?_) <;> intro e <;> (first | (with_reducible replace e := nbT e) | (with_reducible replace e := nbF e) | (with_reducible replace e := dT e) | (with_reducible replace e := dF e) | (with_reducible replace e := iT e) | (with_reducible replace e := iF e) | skip) <;> (try (exfalso; omega)))) | ((with_reducible first | refine c_join _ _ _ _ _ ?_ | refine c_split _ _ _ _ ?_ | refine c_move _ _ _ _ _ ?_ | refine c_cut _ _ _ _ ?_ | refine c_do _ _ _ _ _ _ _ ?_ | refine c_daa _ _ _ _ _ ?_ | refine c_flip _ _ _ _ _ _ ?_ | refine c_quick _ _ _ _ _ _ ?_ | refine c_add16 _ _ _ _ _ _ ?_ | refine c_adc16 _ _ _ _ _ _ ?_ | refine c_sbc16 _ _ _ _ _ _ ?_ | refine c_rot _ _ _ _ _ _ ?_ | refine c_bitt _ _ _ _ _ _ _ ?_ | refine c_put _ _ _ _ _ _ ?_ | refine c_digits _ _ _ _ _ _ _ ?_ | refine c_rload _ _ _ _ _ _ _ ?_ | refine c_rseek _ _ _ _ _ _ _ ?_ | refine c_rport _ _ _ _ _ _ ?_ | refine c_inc _ _ _ _ _ ?_ | refine c_dec _ _ _ _ _ ?_ | refine c_shape _ _ _ _ ?_ | refine c_sub _ _ _ _ _ _ ?_ | refine c_pushed _ _ _ _ ?_); ((have hb := A.blk29; have hx := (up A).2.1; simp only [go_sem, hb, hx, hu, mr, mw, mi, mo, Rg.cells]))) | ((first | refine c_longer _ 7 15 _ _ _ ?_ | refine c_longer _ 10 15 _ _ _ ?_ | refine c_longer _ 11 19 _ _ _ ?_ | refine c_swap ⟨_, _, _, _, _, _, _, _, _, _, _, _, _, _, _, _, _, _, _, _, _, _, _, _, _, _, _, _, _⟩ _ _ _ _ ?_ | refine c_tick ⟨_, _, _, _, _, _, _, _, _, _, _, _, _, _, _, _, _, _, _, _, _, _, _, _, _, _, _, _, _⟩ _ _ _ ?_ | refine c_setpair ⟨_, _, _, _, _, _, _, _, _, _, _, _, _, _, _, _, _, _, _, _, _, _, _, _, _, _, _, _, _⟩ 2 (by decide) _ _ _ _ ?_ | refine m_pair A 2 (by decide) ?_ | refine m_pair A 0 (by decide) ?_ | refine m_pair A 1 (by decide) ?_ | refine m_pair A _ (by (first | decide | exact pushed_lt (by have := yO_lt op; omega) | exact yO_lt op | exact zO_lt op | (have := yO_lt op; have := zO_lt op; omega))) ?_ | refine m_one A _ (by (first | decide | exact pushed_lt (by have := yO_lt op; omega) | exact yO_lt op | exact zO_lt op | (have := yO_lt op; have := zO_lt op; omega))) ?_ | refine c_met _ _ (by (first | decide | exact pushed_lt (by have := yO_lt op; omega) | exact yO_lt op | exact zO_lt op | (have := yO_lt op; have := zO_lt op; omega))) _ _ _ ?_ | refine m_pair A.put29 2 (by decide) ?_ | refine m_pair A.put29 0 (by decide) ?_ | refine m_pair A.put29 1 (by decide) ?_ | refine m_pair A.put29 _ (by (first | decide | exact pushed_lt (by have := yO_lt op; omega) | exact yO_lt op | exact zO_lt op | (have := yO_lt op; have := zO_lt op; omega))) ?_ | refine m_one A.put29 _ (by (first | decide | exact pushed_lt (by have := yO_lt op; omega) | exact yO_lt op | exact zO_lt op | (have := yO_lt op; have := zO_lt op; omega))) ?_); ((have hb := A.blk29; have hx := (up A).2.1; simp only [go_sem, hb, hx, hu, mr, mw, mi, mo, Rg.cells]))) | ((first | refine m_next M A (by omega) fun v s H n r lf A => ?_ | refine m_next M A.put29 (by omega) fun v s H n r lf A => ?_ | refine m_fetch M A (by omega) fun v c s H n r lf A => ?_ | refine m_fetch M A.put29 (by omega) fun v c s H n r lf A => ?_ | refine m_word M A (by omega) fun v c s H n r lf A => ?_ | refine m_word M A.put29 (by omega) fun v c s H n r lf A => ?_ | refine m_load M A _ (by omega) fun v s H n r lf A => ?_ | refine m_load M A.put29 _ (by omega) fun v s H n r lf A => ?_ | refine m_store M A _ _ (by omega) fun s H n r lf A => ?_ | refine m_store M A.put29 _ _ (by omega) fun s H n r lf A => ?_ | refine m_push M A _ (by omega) fun c s H n r lf A => ?_ | refine m_push M A.put29 _ (by omega) fun c s H n r lf A => ?_ | refine m_pop M A (by omega) fun v c s H n r lf A => ?_ | refine m_pop M A.put29 (by omega) fun v c s H n r lf A => ?_ | refine m_pointed M A (by omega) fun v p w q s H n r lf A => ?_ | refine m_pointed M A.put29 (by omega) fun v p w q s H n r lf A => ?_ | refine m_setpair A 2 (by decide) _ fun H n A => ?_ | refine m_setpair A.put29 2 (by decide) _ fun H n A => ?_ | refine m_setpair A 1 (by decide) _ fun H n A => ?_ | refine m_setpair A.put29 1 (by decide) _ fun H n A => ?_ | refine m_setpair A 0 (by decide) _ fun H n A => ?_ | refine m_setpair A.put29 0 (by decide) _ fun H n A => ?_ | refine m_setpair A _ (by (first | decide | exact pushed_lt (by have := yO_lt op; omega) | exact yO_lt op | exact zO_lt op | (have := yO_lt op; have := zO_lt op; omega))) _ fun H n A => ?_ | refine m_setpair A.put29 _ (by (first | decide | exact pushed_lt (by have := yO_lt op; omega) | exact yO_lt op | exact zO_lt op | (have := yO_lt op; have := zO_lt op; omega))) _ fun H n A => ?_ | refine m_setone A _ (by (first | decide | exact pushed_lt (by have := yO_lt op; omega) | exact yO_lt op | exact zO_lt op | (have := yO_lt op; have := zO_lt op; omega))) _ fun H n A => ?_ | refine m_setone A.put29 _ (by (first | decide | exact pushed_lt (by have := yO_lt op; omega) | exact yO_lt op | exact zO_lt op | (have := yO_lt op; have := zO_lt op; omega))) _ fun H n A => ?_ | refine m_to A _ fun H n A => ?_ | refine m_to A.put29 _ fun H n A => ?_ | refine m_told A _ fun H n A => ?_ | refine m_told A.put29 _ fun H n A => ?_ | refine A.rd (by omega) fun v s H n r lf A => ?_ | refine A.put29.rd (by omega) fun v s H n r lf A => ?_ | refine A.wr (by omega) fun s H n r lf A => ?_ | refine A.put29.wr (by omega) fun s H n r lf A => ?_ | refine A.ip (by decide) (by omega) fun v s H n r lf A => ?_ | refine A.put29.ip (by decide) (by omega) fun v s H n r lf A => ?_ | refine A.op (by decide) (by omega) fun s H n r lf A => ?_ | refine A.put29.op (by decide) (by omega) fun s H n r lf A => ?_); ((have hb := A.blk29; have hx := (up A).2.1; simp only [go_sem, hb, hx, hu, mr, mw, mi, mo, Rg.cells]))))
  all_goals (first | (refine Fin.keep (h _ _ _ _ _ ?_ (by omega) (up A).1); unfold moveM; (((repeat' first | assumption | (with_reducible rfl) | (refine Eff.run_of (by assumption) ?_; try dsimp only) | refine Eff.run_t (by (first | assumption | exact nF ‹_› | exact nT ‹_› | omega)) ?_ | refine Eff.run_f (by (first | assumption | exact nF ‹_› | exact nT ‹_› | omega)) ?_ | rfl); all_goals fail))) | (refine Fin.keep (h _ _ _ _ _ ?_ (by omega) (up A.put29).1); unfold moveM; (((repeat' first | assumption | (with_reducible rfl) | (refine Eff.run_of (by assumption) ?_; try dsimp only) | refine Eff.run_t (by (first | assumption | exact nF ‹_› | exact nT ‹_› | omega)) ?_ | refine Eff.run_f (by (first | assumption | exact nF ‹_› | exact nT ‹_› | omega)) ?_ | rfl); all_goals fail))))
theorem m_sum (A : AtC W t H0 n0 F0 k c s H n) (op : BitVec 8) (hl : 4 ≤ W.left s) (h : ∀ (v : Nat) c' s' H' n', (sumM op c).run W.O s = ((v, c'), s') → W.left s ≤ W.left s' + 4 → AtC W t H0 n0 F0 k c' s' H' n' → K (.i64 v) H' n') : ACalls Try.prog 43 [.pt k 0, .ag [.i64 (xO op), .i64 (yO op), .i64 (zO op), .i64 (yO op / 2 : Nat), .i64 (yO op % 2 : Nat)]] H n K := by
  refine ACalls.of_awp Try.func43 rfl (by decide +kernel) (show 2 ≤ 76 by decide) (by simp) fun wf => ?_
  obtain ⟨F1, A, up⟩ := A.boxed ⟨[.i64 (xO op), .i64 (yO op), .i64 (zO op), .i64 (yO op / 2 : Nat), .i64 (yO op % 2 : Nat)], 53, false⟩ (by simp [AV.ok])
  have hb := A.blk29
  have hk := (up A).2.2.1
  have hu := fun X Y => Heap.upd_ne X Y hk
  have mr := M.r
  have mw := M.w
  have mi := M.i
  have mo := M.o
  refine awp_ev dr43 (by decide +kernel) ?_
  simp only [go_sem, Try.f43, hb, hu]
  (repeat' first | (((with_reducible refine And.intro ?_ ?_) <;> intro e <;> (first | (with_reducible replace e := nbT e) | (with_reducible replace e := nbF e) | (with_reducible replace e := dT e) | (with_reducible replace e := dF e) | (with_reducible replace e := iT e) | (with_reducible replace e := iF e) | skip) <;> (try (exfalso; omega)))) | ((with_reducible first | refine c_join _ _ _ _ _ ?_ | refine c_split _ _ _ _ ?_ | refine c_move _ _ _ _ _ ?_ | refine c_cut _ _ _ _ ?_ | refine c_do _ _ _ _ _ _ _ ?_ | refine c_daa _ _ _ _ _ ?_ | refine c_flip _ _ _ _ _ _ ?_ | refine c_quick _ _ _ _ _ _ ?_ | refine c_add16 _ _ _ _ _ _ ?_ | refine c_adc16 _ _ _ _ _ _ ?_ | refine c_sbc16 _ _ _ _ _ _ ?_ | refine c_rot _ _ _ _ _ _ ?_ | refine c_bitt _ _ _ _ _ _ _ ?_ | refine c_put _ _ _ _ _ _ ?_ | refine c_digits _ _ _ _ _ _ _ ?_ | refine c_rload _ _ _ _ _ _ _ ?_ | refine c_rseek _ _ _ _ _ _ _ ?_ | refine c_rport _ _ _ _ _ _ ?_ | refine c_inc _ _ _ _ _ ?_ | refine c_dec _ _ _ _ _ ?_ | refine c_shape _ _ _ _ ?_ | refine c_sub _ _ _ _ _ _ ?_ | refine c_pushed _ _ _ _ ?_); ((have hb := A.blk29; have hx := (up A).2.1; simp only [go_sem, hb, hx, hu, mr, mw, mi, mo, Rg.cells]))) | ((first | refine c_longer _ 7 15 _ _ _ ?_ | refine c_longer _ 10 15 _ _ _ ?_ | refine c_longer _ 11 19 _ _ _ ?_ | refine c_swap ⟨_, _, _, _, _, _, _, _, _, _, _, _, _, _, _, _, _, _, _, _, _, _, _, _, _, _, _, _, _⟩ _ _ _ _ ?_ | refine c_tick ⟨_, _, _, _, _, _, _, _, _, _, _, _, _, _, _, _, _, _, _, _, _, _, _, _, _, _, _, _, _⟩ _ _ _ ?_ | refine c_setpair ⟨_, _, _, _, _, _, _, _, _, _, _, _, _, _, _, _, _, _, _, _, _, _, _, _, _, _, _, _, _⟩ 2 (by decide) _ _ _ _ ?_ | refine m_pair A 2 (by decide) ?_ | refine m_pair A 0 (by decide) ?_ | refine m_pair A 1 (by decide) ?_ | refine m_pair A _ (by (first | decide | exact pushed_lt (by have := yO_lt op; omega) | exact yO_lt op | exact zO_lt op | (have := yO_lt op; have := zO_lt op; omega))) ?_ | refine m_one A _ (by (first | decide | exact pushed_lt (by have := yO_lt op; omega) | exact yO_lt op | exact zO_lt op | (have := yO_lt op; have := zO_lt op; omega))) ?_ | refine c_met _ _ (by (first | decide | exact pushed_lt (by have := yO_lt op; omega) | exact yO_lt op | exact zO_lt op | (have := yO_lt op; have := zO_lt op; omega))) _ _ _ ?_ | refine m_pair A.put29 2 (by decide) ?_ | refine m_pair A.put29 0 (by decide) ?_ | refine m_pair A.put29 1 (by decide) ?_ | refine m_pair A.put29 _ (by (first | decide | exact pushed_lt (by have := yO_lt op; omega) | exact yO_lt op | exact zO_lt op | (have := yO_lt op; have := zO_lt op; omega))) ?_ | refine m_one A.put29 _ (by (first | decide | exact pushed_lt (by have := yO_lt op; omega) | exact yO_lt op | exact zO_lt op | (have := yO_lt op; have := zO_lt op; omega))) ?_); ((have hb := A.blk29; have hx := (up A).2.1; simp only [go_sem, hb, hx, hu, mr, mw, mi, mo, Rg.cells]))) | ((first | refine m_next M A (by omega) fun v s H n r lf A => ?_ | refine m_next M A.put29 (by omega) fun v s H n r lf A => ?_ | refine m_fetch M A (by omega) fun v c s H n r lf A => ?_ | refine m_fetch M A.put29 (by omega) fun v c s H n r lf A => ?_ | refine m_word M A (by omega) fun v c s H n r lf A => ?_ | refine m_word M A.put29 (by omega) fun v c s H n r lf A => ?_ | refine m_load M A _ (by omega) fun v s H n r lf A => ?_ | refine m_load M A.put29 _ (by omega) fun v s H n r lf A => ?_ | refine m_store M A _ _ (by omega) fun s H n r lf A => ?_ | refine m_store M A.put29 _ _ (by omega) fun s H n r lf A => ?_ | refine m_push M A _ (by omega) fun c s H n r lf A => ?_ | refine m_push M A.put29 _ (by omega) fun c s H n r lf A => ?_ | refine m_pop M A (by omega) fun v c s H n r lf A => ?_ | refine m_pop M A.put29 (by omega) fun v c s H n r lf A => ?_ | refine m_pointed M A (by omega) fun v p w q s H n r lf A => ?_ | refine m_pointed M A.put29 (by omega) fun v p w q s H n r lf A => ?_ | refine m_setpair A 2 (by decide) _ fun H n A => ?_ | refine m_setpair A.put29 2 (by decide) _ fun H n A => ?_ | refine m_setpair A 1 (by decide) _ fun H n A => ?_ | refine m_setpair A.put29 1 (by decide) _ fun H n A => ?_ | refine m_setpair A 0 (by decide) _ fun H n A => ?_ | refine m_setpair A.put29 0 (by decide) _ fun H n A => ?_ | refine m_setpair A _ (by (first | decide | exact pushed_lt (by have := yO_lt op; omega) | exact yO_lt op | exact zO_lt op | (have := yO_lt op; have := zO_lt op; omega))) _ fun H n A => ?_ | refine m_setpair A.put29 _ (by (first | decide | exact pushed_lt (by have := yO_lt op; omega) | exact yO_lt op | exact zO_lt op | (have := yO_lt op; have := zO_lt op; omega))) _ fun H n A => ?_ | refine m_setone A _ (by (first | decide | exact pushed_lt (by have := yO_lt op; omega) | exact yO_lt op | exact zO_lt op | (have := yO_lt op; have := zO_lt op; omega))) _ fun H n A => ?_ | refine m_setone A.put29 _ (by (first | decide | exact pushed_lt (by have := yO_lt op; omega) | exact yO_lt op | exact zO_lt op | (have := yO_lt op; have := zO_lt op; omega))) _ fun H n A => ?_ | refine m_to A _ fun H n A => ?_ | refine m_to A.put29 _ fun H n A => ?_ | refine m_told A _ fun H n A => ?_ | refine m_told A.put29 _ fun H n A => ?_ | refine A.rd (by omega) fun v s H n r lf A => ?_ | refine A.put29.rd (by omega) fun v s H n r lf A => ?_ | refine A.wr (by omega) fun s H n r lf A => ?_ | refine A.put29.wr (by omega) fun s H n r lf A => ?_ | refine A.ip (by decide) (by omega) fun v s H n r lf A => ?_ | refine A.put29.ip (by decide) (by omega) fun v s H n r lf A => ?_ | refine A.op (by decide) (by omega) fun s H n r lf A => ?_ | refine A.put29.op (by decide) (by omega) fun s H n r lf A => ?_); ((have hb := A.blk29; have hx := (up A).2.1; simp only [go_sem, hb, hx, hu, mr, mw, mi, mo, Rg.cells]))))
  all_goals (first | (refine Fin.keep (h _ _ _ _ _ ?_ (by omega) (up A).1); unfold sumM; (((repeat' first | assumption | (with_reducible rfl) | (refine Eff.run_of (by assumption) ?_; try dsimp only) | refine Eff.run_t (by (first | assumption | exact nF ‹_› | exact nT ‹_› | omega)) ?_ | refine Eff.run_f (by (first | assumption | exact nF ‹_› | exact nT ‹_› | omega)) ?_ | rfl); all_goals fail))) | (refine Fin.keep (h _ _ _ _ _ ?_ (by omega) (up A.put29).1); unfold sumM; (((repeat' first | assumption | (with_reducible rfl) | (refine Eff.run_of (by assumption) ?_; try dsimp only) | refine Eff.run_t (by (first | assumption | exact nF ‹_› | exact nT ‹_› | omega)) ?_ | refine Eff.run_f (by (first | assumption | exact nF ‹_› | exact nT ‹_› | omega)) ?_ | rfl); all_goals fail))))
theorem m_there (A : AtC W t H0 n0 F0 k c s H n) (op : BitVec 8) (hl : 4 ≤ W.left s) (h : ∀ (v : Nat) c' s' H' n', (thereM op c).run W.O s = ((v, c'), s') → W.left s ≤ W.left s' + 4 → AtC W t H0 n0 F0 k c' s' H' n' → K (.i64 v) H' n') : ACalls Try.prog 66 [.pt k 0, .ag [.i64 (xO op), .i64 (yO op), .i64 (zO op), .i64 (yO op / 2 : Nat), .i64 (yO op % 2 : Nat)]] H n K := by
  refine ACalls.of_awp Try.func66 rfl (by decide +kernel) (show 2 ≤ 88 by decide) (by simp) fun wf => ?_
  obtain ⟨F1, A, up⟩ := A.boxed ⟨[.i64 (xO op), .i64 (yO op), .i64 (zO op), .i64 (yO op / 2 : Nat), .i64 (yO op % 2 : Nat)], 53, false⟩ (by simp [AV.ok])
  have hb := A.blk29
  have hk := (up A).2.2.1
  have hu := fun X Y => Heap.upd_ne X Y hk
  have mr := M.r
  have mw := M.w
  have mi := M.i
  have mo := M.o
  refine awp_ev dr66 (by decide +kernel) ?_
  simp only [go_sem, Try.f66, hb, hu]
  (repeat' first | (((with_reducible refine And.intro ?_ ?_) <;> intro e <;> (first | (with_reducible replace e := nbT e) | (with_reducible replace e := nbF e) | (with_reducible replace e := dT e) | (with_reducible replace e := dF e) | (with_reducible replace e := iT e) | (with_reducible replace e := iF e) | skip) <;> (try (exfalso; omega)))) | ((with_reducible first | refine c_join _ _ _ _ _ ?_ | refine c_split _ _ _ _ ?_ | refine c_move _ _ _ _ _ ?_ | refine c_cut _ _ _ _ ?_ | refine c_do _ _ _ _ _ _ _ ?_ | refine c_daa _ _ _ _ _ ?_ | refine c_flip _ _ _ _ _ _ ?_ | refine c_quick _ _ _ _ _ _ ?_ | refine c_add16 _ _ _ _ _ _ ?_ | refine c_adc16 _ _ _ _ _ _ ?_ | refine c_sbc16 _ _ _ _ _ _ ?_ | refine c_rot _ _ _ _ _ _ ?_ | refine c_bitt _ _ _ _ _ _ _ ?_ | refine c_put _ _ _ _ _ _ ?_ | refine c_digits _ _ _ _ _ _ _ ?_ | refine c_rload _ _ _ _ _ _ _ ?_ | refine c_rseek _ _ _ _ _ _ _ ?_ | refine c_rport _ _ _ _ _ _ ?_ | refine c_inc _ _ _ _ _ ?_ | refine c_dec _ _ _ _ _ ?_ | refine c_shape _ _ _ _ ?_ | refine c_sub _ _ _ _ _ _ ?_ | refine c_pushed _ _ _ _ ?_); ((have hb := A.blk29; have hx := (up A).2.1; simp only [go_sem, hb, hx, hu, mr, mw, mi, mo, Rg.cells]))) | ((first | refine c_longer _ 7 15 _ _ _ ?_ | refine c_longer _ 10 15 _ _ _ ?_ | refine c_longer _ 11 19 _ _ _ ?_ | refine c_swap ⟨_, _, _, _, _, _, _, _, _, _, _, _, _, _, _, _, _, _, _, _, _, _, _, _, _, _, _, _, _⟩ _ _ _ _ ?_ | refine c_tick ⟨_, _, _, _, _, _, _, _, _, _, _, _, _, _, _, _, _, _, _, _, _, _, _, _, _, _, _, _, _⟩ _ _ _ ?_ | refine c_setpair ⟨_, _, _, _, _, _, _, _, _, _, _, _, _, _, _, _, _, _, _, _, _, _, _, _, _, _, _, _, _⟩ 2 (by decide) _ _ _ _ ?_ | refine m_pair A 2 (by decide) ?_ | refine m_pair A 0 (by decide) ?_ | refine m_pair A 1 (by decide) ?_ | refine m_pair A _ (by (first | decide | exact pushed_lt (by have := yO_lt op; omega) | exact yO_lt op | exact zO_lt op | (have := yO_lt op; have := zO_lt op; omega))) ?_ | refine m_one A _ (by (first | decide | exact pushed_lt (by have := yO_lt op; omega) | exact yO_lt op | exact zO_lt op | (have := yO_lt op; have := zO_lt op; omega))) ?_ | refine c_met _ _ (by (first | decide | exact pushed_lt (by have := yO_lt op; omega) | exact yO_lt op | exact zO_lt op | (have := yO_lt op; have := zO_lt op; omega))) _ _ _ ?_ | refine m_pair A.put29 2 (by decide) ?_ | refine m_pair A.put29 0 (by decide) ?_ | refine m_pair A.put29 1 (by decide) ?_ | refine m_pair A.put29 _ (by (first | decide | exact pushed_lt (by have := yO_lt op; omega) | exact yO_lt op | exact zO_lt op | (have := yO_lt op; have := zO_lt op; omega))) ?_ | refine m_one A.put29 _ (by (first | decide | exact pushed_lt (by have := yO_lt op; omega) | exact yO_lt op | exact zO_lt op | (have := yO_lt op; have := zO_lt op; omega))) ?_); ((have hb := A.blk29; have hx := (up A).2.1; simp only [go_sem, hb, hx, hu, mr, mw, mi, mo, Rg.cells]))) | ((first | refine m_next M A (by omega) fun v s H n r lf A => ?_ | refine m_next M A.put29 (by omega) fun v s H n r lf A => ?_ | refine m_fetch M A (by omega) fun v c s H n r lf A => ?_ | refine m_fetch M A.put29 (by omega) fun v c s H n r lf A => ?_ | refine m_word M A (by omega) fun v c s H n r lf A => ?_ | refine m_word M A.put29 (by omega) fun v c s H n r lf A => ?_ | refine m_load M A _ (by omega) fun v s H n r lf A => ?_ | refine m_load M A.put29 _ (by omega) fun v s H n r lf A => ?_ | refine m_store M A _ _ (by omega) fun s H n r lf A => ?_ | refine m_store M A.put29 _ _ (by omega) fun s H n r lf A => ?_ | refine m_push M A _ (by omega) fun c s H n r lf A => ?_ | refine m_push M A.put29 _ (by omega) fun c s H n r lf A => ?_ | refine m_pop M A (by omega) fun v c s H n r lf A => ?_ | refine m_pop M A.put29 (by omega) fun v c s H n r lf A => ?_ | refine m_pointed M A (by omega) fun v p w q s H n r lf A => ?_ | refine m_pointed M A.put29 (by omega) fun v p w q s H n r lf A => ?_ | refine m_setpair A 2 (by decide) _ fun H n A => ?_ | refine m_setpair A.put29 2 (by decide) _ fun H n A => ?_ | refine m_setpair A 1 (by decide) _ fun H n A => ?_ | refine m_setpair A.put29 1 (by decide) _ fun H n A => ?_ | refine m_setpair A 0 (by decide) _ fun H n A => ?_ | refine m_setpair A.put29 0 (by decide) _ fun H n A => ?_ | refine m_setpair A _ (by (first | decide | exact pushed_lt (by have := yO_lt op; omega) | exact yO_lt op | exact zO_lt op | (have := yO_lt op; have := zO_lt op; omega))) _ fun H n A => ?_ | refine m_setpair A.put29 _ (by (first | decide | exact pushed_lt (by have := yO_lt op; omega) | exact yO_lt op | exact zO_lt op | (have := yO_lt op; have := zO_lt op; omega))) _ fun H n A => ?_ | refine m_setone A _ (by (first | decide | exact pushed_lt (by have := yO_lt op; omega) | exact yO_lt op | exact zO_lt op | (have := yO_lt op; have := zO_lt op; omega))) _ fun H n A => ?_ | refine m_setone A.put29 _ (by (first | decide | exact pushed_lt (by have := yO_lt op; omega) | exact yO_lt op | exact zO_lt op | (have := yO_lt op; have := zO_lt op; omega))) _ fun H n A => ?_ | refine m_to A _ fun H n A => ?_ | refine m_to A.put29 _ fun H n A => ?_ | refine m_told A _ fun H n A => ?_ | refine m_told A.put29 _ fun H n A => ?_ | refine A.rd (by omega) fun v s H n r lf A => ?_ | refine A.put29.rd (by omega) fun v s H n r lf A => ?_ | refine A.wr (by omega) fun s H n r lf A => ?_ | refine A.put29.wr (by omega) fun s H n r lf A => ?_ | refine A.ip (by decide) (by omega) fun v s H n r lf A => ?_ | refine A.put29.ip (by decide) (by omega) fun v s H n r lf A => ?_ | refine A.op (by decide) (by omega) fun s H n r lf A => ?_ | refine A.put29.op (by decide) (by omega) fun s H n r lf A => ?_); ((have hb := A.blk29; have hx := (up A).2.1; simp only [go_sem, hb, hx, hu, mr, mw, mi, mo, Rg.cells]))))
  all_goals (first | (refine Fin.keep (h _ _ _ _ _ ?_ (by omega) (up A).1); unfold thereM; (((repeat' first | assumption | (with_reducible rfl) | (refine Eff.run_of (by assumption) ?_; try dsimp only) | refine Eff.run_t (by (first | assumption | exact nF ‹_› | exact nT ‹_› | omega)) ?_ | refine Eff.run_f (by (first | assumption | exact nF ‹_› | exact nT ‹_› | omega)) ?_ | rfl); all_goals fail))) | (refine Fin.keep (h _ _ _ _ _ ?_ (by omega) (up A.put29).1); unfold thereM; (((repeat' first | assumption | (with_reducible rfl) | (refine Eff.run_of (by assumption) ?_; try dsimp only) | refine Eff.run_t (by (first | assumption | exact nF ‹_› | exact nT ‹_› | omega)) ?_ | refine Eff.run_f (by (first | assumption | exact nF ‹_› | exact nT ‹_› | omega)) ?_ | rfl); all_goals fail))))
end
end Go.Proofs.Joy
namespace Go.Proofs.Joy
open Go.Ab Go.Proofs

set_option maxHeartbeats 4000000
set_option maxRecDepth 20000
theorem jW12 : wrap64 12 = ((12 : Nat) : Int) := by decide
theorem jW13 : wrap64 13 = ((13 : Nat) : Int) := by decide
section
variable {σ : Type} {W : WC Try.prog σ} {t : TypeId} {H0 : Heap} {n0 : Nat} {F0 : Nat → Prop} {k : Nat} {c : Core} {s : σ} {H : Heap} {n : Nat} {K : AV → Heap → Nat → Prop}
theorem m_quick (A : AtC W t H0 n0 F0 k c s H n) (m : Nat) (hm : m < 8) (h : ∀ H' n', AtC W t H0 n0 F0 k (quickC m c) s H' n' → K (.tu []) H' n') : ACalls Try.prog 69 [.pt k 0, .i64 m] H n K := by
  refine ACalls.of_awp Try.func69 rfl (by decide +kernel) (show 2 ≤ 79 by decide) (by simp) fun wf => ?_
  have hb := A.blk29
  refine awp_ev dr69 (by decide +kernel) ?_
  unfold quickC at h
  simp only [go_sem, Try.f69, hb]
  refine ⟨fun e => ?_, fun e => ⟨fun e2 => ?_, fun e2 => ?_⟩⟩
  · rw [if_pos (by omega)] at h
    refine c_quick _ _ _ _ _ _ ?_
    simp only [go_sem, hb]
    exact Fin.keep (h _ _ A.put29)
  · rw [if_neg (by omega), if_pos (by have := dT e2; omega)] at h
    refine c_daa _ _ _ _ _ ?_
    simp only [go_sem, hb]
    exact Fin.keep (h _ _ A.put29)
  · have e4 : wrap64 ((m : Int) - 5) = ((m - 5 : Nat) : Int) := wrap_sub (j := 5) (by have := dF e2; omega) hm
    rw [if_neg (by omega), if_neg (by have := dF e2; omega)] at h
    simp only [e4]
    refine c_flip _ _ _ _ _ _ ?_
    simp only [go_sem, hb]
    exact Fin.keep (h _ _ A.put29)
end
section
variable {σ : Type} {W : WC Try.prog σ} {t : TypeId} {H0 : Heap} {n0 : Nat} {F0 : Nat → Prop} {k : Nat} {c : Core} {s : σ} {H : Heap} {n : Nat} {K : AV → Heap → Nat → Prop} (M : MT W t)
include M
theorem m_jump (A : AtC W t H0 n0 F0 k c s H n) (op : BitVec 8) (hl : 4 ≤ W.left s) (h : ∀ (v : Nat) c' s' H' n', (jumpM op c).run W.O s = ((v, c'), s') → W.left s ≤ W.left s' + 4 → AtC W t H0 n0 F0 k c' s' H' n' → K (.i64 v) H' n') : ACalls Try.prog 64 [.pt k 0, .ag [.i64 (xO op), .i64 (yO op), .i64 (zO op), .i64 (yO op / 2 : Nat), .i64 (yO op % 2 : Nat)]] H n K := by
  refine ACalls.of_awp Try.func64 rfl (by decide +kernel) (show 2 ≤ 66 by decide) (by simp) fun wf => ?_
  obtain ⟨F1, A, up⟩ := A.boxed ⟨[.i64 (xO op), .i64 (yO op), .i64 (zO op), .i64 (yO op / 2 : Nat), .i64 (yO op % 2 : Nat)], 53, false⟩ (by simp [AV.ok])
  have hb := A.blk29
  have hk := (up A).2.2.1
  have hu := fun X Y => Heap.upd_ne X Y hk
  have mr := M.r
  have mw := M.w
  have mi := M.i
  have mo := M.o
  refine awp_ev dr64 (by decide +kernel) ?_
  simp only [go_sem, Try.f64, hb, hu]
  (repeat' first | (((with_reducible refine And.intro ?_ ?_) <;> intro e <;> (first | (with_reducible replace e := nbT e) | (with_reducible replace e := nbF e) | (with_reducible replace e := dT e) | (with_reducible replace e := dF e) | (with_reducible replace e := iT e) | (with_reducible replace e := iF e) | skip) <;> (try (exfalso; omega)))) | ((with_reducible first | refine c_join _ _ _ _ _ ?_ | refine c_split _ _ _ _ ?_ | refine c_move _ _ _ _ _ ?_ | refine c_cut _ _ _ _ ?_ | refine c_do _ _ _ _ _ _ _ ?_ | refine c_daa _ _ _ _ _ ?_ | refine c_flip _ _ _ _ _ _ ?_ | refine c_quick _ _ _ _ _ _ ?_ | refine c_add16 _ _ _ _ _ _ ?_ | refine c_adc16 _ _ _ _ _ _ ?_ | refine c_sbc16 _ _ _ _ _ _ ?_ | refine c_rot _ _ _ _ _ _ ?_ | refine c_bitt _ _ _ _ _ _ _ ?_ | refine c_put _ _ _ _ _ _ ?_ | refine c_digits _ _ _ _ _ _ _ ?_ | refine c_rload _ _ _ _ _ _ _ ?_ | refine c_rseek _ _ _ _ _ _ _ ?_ | refine c_rport _ _ _ _ _ _ ?_ | refine c_inc _ _ _ _ _ ?_ | refine c_dec _ _ _ _ _ ?_ | refine c_shape _ _ _ _ ?_ | refine c_sub _ _ _ _ _ _ ?_ | refine c_pushed _ _ _ _ ?_); ((have hb := A.blk29; have hx := (up A).2.1; simp only [go_sem, hb, hx, hu, mr, mw, mi, mo, Rg.cells]))) | ((first | refine c_longer _ 7 15 _ _ _ ?_ | refine c_longer _ 10 15 _ _ _ ?_ | refine c_longer _ 11 19 _ _ _ ?_ | refine c_swap ⟨_, _, _, _, _, _, _, _, _, _, _, _, _, _, _, _, _, _, _, _, _, _, _, _, _, _, _, _, _⟩ _ _ _ _ ?_ | refine c_tick ⟨_, _, _, _, _, _, _, _, _, _, _, _, _, _, _, _, _, _, _, _, _, _, _, _, _, _, _, _, _⟩ _ _ _ ?_ | refine c_setpair ⟨_, _, _, _, _, _, _, _, _, _, _, _, _, _, _, _, _, _, _, _, _, _, _, _, _, _, _, _, _⟩ 2 (by decide) _ _ _ _ ?_ | refine m_pair A 2 (by decide) ?_ | refine m_pair A 0 (by decide) ?_ | refine m_pair A 1 (by decide) ?_ | refine m_pair A _ (by (first | decide | exact pushed_lt (by have := yO_lt op; omega) | exact yO_lt op | exact zO_lt op | (have := yO_lt op; have := zO_lt op; omega))) ?_ | refine m_one A _ (by (first | decide | exact pushed_lt (by have := yO_lt op; omega) | exact yO_lt op | exact zO_lt op | (have := yO_lt op; have := zO_lt op; omega))) ?_ | refine c_met _ _ (by (first | decide | exact pushed_lt (by have := yO_lt op; omega) | exact yO_lt op | exact zO_lt op | (have := yO_lt op; have := zO_lt op; omega))) _ _ _ ?_ | refine m_pair A.put29 2 (by decide) ?_ | refine m_pair A.put29 0 (by decide) ?_ | refine m_pair A.put29 1 (by decide) ?_ | refine m_pair A.put29 _ (by (first | decide | exact pushed_lt (by have := yO_lt op; omega) | exact yO_lt op | exact zO_lt op | (have := yO_lt op; have := zO_lt op; omega))) ?_ | refine m_one A.put29 _ (by (first | decide | exact pushed_lt (by have := yO_lt op; omega) | exact yO_lt op | exact zO_lt op | (have := yO_lt op; have := zO_lt op; omega))) ?_); ((have hb := A.blk29; have hx := (up A).2.1; simp only [go_sem, hb, hx, hu, mr, mw, mi, mo, Rg.cells]))) | ((first | refine m_next M A (by omega) fun v s H n r lf A => ?_ | refine m_next M A.put29 (by omega) fun v s H n r lf A => ?_ | refine m_fetch M A (by omega) fun v c s H n r lf A => ?_ | refine m_fetch M A.put29 (by omega) fun v c s H n r lf A => ?_ | refine m_word M A (by omega) fun v c s H n r lf A => ?_ | refine m_word M A.put29 (by omega) fun v c s H n r lf A => ?_ | refine m_load M A _ (by omega) fun v s H n r lf A => ?_ | refine m_load M A.put29 _ (by omega) fun v s H n r lf A => ?_ | refine m_store M A _ _ (by omega) fun s H n r lf A => ?_ | refine m_store M A.put29 _ _ (by omega) fun s H n r lf A => ?_ | refine m_push M A _ (by omega) fun c s H n r lf A => ?_ | refine m_push M A.put29 _ (by omega) fun c s H n r lf A => ?_ | refine m_pop M A (by omega) fun v c s H n r lf A => ?_ | refine m_pop M A.put29 (by omega) fun v c s H n r lf A => ?_ | refine m_pointed M A (by omega) fun v p w q s H n r lf A => ?_ | refine m_pointed M A.put29 (by omega) fun v p w q s H n r lf A => ?_ | refine m_setpair A 2 (by decide) _ fun H n A => ?_ | refine m_setpair A.put29 2 (by decide) _ fun H n A => ?_ | refine m_setpair A 1 (by decide) _ fun H n A => ?_ | refine m_setpair A.put29 1 (by decide) _ fun H n A => ?_ | refine m_setpair A 0 (by decide) _ fun H n A => ?_ | refine m_setpair A.put29 0 (by decide) _ fun H n A => ?_ | refine m_setpair A _ (by (first | decide | exact pushed_lt (by have := yO_lt op; omega) | exact yO_lt op | exact zO_lt op | (have := yO_lt op; have := zO_lt op; omega))) _ fun H n A => ?_ | refine m_setpair A.put29 _ (by (first | decide | exact pushed_lt (by have := yO_lt op; omega) | exact yO_lt op | exact zO_lt op | (have := yO_lt op; have := zO_lt op; omega))) _ fun H n A => ?_ | refine m_setone A _ (by (first | decide | exact pushed_lt (by have := yO_lt op; omega) | exact yO_lt op | exact zO_lt op | (have := yO_lt op; have := zO_lt op; omega))) _ fun H n A => ?_ | refine m_setone A.put29 _ (by (first | decide | exact pushed_lt (by have := yO_lt op; omega) | exact yO_lt op | exact zO_lt op | (have := yO_lt op; have := zO_lt op; omega))) _ fun H n A => ?_ | refine m_to A _ fun H n A => ?_ | refine m_to A.put29 _ fun H n A => ?_ | refine m_told A _ fun H n A => ?_ | refine m_told A.put29 _ fun H n A => ?_ | refine A.rd (by omega) fun v s H n r lf A => ?_ | refine A.put29.rd (by omega) fun v s H n r lf A => ?_ | refine A.wr (by omega) fun s H n r lf A => ?_ | refine A.put29.wr (by omega) fun s H n r lf A => ?_ | refine A.ip (by decide) (by omega) fun v s H n r lf A => ?_ | refine A.put29.ip (by decide) (by omega) fun v s H n r lf A => ?_ | refine A.op (by decide) (by omega) fun s H n r lf A => ?_ | refine A.put29.op (by decide) (by omega) fun s H n r lf A => ?_); ((have hb := A.blk29; have hx := (up A).2.1; simp only [go_sem, hb, hx, hu, mr, mw, mi, mo, Rg.cells]))))
  · (first | (refine Fin.keep (h _ _ _ _ _ ?_ (by omega) (up A).1); unfold jumpM; (((repeat' first | assumption | (with_reducible rfl) | (refine Eff.run_of (by assumption) ?_; try dsimp only) | refine Eff.run_t (by (first | assumption | exact nF ‹_› | exact nT ‹_› | omega)) ?_ | refine Eff.run_f (by (first | assumption | exact nF ‹_› | exact nT ‹_› | omega)) ?_ | rfl); all_goals fail))) | (refine Fin.keep (h _ _ _ _ _ ?_ (by omega) (up A.put29).1); unfold jumpM; (((repeat' first | assumption | (with_reducible rfl) | (refine Eff.run_of (by assumption) ?_; try dsimp only) | refine Eff.run_t (by (first | assumption | exact nF ‹_› | exact nT ‹_› | omega)) ?_ | refine Eff.run_f (by (first | assumption | exact nF ‹_› | exact nT ‹_› | omega)) ?_ | rfl); all_goals fail))))
  · (first | (refine Fin.keep (h _ _ _ _ _ ?_ (by omega) (up A).1); unfold jumpM; (((repeat' first | assumption | (with_reducible rfl) | (refine Eff.run_of (by assumption) ?_; try dsimp only) | refine Eff.run_t (by (first | assumption | exact nF ‹_› | exact nT ‹_› | omega)) ?_ | refine Eff.run_f (by (first | assumption | exact nF ‹_› | exact nT ‹_› | omega)) ?_ | rfl); all_goals fail))) | (refine Fin.keep (h _ _ _ _ _ ?_ (by omega) (up A.put29).1); unfold jumpM; (((repeat' first | assumption | (with_reducible rfl) | (refine Eff.run_of (by assumption) ?_; try dsimp only) | refine Eff.run_t (by (first | assumption | exact nF ‹_› | exact nT ‹_› | omega)) ?_ | refine Eff.run_f (by (first | assumption | exact nF ‹_› | exact nT ‹_› | omega)) ?_ | rfl); all_goals fail))))
  · have ey : yO op = 2 := by omega
    (first | (refine Fin.keep (h _ _ _ _ _ ?_ (by omega) (up A).1); unfold jumpM; simp +decide only [ey, if_true, if_false]; (((repeat' first | assumption | (with_reducible rfl) | (refine Eff.run_of (by assumption) ?_; try dsimp only) | refine Eff.run_t (by (first | assumption | exact nF ‹_› | exact nT ‹_› | omega)) ?_ | refine Eff.run_f (by (first | assumption | exact nF ‹_› | exact nT ‹_› | omega)) ?_ | rfl); all_goals fail))) | (refine Fin.keep (h _ _ _ _ _ ?_ (by omega) (up A.put29).1); unfold jumpM; simp +decide only [ey, if_true, if_false]; (((repeat' first | assumption | (with_reducible rfl) | (refine Eff.run_of (by assumption) ?_; try dsimp only) | refine Eff.run_t (by (first | assumption | exact nF ‹_› | exact nT ‹_› | omega)) ?_ | refine Eff.run_f (by (first | assumption | exact nF ‹_› | exact nT ‹_› | omega)) ?_ | rfl); all_goals fail))))
  · have ey : yO op = 2 := by omega
    rw [jW13]
    (first | (refine Fin.keep (h _ _ _ _ _ ?_ (by omega) (up A).1); unfold jumpM; simp +decide only [ey, if_true, if_false]; (((repeat' first | assumption | (with_reducible rfl) | (refine Eff.run_of (by assumption) ?_; try dsimp only) | refine Eff.run_t (by (first | assumption | exact nF ‹_› | exact nT ‹_› | omega)) ?_ | refine Eff.run_f (by (first | assumption | exact nF ‹_› | exact nT ‹_› | omega)) ?_ | rfl); all_goals fail))) | (refine Fin.keep (h _ _ _ _ _ ?_ (by omega) (up A.put29).1); unfold jumpM; simp +decide only [ey, if_true, if_false]; (((repeat' first | assumption | (with_reducible rfl) | (refine Eff.run_of (by assumption) ?_; try dsimp only) | refine Eff.run_t (by (first | assumption | exact nF ‹_› | exact nT ‹_› | omega)) ?_ | refine Eff.run_f (by (first | assumption | exact nF ‹_› | exact nT ‹_› | omega)) ?_ | rfl); all_goals fail))))
  · have ey : yO op = 3 := by omega
    rw [jW12]
    (first | (refine Fin.keep (h _ _ _ _ _ ?_ (by omega) (up A).1); unfold jumpM; simp +decide only [ey, if_true, if_false]; (((repeat' first | assumption | (with_reducible rfl) | (refine Eff.run_of (by assumption) ?_; try dsimp only) | refine Eff.run_t (by (first | assumption | exact nF ‹_› | exact nT ‹_› | omega)) ?_ | refine Eff.run_f (by (first | assumption | exact nF ‹_› | exact nT ‹_› | omega)) ?_ | rfl); all_goals fail))) | (refine Fin.keep (h _ _ _ _ _ ?_ (by omega) (up A.put29).1); unfold jumpM; simp +decide only [ey, if_true, if_false]; (((repeat' first | assumption | (with_reducible rfl) | (refine Eff.run_of (by assumption) ?_; try dsimp only) | refine Eff.run_t (by (first | assumption | exact nF ‹_› | exact nT ‹_› | omega)) ?_ | refine Eff.run_f (by (first | assumption | exact nF ‹_› | exact nT ‹_› | omega)) ?_ | rfl); all_goals fail))))
  · have e4 : wrap64 ((yO op : Int) - 4) = ((yO op - 4 : Nat) : Int) := wrap_sub (j := 4) (by omega) (yO_lt op)
    have h2 : ¬ yO op = 2 := by omega
    have h3 : ¬ yO op = 3 := by omega
    simp only [e4]
    refine c_met _ (yO op - 4) (by have := yO_lt op; omega) _ _ _ ?_
    ((have hb := A.blk29; have hx := (up A).2.1; simp only [go_sem, hb, hx, hu, mr, mw, mi, mo, Rg.cells]))
    (repeat' first | (((with_reducible refine And.intro ?_ ?_) <;> intro e <;> (first | (with_reducible replace e := nbT e) | (with_reducible replace e := nbF e) | (with_reducible replace e := dT e) | (with_reducible replace e := dF e) | (with_reducible replace e := iT e) | (with_reducible replace e := iF e) | skip) <;> (try (exfalso; omega)))) | ((with_reducible first | refine c_join _ _ _ _ _ ?_ | refine c_split _ _ _ _ ?_ | refine c_move _ _ _ _ _ ?_ | refine c_cut _ _ _ _ ?_ | refine c_do _ _ _ _ _ _ _ ?_ | refine c_daa _ _ _ _ _ ?_ | refine c_flip _ _ _ _ _ _ ?_ | refine c_quick _ _ _ _ _ _ ?_ | refine c_add16 _ _ _ _ _ _ ?_ | refine c_adc16 _ _ _ _ _ _ ?_ | refine c_sbc16 _ _ _ _ _ _ ?_ | refine c_rot _ _ _ _ _ _ ?_ | refine c_bitt _ _ _ _ _ _ _ ?_ | refine c_put _ _ _ _ _ _ ?_ | refine c_digits _ _ _ _ _ _ _ ?_ | refine c_rload _ _ _ _ _ _ _ ?_ | refine c_rseek _ _ _ _ _ _ _ ?_ | refine c_rport _ _ _ _ _ _ ?_ | refine c_inc _ _ _ _ _ ?_ | refine c_dec _ _ _ _ _ ?_ | refine c_shape _ _ _ _ ?_ | refine c_sub _ _ _ _ _ _ ?_ | refine c_pushed _ _ _ _ ?_); ((have hb := A.blk29; have hx := (up A).2.1; simp only [go_sem, hb, hx, hu, mr, mw, mi, mo, Rg.cells]))) | ((first | refine c_longer _ 7 15 _ _ _ ?_ | refine c_longer _ 10 15 _ _ _ ?_ | refine c_longer _ 11 19 _ _ _ ?_ | refine c_swap ⟨_, _, _, _, _, _, _, _, _, _, _, _, _, _, _, _, _, _, _, _, _, _, _, _, _, _, _, _, _⟩ _ _ _ _ ?_ | refine c_tick ⟨_, _, _, _, _, _, _, _, _, _, _, _, _, _, _, _, _, _, _, _, _, _, _, _, _, _, _, _, _⟩ _ _ _ ?_ | refine c_setpair ⟨_, _, _, _, _, _, _, _, _, _, _, _, _, _, _, _, _, _, _, _, _, _, _, _, _, _, _, _, _⟩ 2 (by decide) _ _ _ _ ?_ | refine m_pair A 2 (by decide) ?_ | refine m_pair A 0 (by decide) ?_ | refine m_pair A 1 (by decide) ?_ | refine m_pair A _ (by (first | decide | exact pushed_lt (by have := yO_lt op; omega) | exact yO_lt op | exact zO_lt op | (have := yO_lt op; have := zO_lt op; omega))) ?_ | refine m_one A _ (by (first | decide | exact pushed_lt (by have := yO_lt op; omega) | exact yO_lt op | exact zO_lt op | (have := yO_lt op; have := zO_lt op; omega))) ?_ | refine c_met _ _ (by (first | decide | exact pushed_lt (by have := yO_lt op; omega) | exact yO_lt op | exact zO_lt op | (have := yO_lt op; have := zO_lt op; omega))) _ _ _ ?_ | refine m_pair A.put29 2 (by decide) ?_ | refine m_pair A.put29 0 (by decide) ?_ | refine m_pair A.put29 1 (by decide) ?_ | refine m_pair A.put29 _ (by (first | decide | exact pushed_lt (by have := yO_lt op; omega) | exact yO_lt op | exact zO_lt op | (have := yO_lt op; have := zO_lt op; omega))) ?_ | refine m_one A.put29 _ (by (first | decide | exact pushed_lt (by have := yO_lt op; omega) | exact yO_lt op | exact zO_lt op | (have := yO_lt op; have := zO_lt op; omega))) ?_); ((have hb := A.blk29; have hx := (up A).2.1; simp only [go_sem, hb, hx, hu, mr, mw, mi, mo, Rg.cells]))) | ((first | refine m_next M A (by omega) fun v s H n r lf A => ?_ | refine m_next M A.put29 (by omega) fun v s H n r lf A => ?_ | refine m_fetch M A (by omega) fun v c s H n r lf A => ?_ | refine m_fetch M A.put29 (by omega) fun v c s H n r lf A => ?_ | refine m_word M A (by omega) fun v c s H n r lf A => ?_ | refine m_word M A.put29 (by omega) fun v c s H n r lf A => ?_ | refine m_load M A _ (by omega) fun v s H n r lf A => ?_ | refine m_load M A.put29 _ (by omega) fun v s H n r lf A => ?_ | refine m_store M A _ _ (by omega) fun s H n r lf A => ?_ | refine m_store M A.put29 _ _ (by omega) fun s H n r lf A => ?_ | refine m_push M A _ (by omega) fun c s H n r lf A => ?_ | refine m_push M A.put29 _ (by omega) fun c s H n r lf A => ?_ | refine m_pop M A (by omega) fun v c s H n r lf A => ?_ | refine m_pop M A.put29 (by omega) fun v c s H n r lf A => ?_ | refine m_pointed M A (by omega) fun v p w q s H n r lf A => ?_ | refine m_pointed M A.put29 (by omega) fun v p w q s H n r lf A => ?_ | refine m_setpair A 2 (by decide) _ fun H n A => ?_ | refine m_setpair A.put29 2 (by decide) _ fun H n A => ?_ | refine m_setpair A 1 (by decide) _ fun H n A => ?_ | refine m_setpair A.put29 1 (by decide) _ fun H n A => ?_ | refine m_setpair A 0 (by decide) _ fun H n A => ?_ | refine m_setpair A.put29 0 (by decide) _ fun H n A => ?_ | refine m_setpair A _ (by (first | decide | exact pushed_lt (by have := yO_lt op; omega) | exact yO_lt op | exact zO_lt op | (have := yO_lt op; have := zO_lt op; omega))) _ fun H n A => ?_ | refine m_setpair A.put29 _ (by (first | decide | exact pushed_lt (by have := yO_lt op; omega) | exact yO_lt op | exact zO_lt op | (have := yO_lt op; have := zO_lt op; omega))) _ fun H n A => ?_ | refine m_setone A _ (by (first | decide | exact pushed_lt (by have := yO_lt op; omega) | exact yO_lt op | exact zO_lt op | (have := yO_lt op; have := zO_lt op; omega))) _ fun H n A => ?_ | refine m_setone A.put29 _ (by (first | decide | exact pushed_lt (by have := yO_lt op; omega) | exact yO_lt op | exact zO_lt op | (have := yO_lt op; have := zO_lt op; omega))) _ fun H n A => ?_ | refine m_to A _ fun H n A => ?_ | refine m_to A.put29 _ fun H n A => ?_ | refine m_told A _ fun H n A => ?_ | refine m_told A.put29 _ fun H n A => ?_ | refine A.rd (by omega) fun v s H n r lf A => ?_ | refine A.put29.rd (by omega) fun v s H n r lf A => ?_ | refine A.wr (by omega) fun s H n r lf A => ?_ | refine A.put29.wr (by omega) fun s H n r lf A => ?_ | refine A.ip (by decide) (by omega) fun v s H n r lf A => ?_ | refine A.put29.ip (by decide) (by omega) fun v s H n r lf A => ?_ | refine A.op (by decide) (by omega) fun s H n r lf A => ?_ | refine A.put29.op (by decide) (by omega) fun s H n r lf A => ?_); ((have hb := A.blk29; have hx := (up A).2.1; simp only [go_sem, hb, hx, hu, mr, mw, mi, mo, Rg.cells]))))
    · exact Fin.keep (h _ _ _ _ _ (by unfold jumpM; simp only [h2, h3, if_false]; (((repeat' first | assumption | (with_reducible rfl) | (refine Eff.run_of (by assumption) ?_; try dsimp only) | refine Eff.run_t (by (first | assumption | exact nF ‹_› | exact nT ‹_› | omega)) ?_ | refine Eff.run_f (by (first | assumption | exact nF ‹_› | exact nT ‹_› | omega)) ?_ | rfl); all_goals fail))) (by omega) (up A).1)
    · rw [jW12]
      exact Fin.keep (h _ _ _ _ _ (by unfold jumpM; simp only [h2, h3, if_false]; (((repeat' first | assumption | (with_reducible rfl) | (refine Eff.run_of (by assumption) ?_; try dsimp only) | refine Eff.run_t (by (first | assumption | exact nF ‹_› | exact nT ‹_› | omega)) ?_ | refine Eff.run_f (by (first | assumption | exact nF ‹_› | exact nT ‹_› | omega)) ?_ | rfl); all_goals fail))) (by omega) (up A).1)
theorem m_count (A : AtC W t H0 n0 F0 k c s H n) (op : BitVec 8) (hl : 4 ≤ W.left s) (h : ∀ (v : Nat) c' s' H' n', (countM op c).run W.O s = ((v, c'), s') → W.left s ≤ W.left s' + 4 → AtC W t H0 n0 F0 k c' s' H' n' → K (.i64 v) H' n') : ACalls Try.prog 67 [.pt k 0, .ag [.i64 (xO op), .i64 (yO op), .i64 (zO op), .i64 (yO op / 2 : Nat), .i64 (yO op % 2 : Nat)]] H n K := by
  refine ACalls.of_awp Try.func67 rfl (by decide +kernel) (show 2 ≤ 78 by decide) (by simp) fun wf => ?_
  obtain ⟨F1, A, up⟩ := A.boxed ⟨[.i64 (xO op), .i64 (yO op), .i64 (zO op), .i64 (yO op / 2 : Nat), .i64 (yO op % 2 : Nat)], 53, false⟩ (by simp [AV.ok])
  have hb := A.blk29
  have hk := (up A).2.2.1
  have hu := fun X Y => Heap.upd_ne X Y hk
  have mr := M.r
  have mw := M.w
  have mi := M.i
  have mo := M.o
  refine awp_ev dr67 (by decide +kernel) ?_
  simp only [go_sem, Try.f67, hb, hu]
  (repeat' first | (((with_reducible refine And.intro ?_ ?_) <;> intro e <;> (first | (with_reducible replace e := nbT e) | (with_reducible replace e := nbF e) | (with_reducible replace e := dT e) | (with_reducible replace e := dF e) | (with_reducible replace e := iT e) | (with_reducible replace e := iF e) | skip) <;> (try (exfalso; omega)))) | ((with_reducible first | refine c_join _ _ _ _ _ ?_ | refine c_split _ _ _ _ ?_ | refine c_move _ _ _ _ _ ?_ | refine c_cut _ _ _ _ ?_ | refine c_do _ _ _ _ _ _ _ ?_ | refine c_daa _ _ _ _ _ ?_ | refine c_flip _ _ _ _ _ _ ?_ | refine c_quick _ _ _ _ _ _ ?_ | refine c_add16 _ _ _ _ _ _ ?_ | refine c_adc16 _ _ _ _ _ _ ?_ | refine c_sbc16 _ _ _ _ _ _ ?_ | refine c_rot _ _ _ _ _ _ ?_ | refine c_bitt _ _ _ _ _ _ _ ?_ | refine c_put _ _ _ _ _ _ ?_ | refine c_digits _ _ _ _ _ _ _ ?_ | refine c_rload _ _ _ _ _ _ _ ?_ | refine c_rseek _ _ _ _ _ _ _ ?_ | refine c_rport _ _ _ _ _ _ ?_ | refine c_inc _ _ _ _ _ ?_ | refine c_dec _ _ _ _ _ ?_ | refine c_shape _ _ _ _ ?_ | refine c_sub _ _ _ _ _ _ ?_ | refine c_pushed _ _ _ _ ?_); ((have hb := A.blk29; have hx := (up A).2.1; simp only [go_sem, hb, hx, hu, mr, mw, mi, mo, Rg.cells]))) | ((first | refine c_longer _ 7 15 _ _ _ ?_ | refine c_longer _ 10 15 _ _ _ ?_ | refine c_longer _ 11 19 _ _ _ ?_ | refine c_swap ⟨_, _, _, _, _, _, _, _, _, _, _, _, _, _, _, _, _, _, _, _, _, _, _, _, _, _, _, _, _⟩ _ _ _ _ ?_ | refine c_tick ⟨_, _, _, _, _, _, _, _, _, _, _, _, _, _, _, _, _, _, _, _, _, _, _, _, _, _, _, _, _⟩ _ _ _ ?_ | refine c_setpair ⟨_, _, _, _, _, _, _, _, _, _, _, _, _, _, _, _, _, _, _, _, _, _, _, _, _, _, _, _, _⟩ 2 (by decide) _ _ _ _ ?_ | refine m_pair A 2 (by decide) ?_ | refine m_pair A 0 (by decide) ?_ | refine m_pair A 1 (by decide) ?_ | refine m_pair A _ (by (first | decide | exact pushed_lt (by have := yO_lt op; omega) | exact yO_lt op | exact zO_lt op | (have := yO_lt op; have := zO_lt op; omega))) ?_ | refine m_one A _ (by (first | decide | exact pushed_lt (by have := yO_lt op; omega) | exact yO_lt op | exact zO_lt op | (have := yO_lt op; have := zO_lt op; omega))) ?_ | refine c_met _ _ (by (first | decide | exact pushed_lt (by have := yO_lt op; omega) | exact yO_lt op | exact zO_lt op | (have := yO_lt op; have := zO_lt op; omega))) _ _ _ ?_ | refine m_pair A.put29 2 (by decide) ?_ | refine m_pair A.put29 0 (by decide) ?_ | refine m_pair A.put29 1 (by decide) ?_ | refine m_pair A.put29 _ (by (first | decide | exact pushed_lt (by have := yO_lt op; omega) | exact yO_lt op | exact zO_lt op | (have := yO_lt op; have := zO_lt op; omega))) ?_ | refine m_one A.put29 _ (by (first | decide | exact pushed_lt (by have := yO_lt op; omega) | exact yO_lt op | exact zO_lt op | (have := yO_lt op; have := zO_lt op; omega))) ?_); ((have hb := A.blk29; have hx := (up A).2.1; simp only [go_sem, hb, hx, hu, mr, mw, mi, mo, Rg.cells]))) | ((first | refine m_next M A (by omega) fun v s H n r lf A => ?_ | refine m_next M A.put29 (by omega) fun v s H n r lf A => ?_ | refine m_fetch M A (by omega) fun v c s H n r lf A => ?_ | refine m_fetch M A.put29 (by omega) fun v c s H n r lf A => ?_ | refine m_word M A (by omega) fun v c s H n r lf A => ?_ | refine m_word M A.put29 (by omega) fun v c s H n r lf A => ?_ | refine m_load M A _ (by omega) fun v s H n r lf A => ?_ | refine m_load M A.put29 _ (by omega) fun v s H n r lf A => ?_ | refine m_store M A _ _ (by omega) fun s H n r lf A => ?_ | refine m_store M A.put29 _ _ (by omega) fun s H n r lf A => ?_ | refine m_push M A _ (by omega) fun c s H n r lf A => ?_ | refine m_push M A.put29 _ (by omega) fun c s H n r lf A => ?_ | refine m_pop M A (by omega) fun v c s H n r lf A => ?_ | refine m_pop M A.put29 (by omega) fun v c s H n r lf A => ?_ | refine m_pointed M A (by omega) fun v p w q s H n r lf A => ?_ | refine m_pointed M A.put29 (by omega) fun v p w q s H n r lf A => ?_ | refine m_setpair A 2 (by decide) _ fun H n A => ?_ | refine m_setpair A.put29 2 (by decide) _ fun H n A => ?_ | refine m_setpair A 1 (by decide) _ fun H n A => ?_ | refine m_setpair A.put29 1 (by decide) _ fun H n A => ?_ | refine m_setpair A 0 (by decide) _ fun H n A => ?_ | refine m_setpair A.put29 0 (by decide) _ fun H n A => ?_ | refine m_setpair A _ (by (first | decide | exact pushed_lt (by have := yO_lt op; omega) | exact yO_lt op | exact zO_lt op | (have := yO_lt op; have := zO_lt op; omega))) _ fun H n A => ?_ | refine m_setpair A.put29 _ (by (first | decide | exact pushed_lt (by have := yO_lt op; omega) | exact yO_lt op | exact zO_lt op | (have := yO_lt op; have := zO_lt op; omega))) _ fun H n A => ?_ | refine m_setone A _ (by (first | decide | exact pushed_lt (by have := yO_lt op; omega) | exact yO_lt op | exact zO_lt op | (have := yO_lt op; have := zO_lt op; omega))) _ fun H n A => ?_ | refine m_setone A.put29 _ (by (first | decide | exact pushed_lt (by have := yO_lt op; omega) | exact yO_lt op | exact zO_lt op | (have := yO_lt op; have := zO_lt op; omega))) _ fun H n A => ?_ | refine m_to A _ fun H n A => ?_ | refine m_to A.put29 _ fun H n A => ?_ | refine m_told A _ fun H n A => ?_ | refine m_told A.put29 _ fun H n A => ?_ | refine A.rd (by omega) fun v s H n r lf A => ?_ | refine A.put29.rd (by omega) fun v s H n r lf A => ?_ | refine A.wr (by omega) fun s H n r lf A => ?_ | refine A.put29.wr (by omega) fun s H n r lf A => ?_ | refine A.ip (by decide) (by omega) fun v s H n r lf A => ?_ | refine A.put29.ip (by decide) (by omega) fun v s H n r lf A => ?_ | refine A.op (by decide) (by omega) fun s H n r lf A => ?_ | refine A.put29.op (by decide) (by omega) fun s H n r lf A => ?_); ((have hb := A.blk29; have hx := (up A).2.1; simp only [go_sem, hb, hx, hu, mr, mw, mi, mo, Rg.cells]))))
  all_goals first
    | (have hz : zO op = 5 := (by omega)
       (first | (refine Fin.keep (h _ _ _ _ _ ?_ (by omega) (up A).1); unfold countM; simp +decide only [hz, if_true, if_false]; (((repeat' first | assumption | (with_reducible rfl) | (refine Eff.run_of (by assumption) ?_; try dsimp only) | refine Eff.run_t (by (first | assumption | exact nF ‹_› | exact nT ‹_› | omega)) ?_ | refine Eff.run_f (by (first | assumption | exact nF ‹_› | exact nT ‹_› | omega)) ?_ | rfl); all_goals fail))) | (refine Fin.keep (h _ _ _ _ _ ?_ (by omega) (up A.put29).1); unfold countM; simp +decide only [hz, if_true, if_false]; (((repeat' first | assumption | (with_reducible rfl) | (refine Eff.run_of (by assumption) ?_; try dsimp only) | refine Eff.run_t (by (first | assumption | exact nF ‹_› | exact nT ‹_› | omega)) ?_ | refine Eff.run_f (by (first | assumption | exact nF ‹_› | exact nT ‹_› | omega)) ?_ | rfl); all_goals fail)))))
    | (have hz : ¬ zO op = 5 := (by omega)
       (first | (refine Fin.keep (h _ _ _ _ _ ?_ (by omega) (up A).1); unfold countM; simp +decide only [hz, if_true, if_false]; (((repeat' first | assumption | (with_reducible rfl) | (refine Eff.run_of (by assumption) ?_; try dsimp only) | refine Eff.run_t (by (first | assumption | exact nF ‹_› | exact nT ‹_› | omega)) ?_ | refine Eff.run_f (by (first | assumption | exact nF ‹_› | exact nT ‹_› | omega)) ?_ | rfl); all_goals fail))) | (refine Fin.keep (h _ _ _ _ _ ?_ (by omega) (up A.put29).1); unfold countM; simp +decide only [hz, if_true, if_false]; (((repeat' first | assumption | (with_reducible rfl) | (refine Eff.run_of (by assumption) ?_; try dsimp only) | refine Eff.run_t (by (first | assumption | exact nF ‹_› | exact nT ‹_› | omega)) ?_ | refine Eff.run_f (by (first | assumption | exact nF ‹_› | exact nT ‹_› | omega)) ?_ | rfl); all_goals fail)))))
end
end Go.Proofs.Joy
namespace Go.Proofs.Joy
open Go.Ab Go.Proofs

set_option maxHeartbeats 4000000
set_option maxRecDepth 20000
section
variable {σ : Type} {W : WC Try.prog σ} {t : TypeId} {H0 : Heap} {n0 : Nat} {F0 : Nat → Prop} {k : Nat} {c : Core} {s : σ} {H : Heap} {n : Nat} {K : AV → Heap → Nat → Prop} (M : MT W t)
include M
theorem m_low (A : AtC W t H0 n0 F0 k c s H n) (op : BitVec 8) (hl : 4 ≤ W.left s) (h : ∀ (v : Nat) c' s' H' n', (lowM op c).run W.O s = ((v, c'), s') → W.left s ≤ W.left s' + 4 → AtC W t H0 n0 F0 k c' s' H' n' → K (.i64 v) H' n') : ACalls Try.prog 41 [.pt k 0, .ag [.i64 (xO op), .i64 (yO op), .i64 (zO op), .i64 (yO op / 2 : Nat), .i64 (yO op % 2 : Nat)]] H n K := by
  refine ACalls.of_awp Try.func41 rfl (by decide +kernel) (show 2 ≤ 120 by decide) (by simp) fun wf => ?_
  obtain ⟨F1, A, up⟩ := A.boxed ⟨[.i64 (xO op), .i64 (yO op), .i64 (zO op), .i64 (yO op / 2 : Nat), .i64 (yO op % 2 : Nat)], 53, false⟩ (by simp [AV.ok])
  have hb := A.blk29
  have hk := (up A).2.2.1
  have hu := fun X Y => Heap.upd_ne X Y hk
  have mr := M.r
  have mw := M.w
  have mi := M.i
  have mo := M.o
  refine awp_ev dr41 (by decide +kernel) ?_
  simp only [go_sem, Try.f41, hb, hu]
  (repeat' first | (((with_reducible refine And.intro ?_ ?_) <;> intro e <;> (first | (with_reducible replace e := nbT e) | (with_reducible replace e := nbF e) | (with_reducible replace e := dT e) | (with_reducible replace e := dF e) | (with_reducible replace e := iT e) | (with_reducible replace e := iF e) | skip) <;> (try (exfalso; omega)))) | ((with_reducible first | refine c_join _ _ _ _ _ ?_ | refine c_split _ _ _ _ ?_ | refine c_move _ _ _ _ _ ?_ | refine c_cut _ _ _ _ ?_ | refine c_do _ _ _ _ _ _ _ ?_ | refine c_daa _ _ _ _ _ ?_ | refine c_flip _ _ _ _ _ _ ?_ | refine c_quick _ _ _ _ _ _ ?_ | refine c_add16 _ _ _ _ _ _ ?_ | refine c_adc16 _ _ _ _ _ _ ?_ | refine c_sbc16 _ _ _ _ _ _ ?_ | refine c_rot _ _ _ _ _ _ ?_ | refine c_bitt _ _ _ _ _ _ _ ?_ | refine c_put _ _ _ _ _ _ ?_ | refine c_digits _ _ _ _ _ _ _ ?_ | refine c_rload _ _ _ _ _ _ _ ?_ | refine c_rseek _ _ _ _ _ _ _ ?_ | refine c_rport _ _ _ _ _ _ ?_ | refine c_inc _ _ _ _ _ ?_ | refine c_dec _ _ _ _ _ ?_ | refine c_shape _ _ _ _ ?_ | refine c_sub _ _ _ _ _ _ ?_ | refine c_pushed _ _ _ _ ?_); ((have hb := A.blk29; have hx := (up A).2.1; simp only [go_sem, hb, hx, hu, mr, mw, mi, mo, Rg.cells]))) | ((first | refine c_longer _ 7 15 _ _ _ ?_ | refine c_longer _ 10 15 _ _ _ ?_ | refine c_longer _ 11 19 _ _ _ ?_ | refine c_swap ⟨_, _, _, _, _, _, _, _, _, _, _, _, _, _, _, _, _, _, _, _, _, _, _, _, _, _, _, _, _⟩ _ _ _ _ ?_ | refine c_tick ⟨_, _, _, _, _, _, _, _, _, _, _, _, _, _, _, _, _, _, _, _, _, _, _, _, _, _, _, _, _⟩ _ _ _ ?_ | refine c_setpair ⟨_, _, _, _, _, _, _, _, _, _, _, _, _, _, _, _, _, _, _, _, _, _, _, _, _, _, _, _, _⟩ 2 (by decide) _ _ _ _ ?_ | refine m_pair A 2 (by decide) ?_ | refine m_pair A 0 (by decide) ?_ | refine m_pair A 1 (by decide) ?_ | refine m_pair A _ (by (first | decide | exact pushed_lt (by have := yO_lt op; omega) | exact yO_lt op | exact zO_lt op | (have := yO_lt op; have := zO_lt op; omega))) ?_ | refine m_one A _ (by (first | decide | exact pushed_lt (by have := yO_lt op; omega) | exact yO_lt op | exact zO_lt op | (have := yO_lt op; have := zO_lt op; omega))) ?_ | refine c_met _ _ (by (first | decide | exact pushed_lt (by have := yO_lt op; omega) | exact yO_lt op | exact zO_lt op | (have := yO_lt op; have := zO_lt op; omega))) _ _ _ ?_ | refine m_pair A.put29 2 (by decide) ?_ | refine m_pair A.put29 0 (by decide) ?_ | refine m_pair A.put29 1 (by decide) ?_ | refine m_pair A.put29 _ (by (first | decide | exact pushed_lt (by have := yO_lt op; omega) | exact yO_lt op | exact zO_lt op | (have := yO_lt op; have := zO_lt op; omega))) ?_ | refine m_one A.put29 _ (by (first | decide | exact pushed_lt (by have := yO_lt op; omega) | exact yO_lt op | exact zO_lt op | (have := yO_lt op; have := zO_lt op; omega))) ?_); ((have hb := A.blk29; have hx := (up A).2.1; simp only [go_sem, hb, hx, hu, mr, mw, mi, mo, Rg.cells]))) | ((first | refine m_next M A (by omega) fun v s H n r lf A => ?_ | refine m_next M A.put29 (by omega) fun v s H n r lf A => ?_ | refine m_fetch M A (by omega) fun v c s H n r lf A => ?_ | refine m_fetch M A.put29 (by omega) fun v c s H n r lf A => ?_ | refine m_word M A (by omega) fun v c s H n r lf A => ?_ | refine m_word M A.put29 (by omega) fun v c s H n r lf A => ?_ | refine m_load M A _ (by omega) fun v s H n r lf A => ?_ | refine m_load M A.put29 _ (by omega) fun v s H n r lf A => ?_ | refine m_store M A _ _ (by omega) fun s H n r lf A => ?_ | refine m_store M A.put29 _ _ (by omega) fun s H n r lf A => ?_ | refine m_push M A _ (by omega) fun c s H n r lf A => ?_ | refine m_push M A.put29 _ (by omega) fun c s H n r lf A => ?_ | refine m_pop M A (by omega) fun v c s H n r lf A => ?_ | refine m_pop M A.put29 (by omega) fun v c s H n r lf A => ?_ | refine m_pointed M A (by omega) fun v p w q s H n r lf A => ?_ | refine m_pointed M A.put29 (by omega) fun v p w q s H n r lf A => ?_ | refine m_setpair A 2 (by decide) _ fun H n A => ?_ | refine m_setpair A.put29 2 (by decide) _ fun H n A => ?_ | refine m_setpair A 1 (by decide) _ fun H n A => ?_ | refine m_setpair A.put29 1 (by decide) _ fun H n A => ?_ | refine m_setpair A 0 (by decide) _ fun H n A => ?_ | refine m_setpair A.put29 0 (by decide) _ fun H n A => ?_ | refine m_setpair A _ (by (first | decide | exact pushed_lt (by have := yO_lt op; omega) | exact yO_lt op | exact zO_lt op | (have := yO_lt op; have := zO_lt op; omega))) _ fun H n A => ?_ | refine m_setpair A.put29 _ (by (first | decide | exact pushed_lt (by have := yO_lt op; omega) | exact yO_lt op | exact zO_lt op | (have := yO_lt op; have := zO_lt op; omega))) _ fun H n A => ?_ | refine m_setone A _ (by (first | decide | exact pushed_lt (by have := yO_lt op; omega) | exact yO_lt op | exact zO_lt op | (have := yO_lt op; have := zO_lt op; omega))) _ fun H n A => ?_ | refine m_setone A.put29 _ (by (first | decide | exact pushed_lt (by have := yO_lt op; omega) | exact yO_lt op | exact zO_lt op | (have := yO_lt op; have := zO_lt op; omega))) _ fun H n A => ?_ | refine m_to A _ fun H n A => ?_ | refine m_to A.put29 _ fun H n A => ?_ | refine m_told A _ fun H n A => ?_ | refine m_told A.put29 _ fun H n A => ?_ | refine A.rd (by omega) fun v s H n r lf A => ?_ | refine A.put29.rd (by omega) fun v s H n r lf A => ?_ | refine A.wr (by omega) fun s H n r lf A => ?_ | refine A.put29.wr (by omega) fun s H n r lf A => ?_ | refine A.ip (by decide) (by omega) fun v s H n r lf A => ?_ | refine A.put29.ip (by decide) (by omega) fun v s H n r lf A => ?_ | refine A.op (by decide) (by omega) fun s H n r lf A => ?_ | refine A.put29.op (by decide) (by omega) fun s H n r lf A => ?_); ((have hb := A.blk29; have hx := (up A).2.1; simp only [go_sem, hb, hx, hu, mr, mw, mi, mo, Rg.cells]))) | (refine m_quick A _ (by (first | decide | exact pushed_lt (by have := yO_lt op; omega) | exact yO_lt op | exact zO_lt op | (have := yO_lt op; have := zO_lt op; omega))) fun H n A => ?_; ((have hb := A.blk29; have hx := (up A).2.1; simp only [go_sem, hb, hx, hu, mr, mw, mi, mo, Rg.cells]))) | ((first | refine m_jump M A _ (by omega) fun v c s H n r lf A => ?_ | refine m_jump M A.put29 _ (by omega) fun v c s H n r lf A => ?_); ((have hb := A.blk29; have hx := (up A).2.1; simp only [go_sem, hb, hx, hu, mr, mw, mi, mo, Rg.cells]))) | ((first | refine m_there M A _ (by omega) fun v c s H n r lf A => ?_ | refine m_there M A.put29 _ (by omega) fun v c s H n r lf A => ?_); ((have hb := A.blk29; have hx := (up A).2.1; simp only [go_sem, hb, hx, hu, mr, mw, mi, mo, Rg.cells]))) | ((first | refine m_count M A _ (by omega) fun v c s H n r lf A => ?_ | refine m_count M A.put29 _ (by omega) fun v c s H n r lf A => ?_); ((have hb := A.blk29; have hx := (up A).2.1; simp only [go_sem, hb, hx, hu, mr, mw, mi, mo, Rg.cells]))))
  all_goals first
    | (first | (refine Fin.keep (h _ _ _ _ _ ?_ (by omega) (up A).1); unfold lowM; (((repeat' first | assumption | (with_reducible rfl) | (refine Eff.run_of (by assumption) ?_; try dsimp only) | refine Eff.run_t (by (first | assumption | exact nF ‹_› | exact nT ‹_› | omega)) ?_ | refine Eff.run_f (by (first | assumption | exact nF ‹_› | exact nT ‹_› | omega)) ?_ | rfl); all_goals fail))) | (refine Fin.keep (h _ _ _ _ _ ?_ (by omega) (up A.put29).1); unfold lowM; (((repeat' first | assumption | (with_reducible rfl) | (refine Eff.run_of (by assumption) ?_; try dsimp only) | refine Eff.run_t (by (first | assumption | exact nF ‹_› | exact nT ‹_› | omega)) ?_ | refine Eff.run_f (by (first | assumption | exact nF ‹_› | exact nT ‹_› | omega)) ?_ | rfl); all_goals fail))))
    | (have hq : yO op % 2 = 1 := (by omega)
       (first | (refine Fin.keep (h _ _ _ _ _ ?_ (by omega) (up A).1); unfold lowM; simp +decide only [hq, if_true, if_false]; (((repeat' first | assumption | (with_reducible rfl) | (refine Eff.run_of (by assumption) ?_; try dsimp only) | refine Eff.run_t (by (first | assumption | exact nF ‹_› | exact nT ‹_› | omega)) ?_ | refine Eff.run_f (by (first | assumption | exact nF ‹_› | exact nT ‹_› | omega)) ?_ | rfl); all_goals fail))) | (refine Fin.keep (h _ _ _ _ _ ?_ (by omega) (up A.put29).1); unfold lowM; simp +decide only [hq, if_true, if_false]; (((repeat' first | assumption | (with_reducible rfl) | (refine Eff.run_of (by assumption) ?_; try dsimp only) | refine Eff.run_t (by (first | assumption | exact nF ‹_› | exact nT ‹_› | omega)) ?_ | refine Eff.run_f (by (first | assumption | exact nF ‹_› | exact nT ‹_› | omega)) ?_ | rfl); all_goals fail)))))
    | (have hq : ¬ yO op % 2 = 1 := (by omega)
       (first | (refine Fin.keep (h _ _ _ _ _ ?_ (by omega) (up A).1); unfold lowM; simp +decide only [hq, if_true, if_false]; (((repeat' first | assumption | (with_reducible rfl) | (refine Eff.run_of (by assumption) ?_; try dsimp only) | refine Eff.run_t (by (first | assumption | exact nF ‹_› | exact nT ‹_› | omega)) ?_ | refine Eff.run_f (by (first | assumption | exact nF ‹_› | exact nT ‹_› | omega)) ?_ | rfl); all_goals fail))) | (refine Fin.keep (h _ _ _ _ _ ?_ (by omega) (up A.put29).1); unfold lowM; simp +decide only [hq, if_true, if_false]; (((repeat' first | assumption | (with_reducible rfl) | (refine Eff.run_of (by assumption) ?_; try dsimp only) | refine Eff.run_t (by (first | assumption | exact nF ‹_› | exact nT ‹_› | omega)) ?_ | refine Eff.run_f (by (first | assumption | exact nF ‹_› | exact nT ‹_› | omega)) ?_ | rfl); all_goals fail)))))
end
end Go.Proofs.Joy
namespace Go.Proofs.Joy
open Go.Ab Go.Proofs

set_option maxHeartbeats 4000000
set_option maxRecDepth 20000
section
variable {σ : Type} {W : WC Try.prog σ} {t : TypeId} {H0 : Heap} {n0 : Nat} {F0 : Nat → Prop} {k : Nat} {c : Core} {s : σ} {H : Heap} {n : Nat} {K : AV → Heap → Nat → Prop} (M : MT W t)
include M
theorem m_jumpto (A : AtC W t H0 n0 F0 k c s H n) (met : Bool) (hl : 4 ≤ W.left s) (h : ∀ c' s' H' n', (jumpToM met c).run W.O s = (((), c'), s') → W.left s ≤ W.left s' + 4 → AtC W t H0 n0 F0 k c' s' H' n' → K (.tu []) H' n') : ACalls Try.prog 73 [.pt k 0, .bo met] H n K := by
  refine ACalls.of_awp Try.func73 rfl (by decide +kernel) (show 2 ≤ 20 by decide) (by simp) fun wf => ?_
  have up : ∀ {c' : Core} {s' : σ} {H' : Heap} {n' : Nat}, AtC W t H0 n0 F0 k c' s' H' n' → AtC W t H0 n0 F0 k c' s' H' n' ∧ True ∧ True := fun X => ⟨X, trivial, trivial⟩
  have hu := True.intro
  have hb := A.blk29
  have mr := M.r
  have mw := M.w
  have mi := M.i
  have mo := M.o
  refine awp_ev dr0 (by decide +kernel) ?_
  simp only [go_sem, Try.f73, hb]
  (repeat' first | (((with_reducible refine And.intro ?_ ?_) <;> intro e <;> (first | (with_reducible replace e := nbT e) | (with_reducible replace e := nbF e) | (with_reducible replace e := dT e) | (with_reducible replace e := dF e) | (with_reducible replace e := iT e) | (with_reducible replace e := iF e) | skip) <;> (try (exfalso; omega)))) | ((with_reducible first | refine c_join _ _ _ _ _ ?_ | refine c_split _ _ _ _ ?_ | refine c_move _ _ _ _ _ ?_ | refine c_cut _ _ _ _ ?_ | refine c_do _ _ _ _ _ _ _ ?_ | refine c_daa _ _ _ _ _ ?_ | refine c_flip _ _ _ _ _ _ ?_ | refine c_quick _ _ _ _ _ _ ?_ | refine c_add16 _ _ _ _ _ _ ?_ | refine c_adc16 _ _ _ _ _ _ ?_ | refine c_sbc16 _ _ _ _ _ _ ?_ | refine c_rot _ _ _ _ _ _ ?_ | refine c_bitt _ _ _ _ _ _ _ ?_ | refine c_put _ _ _ _ _ _ ?_ | refine c_digits _ _ _ _ _ _ _ ?_ | refine c_rload _ _ _ _ _ _ _ ?_ | refine c_rseek _ _ _ _ _ _ _ ?_ | refine c_rport _ _ _ _ _ _ ?_ | refine c_inc _ _ _ _ _ ?_ | refine c_dec _ _ _ _ _ ?_ | refine c_shape _ _ _ _ ?_ | refine c_sub _ _ _ _ _ _ ?_ | refine c_pushed _ _ _ _ ?_); ((have hb := A.blk29; have hx := (up A).2.1; simp only [go_sem, hb, hx, hu, mr, mw, mi, mo, Rg.cells]))) | ((first | refine c_longer _ 7 15 _ _ _ ?_ | refine c_longer _ 10 15 _ _ _ ?_ | refine c_longer _ 11 19 _ _ _ ?_ | refine c_swap ⟨_, _, _, _, _, _, _, _, _, _, _, _, _, _, _, _, _, _, _, _, _, _, _, _, _, _, _, _, _⟩ _ _ _ _ ?_ | refine c_tick ⟨_, _, _, _, _, _, _, _, _, _, _, _, _, _, _, _, _, _, _, _, _, _, _, _, _, _, _, _, _⟩ _ _ _ ?_ | refine c_setpair ⟨_, _, _, _, _, _, _, _, _, _, _, _, _, _, _, _, _, _, _, _, _, _, _, _, _, _, _, _, _⟩ 2 (by decide) _ _ _ _ ?_ | refine m_pair A 2 (by decide) ?_ | refine m_pair A 0 (by decide) ?_ | refine m_pair A 1 (by decide) ?_ | refine m_pair A _ (by (first | decide | exact pushed_lt (by have := yO_lt op; omega) | exact yO_lt op | exact zO_lt op | (have := yO_lt op; have := zO_lt op; omega))) ?_ | refine m_one A _ (by (first | decide | exact pushed_lt (by have := yO_lt op; omega) | exact yO_lt op | exact zO_lt op | (have := yO_lt op; have := zO_lt op; omega))) ?_ | refine c_met _ _ (by (first | decide | exact pushed_lt (by have := yO_lt op; omega) | exact yO_lt op | exact zO_lt op | (have := yO_lt op; have := zO_lt op; omega))) _ _ _ ?_ | refine m_pair A.put29 2 (by decide) ?_ | refine m_pair A.put29 0 (by decide) ?_ | refine m_pair A.put29 1 (by decide) ?_ | refine m_pair A.put29 _ (by (first | decide | exact pushed_lt (by have := yO_lt op; omega) | exact yO_lt op | exact zO_lt op | (have := yO_lt op; have := zO_lt op; omega))) ?_ | refine m_one A.put29 _ (by (first | decide | exact pushed_lt (by have := yO_lt op; omega) | exact yO_lt op | exact zO_lt op | (have := yO_lt op; have := zO_lt op; omega))) ?_); ((have hb := A.blk29; have hx := (up A).2.1; simp only [go_sem, hb, hx, hu, mr, mw, mi, mo, Rg.cells]))) | ((first | refine m_next M A (by omega) fun v s H n r lf A => ?_ | refine m_next M A.put29 (by omega) fun v s H n r lf A => ?_ | refine m_fetch M A (by omega) fun v c s H n r lf A => ?_ | refine m_fetch M A.put29 (by omega) fun v c s H n r lf A => ?_ | refine m_word M A (by omega) fun v c s H n r lf A => ?_ | refine m_word M A.put29 (by omega) fun v c s H n r lf A => ?_ | refine m_load M A _ (by omega) fun v s H n r lf A => ?_ | refine m_load M A.put29 _ (by omega) fun v s H n r lf A => ?_ | refine m_store M A _ _ (by omega) fun s H n r lf A => ?_ | refine m_store M A.put29 _ _ (by omega) fun s H n r lf A => ?_ | refine m_push M A _ (by omega) fun c s H n r lf A => ?_ | refine m_push M A.put29 _ (by omega) fun c s H n r lf A => ?_ | refine m_pop M A (by omega) fun v c s H n r lf A => ?_ | refine m_pop M A.put29 (by omega) fun v c s H n r lf A => ?_ | refine m_pointed M A (by omega) fun v p w q s H n r lf A => ?_ | refine m_pointed M A.put29 (by omega) fun v p w q s H n r lf A => ?_ | refine m_setpair A 2 (by decide) _ fun H n A => ?_ | refine m_setpair A.put29 2 (by decide) _ fun H n A => ?_ | refine m_setpair A 1 (by decide) _ fun H n A => ?_ | refine m_setpair A.put29 1 (by decide) _ fun H n A => ?_ | refine m_setpair A 0 (by decide) _ fun H n A => ?_ | refine m_setpair A.put29 0 (by decide) _ fun H n A => ?_ | refine m_setpair A _ (by (first | decide | exact pushed_lt (by have := yO_lt op; omega) | exact yO_lt op | exact zO_lt op | (have := yO_lt op; have := zO_lt op; omega))) _ fun H n A => ?_ | refine m_setpair A.put29 _ (by (first | decide | exact pushed_lt (by have := yO_lt op; omega) | exact yO_lt op | exact zO_lt op | (have := yO_lt op; have := zO_lt op; omega))) _ fun H n A => ?_ | refine m_setone A _ (by (first | decide | exact pushed_lt (by have := yO_lt op; omega) | exact yO_lt op | exact zO_lt op | (have := yO_lt op; have := zO_lt op; omega))) _ fun H n A => ?_ | refine m_setone A.put29 _ (by (first | decide | exact pushed_lt (by have := yO_lt op; omega) | exact yO_lt op | exact zO_lt op | (have := yO_lt op; have := zO_lt op; omega))) _ fun H n A => ?_ | refine m_to A _ fun H n A => ?_ | refine m_to A.put29 _ fun H n A => ?_ | refine m_told A _ fun H n A => ?_ | refine m_told A.put29 _ fun H n A => ?_ | refine A.rd (by omega) fun v s H n r lf A => ?_ | refine A.put29.rd (by omega) fun v s H n r lf A => ?_ | refine A.wr (by omega) fun s H n r lf A => ?_ | refine A.put29.wr (by omega) fun s H n r lf A => ?_ | refine A.ip (by decide) (by omega) fun v s H n r lf A => ?_ | refine A.put29.ip (by decide) (by omega) fun v s H n r lf A => ?_ | refine A.op (by decide) (by omega) fun s H n r lf A => ?_ | refine A.put29.op (by decide) (by omega) fun s H n r lf A => ?_); ((have hb := A.blk29; have hx := (up A).2.1; simp only [go_sem, hb, hx, hu, mr, mw, mi, mo, Rg.cells]))) | ((first | refine m_jumpto M A _ (by omega) fun c s H n r lf A => ?_ | refine m_call M A _ (by omega) fun v c s H n r lf A => ?_ | refine m_back M A _ (by omega) fun v c s H n r lf A => ?_ | refine m_others M A _ (by omega) fun v c s H n r lf A => ?_); ((have hb := A.blk29; have hx := (up A).2.1; simp only [go_sem, hb, hx, hu, mr, mw, mi, mo, Rg.cells]))))
  · exact Fin.keep (h _ _ _ _ (by unfold jumpToM; simp only [e, if_true]; (((repeat' first | assumption | (with_reducible rfl) | (refine Eff.run_of (by assumption) ?_; try dsimp only) | refine Eff.run_t (by (first | assumption | exact nF ‹_› | exact nT ‹_› | omega)) ?_ | refine Eff.run_f (by (first | assumption | exact nF ‹_› | exact nT ‹_› | omega)) ?_ | rfl); all_goals fail))) (by omega) (up A.put29).1)
  · exact Fin.keep (h _ _ _ _ (by unfold jumpToM; simp only [e, Bool.false_eq_true, if_false]; (((repeat' first | assumption | (with_reducible rfl) | (refine Eff.run_of (by assumption) ?_; try dsimp only) | refine Eff.run_t (by (first | assumption | exact nF ‹_› | exact nT ‹_› | omega)) ?_ | refine Eff.run_f (by (first | assumption | exact nF ‹_› | exact nT ‹_› | omega)) ?_ | rfl); all_goals fail))) (by omega) (up A.put29).1)
theorem m_call (A : AtC W t H0 n0 F0 k c s H n) (met : Bool) (hl : 4 ≤ W.left s) (h : ∀ (v : Nat) c' s' H' n', (callM met c).run W.O s = ((v, c'), s') → W.left s ≤ W.left s' + 4 → AtC W t H0 n0 F0 k c' s' H' n' → K (.i64 v) H' n') : ACalls Try.prog 75 [.pt k 0, .bo met] H n K := by
  refine ACalls.of_awp Try.func75 rfl (by decide +kernel) (show 2 ≤ 29 by decide) (by simp) fun wf => ?_
  have up : ∀ {c' : Core} {s' : σ} {H' : Heap} {n' : Nat}, AtC W t H0 n0 F0 k c' s' H' n' → AtC W t H0 n0 F0 k c' s' H' n' ∧ True ∧ True := fun X => ⟨X, trivial, trivial⟩
  have hu := True.intro
  have hb := A.blk29
  have mr := M.r
  have mw := M.w
  have mi := M.i
  have mo := M.o
  refine awp_ev dr0 (by decide +kernel) ?_
  simp only [go_sem, Try.f75, hb]
  (repeat' first | (((with_reducible refine And.intro ?_ ?_) <;> intro e <;> (first | (with_reducible replace e := nbT e) | (with_reducible replace e := nbF e) | (with_reducible replace e := dT e) | (with_reducible replace e := dF e) | (with_reducible replace e := iT e) | (with_reducible replace e := iF e) | skip) <;> (try (exfalso; omega)))) | ((with_reducible first | refine c_join _ _ _ _ _ ?_ | refine c_split _ _ _ _ ?_ | refine c_move _ _ _ _ _ ?_ | refine c_cut _ _ _ _ ?_ | refine c_do _ _ _ _ _ _ _ ?_ | refine c_daa _ _ _ _ _ ?_ | refine c_flip _ _ _ _ _ _ ?_ | refine c_quick _ _ _ _ _ _ ?_ | refine c_add16 _ _ _ _ _ _ ?_ | refine c_adc16 _ _ _ _ _ _ ?_ | refine c_sbc16 _ _ _ _ _ _ ?_ | refine c_rot _ _ _ _ _ _ ?_ | refine c_bitt _ _ _ _ _ _ _ ?_ | refine c_put _ _ _ _ _ _ ?_ | refine c_digits _ _ _ _ _ _ _ ?_ | refine c_rload _ _ _ _ _ _ _ ?_ | refine c_rseek _ _ _ _ _ _ _ ?_ | refine c_rport _ _ _ _ _ _ ?_ | refine c_inc _ _ _ _ _ ?_ | refine c_dec _ _ _ _ _ ?_ | refine c_shape _ _ _ _ ?_ | refine c_sub _ _ _ _ _ _ ?_ | refine c_pushed _ _ _ _ ?_); ((have hb := A.blk29; have hx := (up A).2.1; simp only [go_sem, hb, hx, hu, mr, mw, mi, mo, Rg.cells]))) | ((first | refine c_longer _ 7 15 _ _ _ ?_ | refine c_longer _ 10 15 _ _ _ ?_ | refine c_longer _ 11 19 _ _ _ ?_ | refine c_swap ⟨_, _, _, _, _, _, _, _, _, _, _, _, _, _, _, _, _, _, _, _, _, _, _, _, _, _, _, _, _⟩ _ _ _ _ ?_ | refine c_tick ⟨_, _, _, _, _, _, _, _, _, _, _, _, _, _, _, _, _, _, _, _, _, _, _, _, _, _, _, _, _⟩ _ _ _ ?_ | refine c_setpair ⟨_, _, _, _, _, _, _, _, _, _, _, _, _, _, _, _, _, _, _, _, _, _, _, _, _, _, _, _, _⟩ 2 (by decide) _ _ _ _ ?_ | refine m_pair A 2 (by decide) ?_ | refine m_pair A 0 (by decide) ?_ | refine m_pair A 1 (by decide) ?_ | refine m_pair A _ (by (first | decide | exact pushed_lt (by have := yO_lt op; omega) | exact yO_lt op | exact zO_lt op | (have := yO_lt op; have := zO_lt op; omega))) ?_ | refine m_one A _ (by (first | decide | exact pushed_lt (by have := yO_lt op; omega) | exact yO_lt op | exact zO_lt op | (have := yO_lt op; have := zO_lt op; omega))) ?_ | refine c_met _ _ (by (first | decide | exact pushed_lt (by have := yO_lt op; omega) | exact yO_lt op | exact zO_lt op | (have := yO_lt op; have := zO_lt op; omega))) _ _ _ ?_ | refine m_pair A.put29 2 (by decide) ?_ | refine m_pair A.put29 0 (by decide) ?_ | refine m_pair A.put29 1 (by decide) ?_ | refine m_pair A.put29 _ (by (first | decide | exact pushed_lt (by have := yO_lt op; omega) | exact yO_lt op | exact zO_lt op | (have := yO_lt op; have := zO_lt op; omega))) ?_ | refine m_one A.put29 _ (by (first | decide | exact pushed_lt (by have := yO_lt op; omega) | exact yO_lt op | exact zO_lt op | (have := yO_lt op; have := zO_lt op; omega))) ?_); ((have hb := A.blk29; have hx := (up A).2.1; simp only [go_sem, hb, hx, hu, mr, mw, mi, mo, Rg.cells]))) | ((first | refine m_next M A (by omega) fun v s H n r lf A => ?_ | refine m_next M A.put29 (by omega) fun v s H n r lf A => ?_ | refine m_fetch M A (by omega) fun v c s H n r lf A => ?_ | refine m_fetch M A.put29 (by omega) fun v c s H n r lf A => ?_ | refine m_word M A (by omega) fun v c s H n r lf A => ?_ | refine m_word M A.put29 (by omega) fun v c s H n r lf A => ?_ | refine m_load M A _ (by omega) fun v s H n r lf A => ?_ | refine m_load M A.put29 _ (by omega) fun v s H n r lf A => ?_ | refine m_store M A _ _ (by omega) fun s H n r lf A => ?_ | refine m_store M A.put29 _ _ (by omega) fun s H n r lf A => ?_ | refine m_push M A _ (by omega) fun c s H n r lf A => ?_ | refine m_push M A.put29 _ (by omega) fun c s H n r lf A => ?_ | refine m_pop M A (by omega) fun v c s H n r lf A => ?_ | refine m_pop M A.put29 (by omega) fun v c s H n r lf A => ?_ | refine m_pointed M A (by omega) fun v p w q s H n r lf A => ?_ | refine m_pointed M A.put29 (by omega) fun v p w q s H n r lf A => ?_ | refine m_setpair A 2 (by decide) _ fun H n A => ?_ | refine m_setpair A.put29 2 (by decide) _ fun H n A => ?_ | refine m_setpair A 1 (by decide) _ fun H n A => ?_ | refine m_setpair A.put29 1 (by decide) _ fun H n A => ?_ | refine m_setpair A 0 (by decide) _ fun H n A => ?_ | refine m_setpair A.put29 0 (by decide) _ fun H n A => ?_ | refine m_setpair A _ (by (first | decide | exact pushed_lt (by have := yO_lt op; omega) | exact yO_lt op | exact zO_lt op | (have := yO_lt op; have := zO_lt op; omega))) _ fun H n A => ?_ | refine m_setpair A.put29 _ (by (first | decide | exact pushed_lt (by have := yO_lt op; omega) | exact yO_lt op | exact zO_lt op | (have := yO_lt op; have := zO_lt op; omega))) _ fun H n A => ?_ | refine m_setone A _ (by (first | decide | exact pushed_lt (by have := yO_lt op; omega) | exact yO_lt op | exact zO_lt op | (have := yO_lt op; have := zO_lt op; omega))) _ fun H n A => ?_ | refine m_setone A.put29 _ (by (first | decide | exact pushed_lt (by have := yO_lt op; omega) | exact yO_lt op | exact zO_lt op | (have := yO_lt op; have := zO_lt op; omega))) _ fun H n A => ?_ | refine m_to A _ fun H n A => ?_ | refine m_to A.put29 _ fun H n A => ?_ | refine m_told A _ fun H n A => ?_ | refine m_told A.put29 _ fun H n A => ?_ | refine A.rd (by omega) fun v s H n r lf A => ?_ | refine A.put29.rd (by omega) fun v s H n r lf A => ?_ | refine A.wr (by omega) fun s H n r lf A => ?_ | refine A.put29.wr (by omega) fun s H n r lf A => ?_ | refine A.ip (by decide) (by omega) fun v s H n r lf A => ?_ | refine A.put29.ip (by decide) (by omega) fun v s H n r lf A => ?_ | refine A.op (by decide) (by omega) fun s H n r lf A => ?_ | refine A.put29.op (by decide) (by omega) fun s H n r lf A => ?_); ((have hb := A.blk29; have hx := (up A).2.1; simp only [go_sem, hb, hx, hu, mr, mw, mi, mo, Rg.cells]))) | ((first | refine m_jumpto M A _ (by omega) fun c s H n r lf A => ?_ | refine m_call M A _ (by omega) fun v c s H n r lf A => ?_ | refine m_back M A _ (by omega) fun v c s H n r lf A => ?_ | refine m_others M A _ (by omega) fun v c s H n r lf A => ?_); ((have hb := A.blk29; have hx := (up A).2.1; simp only [go_sem, hb, hx, hu, mr, mw, mi, mo, Rg.cells]))))
  all_goals (first | (refine Fin.keep (h _ _ _ _ _ ?_ (by omega) (up A).1); unfold callM; (((repeat' first | assumption | (with_reducible rfl) | (refine Eff.run_of (by assumption) ?_; try dsimp only) | refine Eff.run_t (by (first | assumption | exact nF ‹_› | exact nT ‹_› | omega)) ?_ | refine Eff.run_f (by (first | assumption | exact nF ‹_› | exact nT ‹_› | omega)) ?_ | rfl); all_goals fail))) | (refine Fin.keep (h _ _ _ _ _ ?_ (by omega) (up A.put29).1); unfold callM; (((repeat' first | assumption | (with_reducible rfl) | (refine Eff.run_of (by assumption) ?_; try dsimp only) | refine Eff.run_t (by (first | assumption | exact nF ‹_› | exact nT ‹_› | omega)) ?_ | refine Eff.run_f (by (first | assumption | exact nF ‹_› | exact nT ‹_› | omega)) ?_ | rfl); all_goals fail))))
theorem m_back (A : AtC W t H0 n0 F0 k c s H n) (op : BitVec 8) (hl : 4 ≤ W.left s) (h : ∀ (v : Nat) c' s' H' n', (backM op c).run W.O s = ((v, c'), s') → W.left s ≤ W.left s' + 4 → AtC W t H0 n0 F0 k c' s' H' n' → K (.i64 v) H' n') : ACalls Try.prog 72 [.pt k 0, .ag [.i64 (xO op), .i64 (yO op), .i64 (zO op), .i64 (yO op / 2 : Nat), .i64 (yO op % 2 : Nat)]] H n K := by
  refine ACalls.of_awp Try.func72 rfl (by decide +kernel) (show 2 ≤ 47 by decide) (by simp) fun wf => ?_
  obtain ⟨F1, A, up⟩ := A.boxed ⟨[.i64 (xO op), .i64 (yO op), .i64 (zO op), .i64 (yO op / 2 : Nat), .i64 (yO op % 2 : Nat)], 53, false⟩ (by simp [AV.ok])
  have hb := A.blk29
  have hk := (up A).2.2.1
  have hu := fun X Y => Heap.upd_ne X Y hk
  have mr := M.r
  have mw := M.w
  have mi := M.i
  have mo := M.o
  refine awp_ev dr0 (by decide +kernel) ?_
  simp only [go_sem, Try.f72, hb, hu]
  (repeat' first | (((with_reducible refine And.intro ?_ ?_) <;> intro e <;> (first | (with_reducible replace e := nbT e) | (with_reducible replace e := nbF e) | (with_reducible replace e := dT e) | (with_reducible replace e := dF e) | (with_reducible replace e := iT e) | (with_reducible replace e := iF e) | skip) <;> (try (exfalso; omega)))) | ((with_reducible first | refine c_join _ _ _ _ _ ?_ | refine c_split _ _ _ _ ?_ | refine c_move _ _ _ _ _ ?_ | refine c_cut _ _ _ _ ?_ | refine c_do _ _ _ _ _ _ _ ?_ | refine c_daa _ _ _ _ _ ?_ | refine c_flip _ _ _ _ _ _ ?_ | refine c_quick _ _ _ _ _ _ ?_ | refine c_add16 _ _ _ _ _ _ ?_ | refine c_adc16 _ _ _ _ _ _ ?_ | refine c_sbc16 _ _ _ _ _ _ ?_ | refine c_rot _ _ _ _ _ _ ?_ | refine c_bitt _ _ _ _ _ _ _ ?_ | refine c_put _ _ _ _ _ _ ?_ | refine c_digits _ _ _ _ _ _ _ ?_ | refine c_rload _ _ _ _ _ _ _ ?_ | refine c_rseek _ _ _ _ _ _ _ ?_ | refine c_rport _ _ _ _ _ _ ?_ | refine c_inc _ _ _ _ _ ?_ | refine c_dec _ _ _ _ _ ?_ | refine c_shape _ _ _ _ ?_ | refine c_sub _ _ _ _ _ _ ?_ | refine c_pushed _ _ _ _ ?_); ((have hb := A.blk29; have hx := (up A).2.1; simp only [go_sem, hb, hx, hu, mr, mw, mi, mo, Rg.cells]))) | ((first | refine c_longer _ 7 15 _ _ _ ?_ | refine c_longer _ 10 15 _ _ _ ?_ | refine c_longer _ 11 19 _ _ _ ?_ | refine c_swap ⟨_, _, _, _, _, _, _, _, _, _, _, _, _, _, _, _, _, _, _, _, _, _, _, _, _, _, _, _, _⟩ _ _ _ _ ?_ | refine c_tick ⟨_, _, _, _, _, _, _, _, _, _, _, _, _, _, _, _, _, _, _, _, _, _, _, _, _, _, _, _, _⟩ _ _ _ ?_ | refine c_setpair ⟨_, _, _, _, _, _, _, _, _, _, _, _, _, _, _, _, _, _, _, _, _, _, _, _, _, _, _, _, _⟩ 2 (by decide) _ _ _ _ ?_ | refine m_pair A 2 (by decide) ?_ | refine m_pair A 0 (by decide) ?_ | refine m_pair A 1 (by decide) ?_ | refine m_pair A _ (by (first | decide | exact pushed_lt (by have := yO_lt op; omega) | exact yO_lt op | exact zO_lt op | (have := yO_lt op; have := zO_lt op; omega))) ?_ | refine m_one A _ (by (first | decide | exact pushed_lt (by have := yO_lt op; omega) | exact yO_lt op | exact zO_lt op | (have := yO_lt op; have := zO_lt op; omega))) ?_ | refine c_met _ _ (by (first | decide | exact pushed_lt (by have := yO_lt op; omega) | exact yO_lt op | exact zO_lt op | (have := yO_lt op; have := zO_lt op; omega))) _ _ _ ?_ | refine m_pair A.put29 2 (by decide) ?_ | refine m_pair A.put29 0 (by decide) ?_ | refine m_pair A.put29 1 (by decide) ?_ | refine m_pair A.put29 _ (by (first | decide | exact pushed_lt (by have := yO_lt op; omega) | exact yO_lt op | exact zO_lt op | (have := yO_lt op; have := zO_lt op; omega))) ?_ | refine m_one A.put29 _ (by (first | decide | exact pushed_lt (by have := yO_lt op; omega) | exact yO_lt op | exact zO_lt op | (have := yO_lt op; have := zO_lt op; omega))) ?_); ((have hb := A.blk29; have hx := (up A).2.1; simp only [go_sem, hb, hx, hu, mr, mw, mi, mo, Rg.cells]))) | ((first | refine m_next M A (by omega) fun v s H n r lf A => ?_ | refine m_next M A.put29 (by omega) fun v s H n r lf A => ?_ | refine m_fetch M A (by omega) fun v c s H n r lf A => ?_ | refine m_fetch M A.put29 (by omega) fun v c s H n r lf A => ?_ | refine m_word M A (by omega) fun v c s H n r lf A => ?_ | refine m_word M A.put29 (by omega) fun v c s H n r lf A => ?_ | refine m_load M A _ (by omega) fun v s H n r lf A => ?_ | refine m_load M A.put29 _ (by omega) fun v s H n r lf A => ?_ | refine m_store M A _ _ (by omega) fun s H n r lf A => ?_ | refine m_store M A.put29 _ _ (by omega) fun s H n r lf A => ?_ | refine m_push M A _ (by omega) fun c s H n r lf A => ?_ | refine m_push M A.put29 _ (by omega) fun c s H n r lf A => ?_ | refine m_pop M A (by omega) fun v c s H n r lf A => ?_ | refine m_pop M A.put29 (by omega) fun v c s H n r lf A => ?_ | refine m_pointed M A (by omega) fun v p w q s H n r lf A => ?_ | refine m_pointed M A.put29 (by omega) fun v p w q s H n r lf A => ?_ | refine m_setpair A 2 (by decide) _ fun H n A => ?_ | refine m_setpair A.put29 2 (by decide) _ fun H n A => ?_ | refine m_setpair A 1 (by decide) _ fun H n A => ?_ | refine m_setpair A.put29 1 (by decide) _ fun H n A => ?_ | refine m_setpair A 0 (by decide) _ fun H n A => ?_ | refine m_setpair A.put29 0 (by decide) _ fun H n A => ?_ | refine m_setpair A _ (by (first | decide | exact pushed_lt (by have := yO_lt op; omega) | exact yO_lt op | exact zO_lt op | (have := yO_lt op; have := zO_lt op; omega))) _ fun H n A => ?_ | refine m_setpair A.put29 _ (by (first | decide | exact pushed_lt (by have := yO_lt op; omega) | exact yO_lt op | exact zO_lt op | (have := yO_lt op; have := zO_lt op; omega))) _ fun H n A => ?_ | refine m_setone A _ (by (first | decide | exact pushed_lt (by have := yO_lt op; omega) | exact yO_lt op | exact zO_lt op | (have := yO_lt op; have := zO_lt op; omega))) _ fun H n A => ?_ | refine m_setone A.put29 _ (by (first | decide | exact pushed_lt (by have := yO_lt op; omega) | exact yO_lt op | exact zO_lt op | (have := yO_lt op; have := zO_lt op; omega))) _ fun H n A => ?_ | refine m_to A _ fun H n A => ?_ | refine m_to A.put29 _ fun H n A => ?_ | refine m_told A _ fun H n A => ?_ | refine m_told A.put29 _ fun H n A => ?_ | refine A.rd (by omega) fun v s H n r lf A => ?_ | refine A.put29.rd (by omega) fun v s H n r lf A => ?_ | refine A.wr (by omega) fun s H n r lf A => ?_ | refine A.put29.wr (by omega) fun s H n r lf A => ?_ | refine A.ip (by decide) (by omega) fun v s H n r lf A => ?_ | refine A.put29.ip (by decide) (by omega) fun v s H n r lf A => ?_ | refine A.op (by decide) (by omega) fun s H n r lf A => ?_ | refine A.put29.op (by decide) (by omega) fun s H n r lf A => ?_); ((have hb := A.blk29; have hx := (up A).2.1; simp only [go_sem, hb, hx, hu, mr, mw, mi, mo, Rg.cells]))) | ((first | refine m_jumpto M A _ (by omega) fun c s H n r lf A => ?_ | refine m_call M A _ (by omega) fun v c s H n r lf A => ?_ | refine m_back M A _ (by omega) fun v c s H n r lf A => ?_ | refine m_others M A _ (by omega) fun v c s H n r lf A => ?_); ((have hb := A.blk29; have hx := (up A).2.1; simp only [go_sem, hb, hx, hu, mr, mw, mi, mo, Rg.cells]))))
  all_goals (first | (refine Fin.keep (h _ _ _ _ _ ?_ (by omega) (up A).1); unfold backM; (((repeat' first | assumption | (with_reducible rfl) | (refine Eff.run_of (by assumption) ?_; try dsimp only) | refine Eff.run_t (by (first | assumption | exact nF ‹_› | exact nT ‹_› | omega)) ?_ | refine Eff.run_f (by (first | assumption | exact nF ‹_› | exact nT ‹_› | omega)) ?_ | rfl); all_goals fail))) | (refine Fin.keep (h _ _ _ _ _ ?_ (by omega) (up A.put29).1); unfold backM; (((repeat' first | assumption | (with_reducible rfl) | (refine Eff.run_of (by assumption) ?_; try dsimp only) | refine Eff.run_t (by (first | assumption | exact nF ‹_› | exact nT ‹_› | omega)) ?_ | refine Eff.run_f (by (first | assumption | exact nF ‹_› | exact nT ‹_› | omega)) ?_ | rfl); all_goals fail))))
end
section
variable {σ : Type} {W : WC Try.prog σ} {t : TypeId} {H0 : Heap} {n0 : Nat} {F0 : Nat → Prop} {k : Nat} {c : Core} {s : σ} {H : Heap} {n : Nat} {K : AV → Heap → Nat → Prop} (M : MT W t)
include M
theorem m_others (A : AtC W t H0 n0 F0 k c s H n) (op : BitVec 8) (hl : 4 ≤ W.left s) (h : ∀ (v : Nat) c' s' H' n', (othersM op c).run W.O s = ((v, c'), s') → W.left s ≤ W.left s' + 4 → AtC W t H0 n0 F0 k c' s' H' n' → K (.i64 v) H' n') : ACalls Try.prog 74 [.pt k 0, .ag [.i64 (xO op), .i64 (yO op), .i64 (zO op), .i64 (yO op / 2 : Nat), .i64 (yO op % 2 : Nat)]] H n K := by
  refine ACalls.of_awp Try.func74 rfl (by decide +kernel) (show 2 ≤ 162 by decide) (by simp) fun wf => ?_
  obtain ⟨F1, A, up⟩ := A.boxed ⟨[.i64 (xO op), .i64 (yO op), .i64 (zO op), .i64 (yO op / 2 : Nat), .i64 (yO op % 2 : Nat)], 53, false⟩ (by simp [AV.ok])
  have hb := A.blk29
  have hk := (up A).2.2.1
  have hu := fun X Y => Heap.upd_ne X Y hk
  have mr := M.r
  have mw := M.w
  have mi := M.i
  have mo := M.o
  refine awp_ev dr74 (by decide +kernel) ?_
  simp only [go_sem, Try.f74, hb, hu]
  (repeat' first | (((with_reducible refine And.intro ?_ ?_) <;> intro e <;> (first | (with_reducible replace e := nbT e) | (with_reducible replace e := nbF e) | (with_reducible replace e := dT e) | (with_reducible replace e := dF e) | (with_reducible replace e := iT e) | (with_reducible replace e := iF e) | skip) <;> (try (exfalso; omega)))) | ((with_reducible first | refine c_join _ _ _ _ _ ?_ | refine c_split _ _ _ _ ?_ | refine c_move _ _ _ _ _ ?_ | refine c_cut _ _ _ _ ?_ | refine c_do _ _ _ _ _ _ _ ?_ | refine c_daa _ _ _ _ _ ?_ | refine c_flip _ _ _ _ _ _ ?_ | refine c_quick _ _ _ _ _ _ ?_ | refine c_add16 _ _ _ _ _ _ ?_ | refine c_adc16 _ _ _ _ _ _ ?_ | refine c_sbc16 _ _ _ _ _ _ ?_ | refine c_rot _ _ _ _ _ _ ?_ | refine c_bitt _ _ _ _ _ _ _ ?_ | refine c_put _ _ _ _ _ _ ?_ | refine c_digits _ _ _ _ _ _ _ ?_ | refine c_rload _ _ _ _ _ _ _ ?_ | refine c_rseek _ _ _ _ _ _ _ ?_ | refine c_rport _ _ _ _ _ _ ?_ | refine c_inc _ _ _ _ _ ?_ | refine c_dec _ _ _ _ _ ?_ | refine c_shape _ _ _ _ ?_ | refine c_sub _ _ _ _ _ _ ?_ | refine c_pushed _ _ _ _ ?_); ((have hb := A.blk29; have hx := (up A).2.1; simp only [go_sem, hb, hx, hu, mr, mw, mi, mo, Rg.cells]))) | ((first | refine c_longer _ 7 15 _ _ _ ?_ | refine c_longer _ 10 15 _ _ _ ?_ | refine c_longer _ 11 19 _ _ _ ?_ | refine c_swap ⟨_, _, _, _, _, _, _, _, _, _, _, _, _, _, _, _, _, _, _, _, _, _, _, _, _, _, _, _, _⟩ _ _ _ _ ?_ | refine c_tick ⟨_, _, _, _, _, _, _, _, _, _, _, _, _, _, _, _, _, _, _, _, _, _, _, _, _, _, _, _, _⟩ _ _ _ ?_ | refine c_setpair ⟨_, _, _, _, _, _, _, _, _, _, _, _, _, _, _, _, _, _, _, _, _, _, _, _, _, _, _, _, _⟩ 2 (by decide) _ _ _ _ ?_ | refine m_pair A 2 (by decide) ?_ | refine m_pair A 0 (by decide) ?_ | refine m_pair A 1 (by decide) ?_ | refine m_pair A _ (by (first | decide | exact pushed_lt (by have := yO_lt op; omega) | exact yO_lt op | exact zO_lt op | (have := yO_lt op; have := zO_lt op; omega))) ?_ | refine m_one A _ (by (first | decide | exact pushed_lt (by have := yO_lt op; omega) | exact yO_lt op | exact zO_lt op | (have := yO_lt op; have := zO_lt op; omega))) ?_ | refine c_met _ _ (by (first | decide | exact pushed_lt (by have := yO_lt op; omega) | exact yO_lt op | exact zO_lt op | (have := yO_lt op; have := zO_lt op; omega))) _ _ _ ?_ | refine m_pair A.put29 2 (by decide) ?_ | refine m_pair A.put29 0 (by decide) ?_ | refine m_pair A.put29 1 (by decide) ?_ | refine m_pair A.put29 _ (by (first | decide | exact pushed_lt (by have := yO_lt op; omega) | exact yO_lt op | exact zO_lt op | (have := yO_lt op; have := zO_lt op; omega))) ?_ | refine m_one A.put29 _ (by (first | decide | exact pushed_lt (by have := yO_lt op; omega) | exact yO_lt op | exact zO_lt op | (have := yO_lt op; have := zO_lt op; omega))) ?_); ((have hb := A.blk29; have hx := (up A).2.1; simp only [go_sem, hb, hx, hu, mr, mw, mi, mo, Rg.cells]))) | ((first | refine m_next M A (by omega) fun v s H n r lf A => ?_ | refine m_next M A.put29 (by omega) fun v s H n r lf A => ?_ | refine m_fetch M A (by omega) fun v c s H n r lf A => ?_ | refine m_fetch M A.put29 (by omega) fun v c s H n r lf A => ?_ | refine m_word M A (by omega) fun v c s H n r lf A => ?_ | refine m_word M A.put29 (by omega) fun v c s H n r lf A => ?_ | refine m_load M A _ (by omega) fun v s H n r lf A => ?_ | refine m_load M A.put29 _ (by omega) fun v s H n r lf A => ?_ | refine m_store M A _ _ (by omega) fun s H n r lf A => ?_ | refine m_store M A.put29 _ _ (by omega) fun s H n r lf A => ?_ | refine m_push M A _ (by omega) fun c s H n r lf A => ?_ | refine m_push M A.put29 _ (by omega) fun c s H n r lf A => ?_ | refine m_pop M A (by omega) fun v c s H n r lf A => ?_ | refine m_pop M A.put29 (by omega) fun v c s H n r lf A => ?_ | refine m_pointed M A (by omega) fun v p w q s H n r lf A => ?_ | refine m_pointed M A.put29 (by omega) fun v p w q s H n r lf A => ?_ | refine m_setpair A 2 (by decide) _ fun H n A => ?_ | refine m_setpair A.put29 2 (by decide) _ fun H n A => ?_ | refine m_setpair A 1 (by decide) _ fun H n A => ?_ | refine m_setpair A.put29 1 (by decide) _ fun H n A => ?_ | refine m_setpair A 0 (by decide) _ fun H n A => ?_ | refine m_setpair A.put29 0 (by decide) _ fun H n A => ?_ | refine m_setpair A _ (by (first | decide | exact pushed_lt (by have := yO_lt op; omega) | exact yO_lt op | exact zO_lt op | (have := yO_lt op; have := zO_lt op; omega))) _ fun H n A => ?_ | refine m_setpair A.put29 _ (by (first | decide | exact pushed_lt (by have := yO_lt op; omega) | exact yO_lt op | exact zO_lt op | (have := yO_lt op; have := zO_lt op; omega))) _ fun H n A => ?_ | refine m_setone A _ (by (first | decide | exact pushed_lt (by have := yO_lt op; omega) | exact yO_lt op | exact zO_lt op | (have := yO_lt op; have := zO_lt op; omega))) _ fun H n A => ?_ | refine m_setone A.put29 _ (by (first | decide | exact pushed_lt (by have := yO_lt op; omega) | exact yO_lt op | exact zO_lt op | (have := yO_lt op; have := zO_lt op; omega))) _ fun H n A => ?_ | refine m_to A _ fun H n A => ?_ | refine m_to A.put29 _ fun H n A => ?_ | refine m_told A _ fun H n A => ?_ | refine m_told A.put29 _ fun H n A => ?_ | refine A.rd (by omega) fun v s H n r lf A => ?_ | refine A.put29.rd (by omega) fun v s H n r lf A => ?_ | refine A.wr (by omega) fun s H n r lf A => ?_ | refine A.put29.wr (by omega) fun s H n r lf A => ?_ | refine A.ip (by decide) (by omega) fun v s H n r lf A => ?_ | refine A.put29.ip (by decide) (by omega) fun v s H n r lf A => ?_ | refine A.op (by decide) (by omega) fun s H n r lf A => ?_ | refine A.put29.op (by decide) (by omega) fun s H n r lf A => ?_); ((have hb := A.blk29; have hx := (up A).2.1; simp only [go_sem, hb, hx, hu, mr, mw, mi, mo, Rg.cells]))) | ((first | refine m_jumpto M A _ (by omega) fun c s H n r lf A => ?_ | refine m_call M A _ (by omega) fun v c s H n r lf A => ?_ | refine m_back M A _ (by omega) fun v c s H n r lf A => ?_ | refine m_others M A _ (by omega) fun v c s H n r lf A => ?_); ((have hb := A.blk29; have hx := (up A).2.1; simp only [go_sem, hb, hx, hu, mr, mw, mi, mo, Rg.cells]))))
  · (first | (refine Fin.keep (h _ _ _ _ _ ?_ (by omega) (up A).1); unfold othersM; (((repeat' first | assumption | (with_reducible rfl) | (refine Eff.run_of (by assumption) ?_; try dsimp only) | refine Eff.run_t (by (first | assumption | exact nF ‹_› | exact nT ‹_› | omega)) ?_ | refine Eff.run_f (by (first | assumption | exact nF ‹_› | exact nT ‹_› | omega)) ?_ | rfl); all_goals fail))) | (refine Fin.keep (h _ _ _ _ _ ?_ (by omega) (up A.put29).1); unfold othersM; (((repeat' first | assumption | (with_reducible rfl) | (refine Eff.run_of (by assumption) ?_; try dsimp only) | refine Eff.run_t (by (first | assumption | exact nF ‹_› | exact nT ‹_› | omega)) ?_ | refine Eff.run_f (by (first | assumption | exact nF ‹_› | exact nT ‹_› | omega)) ?_ | rfl); all_goals fail))))
  · (first | (refine Fin.keep (h _ _ _ _ _ ?_ (by omega) (up A).1); unfold othersM; (((repeat' first | assumption | (with_reducible rfl) | (refine Eff.run_of (by assumption) ?_; try dsimp only) | refine Eff.run_t (by (first | assumption | exact nF ‹_› | exact nT ‹_› | omega)) ?_ | refine Eff.run_f (by (first | assumption | exact nF ‹_› | exact nT ‹_› | omega)) ?_ | rfl); all_goals fail))) | (refine Fin.keep (h _ _ _ _ _ ?_ (by omega) (up A.put29).1); unfold othersM; (((repeat' first | assumption | (with_reducible rfl) | (refine Eff.run_of (by assumption) ?_; try dsimp only) | refine Eff.run_t (by (first | assumption | exact nF ‹_› | exact nT ‹_› | omega)) ?_ | refine Eff.run_f (by (first | assumption | exact nF ‹_› | exact nT ‹_› | omega)) ?_ | rfl); all_goals fail))))
  · (first | (refine Fin.keep (h _ _ _ _ _ ?_ (by omega) (up A).1); unfold othersM; (((repeat' first | assumption | (with_reducible rfl) | (refine Eff.run_of (by assumption) ?_; try dsimp only) | refine Eff.run_t (by (first | assumption | exact nF ‹_› | exact nT ‹_› | omega)) ?_ | refine Eff.run_f (by (first | assumption | exact nF ‹_› | exact nT ‹_› | omega)) ?_ | rfl); all_goals fail))) | (refine Fin.keep (h _ _ _ _ _ ?_ (by omega) (up A.put29).1); unfold othersM; (((repeat' first | assumption | (with_reducible rfl) | (refine Eff.run_of (by assumption) ?_; try dsimp only) | refine Eff.run_t (by (first | assumption | exact nF ‹_› | exact nT ‹_› | omega)) ?_ | refine Eff.run_f (by (first | assumption | exact nF ‹_› | exact nT ‹_› | omega)) ?_ | rfl); all_goals fail))))
  · (first | (refine Fin.keep (h _ _ _ _ _ ?_ (by omega) (up A).1); unfold othersM; (((repeat' first | assumption | (with_reducible rfl) | (refine Eff.run_of (by assumption) ?_; try dsimp only) | refine Eff.run_t (by (first | assumption | exact nF ‹_› | exact nT ‹_› | omega)) ?_ | refine Eff.run_f (by (first | assumption | exact nF ‹_› | exact nT ‹_› | omega)) ?_ | rfl); all_goals fail))) | (refine Fin.keep (h _ _ _ _ _ ?_ (by omega) (up A.put29).1); unfold othersM; (((repeat' first | assumption | (with_reducible rfl) | (refine Eff.run_of (by assumption) ?_; try dsimp only) | refine Eff.run_t (by (first | assumption | exact nF ‹_› | exact nT ‹_› | omega)) ?_ | refine Eff.run_f (by (first | assumption | exact nF ‹_› | exact nT ‹_› | omega)) ?_ | rfl); all_goals fail))))
  · (first | (refine Fin.keep (h _ _ _ _ _ ?_ (by omega) (up A).1); unfold othersM; (((repeat' first | assumption | (with_reducible rfl) | (refine Eff.run_of (by assumption) ?_; try dsimp only) | refine Eff.run_t (by (first | assumption | exact nF ‹_› | exact nT ‹_› | omega)) ?_ | refine Eff.run_f (by (first | assumption | exact nF ‹_› | exact nT ‹_› | omega)) ?_ | rfl); all_goals fail))) | (refine Fin.keep (h _ _ _ _ _ ?_ (by omega) (up A.put29).1); unfold othersM; (((repeat' first | assumption | (with_reducible rfl) | (refine Eff.run_of (by assumption) ?_; try dsimp only) | refine Eff.run_t (by (first | assumption | exact nF ‹_› | exact nT ‹_› | omega)) ?_ | refine Eff.run_f (by (first | assumption | exact nF ‹_› | exact nT ‹_› | omega)) ?_ | rfl); all_goals fail))))
  · have h8 := yO_lt op
    have hy : yO op = 1 ∨ yO op = 6 ∨ yO op = 7 := by omega
    rcases hy with hy | hy | hy
    all_goals
      refine Fin.keep (h _ _ _ _ _ ?_ (by omega) (up A.put29).1)
      unfold othersM
      simp +decide only [hy, if_false]
      rfl
end
end Go.Proofs.Joy
namespace Go.Proofs.Joy
open Go.Ab Go.Proofs

set_option maxHeartbeats 4000000
set_option maxRecDepth 20000
section
variable {σ : Type} {W : WC Try.prog σ} {t : TypeId} {H0 : Heap} {n0 : Nat} {F0 : Nat → Prop} {k : Nat} {c : Core} {s : σ} {H : Heap} {n : Nat} {K : AV → Heap → Nat → Prop} (M : MT W t)
include M
end
theorem high8 (op : BitVec 8) : BitVec.ofInt 16 (wrap64 (8 * (yO op : Int))) = BitVec.ofNat 16 (8 * yO op) := by revert op; decide +kernel
section
variable {σ : Type} {W : WC Try.prog σ} {t : TypeId} {H0 : Heap} {n0 : Nat} {F0 : Nat → Prop} {k : Nat} {c : Core} {s : σ} {H : Heap} {n : Nat} {K : AV → Heap → Nat → Prop} (M : MT W t)
include M
theorem m_high (A : AtC W t H0 n0 F0 k c s H n) (op : BitVec 8) (hl : 4 ≤ W.left s) (h : ∀ (v : Nat) c' s' H' n', (highM op c).run W.O s = ((v, c'), s') → W.left s ≤ W.left s' + 4 → AtC W t H0 n0 F0 k c' s' H' n' → K (.i64 v) H' n') : ACalls Try.prog 44 [.pt k 0, .ag [.i64 (xO op), .i64 (yO op), .i64 (zO op), .i64 (yO op / 2 : Nat), .i64 (yO op % 2 : Nat)]] H n K := by
  refine ACalls.of_awp Try.func44 rfl (by decide +kernel) (show 2 ≤ 99 by decide) (by simp) fun wf => ?_
  obtain ⟨F1, A, up⟩ := A.boxed ⟨[.i64 (xO op), .i64 (yO op), .i64 (zO op), .i64 (yO op / 2 : Nat), .i64 (yO op % 2 : Nat)], 53, false⟩ (by simp [AV.ok])
  have hb := A.blk29
  have hk := (up A).2.2.1
  have hu := fun X Y => Heap.upd_ne X Y hk
  have mr := M.r
  have mw := M.w
  have mi := M.i
  have mo := M.o
  refine awp_ev dr44 (by decide +kernel) ?_
  simp only [go_sem, Try.f44, hb, hu]
  (repeat' first | (((with_reducible refine And.intro ?_ ?_) <;> intro e <;> (first | (with_reducible replace e := nbT e) | (with_reducible replace e := nbF e) | (with_reducible replace e := dT e) | (with_reducible replace e := dF e) | (with_reducible replace e := iT e) | (with_reducible replace e := iF e) | skip) <;> (try (exfalso; omega)))) | ((with_reducible first | refine c_join _ _ _ _ _ ?_ | refine c_split _ _ _ _ ?_ | refine c_move _ _ _ _ _ ?_ | refine c_cut _ _ _ _ ?_ | refine c_do _ _ _ _ _ _ _ ?_ | refine c_daa _ _ _ _ _ ?_ | refine c_flip _ _ _ _ _ _ ?_ | refine c_quick _ _ _ _ _ _ ?_ | refine c_add16 _ _ _ _ _ _ ?_ | refine c_adc16 _ _ _ _ _ _ ?_ | refine c_sbc16 _ _ _ _ _ _ ?_ | refine c_rot _ _ _ _ _ _ ?_ | refine c_bitt _ _ _ _ _ _ _ ?_ | refine c_put _ _ _ _ _ _ ?_ | refine c_digits _ _ _ _ _ _ _ ?_ | refine c_rload _ _ _ _ _ _ _ ?_ | refine c_rseek _ _ _ _ _ _ _ ?_ | refine c_rport _ _ _ _ _ _ ?_ | refine c_inc _ _ _ _ _ ?_ | refine c_dec _ _ _ _ _ ?_ | refine c_shape _ _ _ _ ?_ | refine c_sub _ _ _ _ _ _ ?_ | refine c_pushed _ _ _ _ ?_); ((have hb := A.blk29; have hx := (up A).2.1; simp only [go_sem, hb, hx, hu, mr, mw, mi, mo, Rg.cells]))) | ((first | refine c_longer _ 7 15 _ _ _ ?_ | refine c_longer _ 10 15 _ _ _ ?_ | refine c_longer _ 11 19 _ _ _ ?_ | refine c_swap ⟨_, _, _, _, _, _, _, _, _, _, _, _, _, _, _, _, _, _, _, _, _, _, _, _, _, _, _, _, _⟩ _ _ _ _ ?_ | refine c_tick ⟨_, _, _, _, _, _, _, _, _, _, _, _, _, _, _, _, _, _, _, _, _, _, _, _, _, _, _, _, _⟩ _ _ _ ?_ | refine c_setpair ⟨_, _, _, _, _, _, _, _, _, _, _, _, _, _, _, _, _, _, _, _, _, _, _, _, _, _, _, _, _⟩ 2 (by decide) _ _ _ _ ?_ | refine m_pair A 2 (by decide) ?_ | refine m_pair A 0 (by decide) ?_ | refine m_pair A 1 (by decide) ?_ | refine m_pair A _ (by (first | decide | exact pushed_lt (by have := yO_lt op; omega) | exact yO_lt op | exact zO_lt op | (have := yO_lt op; have := zO_lt op; omega))) ?_ | refine m_one A _ (by (first | decide | exact pushed_lt (by have := yO_lt op; omega) | exact yO_lt op | exact zO_lt op | (have := yO_lt op; have := zO_lt op; omega))) ?_ | refine c_met _ _ (by (first | decide | exact pushed_lt (by have := yO_lt op; omega) | exact yO_lt op | exact zO_lt op | (have := yO_lt op; have := zO_lt op; omega))) _ _ _ ?_ | refine m_pair A.put29 2 (by decide) ?_ | refine m_pair A.put29 0 (by decide) ?_ | refine m_pair A.put29 1 (by decide) ?_ | refine m_pair A.put29 _ (by (first | decide | exact pushed_lt (by have := yO_lt op; omega) | exact yO_lt op | exact zO_lt op | (have := yO_lt op; have := zO_lt op; omega))) ?_ | refine m_one A.put29 _ (by (first | decide | exact pushed_lt (by have := yO_lt op; omega) | exact yO_lt op | exact zO_lt op | (have := yO_lt op; have := zO_lt op; omega))) ?_); ((have hb := A.blk29; have hx := (up A).2.1; simp only [go_sem, hb, hx, hu, mr, mw, mi, mo, Rg.cells]))) | ((first | refine m_next M A (by omega) fun v s H n r lf A => ?_ | refine m_next M A.put29 (by omega) fun v s H n r lf A => ?_ | refine m_fetch M A (by omega) fun v c s H n r lf A => ?_ | refine m_fetch M A.put29 (by omega) fun v c s H n r lf A => ?_ | refine m_word M A (by omega) fun v c s H n r lf A => ?_ | refine m_word M A.put29 (by omega) fun v c s H n r lf A => ?_ | refine m_load M A _ (by omega) fun v s H n r lf A => ?_ | refine m_load M A.put29 _ (by omega) fun v s H n r lf A => ?_ | refine m_store M A _ _ (by omega) fun s H n r lf A => ?_ | refine m_store M A.put29 _ _ (by omega) fun s H n r lf A => ?_ | refine m_push M A _ (by omega) fun c s H n r lf A => ?_ | refine m_push M A.put29 _ (by omega) fun c s H n r lf A => ?_ | refine m_pop M A (by omega) fun v c s H n r lf A => ?_ | refine m_pop M A.put29 (by omega) fun v c s H n r lf A => ?_ | refine m_pointed M A (by omega) fun v p w q s H n r lf A => ?_ | refine m_pointed M A.put29 (by omega) fun v p w q s H n r lf A => ?_ | refine m_setpair A 2 (by decide) _ fun H n A => ?_ | refine m_setpair A.put29 2 (by decide) _ fun H n A => ?_ | refine m_setpair A 1 (by decide) _ fun H n A => ?_ | refine m_setpair A.put29 1 (by decide) _ fun H n A => ?_ | refine m_setpair A 0 (by decide) _ fun H n A => ?_ | refine m_setpair A.put29 0 (by decide) _ fun H n A => ?_ | refine m_setpair A _ (by (first | decide | exact pushed_lt (by have := yO_lt op; omega) | exact yO_lt op | exact zO_lt op | (have := yO_lt op; have := zO_lt op; omega))) _ fun H n A => ?_ | refine m_setpair A.put29 _ (by (first | decide | exact pushed_lt (by have := yO_lt op; omega) | exact yO_lt op | exact zO_lt op | (have := yO_lt op; have := zO_lt op; omega))) _ fun H n A => ?_ | refine m_setone A _ (by (first | decide | exact pushed_lt (by have := yO_lt op; omega) | exact yO_lt op | exact zO_lt op | (have := yO_lt op; have := zO_lt op; omega))) _ fun H n A => ?_ | refine m_setone A.put29 _ (by (first | decide | exact pushed_lt (by have := yO_lt op; omega) | exact yO_lt op | exact zO_lt op | (have := yO_lt op; have := zO_lt op; omega))) _ fun H n A => ?_ | refine m_to A _ fun H n A => ?_ | refine m_to A.put29 _ fun H n A => ?_ | refine m_told A _ fun H n A => ?_ | refine m_told A.put29 _ fun H n A => ?_ | refine A.rd (by omega) fun v s H n r lf A => ?_ | refine A.put29.rd (by omega) fun v s H n r lf A => ?_ | refine A.wr (by omega) fun s H n r lf A => ?_ | refine A.put29.wr (by omega) fun s H n r lf A => ?_ | refine A.ip (by decide) (by omega) fun v s H n r lf A => ?_ | refine A.put29.ip (by decide) (by omega) fun v s H n r lf A => ?_ | refine A.op (by decide) (by omega) fun s H n r lf A => ?_ | refine A.put29.op (by decide) (by omega) fun s H n r lf A => ?_); ((have hb := A.blk29; have hx := (up A).2.1; simp only [go_sem, hb, hx, hu, mr, mw, mi, mo, Rg.cells]))) | ((first | refine m_jumpto M A _ (by omega) fun c s H n r lf A => ?_ | refine m_call M A _ (by omega) fun v c s H n r lf A => ?_ | refine m_back M A _ (by omega) fun v c s H n r lf A => ?_ | refine m_others M A _ (by omega) fun v c s H n r lf A => ?_); ((have hb := A.blk29; have hx := (up A).2.1; simp only [go_sem, hb, hx, hu, mr, mw, mi, mo, Rg.cells]))))
  all_goals first
    | (first | (refine Fin.keep (h _ _ _ _ _ ?_ (by omega) (up A).1); unfold highM; (((repeat' first | assumption | (with_reducible rfl) | (refine Eff.run_of (by assumption) ?_; try dsimp only) | refine Eff.run_t (by (first | assumption | exact nF ‹_› | exact nT ‹_› | omega)) ?_ | refine Eff.run_f (by (first | assumption | exact nF ‹_› | exact nT ‹_› | omega)) ?_ | rfl); all_goals fail))) | (refine Fin.keep (h _ _ _ _ _ ?_ (by omega) (up A.put29).1); unfold highM; (((repeat' first | assumption | (with_reducible rfl) | (refine Eff.run_of (by assumption) ?_; try dsimp only) | refine Eff.run_t (by (first | assumption | exact nF ‹_› | exact nT ‹_› | omega)) ?_ | refine Eff.run_f (by (first | assumption | exact nF ‹_› | exact nT ‹_› | omega)) ?_ | rfl); all_goals fail))))
    | (rw [high8 op] at A; (first | (refine Fin.keep (h _ _ _ _ _ ?_ (by omega) (up A).1); unfold highM; (((repeat' first | assumption | (with_reducible rfl) | (refine Eff.run_of (by assumption) ?_; try dsimp only) | refine Eff.run_t (by (first | assumption | exact nF ‹_› | exact nT ‹_› | omega)) ?_ | refine Eff.run_f (by (first | assumption | exact nF ‹_› | exact nT ‹_› | omega)) ?_ | rfl); all_goals fail))) | (refine Fin.keep (h _ _ _ _ _ ?_ (by omega) (up A.put29).1); unfold highM; (((repeat' first | assumption | (with_reducible rfl) | (refine Eff.run_of (by assumption) ?_; try dsimp only) | refine Eff.run_t (by (first | assumption | exact nF ‹_› | exact nT ‹_› | omega)) ?_ | refine Eff.run_f (by (first | assumption | exact nF ‹_› | exact nT ‹_› | omega)) ?_ | rfl); all_goals fail)))))
end
section
variable {σ : Type} {W : WC Try.prog σ} {t : TypeId} {H0 : Heap} {n0 : Nat} {F0 : Nat → Prop} {k : Nat} {c : Core} {s : σ} {H : Heap} {n : Nat} {K : AV → Heap → Nat → Prop} (M : MT W t)
include M
theorem m_plain (A : AtC W t H0 n0 F0 k c s H n) (op : BitVec 8) (hl : 4 ≤ W.left s) (h : ∀ (v : Nat) c' s' H' n', (plainM op c).run W.O s = ((v, c'), s') → W.left s ≤ W.left s' + 4 → AtC W t H0 n0 F0 k c' s' H' n' → K (.i64 v) H' n') : ACalls Try.prog 19 [.pt k 0, .ag [.i64 (xO op), .i64 (yO op), .i64 (zO op), .i64 (yO op / 2 : Nat), .i64 (yO op % 2 : Nat)]] H n K := by
  refine ACalls.of_awp Try.func19 rfl (by decide +kernel) (show 2 ≤ 47 by decide) (by simp) fun wf => ?_
  obtain ⟨F1, A, up⟩ := A.boxed ⟨[.i64 (xO op), .i64 (yO op), .i64 (zO op), .i64 (yO op / 2 : Nat), .i64 (yO op % 2 : Nat)], 53, false⟩ (by simp [AV.ok])
  have hb := A.blk29
  have hk := (up A).2.2.1
  have hu := fun X Y => Heap.upd_ne X Y hk
  have mr := M.r
  have mw := M.w
  have mi := M.i
  have mo := M.o
  refine awp_ev dr0 (by decide +kernel) ?_
  simp only [go_sem, Try.f19, hb, hu]
  (repeat' first | (((with_reducible refine And.intro ?_ ?_) <;> intro e <;> (first | (with_reducible replace e := nbT e) | (with_reducible replace e := nbF e) | (with_reducible replace e := dT e) | (with_reducible replace e := dF e) | (with_reducible replace e := iT e) | (with_reducible replace e := iF e) | skip) <;> (try (exfalso; omega)))) | ((with_reducible first | refine c_join _ _ _ _ _ ?_ | refine c_split _ _ _ _ ?_ | refine c_move _ _ _ _ _ ?_ | refine c_cut _ _ _ _ ?_ | refine c_do _ _ _ _ _ _ _ ?_ | refine c_daa _ _ _ _ _ ?_ | refine c_flip _ _ _ _ _ _ ?_ | refine c_quick _ _ _ _ _ _ ?_ | refine c_add16 _ _ _ _ _ _ ?_ | refine c_adc16 _ _ _ _ _ _ ?_ | refine c_sbc16 _ _ _ _ _ _ ?_ | refine c_rot _ _ _ _ _ _ ?_ | refine c_bitt _ _ _ _ _ _ _ ?_ | refine c_put _ _ _ _ _ _ ?_ | refine c_digits _ _ _ _ _ _ _ ?_ | refine c_rload _ _ _ _ _ _ _ ?_ | refine c_rseek _ _ _ _ _ _ _ ?_ | refine c_rport _ _ _ _ _ _ ?_ | refine c_inc _ _ _ _ _ ?_ | refine c_dec _ _ _ _ _ ?_ | refine c_shape _ _ _ _ ?_ | refine c_sub _ _ _ _ _ _ ?_ | refine c_pushed _ _ _ _ ?_); ((have hb := A.blk29; have hx := (up A).2.1; simp only [go_sem, hb, hx, hu, mr, mw, mi, mo, Rg.cells]))) | ((first | refine c_longer _ 7 15 _ _ _ ?_ | refine c_longer _ 10 15 _ _ _ ?_ | refine c_longer _ 11 19 _ _ _ ?_ | refine c_swap ⟨_, _, _, _, _, _, _, _, _, _, _, _, _, _, _, _, _, _, _, _, _, _, _, _, _, _, _, _, _⟩ _ _ _ _ ?_ | refine c_tick ⟨_, _, _, _, _, _, _, _, _, _, _, _, _, _, _, _, _, _, _, _, _, _, _, _, _, _, _, _, _⟩ _ _ _ ?_ | refine c_setpair ⟨_, _, _, _, _, _, _, _, _, _, _, _, _, _, _, _, _, _, _, _, _, _, _, _, _, _, _, _, _⟩ 2 (by decide) _ _ _ _ ?_ | refine m_pair A 2 (by decide) ?_ | refine m_pair A 0 (by decide) ?_ | refine m_pair A 1 (by decide) ?_ | refine m_pair A _ (by (first | decide | exact pushed_lt (by have := yO_lt op; omega) | exact yO_lt op | exact zO_lt op | (have := yO_lt op; have := zO_lt op; omega))) ?_ | refine m_one A _ (by (first | decide | exact pushed_lt (by have := yO_lt op; omega) | exact yO_lt op | exact zO_lt op | (have := yO_lt op; have := zO_lt op; omega))) ?_ | refine c_met _ _ (by (first | decide | exact pushed_lt (by have := yO_lt op; omega) | exact yO_lt op | exact zO_lt op | (have := yO_lt op; have := zO_lt op; omega))) _ _ _ ?_ | refine m_pair A.put29 2 (by decide) ?_ | refine m_pair A.put29 0 (by decide) ?_ | refine m_pair A.put29 1 (by decide) ?_ | refine m_pair A.put29 _ (by (first | decide | exact pushed_lt (by have := yO_lt op; omega) | exact yO_lt op | exact zO_lt op | (have := yO_lt op; have := zO_lt op; omega))) ?_ | refine m_one A.put29 _ (by (first | decide | exact pushed_lt (by have := yO_lt op; omega) | exact yO_lt op | exact zO_lt op | (have := yO_lt op; have := zO_lt op; omega))) ?_); ((have hb := A.blk29; have hx := (up A).2.1; simp only [go_sem, hb, hx, hu, mr, mw, mi, mo, Rg.cells]))) | ((first | refine m_next M A (by omega) fun v s H n r lf A => ?_ | refine m_next M A.put29 (by omega) fun v s H n r lf A => ?_ | refine m_fetch M A (by omega) fun v c s H n r lf A => ?_ | refine m_fetch M A.put29 (by omega) fun v c s H n r lf A => ?_ | refine m_word M A (by omega) fun v c s H n r lf A => ?_ | refine m_word M A.put29 (by omega) fun v c s H n r lf A => ?_ | refine m_load M A _ (by omega) fun v s H n r lf A => ?_ | refine m_load M A.put29 _ (by omega) fun v s H n r lf A => ?_ | refine m_store M A _ _ (by omega) fun s H n r lf A => ?_ | refine m_store M A.put29 _ _ (by omega) fun s H n r lf A => ?_ | refine m_push M A _ (by omega) fun c s H n r lf A => ?_ | refine m_push M A.put29 _ (by omega) fun c s H n r lf A => ?_ | refine m_pop M A (by omega) fun v c s H n r lf A => ?_ | refine m_pop M A.put29 (by omega) fun v c s H n r lf A => ?_ | refine m_pointed M A (by omega) fun v p w q s H n r lf A => ?_ | refine m_pointed M A.put29 (by omega) fun v p w q s H n r lf A => ?_ | refine m_setpair A 2 (by decide) _ fun H n A => ?_ | refine m_setpair A.put29 2 (by decide) _ fun H n A => ?_ | refine m_setpair A 1 (by decide) _ fun H n A => ?_ | refine m_setpair A.put29 1 (by decide) _ fun H n A => ?_ | refine m_setpair A 0 (by decide) _ fun H n A => ?_ | refine m_setpair A.put29 0 (by decide) _ fun H n A => ?_ | refine m_setpair A _ (by (first | decide | exact pushed_lt (by have := yO_lt op; omega) | exact yO_lt op | exact zO_lt op | (have := yO_lt op; have := zO_lt op; omega))) _ fun H n A => ?_ | refine m_setpair A.put29 _ (by (first | decide | exact pushed_lt (by have := yO_lt op; omega) | exact yO_lt op | exact zO_lt op | (have := yO_lt op; have := zO_lt op; omega))) _ fun H n A => ?_ | refine m_setone A _ (by (first | decide | exact pushed_lt (by have := yO_lt op; omega) | exact yO_lt op | exact zO_lt op | (have := yO_lt op; have := zO_lt op; omega))) _ fun H n A => ?_ | refine m_setone A.put29 _ (by (first | decide | exact pushed_lt (by have := yO_lt op; omega) | exact yO_lt op | exact zO_lt op | (have := yO_lt op; have := zO_lt op; omega))) _ fun H n A => ?_ | refine m_to A _ fun H n A => ?_ | refine m_to A.put29 _ fun H n A => ?_ | refine m_told A _ fun H n A => ?_ | refine m_told A.put29 _ fun H n A => ?_ | refine A.rd (by omega) fun v s H n r lf A => ?_ | refine A.put29.rd (by omega) fun v s H n r lf A => ?_ | refine A.wr (by omega) fun s H n r lf A => ?_ | refine A.put29.wr (by omega) fun s H n r lf A => ?_ | refine A.ip (by decide) (by omega) fun v s H n r lf A => ?_ | refine A.put29.ip (by decide) (by omega) fun v s H n r lf A => ?_ | refine A.op (by decide) (by omega) fun s H n r lf A => ?_ | refine A.put29.op (by decide) (by omega) fun s H n r lf A => ?_); ((have hb := A.blk29; have hx := (up A).2.1; simp only [go_sem, hb, hx, hu, mr, mw, mi, mo, Rg.cells]))) | ((first | refine m_low M A _ (by omega) fun v c s H n r lf A => ?_ | refine m_low M A.put29 _ (by omega) fun v c s H n r lf A => ?_); ((have hb := A.blk29; have hx := (up A).2.1; simp only [go_sem, hb, hx, hu, mr, mw, mi, mo, Rg.cells]))) | ((first | refine m_move M A _ (by omega) fun v c s H n r lf A => ?_ | refine m_move M A.put29 _ (by omega) fun v c s H n r lf A => ?_); ((have hb := A.blk29; have hx := (up A).2.1; simp only [go_sem, hb, hx, hu, mr, mw, mi, mo, Rg.cells]))) | ((first | refine m_sum M A _ (by omega) fun v c s H n r lf A => ?_ | refine m_sum M A.put29 _ (by omega) fun v c s H n r lf A => ?_); ((have hb := A.blk29; have hx := (up A).2.1; simp only [go_sem, hb, hx, hu, mr, mw, mi, mo, Rg.cells]))) | ((first | refine m_high M A _ (by omega) fun v c s H n r lf A => ?_ | refine m_high M A.put29 _ (by omega) fun v c s H n r lf A => ?_); ((have hb := A.blk29; have hx := (up A).2.1; simp only [go_sem, hb, hx, hu, mr, mw, mi, mo, Rg.cells]))))
  all_goals (first | (refine Fin.keep (h _ _ _ _ _ ?_ (by omega) (up A).1); unfold plainM; (((repeat' first | assumption | (with_reducible rfl) | (refine Eff.run_of (by assumption) ?_; try dsimp only) | refine Eff.run_t (by (first | assumption | exact nF ‹_› | exact nT ‹_› | omega)) ?_ | refine Eff.run_f (by (first | assumption | exact nF ‹_› | exact nT ‹_› | omega)) ?_ | rfl); all_goals fail))) | (refine Fin.keep (h _ _ _ _ _ ?_ (by omega) (up A.put29).1); unfold plainM; (((repeat' first | assumption | (with_reducible rfl) | (refine Eff.run_of (by assumption) ?_; try dsimp only) | refine Eff.run_t (by (first | assumption | exact nF ‹_› | exact nT ‹_› | omega)) ?_ | refine Eff.run_f (by (first | assumption | exact nF ‹_› | exact nT ‹_› | omega)) ?_ | rfl); all_goals fail))))
end
end Go.Proofs.Joy
