/- Parts of the proof: contracts of the seat's functions. -/
import Derived.Test.YtidbgaglcfpdlaaJoyW2
import Derived.Test.YtidbgaglcfpdlaaProg
import Derived.KernelRfl
import Derived.Tactics
import Derived.Tactics2
import Derived.Defers
import Derived.Laws.Pointers
import Derived.Laws.LoneSync
import Derived.RegionTactic
import Derived.RegionCalls
import Derived.ChangeAlike
import Derived.Test.YtidbgaglcfpdlaaJoyW3
set_option linter.unusedSimpArgs false
set_option linter.unusedVariables false
namespace Go.Proofs.Joy
open Go.Ab Go.Proofs
@[go_sem] theorem F.ty21 : tyA Try.prog 21 = some (false, 1) := by kernel_rfl
@[go_sem] theorem F.ty36 : tyA Try.prog 36 = some (false, 1) := by kernel_rfl
@[go_sem] theorem F.ty23 : tyA Try.prog 23 = some (false, 1) := by kernel_rfl
@[go_sem] theorem F.ty5 : tyA Try.prog 5 = some (false, 1) := by kernel_rfl
@[go_sem] theorem F.ty3 : tyA Try.prog 3 = some (false, 1) := by kernel_rfl
@[go_sem] theorem F.ty39 : tyA Try.prog 39 = some (true, 2) := by kernel_rfl
@[go_sem] theorem F.ty29 : tyA Try.prog 29 = some (true, 4) := by kernel_rfl
@[go_sem] theorem F.ty25 : tyA Try.prog 25 = some (false, 1) := by kernel_rfl
@[go_sem] theorem F.fld51_1 : fldT Try.prog 51 1 = some (1, false, 1) := by kernel_rfl
@[go_sem] theorem F.fld51_0 : fldT Try.prog 51 0 = some (0, false, 1) := by kernel_rfl
@[go_sem] theorem F.fld53_1 : fldT Try.prog 53 1 = some (0, true, 2) := by kernel_rfl
@[go_sem] theorem F.fld55_2 : fldT Try.prog 55 2 = some (1, true, 2) := by kernel_rfl
@[go_sem] theorem F.fld49_1 : fldT Try.prog 49 1 = some (0, false, 1) := by kernel_rfl
@[go_sem] theorem F.fld55_1 : fldT Try.prog 55 1 = some (0, true, 1) := by kernel_rfl
@[go_sem] theorem F.fld57_2 : fldT Try.prog 57 2 = some (4, false, 1) := by kernel_rfl
@[go_sem] theorem F.fld57_1 : fldT Try.prog 57 1 = some (1, true, 3) := by kernel_rfl
@[go_sem] theorem F.fld29_3 : fldT Try.prog 29 3 = some (3, false, 1) := by kernel_rfl
@[go_sem] theorem F.fld29_2 : fldT Try.prog 29 2 = some (2, false, 1) := by kernel_rfl
@[go_sem] theorem F.fld29_1 : fldT Try.prog 29 1 = some (1, false, 1) := by kernel_rfl
@[go_sem] theorem F.fld57_0 : fldT Try.prog 57 0 = some (0, false, 1) := by kernel_rfl
@[go_sem] theorem F.fld29_0 : fldT Try.prog 29 0 = some (0, false, 1) := by kernel_rfl
@[go_sem] theorem F.ix9 : ixT Try.prog 9 = none := by kernel_rfl
@[go_sem] theorem F.ix32 : ixT Try.prog 32 = some (none, false, 1) := by kernel_rfl
@[go_sem] theorem F.ix25 : ixT Try.prog 25 = some (none, false, 1) := by kernel_rfl
@[go_sem] theorem F.ix39 : ixT Try.prog 39 = some (some 2, false, 1) := by kernel_rfl
@[go_sem] theorem F.ix30 : ixT Try.prog 30 = some (none, true, 2) := by kernel_rfl
@[go_sem] theorem F.str9 : isStrT Try.prog 9 = true := by kernel_rfl
@[go_sem] theorem F.zero5 : zeroT Try.prog 5 = some ([.u8 0#8]) := by kernel_rfl
@[go_sem] theorem F.zero57 : zeroT Try.prog 57 = some ([.sn, .u32 0#32, .i32 0#32, .u32 0#32, .u32 0#32]) := by kernel_rfl
@[go_sem] theorem F.zero39 : zeroT Try.prog 39 = some ([.i64 0, .i64 0]) := by kernel_rfl
@[go_sem] theorem F.el32 : elT Try.prog 32 = some (5, 1, 1) := by kernel_rfl
@[go_sem] theorem F.el25 : elT Try.prog 25 = some (5, 1, 1) := by kernel_rfl
@[go_sem] theorem F.kind2 : kindT Try.prog 2 = none := by kernel_rfl
@[go_sem] theorem F.kind21 : kindT Try.prog 21 = none := by kernel_rfl
@[go_sem] theorem F.kind25 : kindT Try.prog 25 = some .slice := by kernel_rfl
@[go_sem] theorem F.kind23 : kindT Try.prog 23 = some .ptr := by kernel_rfl
@[go_sem] theorem F.kind36 : kindT Try.prog 36 = none := by kernel_rfl
@[go_sem] theorem F.kind9 : kindT Try.prog 9 = none := by kernel_rfl
@[go_sem] theorem F.kind3 : kindT Try.prog 3 = none := by kernel_rfl
@[go_sem] theorem F.kind5 : kindT Try.prog 5 = none := by kernel_rfl
@[go_sem] theorem F.conv72_76 : convT Try.prog 72 76 = none := by kernel_rfl
@[go_sem] theorem F.conv60_5 : convT Try.prog 60 5 = some (.int .u8) := by kernel_rfl
@[go_sem] theorem F.conv5_3 : convT Try.prog 5 3 = some (.int .i64) := by kernel_rfl
@[go_sem] theorem F.conv36_5 : convT Try.prog 36 5 = some (.int .u8) := by kernel_rfl
@[go_sem] theorem F.conv5_36 : convT Try.prog 5 36 = some (.int .u32) := by kernel_rfl
@[go_sem] theorem F.conv44_36 : convT Try.prog 44 36 = some (.int .u32) := by kernel_rfl
@[go_sem] theorem F.conv60_36 : convT Try.prog 60 36 = some (.int .u32) := by kernel_rfl
@[go_sem] theorem F.conv5_60 : convT Try.prog 5 60 = some (.int .u64) := by kernel_rfl
@[go_sem] theorem F.conv3_44 : convT Try.prog 3 44 = some (.int .u64) := by kernel_rfl
@[go_sem] theorem F.conv32_9 : convT Try.prog 32 9 = some .b2s := by kernel_rfl
@[go_sem] theorem F.conv25_9 : convT Try.prog 25 9 = some .b2s := by kernel_rfl
@[go_sem] theorem F.len32 : lenT Try.prog 32 = some .slice := by kernel_rfl
@[go_sem] theorem F.len25 : lenT Try.prog 25 = some .slice := by kernel_rfl
@[go_sem] theorem F.len30 : lenT Try.prog 30 = some .slice := by kernel_rfl
@[go_sem] theorem F.nint25 : notIntT Try.prog 25 = true := by kernel_rfl
@[go_sem] theorem F.app25 : appT Try.prog 25 = some ⟨5, 1, 1, [.u8 0#8]⟩ := by kernel_rfl
@[go_sem] theorem F.bld57 : bldT Try.prog 57 = true := by kernel_rfl
@[go_sem] theorem F.pl57_0 : plT Try.prog 57 0 = some (0, 1) := by kernel_rfl
-- joystick/joysticklaw01.RomRuns
@[go_sem] def tr4_9 : DT := .op 0 (.op 2 (.fork 1 [] (.fork 3 [] (.op 4 (.op 5 (.op 6 (.op 9 (.fork 7 [] (.fork 8 [] (.fork 10 [] (.op 11 (.op 12 (.op 13 (.op 14 (.op 16 (.fork 15 [] (.fork 17 [] (.op 18 (.op 19 (.op 20 (.op 21 (.op 23 (.fork 22 [] (.fork 24 [] (.op 25 (.op 26 (.op 27 (.op 28 (.op 30 (.fork 29 [] (.fork 31 [] (.op 32 (.op 33 (.done))) (.stop)) (.stop))))))) (.stop)) (.stop))))))) (.stop)) (.fork 17 [] (.fork 15 [] (.op 18 (.op 19 (.op 20 (.op 21 (.op 23 (.fork 22 [] (.fork 24 [] (.op 25 (.op 26 (.op 27 (.op 28 (.op 30 (.fork 29 [] (.fork 31 [] (.op 32 (.op 33 (.done))) (.stop)) (.stop))))))) (.stop)) (.stop))))))) (.stop)) (.stop)))))))) (.stop)) (.fork 10 [] (.fork 8 [] (.op 11 (.op 12 (.op 13 (.op 14 (.op 16 (.fork 15 [] (.fork 17 [] (.op 18 (.op 19 (.op 20 (.op 21 (.op 23 (.fork 22 [] (.fork 24 [] (.op 25 (.op 26 (.op 27 (.op 28 (.op 30 (.fork 29 [] (.fork 31 [] (.op 32 (.op 33 (.done))) (.stop)) (.stop))))))) (.stop)) (.stop))))))) (.stop)) (.fork 17 [] (.fork 15 [] (.op 18 (.op 19 (.op 20 (.op 21 (.op 23 (.fork 22 [] (.fork 24 [] (.op 25 (.op 26 (.op 27 (.op 28 (.op 30 (.fork 29 [] (.fork 31 [] (.op 32 (.op 33 (.done))) (.stop)) (.stop))))))) (.stop)) (.stop))))))) (.stop)) (.stop)))))))) (.stop)) (.stop))) (.fork 10 [] (.fork 7 [] (.fork 8 [] (.op 11 (.op 12 (.op 13 (.op 14 (.op 16 (.fork 15 [] (.fork 17 [] (.op 18 (.op 19 (.op 20 (.op 21 (.op 23 (.fork 22 [] (.fork 24 [] (.op 25 (.op 26 (.op 27 (.op 28 (.op 30 (.fork 29 [] (.fork 31 [] (.op 32 (.op 33 (.done))) (.stop)) (.stop))))))) (.stop)) (.stop))))))) (.stop)) (.fork 17 [] (.fork 15 [] (.op 18 (.op 19 (.op 20 (.op 21 (.op 23 (.fork 22 [] (.fork 24 [] (.op 25 (.op 26 (.op 27 (.op 28 (.op 30 (.fork 29 [] (.fork 31 [] (.op 32 (.op 33 (.done))) (.stop)) (.stop))))))) (.stop)) (.stop))))))) (.stop)) (.stop)))))))) (.stop)) (.stop)) (.stop))))))) (.stop)) (.stop)))
def td4_9 : Draw := ⟨[0, 1, 0, 7, 15, 31, 63, 127, 255, 63, 575, 2047, 4095, 8191, 16383, 32767, 16383, 81919, 262143, 524287, 1048575, 2097151, 4194303, 2097151, 16777215, 33554431, 67108863, 134217727, 268435455, 536870911, 268435455, 2147483647, 4294967295, 8589934591], [], []⟩
@[go_sem] def dr4 : Nat → Draw
  | 9 => ⟨[0, 1, 0, 7, 15, 31, 63, 127, 255, 63, 575, 2047, 4095, 8191, 16383, 32767, 16383, 81919, 262143, 524287, 1048575, 2097151, 4194303, 2097151, 16777215, 33554431, 67108863, 134217727, 268435455, 536870911, 268435455, 2147483647, 4294967295, 8589934591], [(0, []), (2, []), (1, []), (3, []), (4, []), (5, []), (6, []), (9, []), (10, []), (7, []), (8, []), (11, []), (12, []), (13, []), (14, []), (15, []), (16, []), (17, []), (18, []), (19, []), (20, []), (21, []), (23, []), (22, []), (24, []), (25, []), (26, []), (27, []), (28, []), (30, []), (29, []), (31, []), (32, []), (33, [])], []⟩
  | 14 => ⟨[0, 0, 2, 0, 8, 31, 0, 0, 128, 0, 512, 2047, 4095], [(0, []), (1, []), (2, []), (3, []), (4, []), (6, []), (7, []), (8, []), (9, []), (10, []), (5, [8, 10]), (11, []), (12, [])], []⟩
  | _ => {}
-- joystick/joysticklaw01.RomKeeps
@[go_sem] def tr5_9 : DT := .op 0 (.op 2 (.fork 1 [] (.fork 3 [] (.op 4 (.op 5 (.op 6 (.op 8 (.fork 7 [] (.fork 9 [] (.op 10 (.op 11 (.op 12 (.op 13 (.op 16 (.fork 14 [] (.fork 15 [] (.fork 17 [] (.op 18 (.op 19 (.op 20 (.done)))) (.stop)) (.fork 17 [] (.fork 15 [] (.op 18 (.op 19 (.op 20 (.done)))) (.stop)) (.stop))) (.fork 17 [] (.fork 14 [] (.fork 15 [] (.op 18 (.op 19 (.op 20 (.done)))) (.stop)) (.stop)) (.stop)))))))) (.stop)) (.stop)))))) (.stop)) (.stop)))
def td5_9 : Draw := ⟨[0, 1, 0, 7, 15, 31, 63, 127, 63, 511, 1023, 2047, 4095, 8191, 16383, 32767, 8191, 73727, 262143, 524287, 1048575], [], []⟩
@[go_sem] def dr5 : Nat → Draw
  | 9 => ⟨[0, 1, 0, 7, 15, 31, 63, 127, 63, 511, 1023, 2047, 4095, 8191, 16383, 32767, 8191, 73727, 262143, 524287, 1048575], [(0, []), (2, []), (1, []), (3, []), (4, []), (5, []), (6, []), (8, []), (7, []), (9, []), (10, []), (11, []), (12, []), (13, []), (16, []), (17, []), (14, []), (15, []), (18, []), (19, []), (20, [])], []⟩
  | _ => {}
-- joystick/joysticklaw01.RomGrows
@[go_sem] def dr6 : Nat → Draw
  | 13 => ⟨[0, 0, 2, 0, 8, 31, 0, 0, 192, 448, 1023, 2047, 4095, 4095, 12287, 4095, 36863, 126975, 4095, 524287, 4095, 4095, 3149823, 7344127, 16777215, 33554431, 67108863], [(0, []), (1, []), (2, []), (3, []), (4, []), (6, []), (7, []), (8, []), (9, []), (5, [9]), (10, []), (11, []), (12, []), (13, []), (14, []), (15, []), (18, []), (20, []), (21, []), (22, []), (23, []), (16, [23]), (17, []), (19, [23]), (24, []), (25, []), (26, [])], []⟩
  | _ => {}
-- joystick/joysticklaw01.romAlive
@[go_sem] def dr7 : Nat → Draw
  | 1 => ⟨[0, 0, 3, 7, 15], [(0, []), (1, []), (2, []), (3, []), (4, [])], [(1, 4)]⟩
  | _ => {}
-- (*joystick/rom.Rom).At
@[go_sem] def dr9 : Nat → Draw
  | 1 => ⟨[0, 1, 3, 7, 0, 16, 0, 64, 240, 0, 512, 1536, 3584, 7680, 15872, 32752, 65535, 131071, 262143], [(0, []), (1, []), (2, []), (3, []), (4, []), (5, []), (6, []), (7, []), (8, []), (9, []), (10, []), (11, []), (12, []), (13, []), (14, []), (15, []), (16, []), (17, []), (18, [])], []⟩
  | _ => {}
-- joystick/joysticklaw01.build
@[go_sem] def dr11 : Nat → Draw
  | 6 => ⟨[0, 0, 0, 4, 0, 0, 32, 96, 240, 508, 1020, 2047, 4095], [(0, []), (1, []), (2, []), (3, []), (4, []), (5, []), (6, []), (7, []), (8, []), (9, []), (10, []), (11, []), (12, [])], []⟩
  | _ => {}
-- (*joystick/rom.Rom).Sum$1
@[go_sem] def dr21 : Nat → Draw
  | 4 => ⟨[0, 0, 2, 6, 14, 0, 32, 126, 254, 511, 1023, 2047], [(0, []), (1, []), (2, []), (3, []), (4, []), (5, []), (6, []), (7, []), (8, []), (9, []), (10, []), (11, [])], []⟩
  | _ => {}
-- (*sync/atomic.Bool).Store
@[go_sem] def dr30 : Nat → Draw
  | 0 => ⟨[0, 1, 3, 0, 8, 31], [(0, []), (1, []), (2, []), (3, []), (4, []), (5, [])], []⟩
  | _ => {}
def dr0 : Nat → Draw := fun _ => {}
end Go.Proofs.Joy
namespace Go.Proofs.JoyK
open Go Go.Proofs

theorem disable (w : World) : (callFunc 35 #[]).run Try.prog w = .ok (.value (.tuple #[])) w := run_call_mark0 Try.func35 (by kernel_rfl) (by kernel_rfl) (by kernel_rfl) .disable (by kernel_rfl) w
theorem enable (w : World) : (callFunc 37 #[]).run Try.prog w = .ok (.value (.tuple #[])) w := run_call_mark0 Try.func37 (by kernel_rfl) (by kernel_rfl) (by kernel_rfl) .enable (by kernel_rfl) w
theorem acquire (a : Addr) (w : World) : (callFunc 38 #[.pointer (some a)]).run Try.prog w = .ok (.value (.tuple #[])) w := run_call_marked Try.func38 (by kernel_rfl) (by kernel_rfl) (by kernel_rfl) .acquire (by kernel_rfl) a w
theorem releaseMerge (a : Addr) (w : World) : (callFunc 40 #[.pointer (some a)]).run Try.prog w = .ok (.value (.tuple #[])) w := run_call_marked Try.func40 (by kernel_rfl) (by kernel_rfl) (by kernel_rfl) .releaseMerge (by kernel_rfl) a w

/-- A bool's word is stored, as a deferred call. -/
theorem store_deferred (a : Addr) (x : Value) (u : FrameMode) (w : World) (hc : w.cell? a = some x) (hz : w.frozen? a = false) :
    CallsD Try.prog 30 #[.pointer (some a), .bool true] u w fun e u' w' => u' = u ∧ (e = .returned (.tuple #[]) ∧ w' = w.drew.setCell a (.int .u32 1)) := by
  have hc' : w.drew.cell? a = some x := by go_simp
  have hz' : w.drew.frozen? a = false := by go_simp
  have hst := run_call_store (P := Try.prog) Try.func33 (by kernel_rfl) (by kernel_rfl) (by kernel_rfl) (by kernel_rfl) (k := .u32) (y := 1) hc' hz'
  go_enter_d Try.func30, Try.ntmps30
  go_wp2
  go_region_calls
  all_goals (go_end0; exact ⟨rfl, rfl⟩)

/-- A lock is let go, as a deferred call. -/
theorem unlock_deferred (a : Addr) (u : FrameMode) (w : World) (hc : w.cell? a = some (.int .i32 1)) (hz : w.frozen? a = false) :
    CallsD Try.prog 29 #[.pointer (some a)] u w fun e u' w' => u' = u ∧ (e = .returned (.tuple #[]) ∧ w' = w.setCell a (.int .i32 0)) := by
  have hd := disable
  have he := enable
  have hr := releaseMerge
  have hadd := run_call_add (P := Try.prog) Try.func41 (by kernel_rfl) (by kernel_rfl) (by kernel_rfl) .i32 (by kernel_rfl) (y := -1) (s := 0) hc hz (by simp [go_sem]; rfl)
  have hcv := run_convert_to_unsafe (P := Try.prog) (src := 72) (dst := 76) Try.underlying72 Try.underlying76 (by kernel_rfl) hc
  go_enter_d Try.func29, Try.ntmps29
  go_wp2
  go_end0
  go_wp2
  go_end0
  exact ⟨rfl, rfl⟩

/-- A free lock is taken. -/
theorem lock_free (a : Addr) (w : World) (hc : w.cell? a = some (.int .i32 0)) (hz : w.frozen? a = false) :
    Calls Try.prog 28 #[.pointer (some a)] w fun e w' => e = .returned (.tuple #[]) ∧ w' = w.setCell a (.int .i32 1) := by
  have hd := disable
  have he := enable
  have ha := acquire
  have hcas := run_call_cas_hit (P := Try.prog) Try.func36 (by kernel_rfl) (by kernel_rfl) (by kernel_rfl) .i32 (by kernel_rfl) (y := 1) hc hz
  have hc' : (w.setCell a (.int .i32 1)).cell? a = some (.int .i32 1) := World.cell?_setCell_same w a _ hc
  have hcv := run_convert_to_unsafe (P := Try.prog) (src := 72) (dst := 76) Try.underlying72 Try.underlying76 (by kernel_rfl) hc'
  go_enter Try.func28, Try.ntmps28
  go_wp2
  first | go_end0 | (simp only [Exit.inBlock, Exit.then]; refine bodyPost_ret (results_none rfl _ _ _) rfl ?_) | refine bodyPost_ret (results_none rfl _ _ _) rfl ?_
  go_wp2
  go_end0
  exact ⟨rfl, rfl⟩

set_option maxRecDepth 100000 in
set_option maxHeartbeats 1600000 in
/-- What is done once, the first time. -/
theorem slow_any (fc : FuncId) (b off : Nat) (pl : Value) (w : World) (R : World → Prop)
    (hfc : ∀ w, (callFunc fc #[pl]).run Try.prog w = .ok (.enter fc #[pl]) w)
    (h0 : w.cell? ⟨b, off, none⟩ = some (.int .u32 0)) (h1 : w.cell? ⟨b, off + 1, none⟩ = some (.int .i32 0)) (f1 : w.frozen? ⟨b, off + 1, none⟩ = false)
    (hcl : Calls Try.prog fc #[pl] (w.setCell ⟨b, off + 1, none⟩ (.int .i32 1)) fun e w' => e = .returned (.tuple #[]) ∧ R w')
    (hR : ∀ w', R w' → w'.cell? ⟨b, off, none⟩ = some (.int .u32 0) ∧ w'.cell? ⟨b, off + 1, none⟩ = some (.int .i32 1) ∧ w'.frozen? ⟨b, off, none⟩ = false ∧ w'.frozen? ⟨b, off + 1, none⟩ = false) :
    Calls Try.prog 26 #[.pointer (some ⟨b, off, none⟩), .func (.func fc) #[] #[pl]] w fun e w'' => e = .returned (.tuple #[]) ∧
      ∃ w', R w' ∧ w'' = (w'.drew.setCell ⟨b, off, none⟩ (.int .u32 1)).setCell ⟨b, off + 1, none⟩ (.int .i32 0) := by
  have hl := run_call_load (P := Try.prog) Try.func27 (by kernel_rfl) (by kernel_rfl) (by kernel_rfl) .u32 (by kernel_rfl) (w := w.setCell ⟨b, off + 1, none⟩ (.int .i32 1)) (a := ⟨b, off, none⟩) (x := 0) ((World.cell?_setCell_other _ ⟨b, off + 1, none⟩ ⟨b, off, none⟩ _ (by simp)).trans h0)
  have hnot : ∀ (x : Bool) (w : World), (Op.unary .not (.bool x)).run Try.prog w = .ok (.bool (!x)) w := fun _ _ => rfl
  go_enter_defers Try.func26, Try.ntmps26
  go_wp2_with (go_at_call 28; refine (lock_free ⟨b, off + 1, none⟩ _ (by go_simp) (by go_simp)).mono ?_; rintro e w' ⟨rfl, rfl⟩)
  go_wp2
  refine hcl.mono ?_
  rintro e w1 ⟨rfl, hr⟩
  obtain ⟨r0, r1, z0, z1⟩ := hR w1 hr
  go_wp2
  refine leaves_cons (f := 30) (args := #[.pointer (some ⟨b, off, none⟩), .bool true]) (by simp) (by simp [go_sem]) ?_
  refine (store_deferred ⟨b, off, none⟩ (.int .u32 0) .returning _ r0 z0).mono ?_
  rintro e u' w'' ⟨rfl, rfl, rfl⟩
  refine leaves_cons (f := 29) (args := #[.pointer (some ⟨b, off + 1, none⟩)]) (by simp [settle]) (by simp [go_sem]) ?_
  refine (unlock_deferred ⟨b, off + 1, none⟩ _ _ ?_ (by simp [z1])).mono ?_
  · refine (World.cell?_setCell_other _ ⟨b, off, none⟩ ⟨b, off + 1, none⟩ _ (by simp)).trans ?_
    rw [World.cell?_drew]
    exact r1
  rintro e u' w'' ⟨rfl, rfl, rfl⟩
  exact ⟨.tuple #[], by simp [results, Try.results26], rfl, w1, hr, rfl⟩
end Go.Proofs.JoyK
namespace Go.Proofs.Joy
open Go.Ab Go.Proofs Go

set_option maxHeartbeats 1000000
set_option maxRecDepth 20000

/-- What is done once, the first time: its word is 0 and its lock free; the function leaves both so. -/
theorem slow_ok (fc : FuncId) (fn : Func) (cv : AV) (b off : Nat) (blk : Blk) (H : Heap) (n : Nat) (K : AV → Heap → Nat → Prop) (Q : Heap → Nat → Prop) (hf : Try.prog.funcs[fc]? = some fn) (hname : (fn.name == "runtime.NumGoroutine") = false) (hbody : fn.body.isNone = false) (hcj : cv ≠ .junk)
    (hb : H b = some blk) (hro : blk.ro = false) (c0 : blk.cells[off]? = some (.u32 0#32)) (c1 : blk.cells[off + 1]? = some (.i32 0#32))
    (hcl : ACalls Try.prog fc [cv] (H.upd b (some { blk with cells := blk.cells.set (off + 1) (.i32 1#32) })) n fun v H2 n2 => v = .tu [] ∧ Q H2 n2)
    (hQ : ∀ H2 n2, Q H2 n2 → ∃ blk2, H2 b = some blk2 ∧ blk2.ro = false ∧ blk2.cells[off]? = some (.u32 0#32) ∧ blk2.cells[off + 1]? = some (.i32 1#32))
    (h : ∀ H2 n2 blk2, n ≤ n2 → Q H2 n2 → H2 b = some blk2 → K (.tu []) (H2.upd b (some { blk2 with cells := (blk2.cells.set off (.u32 1#32)).set (off + 1) (.i32 0#32) })) n2) :
    ACalls Try.prog 26 [.pt b off, .fn fc [cv]] H n K := by
  refine ⟨by simp, fun m w hH hargs => ?_⟩
  have hcok : cv.ok n = true := by
    have := hargs (.fn fc [cv]) (by simp)
    simpa [AV.ok, AV.oks] using this
  rw [run_callFunc Try.func26 (by kernel_rfl) (by kernel_rfl)]
  have l1 := lt_of_get c1
  obtain ⟨hH1, hF1⟩ := hH.setCell (v := .i32 1#32) hb hro l1 rfl rfl
  have hcl1 := hcl.2 m _ hH1 (by simpa using hcok)
  rw [run_callFunc hf hname hbody] at hcl1
  have hcl2 : Calls Try.prog fc #[AV.toV m cv] (w.setCell ⟨m.ρ b, m.β b + off + 1, none⟩ (.int .i32 1)) _ := hcl1
  have hbn : b < n := hH.dom b blk hb
  let R : World → Prop := fun w' => ∃ (m' : NM) (H2 : Heap) (n2 : Nat), HRel m' H2 n2 w' ∧ n ≤ n2 ∧ NM.agree n m m' ∧ Fr m (H.upd b (some { blk with cells := blk.cells.set (off + 1) (.i32 1#32) })) (w.setCell ⟨m.ρ b, m.β b + (off + 1), none⟩ (AV.toV m (.i32 1#32))) m' H2 w' ∧ Q H2 n2
  have key := JoyK.slow_any fc (m.ρ b) (m.β b + off) (AV.toV m cv) w R (fun w => run_callFunc hf hname hbody _ w) (hH.cell hb c0) (hH.cell hb c1) (hH.thaw hb hro l1)
    (hcl2.mono fun e w' ⟨x, he, m', v, H2, n2, hx, h1, h2, h3, h5, h6⟩ => by
      obtain ⟨rfl, h6⟩ := h6
      refine ⟨?_, m', H2, n2, h1, h2, h3, h5, h6⟩
      rw [he, (hx (by simp)).1]; rfl)
    (fun w' ⟨m', H2, n2, h1, h2, h3, h4, h5⟩ => by
      obtain ⟨blk2, q1, q2, q3, q4⟩ := hQ _ _ h5
      obtain ⟨a1, -, a3⟩ := h3 b hbn
      rw [← a1, ← a3]
      exact ⟨h1.cell q1 q3, h1.cell q1 q4, h1.thaw q1 q2 (lt_of_get q3), h1.thaw q1 q2 (lt_of_get q4)⟩)
  refine key.mono fun e w'' ⟨he, w', ⟨m', H2, n2, h1, h2, h3, h4, h5⟩, hw⟩ => ?_
  obtain ⟨blk2, q1, q2, q3, q4⟩ := hQ _ _ h5
  obtain ⟨a1, -, a3⟩ := h3 b hbn
  have hD := h1.drew
  obtain ⟨hS, hFS⟩ := hD.setCell (v := .u32 1#32) q1 q2 (lt_of_get q3) rfl rfl
  obtain ⟨hS2, hFS2⟩ := hS.setCell (b := b) (v := .i32 0#32) (off := off + 1) (Heap.upd_same _ _ _) q2 (by rw [List.length_set]; exact lt_of_get q4) rfl rfl
  rw [Heap.upd_upd] at hS2 hFS2
  have ew : w'' = (w'.drew.setCell ⟨m'.ρ b, m'.β b + off, none⟩ (AV.toV m' (.u32 1#32))).setCell ⟨m'.ρ b, m'.β b + (off + 1), none⟩ (AV.toV m' (.i32 0#32)) := by
    rw [hw, a1, a3]; rfl
  rw [← ew] at hS2 hFS2
  exact ⟨_, he, m', .tu [], _, n2, fun _ => ⟨rfl, rfl⟩, hS2, h2, h3, (hF1.trans h4).trans ((Fr.drew m' H2 w').trans (hFS.trans hFS2)), h _ _ blk2 h2 h5 q1⟩
end Go.Proofs.Joy
namespace Go.Proofs.Joy
open Go.Ab Go.Proofs

set_option maxHeartbeats 1000000
set_option maxRecDepth 20000

/-- How many bits a small number has. -/
def lenS (n : Nat) : Nat := if n = 0 then 0 else n.log2 + 1

theorem len64_ok (x : BitVec 64) (hx : x.toNat < 256) (H : Heap) (n : Nat) (K : AV → Heap → Nat → Prop) (h : K (.i64 (lenS x.toNat)) H n) : ACalls Try.prog 24 [.u64 x] H n K := by
  refine ACalls.of_ev dr0 Try.func24 rfl (by decide +kernel) (by decide +kernel) (show 1 ≤ 25 by decide) (by simp) fun wf => ?_
  simp only [go_sem, Try.f24]
  refine ⟨fun a => absurd a (by rw [BitVec.le_def]; simp; omega), fun _ => ⟨fun a => absurd a (by rw [BitVec.le_def]; simp; omega), fun _ => ⟨fun a => absurd a (by rw [BitVec.le_def]; simp; omega), fun _ => ?_⟩⟩⟩
  generalize hL : List.map UInt8.toBitVec _ = L
  have hT : ∀ q : Fin 256, L.length = 256 ∧ (L.getD q.val 0#8).toNat = lenS q.val := by subst hL; decide +kernel
  have hs : (BitVec.setWidth 8 x).toNat = x.toNat := by simp; omega
  have h1 := hT ⟨x.toNat, hx⟩
  simp only at h1
  rw [hs, h1.1, h1.2, Int.zero_add, wrap_id _ (by omega) (by unfold lenS; split; omega; have := (Nat.log2_lt (by assumption)).2 (show x.toNat < 2 ^ 8 by omega); omega)]
  exact ⟨by omega, Fin.back wf h (fun _ _ => rfl) rfl⟩

theorem len_ok (x : BitVec 64) (hx : x.toNat < 256) (H : Heap) (n : Nat) (K : AV → Heap → Nat → Prop) (h : K (.i64 (lenS x.toNat)) H n) : ACalls Try.prog 18 [.u64 x] H n K := by
  refine ACalls.of_ev dr0 Try.func18 rfl (by decide +kernel) (by decide +kernel) (show 1 ≤ 8 by decide) (by simp) fun wf => ?_
  simp only [go_sem, Try.f18]
  refine len64_ok x hx _ _ _ ?_
  simp only [go_sem]
  exact Fin.back wf h (fun _ _ => rfl) rfl
end Go.Proofs.Joy
namespace Go.Proofs.Joy
open Go.Ab Go.Proofs

set_option maxHeartbeats 1000000
set_option maxRecDepth 20000

def bankCount (n : Nat) : Nat := (n + 16383) / 16384
def romBanks (n : Nat) : Nat := if bankCount n ≤ 1 then 1 else 2 ^ lenS (bankCount n - 1)
def romL (bs : List (BitVec 8)) : List (BitVec 8) := bs.take 4194304 ++ List.replicate (romBanks (bs.take 4194304).length * 16384 - (bs.take 4194304).length) 0#8

theorem lenS_spec (k : Nat) (h : 0 < k) : 2 ^ (lenS k - 1) ≤ k ∧ k < 2 ^ lenS k ∧ 0 < lenS k := by
  unfold lenS
  rw [if_neg (by omega)]
  have h1 := Nat.log2_self_le (n := k) (by omega)
  have h2 := Nat.lt_log2_self (n := k)
  exact ⟨by rw [Nat.add_sub_cancel]; exact h1, h2, by omega⟩
theorem romBanks_ge (n : Nat) : n ≤ romBanks n * 16384 := by
  unfold romBanks
  split
  · unfold bankCount at *; omega
  · rename_i h
    have := (lenS_spec (bankCount n - 1) (by omega)).2.1
    have h2 : bankCount n ≤ 2 ^ lenS (bankCount n - 1) := by omega
    have : bankCount n * 16384 ≤ 2 ^ lenS (bankCount n - 1) * 16384 := Nat.mul_le_mul_right _ h2
    unfold bankCount at *; omega
theorem romBanks_le (n : Nat) (h : n ≤ 4194304) : romBanks n ≤ 256 ∧ 1 ≤ romBanks n := by
  unfold romBanks
  split
  · omega
  · rename_i hc
    have hb : bankCount n ≤ 256 := by unfold bankCount; omega
    have : lenS (bankCount n - 1) ≤ 8 := by
      unfold lenS; split
      · omega
      · have := (Nat.log2_lt (by assumption)).2 (show bankCount n - 1 < 2 ^ 8 by omega); omega
    have h1 : 2 ^ lenS (bankCount n - 1) ≤ 2 ^ 8 := Nat.pow_le_pow_right (by decide) this
    have h2 := Nat.one_le_two_pow (n := lenS (bankCount n - 1))
    omega
theorem romL_len (bs : List (BitVec 8)) : (romL bs).length = romBanks (bs.take 4194304).length * 16384 := by
  have := romBanks_ge (bs.take 4194304).length
  unfold romL; rw [List.length_append, List.length_replicate]; omega

def romB (b l : Nat) (d : BitVec 32 := 0#32) (s : BitVec 32 := 0#32) : Blk := ⟨[.sl b 0 l l, .u32 d, .i32 0#32, .u32 0#32, .u32 s], 57, false⟩

theorem rom_new (v : AV) (bs : List (BitVec 8)) (H : Heap) (n : Nat) (K : AV → Heap → Nat → Prop) (hv : bytesIn H v bs) (hm : bs.length ≤ 4294967296)
    (h : K (.pt (n + 1) 0) ((H.upd n (some ⟨(romL bs).map .u8, 5, false⟩)).upd (n + 1) (some (romB n (romL bs).length))) (n + 2)) : ACalls Try.prog 8 [v] H n K := by
  refine ACalls.of_awp Try.func8 rfl (by decide +kernel) (show 1 ≤ 32 by decide) (by simp [hv.ne]) fun wf => ?_
  have hlb : ∀ K, lenB (some .slice) v K = K (.i64 bs.length) := lenB_bytes hv
  refine awp_step dr0 (by decide +kernel) ?_
  simp only [go_sem, Try.f8]
  refine awp_step dr0 (by decide +kernel) ?_
  simp only [go_sem, hlb]
  have hvok : v.ok n = true := by
    rcases hv with ⟨rfl, rfl⟩ | ⟨su, b, o, c, blk, rfl, h0, h1, h2, h3⟩
    · rfl
    · exact vw_ok (wf b _ h1).1
  have hix : ixT Try.prog 25 = some (none, false, 1) := by simp only [go_sem]
  refine slB_bytes hix hv hvok 0 (min bs.length 4194304) (by simp only [Option.some.injEq]; omega) (Nat.zero_le _) (Nat.min_le_left _ _) fun v' hv' hvok' => ?_
  rw [List.drop_zero, Nat.sub_zero] at hv'
  have hbs : bs.take (min bs.length 4194304) = bs.take 4194304 := by
    rcases Nat.le_total bs.length 4194304 with hle | hle
    · rw [Nat.min_eq_left hle, List.take_length, List.take_of_length_le hle]
    · rw [Nat.min_eq_right hle]
  rw [hbs] at hv'
  have hrl : romL bs = bs.take 4194304 ++ List.replicate (romBanks (bs.take 4194304).length * 16384 - (bs.take 4194304).length) 0#8 := rfl
  have hl := romL_len bs
  have hc4 : (bs.take 4194304).length ≤ 4194304 := by rw [List.length_take]; omega
  generalize bs.take 4194304 = cs at hv' hrl hl hc4
  have hlb' : ∀ K, lenB (some .slice) v' K = K (.i64 cs.length) := lenB_bytes hv'
  simp only [go_sem]
  refine awp_step dr0 (by decide +kernel) ?_
  simp only [go_sem, hlb']
  have w1 : wrap64 ((wrap64 (wrap64 ((cs.length : Int) + 16384) - 1)).tdiv 16384) = ((bankCount cs.length : Nat) : Int) := by
    rw [wrap_id (_ + _) (by omega) (by omega), wrap_id (_ - _) (by omega) (by omega), Int.tdiv_eq_ediv_of_nonneg (by omega), wrap_id _ (by omega) (by omega)]
    unfold bankCount; omega
  rw [w1]
  have hbc : bankCount cs.length ≤ 256 := by unfold bankCount; omega
  have hbl := romBanks_le cs.length hc4
  refine awp_seqF (S := Unit) (fun _ => [(0, v'), (2, .pn), (3, .i64 ((if bankCount cs.length ≤ 1 then bankCount cs.length else 2 ^ lenS (bankCount cs.length - 1) : Nat) : Int))]) (fun _ => H) (fun _ => n) (fun _ => True) (fun _ _ => ⟨wf, Env.okAt_of2 (by simp [AV.ok, hvok'])⟩) ?_ ?_
  · refine awp_ev dr0 (by decide +kernel) ?_
    simp only [go_sem]
    refine ⟨fun a1 => ?_, fun a1 => ?_⟩
    · have w2 : wrap64 (((bankCount cs.length : Nat) : Int) - 1) = ((bankCount cs.length - 1 : Nat) : Int) := by rw [wrap_id _ (by omega) (by omega)]; omega
      have hx : (BitVec.ofNat 64 (bankCount cs.length - 1)).toNat = bankCount cs.length - 1 := by rw [BitVec.toNat_ofNat]; omega
      simp only [w2, BitVec.ofInt_natCast]
      refine len_ok _ (by rw [hx]; omega) _ _ _ ?_
      have hls : lenS (bankCount cs.length - 1) ≤ 8 := by
        unfold lenS; split
        · omega
        · have := (Nat.log2_lt (by assumption)).2 (show bankCount cs.length - 1 < 2 ^ 8 by omega); omega
      have hp : (2 : Nat) ^ lenS (bankCount cs.length - 1) ≤ 2 ^ 8 := Nat.pow_le_pow_right (by decide) hls
      have pk : ((2 : Int) ^ lenS (bankCount cs.length - 1)) = ((2 ^ lenS (bankCount cs.length - 1) : Nat) : Int) := by rw [Int.natCast_pow]; rfl
      have w3 : wrap64 (1 * 2 ^ min (lenS (bankCount cs.length - 1)) 64) = ((2 ^ lenS (bankCount cs.length - 1) : Nat) : Int) := by
        rw [Nat.min_eq_left (by omega), Int.one_mul, pk]
        generalize 2 ^ lenS (bankCount cs.length - 1) = X at hp
        exact wrap_id _ (by omega) (by omega)
      simp only [go_sem, hx, w3]
      exact Ends.mk () trivial (Env.le_cons rfl (Env.le_cons rfl (Env.le_cons (by rw [if_neg (by omega)]; rfl) (Env.le_nil _)))) (fun _ _ => rfl) (Nat.le_refl _) (Nat.le_refl _)
    · exact Ends.mk () trivial (Env.le_cons rfl (Env.le_cons rfl (Env.le_cons (by rw [if_pos (by omega)]; rfl) (Env.le_nil _)))) (fun _ _ => rfl) (Nat.le_refl _) (Nat.le_refl _)
  rintro - -
  have w4 : wrap64 (max (((if bankCount cs.length ≤ 1 then bankCount cs.length else 2 ^ lenS (bankCount cs.length - 1) : Nat) : Int)) 1 * 16384) = (((romL bs).length : Nat) : Int) := by
    have e : max (((if bankCount cs.length ≤ 1 then bankCount cs.length else 2 ^ lenS (bankCount cs.length - 1) : Nat) : Int)) 1 = ((romBanks cs.length : Nat) : Int) := by
      unfold romBanks
      split
      · omega
      · have := Nat.one_le_two_pow (n := lenS (bankCount cs.length - 1)); omega
    rw [e, hl, wrap_id _ (by omega) (by omega)]; omega
  have hge := romBanks_ge cs.length
  have hcl : cs.length ≤ (romL bs).length := by omega
  have hlz : 0 < (romL bs).length := by omega
  refine awp_step dr0 (by decide +kernel) ?_
  simp only [go_sem, w4]
  refine ⟨by omega, by omega, by omega, ?_⟩
  rw [rep_u8]
  have hv2 : bytesIn (H.upd n (some ⟨(List.replicate (romL bs).length 0#8).map .u8, 5, false⟩)) v' cs := hv'.mono hvok' fun i hi => Heap.upd_ne _ _ (by omega)
  refine awp_step dr0 (by decide +kernel) ?_
  simp only [go_sem, copyB_bytes hv2, List.length_map, List.length_replicate, hcl]
  have es : splice (List.map AV.u8 (List.replicate (romL bs).length 0#8)) 0 (List.map AV.u8 cs) = (romL bs).map .u8 := by
    rw [splice, List.take_zero, List.nil_append, Nat.zero_add, List.length_map, ← List.map_drop, ← List.map_append, List.drop_replicate, hl, ← hrl]
  rw [es]
  refine awp_ev dr0 (by decide +kernel) ?_
  simp only [go_sem]
  exact Fin.keep h
end Go.Proofs.Joy
namespace Go.Proofs.Joy
open Go.Ab Go.Proofs

set_option maxHeartbeats 1000000
set_option maxRecDepth 20000

def romOk (l : List (BitVec 8)) : Prop := ∃ j, j ≤ 8 ∧ l.length = 2 ^ j * 16384
theorem romBanks_pow (n : Nat) (h : n ≤ 4194304) : ∃ j, j ≤ 8 ∧ romBanks n = 2 ^ j := by
  unfold romBanks
  split
  · exact ⟨0, by omega, rfl⟩
  · rename_i hc
    refine ⟨_, ?_, rfl⟩
    have hb : bankCount n ≤ 256 := by unfold bankCount; omega
    unfold lenS; split
    · omega
    · have := (Nat.log2_lt (by assumption)).2 (show bankCount n - 1 < 2 ^ 8 by omega); omega
theorem romL_ok (bs : List (BitVec 8)) : romOk (romL bs) := by
  obtain ⟨j, h1, h2⟩ := romBanks_pow (bs.take 4194304).length (by rw [List.length_take]; omega)
  exact ⟨j, h1, by rw [romL_len, h2]⟩

theorem and64_mask (k : Nat) (hk : k ≤ 62) (x : Int) : and64 x (((2 ^ k - 1 : Nat) : Nat) : Int) = x % ((2 ^ k : Nat) : Int) := by
  have hp : 0 < 2 ^ k := Nat.two_pow_pos k
  have hle : (2 : Nat) ^ k ≤ 2 ^ 62 := Nat.pow_le_pow_right (by decide) hk
  have e1 : (BitVec.ofInt 64 x &&& BitVec.ofInt 64 (((2 ^ k - 1 : Nat) : Nat) : Int)).toNat = (BitVec.ofInt 64 x).toNat % 2 ^ k := by
    rw [BitVec.toNat_and, BitVec.ofInt_natCast, BitVec.toNat_ofNat, Nat.mod_eq_of_lt (by omega), Nat.and_two_pow_sub_one_eq_mod]
  have e2 : (((BitVec.ofInt 64 x).toNat % 2 ^ k : Nat) : Int) = x % ((2 ^ k : Nat) : Int) := by
    rw [Int.natCast_emod, BitVec.toNat_ofInt]
    have hnn : 0 ≤ x % ((2 ^ 64 : Nat) : Int) := Int.emod_nonneg _ (by decide)
    rw [Int.toNat_of_nonneg hnn]
    exact Int.emod_emod_of_dvd _ (by
      have : (2 : Nat) ^ k ∣ 2 ^ 64 := Nat.pow_dvd_pow 2 (by omega)
      exact Int.ofNat_dvd.2 this)
  unfold and64
  rw [e1]
  have hlt : (BitVec.ofInt 64 x).toNat % 2 ^ k < 2 ^ k := Nat.mod_lt _ hp
  rw [wrap_id _ (by omega) (by omega), e2]

theorem getD_map8 {bs : List (BitVec 8)} {i : Nat} (h : i < bs.length) : (bs.map AV.u8).getD i .junk = .u8 (bs.getD i 0#8) := by
  simp [List.getD_eq_getElem?_getD, h]

def romAt (l : List (BitVec 8)) (bank off : Int) : BitVec 8 := l.getD ((bank % ((l.length / 16384 : Nat) : Int)) * 16384 + off % 16384).toNat 0#8

theorem wrap_emod (x : Int) (k : Nat) (hk : k ≤ 64) : wrap64 x % ((2 ^ k : Nat) : Int) = x % ((2 ^ k : Nat) : Int) := by
  have hd : ((2 ^ k : Nat) : Int) ∣ ((2 ^ 64 : Nat) : Int) := Int.ofNat_dvd.2 (Nat.pow_dvd_pow 2 hk)
  obtain ⟨c, hc⟩ : ∃ c : Int, wrap64 x = x + c * ((2 ^ 64 : Nat) : Int) := by
    rw [show (((2 ^ 64 : Nat) : Nat) : Int) = 18446744073709551616 from rfl]
    show ∃ c : Int, (if (true && decide (x % 18446744073709551616 ≥ 9223372036854775808)) = true then x % 18446744073709551616 - 18446744073709551616 else x % 18446744073709551616) = x + c * 18446744073709551616
    rw [Bool.true_and]
    by_cases h : x % 18446744073709551616 ≥ 9223372036854775808
    · rw [if_pos (by simpa using h)]; exact ⟨-(x / 18446744073709551616) - 1, by omega⟩
    · rw [if_neg (by simpa using h)]; exact ⟨-(x / 18446744073709551616), by omega⟩
  obtain ⟨d, hd⟩ := hd
  rw [hc, hd, ← Int.mul_assoc, Int.mul_comm c, Int.mul_assoc]
  exact Int.add_mul_emod_self_left _ _ _

/-- Where a byte of a bank stands. -/
theorem at_index {l : List (BitVec 8)} (hl : romOk l) (bank off : Int) :
    and64 (wrap64 (wrap64 (bank * 16384) + and64 off 16383)) (wrap64 ((l.length : Int) - 1)) = (bank % ((l.length / 16384 : Nat) : Int)) * 16384 + off % 16384 ∧
    0 ≤ (bank % ((l.length / 16384 : Nat) : Int)) * 16384 + off % 16384 ∧ (bank % ((l.length / 16384 : Nat) : Int)) * 16384 + off % 16384 < l.length := by
  obtain ⟨j, hj, hlen⟩ := hl
  have hp : 1 ≤ 2 ^ j := Nat.one_le_two_pow
  have hp2 : 2 ^ j ≤ 2 ^ 8 := Nat.pow_le_pow_right (by decide) hj
  have hb : l.length / 16384 = 2 ^ j := by omega
  have e14 : l.length = 2 ^ (j + 14) := by rw [hlen, Nat.pow_add]
  have m1 : and64 off 16383 = off % 16384 := and64_mask 14 (by decide) off
  have m2 : wrap64 ((l.length : Int) - 1) = ((2 ^ (j + 14) - 1 : Nat) : Int) := by rw [wrap_id _ (by omega) (by omega), ← e14]; omega
  rw [m1, m2, and64_mask (j + 14) (by omega), wrap_emod _ _ (by omega), Int.add_emod, wrap_emod _ _ (by omega), ← Int.add_emod, ← e14, hb, hlen]
  generalize 2 ^ j = B at *
  have h1 : 0 ≤ off % 16384 := Int.emod_nonneg _ (by decide)
  have h2 : off % 16384 < 16384 := Int.emod_lt_of_pos _ (by decide)
  have h3 : 0 ≤ bank % (B : Int) := Int.emod_nonneg _ (by omega)
  have h4 : bank % (B : Int) < B := Int.emod_lt_of_pos _ (by omega)
  refine ⟨?_, by omega, by omega⟩
  have e : bank * 16384 + off % 16384 = (bank % (B : Int) * 16384 + off % 16384) + (((B * 16384 : Nat) : Nat) : Int) * (bank / (B : Int)) := by
    have hd := Int.emod_add_mul_ediv bank (B : Int)
    rw [Int.natCast_mul]
    have : bank * 16384 = (bank % (B : Int) + (B : Int) * (bank / (B : Int))) * 16384 := by rw [hd]
    rw [this, Int.add_mul]
    have : (B : Int) * (bank / (B : Int)) * 16384 = (B : Int) * 16384 * (bank / (B : Int)) := by rw [Int.mul_assoc, Int.mul_assoc, Int.mul_comm (bank / (B : Int))]
    rw [this]
    show _ = _ + (B : Int) * 16384 * (bank / (B : Int))
    omega
  rw [e, Int.add_mul_emod_self_left, Int.emod_eq_of_lt (by omega) (by omega)]

theorem rom_at (b bb : Nat) (l : List (BitVec 8)) (hl : romOk l) (d s : BitVec 32) (el : TypeId) (ro : Bool) (bank off : Int) (H : Heap) (n : Nat) (K : AV → Heap → Nat → Prop) (hb : H b = some (romB bb l.length d s)) (hbb : H bb = some ⟨l.map .u8, el, ro⟩)
    (h : K (.u8 (romAt l bank off)) H n) : ACalls Try.prog 9 [.pt b 0, .i64 bank, .i64 off] H n K := by
  refine ACalls.of_ev dr9 Try.func9 rfl (by decide +kernel) (by decide +kernel) (show 3 ≤ 25 by decide) (by simp) fun wf => ?_
  obtain ⟨i1, i2, i3⟩ := at_index hl bank off
  have hlt : ((bank % ((l.length / 16384 : Nat) : Int)) * 16384 + off % 16384).toNat < l.length := by omega
  have hg : (l.map AV.u8).getD ((bank % ((l.length / 16384 : Nat) : Int)) * 16384 + off % 16384).toNat .junk = .u8 (romAt l bank off) := by
    unfold romAt
    exact getD_map8 hlt
  have hbn := (wf b _ hb).1
  have hbn2 := (wf bb _ hbb).1
  simp only [go_sem, Try.f9, hb, romB, hbb, i1, i2, i3, hlt, hg, List.length_map]
  exact Fin.back wf h (fun _ _ => rfl) rfl

theorem rom_banks (b bb L : Nat) (d s : BitVec 32) (hL : L ≤ 4294967296) (H : Heap) (n : Nat) (K : AV → Heap → Nat → Prop) (hb : H b = some (romB bb L d s))
    (h : K (.i64 (L / 16384 : Nat)) H n) : ACalls Try.prog 10 [.pt b 0] H n K := by
  refine ACalls.of_ev dr0 Try.func10 rfl (by decide +kernel) (by decide +kernel) (show 1 ≤ 9 by decide) (by simp) fun wf => ?_
  simp only [go_sem, Try.f10]
  have w : wrap64 ((L : Int).tdiv 16384) = ((L / 16384 : Nat) : Int) := by rw [Int.tdiv_eq_ediv_of_nonneg (by omega), wrap_id _ (by omega) (by omega)]; omega
  simp only [go_sem, hb, romB, w]
  exact Fin.back wf h (fun _ _ => rfl) rfl
end Go.Proofs.Joy
namespace Go.Proofs.Joy
open Go.Ab Go.Proofs Go

set_option maxHeartbeats 1000000
set_option maxRecDepth 20000

def fnvT (s : BitVec 32) (l : List (BitVec 8)) : BitVec 32 := l.foldl (fun s b => (s ^^^ b.setWidth 32) * 16777619#32) s
/-- A number that tells bytes from others. -/
def fnvS (l : List (BitVec 8)) : BitVec 32 := fnvT 2166136261#32 l
theorem fnvT_next (s : BitVec 32) {l : List (BitVec 8)} {i : Nat} (h : i < l.length) : fnvT s (l.take (i + 1)) = (fnvT s (l.take i) ^^^ (l.getD i 0#8).setWidth 32) * 16777619#32 := by
  have e : l.take (i + 1) = l.take i ++ [l.getD i 0#8] := by
    rw [List.take_add_one, List.getElem?_eq_getElem h, List.getD_eq_getElem?_getD, List.getElem?_eq_getElem h]; rfl
  rw [e]; simp [fnvT, List.foldl_append]
def romM (b l : Nat) (d : BitVec 32) (mu : BitVec 32) (s : BitVec 32) : Blk := ⟨[.sl b 0 l l, .u32 d, .i32 mu, .u32 0#32, .u32 s], 57, false⟩

theorem host_load32 (b off : Nat) (blk : Blk) (x : BitVec 32) (H : Heap) (n : Nat) (K : AV → Heap → Nat → Prop) (hb : H b = some blk) (hv : blk.cells[off]? = some (.u32 x)) (h : K (.u32 x) H n) : ACalls Try.prog 27 [.pt b off] H n K :=
  host_load Try.func27 (by kernel_rfl) (by kernel_rfl) (by kernel_rfl) .u32 (by kernel_rfl) hb hv (fun _ => rfl) h
theorem bool_load (b off : Nat) (blk : Blk) (x : BitVec 32) (H : Heap) (n : Nat) (K : AV → Heap → Nat → Prop) (hb : H b = some blk) (hv : blk.cells[off]? = some (.u32 x)) (h : K (.bo (x != 0#32)) H n) : ACalls Try.prog 25 [.pt b off] H n K := by
  refine ACalls.of_ev dr0 Try.func25 rfl (by decide +kernel) (by decide +kernel) (show 1 ≤ 8 by decide) (by simp) fun wf => ?_
  simp only [go_sem, Try.f25]
  refine host_load32 b off blk x _ _ _ hb hv ?_
  simp only [go_sem]
  exact Fin.back wf h (fun _ _ => rfl) rfl

structure SumS where
  i : Nat
theorem sum1_ok (q b bb : Nat) (l : List (BitVec 8)) (hl : l.length ≤ 4294967296) (d mu s0 : BitVec 32) (el : TypeId) (ro : Bool) (H : Heap) (n : Nat) (K : AV → Heap → Nat → Prop) (hq : H q = some ⟨[.pt b 0], 23, false⟩) (hb : H b = some (romM bb l.length d mu s0)) (hbb : H bb = some ⟨l.map .u8, el, ro⟩) (hqb : q ≠ b)
    (h : K (.tu []) (H.upd b (some (romM bb l.length d mu (fnvS l)))) n) : ACalls Try.prog 21 [.pt q 0] H n K := by
  refine ACalls.of_awp Try.func21 rfl (by decide +kernel) (show 1 ≤ 27 by decide) (by simp) fun wf => ?_
  have hqn := (wf q _ hq).1
  have hbn := (wf b _ hb).1
  have hbbn := (wf bb _ hbb).1
  have hbbb : bb ≠ b := fun e => by
    subst e; rw [hbb] at hb
    simp only [romM, Option.some.injEq, Blk.mk.injEq] at hb
    have := congrArg (fun l => l.getD 0 .junk) hb.1
    cases l with
    | nil => simp at this
    | cons x r => simp at this
  have hb' : H b = some ⟨[.sl bb 0 l.length l.length, .u32 d, .i32 mu, .u32 0#32, .u32 s0], 57, false⟩ := hb
  let X : BitVec 32 → Heap := fun s => H.upd b (some (romM bb l.length d mu s))
  have xb : ∀ s, X s b = some ⟨[.sl bb 0 l.length l.length, .u32 d, .i32 mu, .u32 0#32, .u32 s], 57, false⟩ := fun s => Heap.upd_same _ _ _
  have xq : ∀ s, X s q = some ⟨[.pt b 0], 23, false⟩ := fun s => by show (H.upd b _) q = _; rw [Heap.upd_ne _ _ hqb]; exact hq
  have xbb : ∀ s, X s bb = some ⟨l.map .u8, el, ro⟩ := fun s => by show (H.upd b _) bb = _; rw [Heap.upd_ne _ _ hbbb]; exact hbb
  have xwf : ∀ s, (X s).wf n := fun s => Heap.wf_set wf hbn (fun v hv => by
    simp only [romM, List.mem_cons, List.not_mem_nil, or_false] at hv
    rcases hv with rfl | rfl | rfl | rfl | rfl <;> simp [AV.ok, hbbn])
  refine awp_step dr21 (by decide +kernel) ?_
  simp only [go_sem, Try.f21, hq, hb', hqb]
  refine awp_gen (fun Y => Y = X 2166136261#32) rfl ?_
  rintro _ rfl
  refine awp_step dr0 (by decide +kernel) ?_
  simp only [go_sem, xb, xq]
  refine awp_block ?_
  refine awp_loopF (S := SumS) (fun t => [(0, .pt q 0), (9, .sl bb 0 l.length l.length), (10, .i64 l.length), (11, .i64 t.i)]) (fun t => X (fnvT 2166136261#32 (l.take t.i))) (fun _ => n) (fun t => t.i ≤ l.length) (fun t => l.length - t.i)
    (fun t _ => ⟨xwf _, Env.okAt_of2 (by simp [AV.ok, hqn, hbbn])⟩) ?_ ⟨0⟩ (Nat.zero_le _) (by repeat (first | exact Env.le_nil _ | refine Env.le_cons rfl ?_)) (fun _ _ => rfl) rfl
  rintro ⟨i⟩ hi
  simp only at hi ⊢
  refine awp_step dr0 (by decide +kernel) ?_
  simp only [go_sem]
  refine awp_step dr0 (by decide +kernel) ?_
  simp only [go_sem]
  refine ⟨fun hlt => ?_, fun hlt => ?_⟩
  · have hi' : i < l.length := by omega
    have wi : wrap64 ((i : Int) + 1) = ((i + 1 : Nat) : Int) := by rw [wrap_id _ (by omega) (by omega)]; omega
    have gl : (l.map AV.u8).getD i .junk = .u8 (l.getD i 0#8) := getD_map8 hi'
    refine awp_ev dr21 (by decide +kernel) ?_
    simp only [go_sem, xb, xq, xbb, hlt, hi', List.length_map, gl, wi]
    rw [← fnvT_next _ hi']
    exact Ends.mk ⟨i + 1⟩ ⟨by simp only; omega, by simp only; omega⟩ (by repeat (first | exact Env.le_nil _ | refine Env.le_cons rfl ?_)) (fun k hk => by
      show ((H.upd b _).upd b _) k = (H.upd b _) k
      rw [Heap.upd_upd]; rfl) (Nat.le_refl _) (Nat.le_refl _)
  · have hie : i = l.length := by omega
    subst hie
    rw [List.take_length]
    exact Fin.keep h

theorem once_first (q b bb : Nat) (l : List (BitVec 8)) (hl : l.length ≤ 4294967296) (s0 : BitVec 32) (el : TypeId) (ro : Bool) (H : Heap) (n : Nat) (K : AV → Heap → Nat → Prop) (hq : H q = some ⟨[.pt b 0], 23, false⟩) (hb : H b = some (romM bb l.length 0#32 0#32 s0)) (hbb : H bb = some ⟨l.map .u8, el, ro⟩) (hqb : q ≠ b)
    (h : K (.tu []) (H.upd b (some (romM bb l.length 1#32 0#32 (fnvS l)))) n) : ACalls Try.prog 20 [.pt b 1, .fn 21 [.pt q 0]] H n K := by
  refine ACalls.of_ev dr0 Try.func20 rfl (by decide +kernel) (by decide +kernel) (show 2 ≤ 12 by decide) (by simp) fun wf => ?_
  simp only [go_sem, Try.f20]
  have hb' : H b = some ⟨[.sl bb 0 l.length l.length, .u32 0#32, .i32 0#32, .u32 0#32, .u32 s0], 57, false⟩ := hb
  refine bool_load b 1 _ 0#32 _ _ _ hb rfl ?_
  simp only [go_sem, bne_self_eq_false]
  have hbbb : bb ≠ b := fun e => by
    subst e; rw [hbb] at hb
    simp only [romM, Option.some.injEq, Blk.mk.injEq] at hb
    have := congrArg (fun l => l.getD 0 .junk) hb.1
    cases l with
    | nil => simp at this
    | cons x r => simp at this
  refine slow_ok 21 _ (.pt q 0) b 1 _ _ _ _ (fun H2 n2 => H2 = H.upd b (some (romM bb l.length 0#32 1#32 (fnvS l))) ∧ n2 = n) Try.func21 (by kernel_rfl) (by kernel_rfl) (by simp) hb rfl rfl rfl ?_ ?_ ?_
  · refine sum1_ok q b bb l hl 0#32 1#32 s0 el ro _ _ _ (by rw [Heap.upd_ne _ _ hqb]; exact hq) (by rw [Heap.upd_same]; rfl) (by rw [Heap.upd_ne _ _ hbbb]; exact hbb) hqb ?_
    exact ⟨rfl, by rw [Heap.upd_upd], rfl⟩
  · rintro H2 n2 ⟨rfl, rfl⟩
    exact ⟨_, Heap.upd_same _ _ _, rfl, rfl, rfl⟩
  · rintro H2 n2 blk2 hn ⟨rfl, rfl⟩ hb2
    rw [Heap.upd_same] at hb2
    simp only [Option.some.injEq] at hb2
    subst hb2
    simp only [go_sem]
    exact Fin.keep h
theorem once_done (b bb L : Nat) (s0 : BitVec 32) (fv : AV) (hfv : fv ≠ .junk) (H : Heap) (n : Nat) (K : AV → Heap → Nat → Prop) (hb : H b = some (romM bb L 1#32 0#32 s0)) (h : K (.tu []) H n) : ACalls Try.prog 20 [.pt b 1, fv] H n K := by
  refine ACalls.of_ev dr0 Try.func20 rfl (by decide +kernel) (by decide +kernel) (show 2 ≤ 12 by decide) (by simp [hfv]) fun wf => ?_
  simp only [go_sem, Try.f20]
  refine bool_load b 1 _ 1#32 _ _ _ hb rfl ?_
  simp only [go_sem]
  exact Fin.back wf h (fun _ _ => rfl) rfl
/-- A cartridge's sum: reckoned once, and kept. -/
theorem rom_sum (b bb : Nat) (l : List (BitVec 8)) (hl : l.length ≤ 4294967296) (d s0 : BitVec 32) (hd : d = 0#32 ∨ d = 1#32 ∧ s0 = fnvS l) (el : TypeId) (ro : Bool) (H : Heap) (n : Nat) (K : AV → Heap → Nat → Prop) (hb : H b = some (romM bb l.length d 0#32 s0)) (hbb : H bb = some ⟨l.map .u8, el, ro⟩)
    (h : K (.u32 (fnvS l)) (H.upd b (some (romM bb l.length 1#32 0#32 (fnvS l)))) n) : ACalls Try.prog 15 [.pt b 0] H n K := by
  refine ACalls.of_awp Try.func15 rfl (by decide +kernel) (show 1 ≤ 12 by decide) (by simp) fun wf => ?_
  have hbn := (wf b _ hb).1
  have hbbn := (wf bb _ hbb).1
  have ok5 : ∀ v ∈ (romM bb l.length 1#32 0#32 (fnvS l)).cells, v.ok n = true := fun v hv => by
    simp only [romM, List.mem_cons, List.not_mem_nil, or_false] at hv
    rcases hv with rfl | rfl | rfl | rfl | rfl <;> simp [AV.ok, hbbn]
  refine awp_ev dr0 (by decide +kernel) ?_
  simp only [go_sem, Try.f15]
  have go : ∀ Y : Heap, Y b = some (romM bb l.length 1#32 0#32 (fnvS l)) → (∀ k, k < n → k ≠ b → Y k = H k) → Y n = some ⟨[.pt b 0], 23, false⟩ → ∀ k, k < n → Y k = (H.upd b (some (romM bb l.length 1#32 0#32 (fnvS l)))) k := fun Y y1 y2 _ k hk => by
    by_cases e : k = b
    · subst e; rw [y1, Heap.upd_same]
    · rw [y2 k hk e, Heap.upd_ne _ _ e]
  rcases hd with rfl | ⟨rfl, rfl⟩
  · have gq : ∀ Z, (H.upd n Z) n = Z := fun Z => Heap.upd_same _ _ _
    have gb : ∀ Z, (H.upd n Z) b = some (romM bb l.length 0#32 0#32 s0) := fun Z => by rw [Heap.upd_ne _ _ (by omega)]; exact hb
    have gbb : ∀ Z, (H.upd n Z) bb = some ⟨l.map .u8, el, ro⟩ := fun Z => by rw [Heap.upd_ne _ _ (by omega)]; exact hbb
    refine ⟨rfl, ?_⟩
    refine once_first n b bb l hl s0 el ro _ _ _ (gq _) (gb _) (gbb _) (by omega) ?_
    have g1 : ∀ Z, ((H.upd n Z).upd b (some (romM bb l.length 1#32 0#32 (fnvS l)))) b = some ⟨[.sl bb 0 l.length l.length, .u32 1#32, .i32 0#32, .u32 0#32, .u32 (fnvS l)], 57, false⟩ := fun Z => Heap.upd_same _ _ _
    have g2 : ∀ Z W, ((H.upd n (some W)).upd b Z) n = some W := fun Z W => by rw [Heap.upd_ne _ _ (by omega), Heap.upd_same]
    simp only [go_sem, g1, g2]
    exact Fin.putb wf hbn ok5 h (go _ (Heap.upd_same _ _ _) (fun k hk e => by rw [Heap.upd_ne _ _ e, Heap.upd_ne _ _ (by omega)]) (g2 _ _)) rfl
  · have hb2 : H b = some ⟨[.sl bb 0 l.length l.length, .u32 1#32, .i32 0#32, .u32 0#32, .u32 (fnvS l)], 57, false⟩ := hb
    have gb : ∀ Z, (H.upd n Z) b = some (romM bb l.length 1#32 0#32 (fnvS l)) := fun Z => by rw [Heap.upd_ne _ _ (by omega)]; exact hb
    refine ⟨rfl, ?_⟩
    refine once_done b bb l.length (fnvS l) (.fn 21 [.pt n 0]) (by simp) _ _ _ (gb _) ?_
    simp only [go_sem, hb2, hbn]
    exact Fin.putb wf hbn ok5 h (go _ (by rw [Heap.upd_ne _ _ (by omega)]; exact hb) (fun k hk e => by rw [Heap.upd_ne _ _ (by omega)]) (Heap.upd_same _ _ _)) rfl
end Go.Proofs.Joy
namespace Go.Proofs.Joy
open Go.Ab Go.Proofs

set_option maxHeartbeats 1000000
set_option maxRecDepth 20000

theorem clone_ok (v : AV) (bs : List (BitVec 8)) (H : Heap) (n : Nat) (K : AV → Heap → Nat → Prop) (hv : bytesIn H v bs) (hl : 0 < bs.length) (hm : bs.length ≤ 4294967296)
    (h : K (.su n 0 bs.length 1) (H.upd n (some ⟨bs.map .u8, 5, false⟩)) (n + 1)) : ACalls Try.prog 19 [v] H n K := by
  rcases hv with ⟨_, rfl⟩ | ⟨su, b, o, c, blk, rfl, h0, h1, h2, h3⟩
  · simp at hl
  cases su
  · simp only [go_sem]
    refine ACalls.of_ev dr0 Try.func19 rfl (by decide +kernel) (by decide +kernel) (show 1 ≤ 8 by decide) (by simp) fun wf => ?_
    simp only [go_sem, Try.f19]
    have hbn := (wf b _ h1).1
    have hp : ¬ bs.length ≤ 0 := by omega
    simp only [go_sem, h1, h2, h3, hbn, hp, hl, List.length_map]
    refine ⟨Nat.zero_le _, hm, ?_⟩
    exact Fin.one (n + 1) wf h (by omega) (by simp only [go_sem]) (fun i hi => by simp only [go_sem, hi]) map_u8_ok (by simp [AV.ren]) (by simp [AV.ok])
  · simp only [go_sem]
    refine ACalls.of_ev dr0 Try.func19 rfl (by decide +kernel) (by decide +kernel) (show 1 ≤ 8 by decide) (by simp) fun wf => ?_
    simp only [go_sem, Try.f19]
    have hbn := (wf b _ h1).1
    have hp : ¬ bs.length ≤ 0 := by omega
    simp only [go_sem, h1, h2, h3, hbn, hp, hl, List.length_map]
    refine ⟨Nat.zero_le _, hm, ?_⟩
    exact Fin.one (n + 1) wf h (by omega) (by simp only [go_sem]) (fun i hi => by simp only [go_sem, hi]) map_u8_ok (by simp [AV.ren]) (by simp [AV.ok])

end Go.Proofs.Joy
namespace Go.Proofs.Joy
open Go.Ab Go.Proofs Go

set_option maxHeartbeats 1000000
set_option maxRecDepth 20000

theorem fnv64 (s : BitVec 32) (b : BitVec 8) : (s.setWidth 64 ^^^ b.setWidth 64) * 16777619#64 % 4294967296#64 = ((s ^^^ b.setWidth 32) * 16777619#32).setWidth 64 := by
  have e : s.setWidth 64 ^^^ b.setWidth 64 = (s ^^^ b.setWidth 32).setWidth 64 := by
    apply BitVec.eq_of_toNat_eq
    have hs := s.isLt
    have hb := b.isLt
    have hx := (s ^^^ b.setWidth 32).isLt
    rw [BitVec.toNat_xor, BitVec.toNat_setWidth, BitVec.toNat_setWidth, BitVec.toNat_setWidth, Nat.mod_eq_of_lt (show s.toNat < 2 ^ 64 by omega), Nat.mod_eq_of_lt (show b.toNat < 2 ^ 64 by omega), Nat.mod_eq_of_lt (show (s ^^^ b.setWidth 32).toNat < 2 ^ 64 by omega), BitVec.toNat_xor, BitVec.toNat_setWidth, Nat.mod_eq_of_lt (show b.toNat < 2 ^ 32 by omega)]
  rw [e]
  generalize s ^^^ b.setWidth 32 = x
  apply BitVec.eq_of_toNat_eq
  have hx := x.isLt
  rw [BitVec.toNat_umod, BitVec.toNat_mul, BitVec.toNat_setWidth, BitVec.toNat_setWidth, BitVec.toNat_mul, show (16777619#64).toNat = 16777619 from rfl, show (4294967296#64).toNat = 4294967296 from rfl, show (16777619#32).toNat = 16777619 from rfl,
    Nat.mod_eq_of_lt (show x.toNat < 2 ^ 64 by omega), Nat.mod_eq_of_lt (show x.toNat * 16777619 < 2 ^ 64 by omega), Nat.mod_eq_of_lt (show x.toNat * 16777619 % 2 ^ 32 < 2 ^ 64 by omega)]

theorem ref_sum (b cap : Nat) (l : List (BitVec 8)) (hl : l.length ≤ 4294967296) (el : TypeId) (ro : Bool) (H : Heap) (n : Nat) (K : AV → Heap → Nat → Prop) (hb : H b = some ⟨l.map .u8, el, ro⟩) (h : K (.u32 (fnvS l)) H n) :
    ACalls Try.prog 16 [.sl b 0 l.length cap] H n K := by
  refine ACalls.of_awp Try.func16 rfl (by decide +kernel) (show 1 ≤ 21 by decide) (by simp) fun wf => ?_
  have hbn := (wf b _ hb).1
  refine awp_step dr0 (by decide +kernel) ?_
  simp only [go_sem, Try.f16]
  refine awp_step dr0 (by decide +kernel) ?_
  simp only [go_sem]
  refine awp_seqF (S := Unit) (fun _ => [(3, .u64 ((fnvS l).setWidth 64))]) (fun _ => H) (fun _ => n) (fun _ => True) (fun _ _ => ⟨wf, Env.okAt_of2 (by simp [AV.ok])⟩) ?_ ?_
  · refine awp_step dr0 (by decide +kernel) ?_
    simp only [go_sem]
    refine awp_block ?_
    refine awp_loopF (S := SumS) (fun t => [(3, .u64 ((fnvT 2166136261#32 (l.take t.i)).setWidth 64)), (6, .sl b 0 l.length cap), (7, .i64 l.length), (8, .i64 t.i)]) (fun _ => H) (fun _ => n) (fun t => t.i ≤ l.length) (fun t => l.length - t.i)
      (fun t _ => ⟨wf, Env.okAt_of2 (by simp [AV.ok, hbn])⟩) ?_ ⟨0⟩ (Nat.zero_le _) (by repeat (first | exact Env.le_nil _ | refine Env.le_cons rfl ?_)) (fun _ _ => rfl) rfl
    rintro ⟨i⟩ hi
    simp only at hi ⊢
    refine awp_step dr0 (by decide +kernel) ?_
    simp only [go_sem]
    refine awp_step dr0 (by decide +kernel) ?_
    simp only [go_sem]
    refine ⟨fun hlt => ?_, fun hlt => ?_⟩
    · have hi' : i < l.length := by omega
      have wi : wrap64 ((i : Int) + 1) = ((i + 1 : Nat) : Int) := by rw [wrap_id _ (by omega) (by omega)]; omega
      have gl : (l.map AV.u8).getD i .junk = .u8 (l.getD i 0#8) := getD_map8 hi'
      refine awp_ev dr0 (by decide +kernel) ?_
      simp only [go_sem, hb, hlt, hi', List.length_map, gl, wi]
      rw [fnv64, ← fnvT_next _ hi']
      exact Ends.mk ⟨i + 1⟩ ⟨by simp only; omega, by simp only; omega⟩ (by repeat (first | exact Env.le_nil _ | refine Env.le_cons rfl ?_)) (fun _ _ => rfl) (Nat.le_refl _) (Nat.le_refl _)
    · have hie : i = l.length := by omega
      subst hie
      rw [List.take_length]
      exact Ends.mk () trivial (by repeat (first | exact Env.le_nil _ | refine Env.le_cons rfl ?_)) (fun _ _ => rfl) (Nat.le_refl _) (Nat.le_refl _)
  rintro - -
  refine awp_ev dr0 (by decide +kernel) ?_
  simp only [go_sem]
  have e : ((fnvS l).setWidth 64).setWidth 32 = fnvS l := by rw [BitVec.setWidth_setWidth_of_le _ (by decide), BitVec.setWidth_eq]
  rw [e]
  exact Fin.keep h
theorem rom_bytes (b bb : Nat) (l : List (BitVec 8)) (hl : 0 < l.length) (hm : l.length ≤ 4294967296) (d mu s : BitVec 32) (el : TypeId) (ro : Bool) (H : Heap) (n : Nat) (K : AV → Heap → Nat → Prop) (hb : H b = some (romM bb l.length d mu s)) (hbb : H bb = some ⟨l.map .u8, el, ro⟩)
    (h : K (.su n 0 l.length 1) (H.upd n (some ⟨l.map .u8, 5, false⟩)) (n + 1)) : ACalls Try.prog 14 [.pt b 0] H n K := by
  refine ACalls.of_ev dr0 Try.func14 rfl (by decide +kernel) (by decide +kernel) (show 1 ≤ 8 by decide) (by simp) fun wf => ?_
  simp only [go_sem, Try.f14]
  have hb' : H b = some ⟨[.sl bb 0 l.length l.length, .u32 d, .i32 mu, .u32 0#32, .u32 s], 57, false⟩ := hb
  simp only [go_sem, hb']
  refine clone_ok (.sl bb 0 l.length l.length) l _ _ _ (.whole hbb rfl (Nat.le_refl _)) hl hm ?_
  simp only [go_sem]
  exact Fin.keep h
end Go.Proofs.Joy
namespace Go.Proofs.Joy
open Go.Ab Go.Proofs

set_option maxHeartbeats 1000000
set_option maxRecDepth 20000

/-- How far a row has been filled. -/
def fill (l : List (BitVec 8)) (i : Nat) : List (BitVec 8) := l.take i ++ List.replicate (l.length - i) 0#8
theorem fill_len {l : List (BitVec 8)} {i : Nat} (h : i ≤ l.length) : (fill l i).length = l.length := by simp [fill]; omega
theorem fill_zero (l : List (BitVec 8)) : fill l 0 = List.replicate l.length 0#8 := by simp [fill]
theorem fill_all (l : List (BitVec 8)) : fill l l.length = l := by simp [fill]
theorem fill_set {l : List (BitVec 8)} {i : Nat} (h : i < l.length) : (fill l i).set i (l.getD i 0#8) = fill l (i + 1) := by
  unfold fill
  rw [List.set_append_right _ _ (by simp; omega), List.length_take, Nat.min_eq_left (by omega), Nat.sub_self, show l.length - i = (l.length - (i + 1)) + 1 by omega, List.replicate_succ, List.set_cons_zero,
    List.take_succ_eq_append_getElem h, List.append_assoc, List.getD_eq_getElem?_getD, List.getElem?_eq_getElem h]
  rfl
theorem fill_skip {l : List (BitVec 8)} {i : Nat} (h : i < l.length) (h0 : l.getD i 0#8 = 0#8) : fill l i = fill l (i + 1) := by
  rw [← fill_set h, h0]
  symm
  apply List.ext_getElem?
  intro j
  rw [List.getElem?_set]
  split
  · rename_i e; subst e
    have hl : i < (fill l i).length := by rw [fill_len (by omega)]; exact h
    rw [if_pos hl]
    unfold fill
    rw [List.getElem?_append_right (by simp; omega), List.length_take, Nat.min_eq_left (by omega), Nat.sub_self, List.getElem?_replicate, if_pos (by omega)]
  · rfl

theorem ref_banks (n j : Nat) (hj : j ≤ 8) (h1 : j = 0 ∨ 2 ^ (j - 1) * 16384 < n) (h2 : j = 8 ∨ n ≤ 2 ^ j * 16384) : romBanks (min n 4194304) = 2 ^ j := by
  have hc : bankCount (min n 4194304) = (min n 4194304 + 16383) / 16384 := rfl
  unfold romBanks
  split
  · rename_i hle
    rcases h1 with rfl | h1
    · rfl
    · have := Nat.one_le_two_pow (n := j - 1); omega
  · rename_i hgt
    obtain ⟨a1, a2, a3⟩ := lenS_spec (bankCount (min n 4194304) - 1) (by omega)
    have hj0 : j ≠ 0 := by rintro rfl; rcases h2 with h2 | h2 <;> simp at h2; omega
    rcases h1 with rfl | h1
    · exact absurd rfl hj0
    have p7 : 2 ^ (j - 1) ≤ 2 ^ 7 := Nat.pow_le_pow_right (by decide) (by omega)
    have b1 : 2 ^ (j - 1) ≤ bankCount (min n 4194304) - 1 := by omega
    have b2 : bankCount (min n 4194304) - 1 < 2 ^ j := by
      rcases h2 with rfl | h2
      · omega
      · have := Nat.one_le_two_pow (n := j); omega
    have c1 : j - 1 < lenS (bankCount (min n 4194304) - 1) := (Nat.pow_lt_pow_iff_right (a := 2) (by decide)).1 (by omega)
    have c2 : lenS (bankCount (min n 4194304) - 1) - 1 < j := (Nat.pow_lt_pow_iff_right (a := 2) (by decide)).1 (by omega)
    rw [show lenS (bankCount (min n 4194304) - 1) = j by omega]

structure RS where
  i : Nat

theorem ref_new (v : AV) (bs : List (BitVec 8)) (H : Heap) (n : Nat) (K : AV → Heap → Nat → Prop) (hv : bytesIn H v bs) (hm : bs.length ≤ 4294967296)
    (h : K (.sl n 0 (romL bs).length (romL bs).length) (H.upd n (some ⟨(romL bs).map .u8, 5, false⟩)) (n + 1)) : ACalls Try.prog 12 [v] H n K := by
  refine ACalls.of_awp Try.func12 rfl (by decide +kernel) (show 1 ≤ 38 by decide) (by simp [hv.ne]) fun wf => ?_
  have hlb : ∀ K, lenB (some .slice) v K = K (.i64 bs.length) := lenB_bytes hv
  have hvok : v.ok n = true := by
    rcases hv with ⟨rfl, rfl⟩ | ⟨su, b, o, c, blk, rfl, h0, h1, h2, h3⟩
    · rfl
    · exact vw_ok (wf b _ h1).1
  refine awp_step dr0 (by decide +kernel) ?_
  simp only [go_sem, Try.f12]
  refine awp_step dr0 (by decide +kernel) ?_
  simp only [go_sem]
  have hrl : romL bs = bs.take 4194304 ++ List.replicate (romBanks (bs.take 4194304).length * 16384 - (bs.take 4194304).length) 0#8 := rfl
  have hlen := romL_len bs
  have htl : (bs.take 4194304).length = min bs.length 4194304 := by rw [List.length_take]; omega
  rw [htl] at hlen hrl
  have hbl := romBanks_le (min bs.length 4194304) (Nat.min_le_right _ _)
  refine awp_seqF (S := Unit) (fun _ => [(0, v), (3, .i64 ((romBanks (min bs.length 4194304) : Nat) : Int))]) (fun _ => H) (fun _ => n) (fun _ => True) (fun _ _ => ⟨wf, Env.okAt_of2 (by simp [AV.ok, hvok])⟩) ?_ ?_
  · refine awp_block ?_
    refine awp_loopF (S := RS) (fun s => [(0, v), (3, .i64 ((2 ^ s.i : Nat) : Int))]) (fun _ => H) (fun _ => n) (fun s => s.i ≤ 8 ∧ (s.i = 0 ∨ 2 ^ (s.i - 1) * 16384 < bs.length)) (fun s => 8 - s.i)
      (fun s _ => ⟨wf, Env.okAt_of2 (by simp [AV.ok, hvok])⟩) ?_ ⟨0⟩ ⟨Nat.zero_le _, .inl rfl⟩ (Env.le_cons rfl (Env.le_cons rfl (Env.le_nil _))) (fun _ _ => rfl) rfl
    rintro ⟨j⟩ ⟨hj, hp⟩
    simp only at hj hp ⊢
    have p8 : 2 ^ j ≤ 2 ^ 8 := Nat.pow_le_pow_right (by decide) hj
    have w1 : wrap64 (((2 ^ j : Nat) : Int) * 16384) = ((2 ^ j * 16384 : Nat) : Int) := by
      generalize 2 ^ j = B at *
      rw [wrap_id _ (by omega) (by omega)]; omega
    have w2 : wrap64 (2 * ((2 ^ j : Nat) : Int)) = ((2 ^ (j + 1) : Nat) : Int) := by
      rw [Nat.pow_succ]
      generalize 2 ^ j = B at *
      rw [wrap_id _ (by omega) (by omega)]; omega
    have stop : (j = 8 ∨ bs.length ≤ 2 ^ j * 16384) → ((romBanks (min bs.length 4194304) : Nat) : Int) = ((2 ^ j : Nat) : Int) := fun hs => by rw [ref_banks _ j hj hp hs]
    refine awp_step dr0 (by decide +kernel) ?_
    simp only [go_sem, hlb, w1]
    refine ⟨fun a1 => ⟨fun a2 => ?_, fun a2 => ?_⟩, fun a1 => ?_⟩
    · have hj7 : j < 8 := by
        rcases Nat.lt_or_ge j 8 with hlt | hge
        · exact hlt
        · obtain rfl : j = 8 := by omega
          exact absurd a1 (by decide)
      refine awp_ev dr0 (by decide +kernel) ?_
      simp only [go_sem, w2]
      exact Ends.mk ⟨j + 1⟩ ⟨by simp only; omega, by simp only; omega, .inr (by simp only [Nat.add_sub_cancel]; omega)⟩ (Env.le_cons rfl (Env.le_cons rfl (Env.le_nil _))) (fun _ _ => rfl) (Nat.le_refl _) (Nat.le_refl _)
    · exact Ends.mk () trivial (Env.le_cons rfl (Env.le_cons (by rw [stop (.inr (by omega))]; rfl) (Env.le_nil _))) (fun _ _ => rfl) (Nat.le_refl _) (Nat.le_refl _)
    · have hj8 : j = 8 := by
        rcases Nat.lt_or_ge j 8 with hlt | hge
        · have : 2 ^ j ≤ 2 ^ 7 := Nat.pow_le_pow_right (by decide) (by omega)
          omega
        · omega
      exact Ends.mk () trivial (Env.le_cons rfl (Env.le_cons (by rw [stop (.inl hj8)]; rfl) (Env.le_nil _))) (fun _ _ => rfl) (Nat.le_refl _) (Nat.le_refl _)
  rintro - -
  have w4 : wrap64 (((romBanks (min bs.length 4194304) : Nat) : Int) * 16384) = (((romL bs).length : Nat) : Int) := by
    rw [hlen, wrap_id _ (by omega) (by omega)]; omega
  have hlz : 0 < (romL bs).length := by omega
  refine awp_step dr0 (by decide +kernel) ?_
  simp only [go_sem, w4]
  refine ⟨by omega, by omega, by omega, ?_⟩
  rw [rep_u8, ← fill_zero]
  refine awp_seq (awp_step dr0 (by decide +kernel) ?_)
  simp only [go_sem]
  refine awp_block ?_
  have hval : ∀ i, (romL bs).getD i 0#8 = if i < min bs.length 4194304 then bs.getD i 0#8 else 0#8 := fun i => by
    rw [hrl, List.getD_eq_getElem?_getD]
    split
    · rename_i hi
      rw [List.getElem?_append_left (by rw [htl]; exact hi), List.getElem?_take, if_pos (by omega), List.getD_eq_getElem?_getD]
    · rename_i hi
      rw [List.getElem?_append_right (by rw [htl]; omega), List.getElem?_replicate]
      split <;> rfl
  have hLm : (romL bs).length ≤ 4194304 := by omega
  refine awp_loopF (S := RS) (fun s => [(0, v), (4, .sl n 0 (romL bs).length (romL bs).length), (21, .i64 (romL bs).length), (22, .i64 s.i)]) (fun s => H.upd n (some ⟨(fill (romL bs) s.i).map .u8, 5, false⟩)) (fun _ => n + 1) (fun s => s.i ≤ (romL bs).length) (fun s => (romL bs).length - s.i)
    (fun s _ => ⟨Heap.wf_upd wf map_u8_ok, Env.okAt_of2 (by simp [AV.ok, AV.ok_mono (Nat.le_succ n) _ hvok])⟩) ?_ ⟨0⟩ (Nat.zero_le _) (Env.le_cons rfl (Env.le_cons rfl (Env.le_cons rfl (Env.le_cons rfl (Env.le_nil _))))) (fun _ _ => rfl) rfl
  rintro ⟨i⟩ hi
  simp only at hi ⊢
  refine awp_step dr0 (by decide +kernel) ?_
  simp only [go_sem]
  refine awp_step dr0 (by decide +kernel) ?_
  simp only [go_sem]
  refine ⟨fun hlt => ?_, fun hlt => ?_⟩
  · have hlt' : i < (romL bs).length := by omega
    have w2 : wrap64 ((i : Int) + 1) = ((i + 1 : Nat) : Int) := by rw [wrap_id _ (by omega) (by omega)]; omega
    have hfl := fill_len hi
    refine awp_ev dr0 (by decide +kernel) ?_
    simp only [go_sem, hlb, w2, hlt, hlt']
    refine ⟨fun a1 => ?_, fun a1 => ?_⟩
    · have a1' : i < bs.length := by omega
      rcases hv with ⟨rfl, rfl⟩ | ⟨su, b, o, c, blk, rfl, h0, h1, h2, h3⟩
      · simp at a1'
      have hbn := vw_ok' hvok
      obtain ⟨q1, q2⟩ := cells_at h2 h3 a1'
      simp only [go_sem, h1, hbn, q1, q2, a1, a1', hfl, List.length_map, hlt, hlt', w2]
      refine ⟨by omega, ?_⟩
      have hv2 := hval i
      rw [if_pos (by omega)] at hv2
      rw [← List.map_set, ← hv2, fill_set hlt']
      exact Ends.mk ⟨i + 1⟩ ⟨by simp only; omega, by simp only; omega⟩ (Env.le_cons rfl (Env.le_cons rfl (Env.le_cons rfl (Env.le_cons rfl (Env.le_nil _))))) (fun _ _ => rfl) (Nat.le_refl _) (Nat.le_refl _)
    · have hv2 := hval i
      rw [if_neg (by omega)] at hv2
      rw [fill_skip hlt' hv2]
      exact Ends.mk ⟨i + 1⟩ ⟨by simp only; omega, by simp only; omega⟩ (Env.le_cons rfl (Env.le_cons rfl (Env.le_cons rfl (Env.le_cons rfl (Env.le_nil _))))) (fun _ _ => rfl) (Nat.le_refl _) (Nat.le_refl _)
  have hie : i = (romL bs).length := by omega
  subst hie
  rw [fill_all]
  refine awp_ev dr0 (by decide +kernel) ?_
  simp only [go_sem]
  exact Fin.keep h

theorem tmod_pos (x y : Int) (hy : 0 < y) : (if x.tmod y < 0 then x.tmod y + y else x.tmod y) = x % y := by
  have h1 := Int.emod_nonneg x (show y ≠ 0 by omega)
  have h2 := Int.emod_lt_of_pos x hy
  rcases Int.lt_or_le x 0 with hx | hx
  · have e : x.tmod y = -((-x) % y) := by
      rw [show x = -(-x) by omega, Int.neg_tmod, Int.tmod_eq_emod_of_nonneg (by omega)]; simp
    rw [e]
    have h3 := Int.emod_nonneg (-x) (show y ≠ 0 by omega)
    have h4 := Int.emod_lt_of_pos (-x) hy
    by_cases hz : (-x) % y = 0
    · rw [hz]
      have hd : y ∣ x := (Int.dvd_neg).1 (Int.dvd_of_emod_eq_zero hz)
      rw [Int.emod_eq_zero_of_dvd hd]; simp
    · rw [if_pos (by omega)]
      have hq : x = y * (-((-x) / y) - 1) + (y - (-x) % y) := by
        have := Int.emod_add_mul_ediv (-x) y
        rw [Int.mul_sub, Int.mul_neg]; omega
      have := Int.emod_emod_of_dvd x (Int.dvd_refl y)
      conv => rhs; rw [hq, Int.add_comm, Int.add_mul_emod_self_left, Int.emod_eq_of_lt (by omega) (by omega)]
      omega
  · rw [Int.tmod_eq_emod_of_nonneg hx, if_neg (by omega)]

theorem modulo_ok (x y : Int) (hy : 0 < y) (hy2 : y ≤ 4611686018427387904) (H : Heap) (n : Nat) (K : AV → Heap → Nat → Prop) (h : K (.i64 (x % y)) H n) : ACalls Try.prog 22 [.i64 x, .i64 y] H n K := by
  refine ACalls.of_ev dr0 Try.func22 rfl (by decide +kernel) (by decide +kernel) (show 2 ≤ 15 by decide) (by simp) fun wf => ?_
  simp only [go_sem, Try.f22]
  have e := tmod_pos x y hy
  have hne : y ≠ 0 := by omega
  have h1 := Int.emod_nonneg x hne
  have h2 := Int.emod_lt_of_pos x hy
  simp only [hne, not_false_eq_true, ne_eq, true_and]
  refine ⟨fun a1 => ?_, fun a1 => ?_⟩
  · rw [if_pos a1] at e
    rw [e, wrap_id _ (by omega) (by omega)]
    exact Fin.back wf h (fun _ _ => rfl) rfl
  · rw [if_neg a1] at e
    rw [e]
    exact Fin.back wf h (fun _ _ => rfl) rfl

theorem banks_ok (b L c : Nat) (hL : L ≤ 4294967296) (hc : True) (H : Heap) (n : Nat) (hbn : b < n) (K : AV → Heap → Nat → Prop) (h : K (.i64 (L / 16384 : Nat)) H n) : ACalls Try.prog 13 [.sl b 0 L c] H n K := by
  refine ACalls.of_ev dr0 Try.func13 rfl (by decide +kernel) (by decide +kernel) (show 1 ≤ 6 by decide) (by simp) fun wf => ?_
  simp only [go_sem, Try.f13]
  have w : wrap64 ((L : Int).tdiv 16384) = ((L / 16384 : Nat) : Int) := by rw [Int.tdiv_eq_ediv_of_nonneg (by omega), wrap_id _ (by omega) (by omega)]; omega
  rw [w]
  exact Fin.back wf h (fun _ _ => rfl) rfl

theorem ref_at (b : Nat) (l : List (BitVec 8)) (hl : romOk l) (el : TypeId) (ro : Bool) (bank off : Int) (H : Heap) (n : Nat) (K : AV → Heap → Nat → Prop) (hb : H b = some ⟨l.map .u8, el, ro⟩)
    (h : K (.u8 (romAt l bank off)) H n) : ACalls Try.prog 17 [.sl b 0 l.length l.length, .i64 bank, .i64 off] H n K := by
  refine ACalls.of_ev dr0 Try.func17 rfl (by decide +kernel) (by decide +kernel) (show 3 ≤ 18 by decide) (by simp) fun wf => ?_
  simp only [go_sem, Try.f17]
  have hbn := (wf b _ hb).1
  obtain ⟨_, i2, i3⟩ := at_index hl bank off
  have hlt : ((bank % ((l.length / 16384 : Nat) : Int)) * 16384 + off % 16384).toNat < l.length := by omega
  have hg : (l.map AV.u8).getD ((bank % ((l.length / 16384 : Nat) : Int)) * 16384 + off % 16384).toNat .junk = .u8 (romAt l bank off) := getD_map8 hlt
  obtain ⟨j, hj, hlen⟩ := hl
  have hp2 : 2 ^ j ≤ 2 ^ 8 := Nat.pow_le_pow_right (by decide) hj
  have hp1 : 1 ≤ 2 ^ j := Nat.one_le_two_pow
  have hB : 0 < l.length / 16384 := by omega
  have h3 : 0 ≤ bank % ((l.length / 16384 : Nat) : Int) := Int.emod_nonneg _ (by omega)
  have h4 : bank % ((l.length / 16384 : Nat) : Int) < ((l.length / 16384 : Nat) : Int) := Int.emod_lt_of_pos _ (by omega)
  have h5 : 0 ≤ off % 16384 := Int.emod_nonneg _ (by decide)
  have h6 : off % 16384 < 16384 := Int.emod_lt_of_pos _ (by decide)
  have w1 : wrap64 (bank % ((l.length / 16384 : Nat) : Int) * 16384) = bank % ((l.length / 16384 : Nat) : Int) * 16384 := wrap_id _ (by omega) (by omega)
  have w2 : wrap64 (bank % ((l.length / 16384 : Nat) : Int) * 16384 + off % 16384) = bank % ((l.length / 16384 : Nat) : Int) * 16384 + off % 16384 := wrap_id _ (by omega) (by omega)
  refine banks_ok b l.length l.length (by omega) trivial _ _ hbn _ ?_
  simp only [go_sem]
  refine modulo_ok _ _ (by omega) (by omega) _ _ _ ?_
  simp only [go_sem]
  refine modulo_ok _ _ (by omega) (by omega) _ _ _ ?_
  simp only [go_sem, w1, w2, hb, i2, i3, hlt, hg, List.length_map]
  exact Fin.back wf h (fun _ _ => rfl) rfl
end Go.Proofs.Joy
namespace Go.Proofs.Joy
open Go.Ab Go.Proofs Go

set_option maxHeartbeats 1000000
set_option maxRecDepth 20000

def againB (ts : List (BitVec 8)) (i : Nat) : BitVec 8 := if ts = [] then 0#8 else ts.getD (i % ts.length) 0#8
def manyR (many : Int) : Nat := (max 0 (min many 300000)).toNat
def buildR (ts : List (BitVec 8)) (many at_ : Int) (x : BitVec 8) : List (BitVec 8) :=
  let l := layF (againB ts) (manyR many) (manyR many)
  if 0 ≤ at_ ∧ at_ < (manyR many : Int) then l.set at_.toNat x else l
theorem buildR_len (ts : List (BitVec 8)) (many at_ : Int) (x : BitVec 8) : (buildR ts many at_ x).length = manyR many := by
  unfold buildR; simp only; split
  · rw [List.length_set, layF_len _ (Nat.le_refl _)]
  · rw [layF_len _ (Nat.le_refl _)]
theorem manyR_le (many : Int) : manyR many ≤ 300000 := by unfold manyR; omega

structure RoS where
  j : Nat
  X : Heap
/-- While a piece is built: its parts at n, its bytes at n + 1. -/
structure RoI (H : Heap) (n : Nat) (v : AV) (many at_ : Int) (x : BitVec 8) (bs : List (BitVec 8)) (X : Heap) : Prop where
  wf : X.wf (n + 2)
  x0 : X n = some ⟨[v, .i64 many, .i64 at_, .u8 x], 29, false⟩
  x1 : X (n + 1) = some ⟨bs.map .u8, 5, false⟩
  old : ∀ k, k < n → X k = H k
theorem RoI.put {H : Heap} {n : Nat} {v : AV} {many at_ : Int} {x : BitVec 8} {bs : List (BitVec 8)} {X : Heap} (h : RoI H n v many at_ x bs X) (bs' : List (BitVec 8)) : RoI H n v many at_ x bs' (X.upd (n + 1) (some ⟨bs'.map .u8, 5, false⟩)) :=
  ⟨Heap.wf_set h.wf (by omega) map_u8_ok, by rw [Heap.upd_ne _ _ (by omega)]; exact h.x0, Heap.upd_same _ _ _, fun k hk => by rw [Heap.upd_ne _ _ (by omega)]; exact h.old k hk⟩

theorem build_ok (v : AV) (ts : List (BitVec 8)) (ht : ts.length ≤ 5000) (many at_ : Int) (x : BitVec 8) (H : Heap) (n : Nat) (K : AV → Heap → Nat → Prop) (hv : bytesIn H v ts)
    (h : ∀ (H' : Heap) (m b : Nat), n ≤ m → H'.wf m → (∀ i, i < n → H' i = H i) → n ≤ b → b < m → H' b = some ⟨(buildR ts many at_ x).map .u8, 5, false⟩ → K (.sl b 0 (manyR many) (manyR many)) H' m) : ACalls Try.prog 11 [.ag [v, .i64 many, .i64 at_, .u8 x]] H n K := by
  refine ACalls.of_awp Try.func11 rfl (by decide +kernel) (show 1 ≤ 49 by decide) (by simp) fun wf => ?_
  have hvok : v.ok n = true := by
    rcases hv with ⟨rfl, rfl⟩ | ⟨su, b, o, c, blk, rfl, h0, h1, h2, h3⟩
    · rfl
    · exact vw_ok (wf b _ h1).1
  have hml := manyR_le many
  have hmm : max 0 (min many 300000) = ((manyR many : Nat) : Int) := by unfold manyR; omega
  generalize hM : manyR many = M at *
  refine awp_step dr11 (by decide +kernel) ?_
  simp only [go_sem, Try.f11]
  refine awp_step dr11 (by decide +kernel) ?_
  simp only [go_sem, hmm]
  refine ⟨Int.le_refl _, by omega, by omega, ?_⟩
  rw [rep_u8, ← layF_zero (againB ts) M]
  refine awp_gen (RoI H n v many at_ x (layF (againB ts) M 0)) ⟨Heap.wf_upd (Heap.wf_upd wf (fun y hy => by
      simp only [List.mem_cons, List.not_mem_nil, or_false] at hy
      rcases hy with rfl | rfl | rfl | rfl
      · exact AV.ok_mono (by omega) _ hvok
      all_goals rfl)) map_u8_ok, by rw [Heap.upd_ne _ _ (by omega), Heap.upd_same], Heap.upd_same _ _ _, fun k hk => by rw [Heap.upd_ne _ _ (by omega), Heap.upd_ne _ _ (by omega)]⟩ ?_
  intro X hX
  refine awp_seqF (S := RoS) (fun _ => [(1, .pt n 0), (3, .sl (n + 1) 0 M M)]) (fun t => t.X) (fun _ => n + 2) (fun t => RoI H n v many at_ x (layF (againB ts) M M) t.X)
    (fun t ht => ⟨ht.wf, Env.okAt_of2 (by simp [AV.ok])⟩) ?_ ?_
  · refine awp_step dr11 (by decide +kernel) ?_
    simp only [go_sem]
    refine awp_block ?_
    refine awp_loopF (S := RoS) (fun t => [(1, .pt n 0), (3, .sl (n + 1) 0 M M), (11, .i64 M), (12, .i64 t.j)]) (fun t => t.X) (fun _ => n + 2)
      (fun t => t.j ≤ M ∧ RoI H n v many at_ x (layF (againB ts) M t.j) t.X) (fun t => M - t.j)
      (fun t ht => ⟨ht.2.wf, Env.okAt_of2 (by simp [AV.ok])⟩) ?_ ⟨0, X⟩ ⟨Nat.zero_le _, hX⟩ (by repeat (first | exact Env.le_nil _ | refine Env.le_cons rfl ?_)) (fun _ _ => rfl) rfl
    rintro ⟨j, Y⟩ ⟨hj, hY⟩
    simp only at hj hY ⊢
    refine awp_step dr11 (by decide +kernel) ?_
    simp only [go_sem]
    refine awp_step dr11 (by decide +kernel) ?_
    simp only [go_sem]
    refine ⟨fun hlt => ?_, fun hlt => ?_⟩
    · have hj' : j < M := by omega
      have y0 := hY.x0; have y1 := hY.x1
      have wj : wrap64 ((j : Int) + 1) = ((j + 1 : Nat) : Int) := by rw [wrap_id _ (by omega) (by omega)]; omega
      have hvY : bytesIn Y v ts := hv.mono hvok hY.old
      have hlb : ∀ K, lenB (some .slice) v K = K (.i64 ts.length) := lenB_bytes hvY
      refine awp_ev dr11 (by decide +kernel) ?_
      simp only [go_sem, y0, hlb]
      refine ⟨fun c => ?_, fun c => ?_⟩
      · have hts : ts ≠ [] := by rintro rfl; simp at c
        have htl : 0 < ts.length := List.length_pos_iff.2 hts
        have hm : (j : Int).tmod (ts.length : Int) = ((j % ts.length : Nat) : Int) := by rw [Int.tmod_eq_emod_of_nonneg (by omega)]; rfl
        have hml : j % ts.length < ts.length := Nat.mod_lt _ htl
        refine ⟨by omega, ?_⟩
        rw [hm]
        rcases hvY with ⟨rfl, he⟩ | ⟨su, b, o, c2, blk, rfl, g0, g1, g2, g3⟩
        · exact absurd he hts
        obtain ⟨q1, q2⟩ := cells_at g2 g3 hml
        have hml2 : ((j % ts.length : Nat) : Int) < (ts.length : Int) := by omega
        have hbn : b < n := by cases su <;> simpa [vw, AV.ok] using hvok
        have htB : ts.getD (j % ts.length) 0#8 = againB ts j := by unfold againB; rw [if_neg hts]
        have hjI : (j : Int) < (M : Int) := by omega
        have hll : (layF (againB ts) M j).length = M := layF_len _ hj
        simp only [go_sem, g1, q1, q2, hml, hml2, htB, hjI, y1, y0, hll, hj', List.length_map, wj]
        refine ⟨by omega, ?_⟩
        rw [← List.map_set, layF_set _ hj']
        exact Go.Ab.Ends.mk (⟨j + 1, _⟩ : RoS) ⟨by simp only; omega, by simp only; omega, hY.put _⟩ (by repeat (first | exact Env.le_nil _ | refine Env.le_cons rfl ?_)) (fun _ _ => rfl) (Nat.le_refl _) (Nat.le_refl _)
      · have hts : ts = [] := List.eq_nil_of_length_eq_zero (by omega)
        subst hts
        simp only [wj]
        exact Go.Ab.Ends.mk ⟨j + 1, Y⟩ ⟨by simp only; omega, by simp only; omega, by simp only; rw [← layF_skip _ hj' rfl]; exact hY⟩ (by repeat (first | exact Env.le_nil _ | refine Env.le_cons rfl ?_)) (fun _ _ => rfl) (Nat.le_refl _) (Nat.le_refl _)
    · have hje : j = M := by omega
      subst hje
      exact Go.Ab.Ends.mk ⟨0, Y⟩ hY (by repeat (first | exact Env.le_nil _ | refine Env.le_cons rfl ?_)) (fun _ _ => rfl) (Nat.le_refl _) (Nat.le_refl _)
  rintro ⟨j0, Y⟩ hY
  simp only at hY ⊢
  have y0 := hY.x0; have y1 := hY.x1
  have hll : (layF (againB ts) M M).length = M := layF_len _ (Nat.le_refl _)
  refine awp_ev dr11 (by decide +kernel) ?_
  simp only [go_sem, y0]
  unfold buildR at h
  simp only [hM] at h
  refine ⟨fun h0 => ⟨fun h1 => ?_, fun h1 => ?_⟩, fun h0 => ?_⟩
  · obtain ⟨k, rfl⟩ := Int.eq_ofNat_of_zero_le h0
    have hk : k < M := by omega
    rw [if_pos ⟨h0, h1⟩, Int.toNat_natCast] at h
    simp only [go_sem, y1, h1, hk, hll, List.length_map]
    rw [← List.map_set]
    exact ⟨by omega, Fin.keep (h _ _ (n + 1) (by omega) (hY.put _).wf (hY.put _).old (by omega) (by omega) (Heap.upd_same _ _ _))⟩
  · rw [if_neg (by omega)] at h
    exact Fin.keep (h _ _ (n + 1) (by omega) hY.wf hY.old (by omega) (by omega) y1)
  · rw [if_neg (by omega)] at h
    exact Fin.keep (h _ _ (n + 1) (by omega) hY.wf hY.old (by omega) (by omega) y1)
end Go.Proofs.Joy
namespace Go.Proofs.Joy
open Go.Ab Go.Proofs Go

set_option maxHeartbeats 1000000
set_option maxRecDepth 20000

theorem fnvT_zero (s : BitVec 32) (k : Nat) : (fnvT s (List.replicate k 0#8)).toNat = s.toNat * 16777619 ^ k % 4294967296 := by
  induction k generalizing s with
  | zero => have := s.isLt; simp [fnvT, Nat.mod_eq_of_lt this]
  | succ k ih =>
    rw [List.replicate_succ]
    have e : fnvT s (0#8 :: List.replicate k 0#8) = fnvT (s * 16777619#32) (List.replicate k 0#8) := by
      show fnvT ((s ^^^ (0#8).setWidth 32) * 16777619#32) _ = _
      rw [show (0#8).setWidth 32 = 0#32 from rfl, BitVec.xor_zero]
    rw [e, ih, BitVec.toNat_mul, show (16777619#32).toNat = 16777619 from rfl, show (2 : Nat) ^ 32 = 4294967296 from rfl, Nat.mod_mul_mod, Nat.mul_assoc, Nat.mul_comm 16777619 (16777619 ^ k), ← Nat.pow_succ]
theorem romL_nil : romL [] = List.replicate 16384 0#8 := by
  unfold romL
  rw [List.take_nil, List.length_nil, show romBanks 0 = 1 by decide]; rfl
theorem banks2 : romBanks 16385 = 2 := by decide
theorem banks256 : romBanks 4194304 = 256 := by decide
theorem romL_two : romL (List.replicate 16385 0#8) = List.replicate 32768 0#8 := by
  unfold romL
  rw [List.take_replicate, show min 4194304 16385 = 16385 from rfl, List.length_replicate, banks2, List.replicate_append_replicate]
theorem fnv_differ : fnvS (List.replicate 16384 0#8) ≠ fnvS (List.replicate 32768 0#8) := fun e => by
  have := congrArg BitVec.toNat e
  unfold fnvS at this
  rw [fnvT_zero, fnvT_zero] at this
  revert this
  decide +kernel

/-- A cartridge that lies at r, its bytes at bb. -/
structure RomIn (X : Heap) (r bb : Nat) (l : List (BitVec 8)) (d s : BitVec 32) : Prop where
  r : X r = some (romB bb l.length d s)
  b : X bb = some ⟨l.map .u8, 5, false⟩
  d : d = 0#32 ∨ d = 1#32 ∧ s = fnvS l
theorem RomIn.mono {X Y : Heap} {r bb : Nat} {l : List (BitVec 8)} {d s : BitVec 32} (h : RomIn X r bb l d s) (h1 : Y r = X r) (h2 : Y bb = X bb) : RomIn Y r bb l d s := ⟨by rw [h1]; exact h.r, by rw [h2]; exact h.b, h.d⟩
theorem RomIn.ne {X : Heap} {r bb : Nat} {l : List (BitVec 8)} {d s : BitVec 32} (h : RomIn X r bb l d s) : bb ≠ r := fun e => by
  have h1 := h.r; have h2 := h.b
  rw [e, h1] at h2
  simp only [romB, Option.some.injEq, Blk.mk.injEq] at h2
  have := congrArg (fun l => l.getD 0 .junk) h2.1
  cases l with
  | nil => simp at this
  | cons x r => simp at this
theorem RomIn.sum {X : Heap} {r bb : Nat} {l : List (BitVec 8)} {d s : BitVec 32} (h : RomIn X r bb l d s) : RomIn (X.upd r (some (romM bb l.length 1#32 0#32 (fnvS l)))) r bb l 1#32 (fnvS l) :=
  ⟨Heap.upd_same _ _ _, by rw [Heap.upd_ne _ _ h.ne]; exact h.b, .inr ⟨rfl, rfl⟩⟩
theorem RomIn.new {H : Heap} {n : Nat} (bs : List (BitVec 8)) : RomIn ((H.upd n (some ⟨(romL bs).map .u8, 5, false⟩)).upd (n + 1) (some (romB n (romL bs).length))) (n + 1) n (romL bs) 0#32 0#32 :=
  ⟨Heap.upd_same _ _ _, by rw [Heap.upd_ne _ _ (by omega), Heap.upd_same], .inl rfl⟩
theorem new_wf {H : Heap} {n : Nat} (wf : H.wf n) (l : List (BitVec 8)) : ((H.upd n (some ⟨l.map .u8, 5, false⟩)).upd (n + 1) (some (romB n l.length))).wf (n + 2) :=
  Heap.wf_upd (Heap.wf_upd wf map_u8_ok) (fun v hv => by
    simp only [romB, List.mem_cons, List.not_mem_nil, or_false] at hv
    rcases hv with rfl | rfl | rfl | rfl | rfl <;> simp [AV.ok]; omega)

theorem alive_ok (H : Heap) (n : Nat) (K : AV → Heap → Nat → Prop) (h : K (.bo true) H n) : ACalls Try.prog 7 [] H n K := by
  refine ACalls.of_awp Try.func7 rfl (by decide +kernel) (show 0 ≤ 35 by decide) (by simp) fun wf => ?_
  refine awp_step dr7 (by decide +kernel) ?_
  simp only [go_sem, Try.f7]
  refine awp_step dr7 (by decide +kernel) ?_
  simp only [go_sem]
  refine rom_new .sn [] _ _ _ (.inl ⟨rfl, rfl⟩) (by simp) ?_
  simp only [go_sem]
  rw [rep_u8]
  have hz : (List.replicate 16385 0#8).length = 16385 := List.length_replicate
  refine rom_new (.sl (n + 2) 0 16385 16385) (List.replicate 16385 0#8) _ _ _ (.whole (Heap.upd_same _ _ _) hz.symm (Nat.le_refl _)) (by rw [hz]; decide) ?_
  rw [romL_nil, romL_two]
  have l1 : (List.replicate 16384 0#8).length = 16384 := List.length_replicate
  have l2 : (List.replicate 32768 0#8).length = 32768 := List.length_replicate
  have nf := fnv_differ
  simp only [go_sem]
  generalize hz1 : List.replicate 16384 0#8 = z1 at nf l1 ⊢
  generalize hz2 : List.replicate 32768 0#8 = z2 at nf l2 ⊢
  generalize List.replicate 16385 0#8 = z3
  refine awp_gen (fun X => X.wf (n + 5) ∧ RomIn X (n + 1) n z1 0#32 0#32 ∧ RomIn X (n + 4) (n + 3) z2 0#32 0#32 ∧ ∀ k, k < n → X k = H k) ?_ ?_
  · refine ⟨?_, ⟨?_, ?_, .inl rfl⟩, ⟨Heap.upd_same _ _ _, by rw [Heap.upd_ne _ _ (by omega), Heap.upd_same], .inl rfl⟩, fun k hk => by
      rw [Heap.upd_ne _ _ (by omega), Heap.upd_ne _ _ (by omega), Heap.upd_ne _ _ (by omega), Heap.upd_ne _ _ (by omega), Heap.upd_ne _ _ (by omega)]⟩
    · exact new_wf (Heap.wf_upd (new_wf wf z1) map_u8_ok) z2
    · rw [Heap.upd_ne _ _ (by omega), Heap.upd_ne _ _ (by omega), Heap.upd_ne _ _ (by omega), Heap.upd_same]
    · rw [Heap.upd_ne _ _ (by omega), Heap.upd_ne _ _ (by omega), Heap.upd_ne _ _ (by omega), Heap.upd_ne _ _ (by omega), Heap.upd_same]
  rintro X ⟨xw, xa, xb, xo⟩
  refine awp_ev dr0 (by decide +kernel) ?_
  simp only [go_sem]
  refine rom_banks (n + 1) n z1.length 0#32 0#32 (by omega) _ _ _ xa.r ?_
  rw [l1, show ((16384 / 16384 : Nat) : Int) = 1 from rfl]
  simp only [go_sem]
  refine rom_banks (n + 4) (n + 3) z2.length 0#32 0#32 (by omega) _ _ _ xb.r ?_
  rw [l2, show ((32768 / 16384 : Nat) : Int) = 2 from rfl]
  simp only [go_sem]
  refine rom_bytes (n + 1) n z1 (by omega) (by omega) 0#32 0#32 0#32 _ _ _ _ _ xa.r xa.b ?_
  rw [l1]
  simp only [go_sem]
  have xa2 : ∀ Z, RomIn (X.upd (n + 5) Z) (n + 1) n z1 0#32 0#32 := fun Z => xa.mono (Heap.upd_ne _ _ (by omega)) (Heap.upd_ne _ _ (by omega))
  refine rom_sum (n + 1) n z1 (by omega) 0#32 0#32 (.inl rfl) _ _ _ _ _ (xa2 _).r (xa2 _).b ?_
  simp only [go_sem]
  have xb2 : ∀ Z W, RomIn ((X.upd (n + 5) Z).upd (n + 1) W) (n + 4) (n + 3) z2 0#32 0#32 := fun Z W => xb.mono (by rw [Heap.upd_ne _ _ (by omega), Heap.upd_ne _ _ (by omega)]) (by rw [Heap.upd_ne _ _ (by omega), Heap.upd_ne _ _ (by omega)])
  refine rom_sum (n + 4) (n + 3) z2 (by omega) 0#32 0#32 (.inl rfl) _ _ _ _ _ (xb2 _ _).r (xb2 _ _).b ?_
  simp only [go_sem]
  have bn : (fnvS z1 != fnvS z2) = true := by simpa using nf
  rw [bn]
  exact Fin.back wf h (fun k hk => by rw [Heap.upd_ne _ _ (by omega), Heap.upd_ne _ _ (by omega), Heap.upd_ne _ _ (by omega), xo k hk]) rfl
end Go.Proofs.Joy
namespace Go.Proofs.Joy
open Go.Ab Go.Proofs Go

set_option maxHeartbeats 1000000
set_option maxRecDepth 20000

/-- Bytes behind a row that is full. -/
theorem app_bytes {H : Heap} {n b k : Nat} {v : AV} {l0 xs : List (BitVec 8)} {by_ : Nat} {z : List AV} {K : AV → Heap → Nat → Prop} (wf : H.wf n) (hbn : b ≤ n) (hb : H b = some ⟨l0.map .u8, 5, false⟩) (hk : l0.length = k) (hv : bytesIn H v xs) (hm : k + xs.length ≤ 4294967296)
    (h : ∀ r V m', n ≤ m' → V.wf m' → (∀ i, i < n → V i = H i) → bytesIn V r (l0 ++ xs) → r.ok m' = true → ((xs = [] ∧ r = .sl b 0 k k ∧ V = H ∧ m' = n) ∨ (xs ≠ [] ∧ r = .su n 0 (k + xs.length) 1 ∧ V = H.upd n (some ⟨(l0 ++ xs).map .u8, 5, false⟩) ∧ m' = n + 1)) → K r V m') :
    appX ⟨5, 1, by_, z⟩ v ∧ srcK H 1 v (appSl (some ⟨l0.map .u8, 5, false⟩) ⟨5, 1, by_, z⟩ b 0 k k H n K) := by
  have hbn2 := (wf b _ hb).1
  simp only [go_sem, appX_bytes hv, srcK_bytes hv, hb, List.length_map, hk]
  refine ⟨fun hx => ?_, fun hx => ⟨hm, ?_⟩⟩
  · have he : xs = [] := List.eq_nil_of_length_eq_zero (by omega)
    subst he
    have e0 : splice (l0.map AV.u8) k ([].map AV.u8) = l0.map AV.u8 := by simp [splice]
    rw [e0, Heap.upd_self hb]
    refine ⟨by simp, h _ H n (Nat.le_refl _) wf (fun _ _ => rfl) ?_ (by simp [AV.ok, hbn2]) (.inl ⟨rfl, rfl, rfl, rfl⟩)⟩
    rw [List.append_nil]
    exact .whole hb (by rw [hk]; rfl) (by simp)
  · have e1 : (l0.map AV.u8).take k = l0.map AV.u8 := List.take_of_length_le (by rw [List.length_map, hk]; exact Nat.le_refl _)
    try rw [e1]
    try rw [List.take_of_length_le (l := l0.map AV.u8) (by rw [List.length_map, hk]; exact Nat.le_refl _)]
    rw [← List.map_append]
    refine h _ _ (n + 1) (by omega) (Heap.wf_upd wf map_u8_ok) (fun i hi => Heap.upd_ne _ _ (by omega)) ?_ (by simp [AV.ok]) (.inr ⟨fun hx2 => by rw [hx2] at hx; simp at hx, rfl, rfl, rfl⟩)
    exact .wholeU (Heap.upd_same _ _ _) (by rw [List.length_append, hk])

abbrev P2 := Int × Int
def encP (p : P2) : List AV := [.i64 p.1, .i64 p.2]
def pairsIn (H : Heap) (v : AV) (xs : List P2) : Prop := (v = .sn ∧ xs = []) ∨ ∃ b c el ro, v = .sl b 0 xs.length c ∧ xs.length ≤ c ∧ H b = some ⟨xs.flatMap encP, el, ro⟩
theorem lenB_pairs {H : Heap} {v : AV} {xs : List P2} (h : pairsIn H v xs) (K : AV → Prop) : lenB (some .slice) v K = K (.i64 xs.length) := by
  rcases h with ⟨rfl, rfl⟩ | ⟨b, c, el, ro, rfl, _, _⟩ <;> rfl

theorem runs_walk (v v2 : AV) (ts : List (BitVec 8)) (many at_ : Int) (x : BitVec 8) (ps : List P2) (H : Heap) (n : Nat) (K : AV → Heap → Nat → Prop) (hv : bytesIn H v ts) (hp : pairsIn H v2 ps)
    (h : K (.bo true) H n) : ACalls Try.prog 4 [.ag [v, .i64 many, .i64 at_, .u8 x], v2] H n K := by
  have hpj : v2 ≠ .junk := by rcases hp with ⟨rfl, _⟩ | ⟨b, c, el, ro, rfl, _, _⟩ <;> simp
  refine ACalls.of_awp Try.func4 rfl (by decide +kernel) (show 2 ≤ 85 by decide) (by simp [hpj]) fun wf => ?_
  have hvok : v.ok n = true := by
    rcases hv with ⟨rfl, rfl⟩ | ⟨su, b, o, c, blk, rfl, h0, h1, h2, h3⟩
    · rfl
    · exact vw_ok (wf b _ h1).1
  have hpok : v2.ok n = true := by
    rcases hp with ⟨rfl, _⟩ | ⟨b, c, el, ro, rfl, _, h1⟩
    · rfl
    · have := (wf b _ h1).1; simp [AV.ok, this]
  refine awp_step dr4 (by decide +kernel) ?_
  simp only [go_sem, Try.f4]
  refine awp_gen (fun X => X.wf (n + 1) ∧ X n = some ⟨[v, .i64 many, .i64 at_, .u8 x], 29, false⟩ ∧ ∀ k, k < n → X k = H k) ⟨Heap.wf_upd wf (fun y hy => by
      simp only [List.mem_cons, List.not_mem_nil, or_false] at hy
      rcases hy with rfl | rfl | rfl | rfl
      · exact AV.ok_mono (by omega) _ hvok
      all_goals rfl), Heap.upd_same _ _ _, fun k hk => Heap.upd_ne _ _ (by omega)⟩ ?_
  rintro X ⟨xw, x0, xo⟩
  have hvX := hv.mono hvok xo
  have hlv := lenB_bytes hvX
  have hlp := lenB_pairs hp
  refine awp_step dr4 (by decide +kernel) ?_
  simp only [go_sem]
  refine alive_ok _ _ _ ?_
  simp only [go_sem]
  refine awp_step dr4 (by decide +kernel) ?_
  simp only [go_sem, x0, hlv, hlp]
  refine ⟨fun h60 => ⟨fun _ => Fin.back wf h xo rfl, fun h5 => ?_⟩, fun _ => Fin.back wf h xo rfl⟩
  refine awp_step dr4 (by decide +kernel) ?_
  simp only [go_sem, x0]
  refine build_ok v ts (by omega) many at_ x _ _ _ hvX ?_
  intro H1 m1 b1 hm1 w1 o1 hb1 hbm1 g1
  have hml := manyR_le many
  have hbl := buildR_len ts many at_ x
  generalize buildR ts many at_ x = bs at g1 hbl
  rw [← hbl]
  have hB : bytesIn H1 (.sl b1 0 bs.length bs.length) bs := .whole g1 rfl (Nat.le_refl _)
  generalize hvb : AV.sl b1 0 bs.length bs.length = vb at hB ⊢
  have vbok : vb.ok m1 = true := by rw [← hvb]; simp [AV.ok, hbm1]
  have vbj : vb ≠ .junk := hB.ne
  simp only [go_sem]
  refine awp_step dr4 (by decide +kernel) ?_
  simp only [go_sem]
  refine app_bytes (k := 0) (l0 := []) (b := m1) (Heap.wf_upd w1 (fun y hy => by cases hy)) (by omega) (Heap.upd_same _ _ _) rfl (hB.mono vbok (fun i hi => Heap.upd_ne _ _ (by omega))) (by omega) ?_
  intro r6 H6 m6 hm6 w6 o6 hr6 ok6 _
  simp only [go_sem]
  rw [List.nil_append] at hr6
  have hB6 : bytesIn H6 vb bs := hB.mono vbok (fun i hi => by rw [o6 i (by omega), Heap.upd_ne _ _ (by omega)])
  refine awp_step dr4 (by decide +kernel) ?_
  simp only [go_sem]
  refine rom_new r6 bs _ _ _ hr6 (by omega) ?_
  simp only [go_sem]
  have hl := romL_ok bs
  have hl1 := romL_len bs
  have hlm : (romL bs).length ≤ 4294967296 := by
    obtain ⟨j, hj, e⟩ := hl
    have : 2 ^ j ≤ 2 ^ 8 := Nat.pow_le_pow_right (by decide) hj
    omega
  have hl0 : 0 < (romL bs).length := by
    obtain ⟨j, hj, e⟩ := hl
    have : 1 ≤ 2 ^ j := Nat.one_le_two_pow
    omega
  refine awp_gen (fun Y => Y.wf (m6 + 2) ∧ RomIn Y (m6 + 1) m6 (romL bs) 0#32 0#32 ∧ (∀ k, k < m6 → Y k = H6 k)) ⟨new_wf w6 _, RomIn.new bs, fun k hk => by rw [Heap.upd_ne _ _ (by omega), Heap.upd_ne _ _ (by omega)]⟩ ?_
  rintro Y ⟨yw, yr, yo⟩
  have ok6' : r6.ok m6 = true := ok6
  refine awp_step dr4 (by decide +kernel) ?_
  simp only [go_sem]
  refine ref_new vb bs _ _ _ (hB6.mono (AV.ok_mono (by omega) _ vbok) yo) (by omega) ?_
  simp only [go_sem]
  generalize romL bs = l at yr hl hl1 hlm hl0 ⊢
  refine awp_gen (fun Z => Z.wf (m6 + 3) ∧ RomIn Z (m6 + 1) m6 l 0#32 0#32 ∧ Z (m6 + 2) = some ⟨l.map .u8, 5, false⟩ ∧ (∀ k, k < m6 → Z k = H6 k)) ⟨Heap.wf_upd yw map_u8_ok, yr.mono (Heap.upd_ne _ _ (by omega)) (Heap.upd_ne _ _ (by omega)), Heap.upd_same _ _ _, fun k hk => by rw [Heap.upd_ne _ _ (by omega)]; exact yo k hk⟩ ?_
  rintro Z ⟨zw, zr, zl, zo⟩
  have zB : bytesIn Z vb bs := hB6.mono (AV.ok_mono (by omega) _ vbok) zo
  have zR : bytesIn Z r6 bs := hr6.mono ok6 zo
  have zold : ∀ k, k < n → Z k = H k := fun k hk => by rw [zo k (by omega), o6 k (by omega), Heap.upd_ne _ _ (by omega), o1 k (by omega), xo k hk]
  refine awp_seqF (S := Unit) (fun _ => [(1, v2), (7, .pt (m6 + 1) 0), (8, .sl (m6 + 2) 0 l.length l.length)]) (fun _ => Z.upd (m6 + 1) (some (romM m6 l.length 1#32 0#32 (fnvS l)))) (fun _ => m6 + 3) (fun _ => True)
    (fun _ _ => ⟨Heap.wf_set zw (by omega) (fun y hy => by
        simp only [romM, List.mem_cons, List.not_mem_nil, or_false] at hy
        rcases hy with rfl | rfl | rfl | rfl | rfl <;> simp [AV.ok]), Env.okAt_of2 (by simp [AV.ok, AV.ok_mono (show n ≤ m6 + 3 by omega) _ hpok])⟩) ?_ ?_
  · refine awp_seq ?_
    refine awp_tree td4_9 tr4_9 (by decide +kernel) (by decide +kernel) ?_
    simp only [go_sem]
    refine rom_banks (m6 + 1) m6 l.length 0#32 0#32 hlm _ _ _ zr.r ?_
    simp only [go_sem]
    refine banks_ok (m6 + 2) l.length l.length hlm trivial _ _ (by omega) _ ?_
    simp only [go_sem, bne_self_eq_false, zl, List.length_map, readK_bytes zB, readK_bytes zR]
    have zl1 : ∀ W, (Z.upd (m6 + 3) W) (m6 + 2) = some ⟨l.map .u8, 5, false⟩ := fun W => by rw [Heap.upd_ne _ _ (by omega)]; exact zl
    have zr1 : ∀ W, RomIn (Z.upd (m6 + 3) W) (m6 + 1) m6 l 0#32 0#32 := fun W => zr.mono (Heap.upd_ne _ _ (by omega)) (Heap.upd_ne _ _ (by omega))
    have b1 : ∀ W K, readK (Z.upd (m6 + 3) W) 1 vb K = K bs.length (bs.map .u8) := fun W => readK_bytes (zB.mono (n := m6 + 3) (AV.ok_mono (by omega) _ vbok) (fun k hk => Heap.upd_ne _ _ (by omega)))
    have b2 : ∀ W K, readK (Z.upd (m6 + 3) W) 1 r6 K = K bs.length (bs.map .u8) := fun W => readK_bytes (zR.mono (n := m6 + 3) (AV.ok_mono (by omega) _ ok6) (fun k hk => Heap.upd_ne _ _ (by omega)))
    have zl2 : ∀ W V, ((Z.upd (m6 + 3) W).upd (m6 + 1) V) (m6 + 2) = some ⟨l.map .u8, 5, false⟩ := fun W V => by rw [Heap.upd_ne _ _ (by omega)]; exact zl1 W
    have zr2 : ∀ W, RomIn ((Z.upd (m6 + 3) W).upd (m6 + 1) (some (romM m6 l.length 1#32 0#32 (fnvS l)))) (m6 + 1) m6 l 1#32 (fnvS l) := fun W => (zr1 W).sum
    repeat' first
      | with_reducible refine And.intro ?_ ?_
      | (refine rom_bytes (m6 + 1) m6 l hl0 hlm _ _ _ _ _ _ _ _ zr.r zr.b ?_
         simp only [go_sem, bne_self_eq_false, zl, zl1, List.length_map, b1, b2])
      | (refine rom_sum (m6 + 1) m6 l hlm _ _ (.inl rfl) _ _ _ _ _ (zr1 _).r (zr1 _).b ?_
         simp only [go_sem, bne_self_eq_false, zl, zl1, zl2, List.length_map, b1, b2])
      | (refine rom_sum (m6 + 1) m6 l hlm _ _ (.inr ⟨rfl, rfl⟩) _ _ _ _ _ (zr2 _).r (zr2 _).b ?_
         simp only [go_sem, bne_self_eq_false, zl, zl1, zl2, List.length_map, b1, b2])
      | (refine ref_sum (m6 + 2) l.length l hlm _ _ _ _ _ (by first | exact zl2 _ _ | exact zl1 _) ?_
         simp only [go_sem, bne_self_eq_false, zl, zl1, zl2, List.length_map, b1, b2])
      | (refine awp_ev dr0 (by decide +kernel) ?_
         simp only [go_sem]
         exact Ends.mk () trivial (by repeat (first | exact Env.le_nil _ | refine Env.le_cons rfl ?_)) (fun k hk => by
           by_cases e : k = m6 + 1
           · subst e; rw [Heap.upd_same, Heap.upd_same]
           · rw [Heap.upd_ne _ _ e, Heap.upd_ne _ _ e, Heap.upd_ne _ _ (by omega)]) (Nat.le_refl _) (by omega))
  rintro - -
  have zs := zr.sum
  have zl3 : (Z.upd (m6 + 1) (some (romM m6 l.length 1#32 0#32 (fnvS l)))) (m6 + 2) = some ⟨l.map .u8, 5, false⟩ := by rw [Heap.upd_ne _ _ (by omega)]; exact zl
  have zo3 : ∀ k, k < n → (Z.upd (m6 + 1) (some (romM m6 l.length 1#32 0#32 (fnvS l)))) k = H k := fun k hk => by rw [Heap.upd_ne _ _ (by omega)]; exact zold k hk
  have zw3 : (Z.upd (m6 + 1) (some (romM m6 l.length 1#32 0#32 (fnvS l)))).wf (m6 + 3) := Heap.wf_set zw (by omega) (fun y hy => by
    simp only [romM, List.mem_cons, List.not_mem_nil, or_false] at hy
    rcases hy with rfl | rfl | rfl | rfl | rfl <;> simp [AV.ok])
  generalize Z.upd (m6 + 1) (some (romM m6 l.length 1#32 0#32 (fnvS l))) = U at zs zl3 zo3 zw3 ⊢
  have hpU : pairsIn U v2 ps := by
    rcases hp with ⟨rfl, rfl⟩ | ⟨b, c, el, ro, rfl, h0, h1⟩
    · exact .inl ⟨rfl, rfl⟩
    · exact .inr ⟨b, c, el, ro, rfl, h0, by rw [zo3 b (wf _ _ h1).1]; exact h1⟩
  have hlp2 := lenB_pairs hpU
  refine awp_seqF (S := Unit) (fun _ => []) (fun _ => U) (fun _ => m6 + 3) (fun _ => True) (fun _ _ => ⟨zw3, Env.okAt_nil _⟩) ?_ ?_
  · refine awp_step dr4 (by decide +kernel) ?_
    simp only [go_sem, hlp2]
    refine awp_block ?_
    refine awp_loopF (S := SumS) (fun t => [(7, .pt (m6 + 1) 0), (8, .sl (m6 + 2) 0 l.length l.length), (65, v2), (66, .i64 ps.length), (67, .i64 t.i)]) (fun _ => U) (fun _ => m6 + 3) (fun t => t.i ≤ ps.length) (fun t => ps.length - t.i)
      (fun t _ => ⟨zw3, Env.okAt_of2 (by simp [AV.ok, AV.ok_mono (show n ≤ m6 + 3 by omega) _ hpok])⟩) ?_ ⟨0⟩ (Nat.zero_le _) (by repeat (first | exact Env.le_nil _ | refine Env.le_cons rfl ?_)) (fun _ _ => rfl) rfl
    rintro ⟨i⟩ hi
    simp only at hi ⊢
    refine awp_step dr4 (by decide +kernel) ?_
    simp only [go_sem]
    refine awp_step dr4 (by decide +kernel) ?_
    simp only [go_sem]
    refine ⟨fun hlt => ?_, fun hlt => ?_⟩
    · have hi' : i < ps.length := by omega
      have wi : wrap64 ((i : Int) + 1) = ((i + 1 : Nat) : Int) := by rw [wrap_id _ (by omega) (by omega)]; omega
      obtain ⟨q, hq⟩ : ∃ q, ps[i]? = some q := ⟨_, List.getElem?_eq_getElem hi'⟩
      have hs : ((ps.flatMap encP).drop (i * 2)).take 2 = encP q := flatMap_slice (enc := encP) (k := 2) (fun _ => rfl) hq
      have hfl : (ps.flatMap encP).length = ps.length * 2 := flatMap_length (enc := encP) (k := 2) (fun _ => rfl) _
      refine awp_seq (awp_block ?_)
      refine awp_step dr4 (by decide +kernel) ?_
      rcases hpU with ⟨rfl, rfl⟩ | ⟨b, c, el, ro, rfl, h0, h1⟩
      · simp at hi'
      simp only [go_sem, hlt, hi', h1, hs, hfl, encP]
      refine ⟨by omega, ?_⟩
      refine awp_gen (fun V => V.wf (m6 + 4) ∧ V (m6 + 3) = some ⟨[.i64 q.1, .i64 q.2], 39, false⟩ ∧ ∀ k, k < m6 + 3 → V k = U k) ⟨Heap.wf_upd zw3 (fun y hy => by
        simp only [List.mem_cons, List.not_mem_nil, or_false] at hy
        rcases hy with rfl | rfl <;> rfl), Heap.upd_same _ _ _, fun k hk => Heap.upd_ne _ _ (by omega)⟩ ?_
      rintro V ⟨vw0, v0, vo⟩
      have vr : RomIn V (m6 + 1) m6 l 1#32 (fnvS l) := zs.mono (vo _ (by omega)) (vo _ (by omega))
      have vl : V (m6 + 2) = some ⟨l.map .u8, 5, false⟩ := by rw [vo _ (by omega)]; exact zl3
      refine awp_ev dr4 (by decide +kernel) ?_
      simp only [go_sem, v0]
      refine rom_at (m6 + 1) m6 l hl _ _ _ _ _ _ _ _ _ vr.r vr.b ?_
      simp only [go_sem, v0]
      refine ref_at (m6 + 2) l hl _ _ _ _ _ _ _ vl ?_
      simp only [go_sem, v0, bne_self_eq_false]
      refine awp_ev dr0 (by decide +kernel) ?_
      simp only [go_sem, wi]
      exact Ends.mk ⟨i + 1⟩ ⟨by simp only; omega, by simp only; omega⟩ (by repeat (first | exact Env.le_nil _ | refine Env.le_cons rfl ?_)) (fun k hk => vo k hk) (Nat.le_refl _) (by omega)
    · exact Ends.mk () trivial (by repeat (first | exact Env.le_nil _ | refine Env.le_cons rfl ?_)) (fun _ _ => rfl) (Nat.le_refl _) (Nat.le_refl _)
  rintro - -
  refine awp_ev dr0 (by decide +kernel) ?_
  simp only [go_sem]
  exact Fin.back wf h zo3 rfl
end Go.Proofs.Joy
namespace Go.Proofs.Joy
open Go.Ab Go.Proofs Go

set_option maxHeartbeats 1000000
set_option maxRecDepth 20000

theorem romBanks_of {j : Nat} (hj : j ≤ 8) : romBanks (2 ^ j * 16384) = 2 ^ j := by
  have : j = 0 ∨ j = 1 ∨ j = 2 ∨ j = 3 ∨ j = 4 ∨ j = 5 ∨ j = 6 ∨ j = 7 ∨ j = 8 := by omega
  rcases this with rfl | rfl | rfl | rfl | rfl | rfl | rfl | rfl | rfl <;> decide
theorem romL_idem {l : List (BitVec 8)} (h : romOk l) : romL l = l := by
  obtain ⟨j, hj, e⟩ := h
  have h8 : 2 ^ j ≤ 2 ^ 8 := Nat.pow_le_pow_right (by decide) hj
  unfold romL
  rw [List.take_of_length_le (by omega), e, romBanks_of hj, Nat.sub_self]
  simp
theorem romL_bytes_ge (bs : List (BitVec 8)) (h : bs.length ≤ 4194304) : bs.length ≤ (romL bs).length := by
  rw [romL_len, List.take_of_length_le h]; exact romBanks_ge _
theorem romM_ok (bb l n : Nat) (d mu s : BitVec 32) (h : bb < n) : ∀ y ∈ (romM bb l d mu s).cells, y.ok n = true := fun y hy => by
  simp only [romM, List.mem_cons, List.not_mem_nil, or_false] at hy
  rcases hy with rfl | rfl | rfl | rfl | rfl <;> simp [AV.ok, h]

theorem keeps_walk (v : AV) (ts : List (BitVec 8)) (many at_ : Int) (x : BitVec 8) (at2 : Int) (hat : -9223372036854775808 ≤ at2 ∧ at2 ≤ 9223372036854775807) (H : Heap) (n : Nat) (K : AV → Heap → Nat → Prop) (hv : bytesIn H v ts)
    (h : K (.bo true) H n) : ACalls Try.prog 5 [.ag [v, .i64 many, .i64 at_, .u8 x], .i64 at2] H n K := by
  refine ACalls.of_awp Try.func5 rfl (by decide +kernel) (show 2 ≤ 100 by decide) (by simp) fun wf => ?_
  have hvok : v.ok n = true := by
    rcases hv with ⟨rfl, rfl⟩ | ⟨su, b, o, c, blk, rfl, h0, h1, h2, h3⟩
    · rfl
    · exact vw_ok (wf b _ h1).1
  refine awp_step dr5 (by decide +kernel) ?_
  simp only [go_sem, Try.f5]
  refine awp_gen (fun X => X.wf (n + 1) ∧ X n = some ⟨[v, .i64 many, .i64 at_, .u8 x], 29, false⟩ ∧ ∀ k, k < n → X k = H k) ⟨Heap.wf_upd wf (fun y hy => by
      simp only [List.mem_cons, List.not_mem_nil, or_false] at hy
      rcases hy with rfl | rfl | rfl | rfl
      · exact AV.ok_mono (by omega) _ hvok
      all_goals rfl), Heap.upd_same _ _ _, fun k hk => Heap.upd_ne _ _ (by omega)⟩ ?_
  rintro X ⟨xw, x0, xo⟩
  have hvX := hv.mono hvok xo
  have hlv := lenB_bytes hvX
  refine awp_step dr5 (by decide +kernel) ?_
  simp only [go_sem]
  refine alive_ok _ _ _ ?_
  simp only [go_sem]
  refine awp_step dr5 (by decide +kernel) ?_
  simp only [go_sem, x0, hlv]
  refine ⟨fun _ => Fin.back wf h xo rfl, fun h5 => ?_⟩
  refine awp_step dr5 (by decide +kernel) ?_
  simp only [go_sem, x0]
  refine build_ok v ts (by omega) many at_ x _ _ _ hvX ?_
  intro H1 m1 b1 hm1 w1 o1 hb1 hbm1 g1
  have hml := manyR_le many
  have hbl := buildR_len ts many at_ x
  generalize buildR ts many at_ x = bs at g1 hbl
  rw [← hbl]
  have hB : bytesIn H1 (.sl b1 0 bs.length bs.length) bs := .whole g1 rfl (Nat.le_refl _)
  have hl := romL_ok bs
  have hid := romL_idem hl
  have hge := romL_bytes_ge bs (by omega)
  have hlm : (romL bs).length ≤ 4194304 := by
    obtain ⟨j, hj, e⟩ := hl
    have : 2 ^ j ≤ 2 ^ 8 := Nat.pow_le_pow_right (by decide) hj
    omega
  have hl0 : 0 < (romL bs).length := by
    obtain ⟨j, hj, e⟩ := hl
    have : 1 ≤ 2 ^ j := Nat.one_le_two_pow
    omega
  have hle := hl
  simp only [go_sem]
  refine awp_step dr5 (by decide +kernel) ?_
  simp only [go_sem]
  refine rom_new _ bs _ _ _ hB (by omega) ?_
  simp only [go_sem]
  generalize romL bs = l at hl hid hge hlm hl0 hle ⊢
  refine awp_gen (fun Y => Y.wf (m1 + 2) ∧ RomIn Y (m1 + 1) m1 l 0#32 0#32 ∧ (∀ k, k < m1 → Y k = H1 k)) ⟨new_wf w1 _, ⟨Heap.upd_same _ _ _, (by repeat (first | rw [Heap.upd_same] | rw [Heap.upd_ne _ _ (by omega)])), .inl rfl⟩, fun k hk => by rw [Heap.upd_ne _ _ (by omega), Heap.upd_ne _ _ (by omega)]⟩ ?_
  rintro Y ⟨yw, yr, yo⟩
  refine awp_step dr5 (by decide +kernel) ?_
  simp only [go_sem]
  refine rom_bytes (m1 + 1) m1 l hl0 (by omega) 0#32 0#32 0#32 _ _ _ _ _ yr.r yr.b ?_
  simp only [go_sem]
  refine awp_step dr5 (by decide +kernel) ?_
  simp only [go_sem]
  refine rom_new (.su (m1 + 2) 0 l.length 1) l _ _ _ (.wholeU (Heap.upd_same _ _ _) rfl) (by omega) ?_
  simp only [go_sem]
  rw [hid]
  refine awp_gen (fun Z => Z.wf (m1 + 5) ∧ RomIn Z (m1 + 1) m1 l 0#32 0#32 ∧ RomIn Z (m1 + 4) (m1 + 3) l 0#32 0#32 ∧ Z (m1 + 2) = some ⟨l.map .u8, 5, false⟩ ∧ (∀ k, k < m1 → Z k = H1 k)) ?_ ?_
  · refine ⟨new_wf (Heap.wf_upd yw map_u8_ok) _, yr.mono (by rw [Heap.upd_ne _ _ (by omega), Heap.upd_ne _ _ (by omega), Heap.upd_ne _ _ (by omega)]) (by rw [Heap.upd_ne _ _ (by omega), Heap.upd_ne _ _ (by omega), Heap.upd_ne _ _ (by omega)]), ⟨Heap.upd_same _ _ _, (by repeat (first | rw [Heap.upd_same] | rw [Heap.upd_ne _ _ (by omega)])), .inl rfl⟩, (by repeat (first | rw [Heap.upd_same] | rw [Heap.upd_ne _ _ (by omega)])), fun k hk => by
      rw [Heap.upd_ne _ _ (by omega), Heap.upd_ne _ _ (by omega), Heap.upd_ne _ _ (by omega), yo k hk]⟩
  rintro Z ⟨zw, zr, za, zl, zo⟩
  refine awp_seqF (S := RoS) (fun _ => [(1, .i64 at2), (5, .sl b1 0 bs.length bs.length), (6, .pt (m1 + 1) 0), (7, .su (m1 + 2) 0 l.length 1), (8, .pt (m1 + 4) 0), (9, .bo true)]) (fun t => t.X) (fun _ => m1 + 5)
    (fun t => t.X.wf (m1 + 5) ∧ RomIn t.X (m1 + 1) m1 l 1#32 (fnvS l) ∧ RomIn t.X (m1 + 4) (m1 + 3) l 1#32 (fnvS l) ∧ t.X (m1 + 2) = some ⟨l.map .u8, 5, false⟩ ∧ (∀ k, k < m1 → t.X k = H1 k))
    (fun t ht => ⟨ht.1, Env.okAt_of2 (by simp [AV.ok]; omega)⟩) ?_ ?_
  · refine awp_tree td5_9 tr5_9 (by decide +kernel) (by decide +kernel) ?_
    simp only [go_sem]
    refine rom_banks (m1 + 1) m1 l.length 0#32 0#32 (by omega) _ _ _ zr.r ?_
    simp only [go_sem]
    refine rom_banks (m1 + 4) (m1 + 3) l.length 0#32 0#32 (by omega) _ _ _ za.r ?_
    simp only [go_sem, beq_self_eq_true, zl, List.length_map]
    have zl1 : ∀ W V, ((Z.upd (m1 + 1) W).upd (m1 + 4) V) (m1 + 2) = some ⟨l.map .u8, 5, false⟩ := fun W V => by rw [Heap.upd_ne _ _ (by omega), Heap.upd_ne _ _ (by omega)]; exact zl
    have zl2 : ∀ W V U, (((Z.upd (m1 + 1) W).upd (m1 + 4) V).upd (m1 + 5) U) (m1 + 2) = some ⟨l.map .u8, 5, false⟩ := fun W V U => by rw [Heap.upd_ne _ _ (by omega)]; exact zl1 _ _
    have zl0 : ∀ W, (Z.upd (m1 + 5) W) (m1 + 2) = some ⟨l.map .u8, 5, false⟩ := fun W => by rw [Heap.upd_ne _ _ (by omega)]; exact zl
    have za1 : ∀ W, RomIn (Z.upd (m1 + 1) W) (m1 + 4) (m1 + 3) l 0#32 0#32 := fun W => za.mono (Heap.upd_ne _ _ (by omega)) (Heap.upd_ne _ _ (by omega))
    have zb1 : ∀ W, RomIn ((Z.upd (m1 + 1) W).upd (m1 + 4) (some (romM (m1 + 3) l.length 1#32 0#32 (fnvS l)))) (m1 + 4) (m1 + 3) l 1#32 (fnvS l) := fun W => (za1 W).sum
    have zz : RomIn ((Z.upd (m1 + 1) (some (romM m1 l.length 1#32 0#32 (fnvS l)))).upd (m1 + 4) (some (romM (m1 + 3) l.length 1#32 0#32 (fnvS l)))) (m1 + 1) m1 l 1#32 (fnvS l) := zr.sum.mono (Heap.upd_ne _ _ (by omega)) (Heap.upd_ne _ _ (by omega))
    have zzw : ((Z.upd (m1 + 1) (some (romM m1 l.length 1#32 0#32 (fnvS l)))).upd (m1 + 4) (some (romM (m1 + 3) l.length 1#32 0#32 (fnvS l)))).wf (m1 + 5) := Heap.wf_set (Heap.wf_set zw (by omega) (romM_ok _ _ _ _ _ _ (by omega))) (by omega) (romM_ok _ _ _ _ _ _ (by omega))
    have zzo : ∀ k, k < m1 → ((Z.upd (m1 + 1) (some (romM m1 l.length 1#32 0#32 (fnvS l)))).upd (m1 + 4) (some (romM (m1 + 3) l.length 1#32 0#32 (fnvS l)))) k = H1 k := fun k hk => by rw [Heap.upd_ne _ _ (by omega), Heap.upd_ne _ _ (by omega)]; exact zo k hk
    repeat' first
      | with_reducible refine And.intro ?_ ?_
      | (refine rom_sum (m1 + 1) m1 l (by omega) _ _ (.inl rfl) _ _ _ _ _ zr.r zr.b ?_
         simp only [go_sem, zl, zl1, zl2, zl0, List.length_map])
      | (refine rom_sum (m1 + 4) (m1 + 3) l (by omega) _ _ (.inl rfl) _ _ _ _ _ (za1 _).r (za1 _).b ?_
         simp only [go_sem, zl, zl1, zl2, zl0, List.length_map, beq_self_eq_true])
      | (refine rom_bytes (m1 + 4) (m1 + 3) l hl0 (by omega) _ _ _ _ _ _ _ _ (zb1 _).r (zb1 _).b ?_
         simp only [go_sem, zl, zl1, zl2, zl0, List.length_map, beq_self_eq_true])
      | (refine awp_ev dr0 (by decide +kernel) ?_
         simp only [go_sem, zl, zl1, zl2, zl0, beq_self_eq_true])
      | exact Ends.mk (⟨0, (Z.upd (m1 + 1) (some (romM m1 l.length 1#32 0#32 (fnvS l)))).upd (m1 + 4) (some (romM (m1 + 3) l.length 1#32 0#32 (fnvS l)))⟩ : RoS) ⟨zzw, zz, zb1 _, zl1 _ _, zzo⟩ (by repeat (first | exact Env.le_nil _ | refine Env.le_cons rfl ?_)) (fun k hk => by first | rfl | (rw [Heap.upd_ne _ _ (by omega)])) (Nat.le_refl _) (by omega)
  rintro ⟨_, Q⟩ ⟨qw, qr, qa, ql, qo⟩
  simp only at qw qr qa ql qo ⊢
  have qb : Q b1 = some ⟨bs.map .u8, 5, false⟩ := by rw [qo _ hbm1]; exact g1
  have qold : ∀ k, k < n → Q k = H k := fun k hk => by rw [qo k (by omega), o1 k (by omega), xo k hk]
  have hfin : decide (min (bs.length : Int) 4194304 ≤ wrap64 (((l.length / 16384 : Nat) : Int) * 16384)) = true := by
    obtain ⟨j, hj, e⟩ := hl
    have : 2 ^ j ≤ 2 ^ 8 := Nat.pow_le_pow_right (by decide) hj
    rw [e, Nat.mul_div_cancel _ (by decide), wrap_id _ (by omega) (by omega)]
    exact decide_eq_true (by omega)
  refine awp_step dr5 (by decide +kernel) ?_
  simp only [go_sem]
  refine ⟨fun hpos => ?_, fun hpos => ?_⟩
  · obtain ⟨i, hi, ti⟩ : ∃ i : Nat, i < bs.length ∧ (max 0 at2).tmod (bs.length : Int) = (i : Int) := by
      refine ⟨((max 0 at2).toNat % bs.length), Nat.mod_lt _ (by omega), ?_⟩
      rw [Int.tmod_eq_emod_of_nonneg (by omega)]
      have hm : max 0 at2 = (((max 0 at2).toNat : Nat) : Int) := by omega
      rw [hm, Int.toNat_natCast, ← Int.natCast_emod]
    have wd : wrap64 ((i : Int).tdiv 16384) = ((i / 16384 : Nat) : Int) := by
      rw [Int.tdiv_eq_ediv_of_nonneg (by omega), wrap_id _ (by omega) (by omega)]; omega
    rw [ti, wd]
    refine ⟨by omega, ?_⟩
    refine rom_at (m1 + 1) m1 l hl _ _ _ _ _ _ _ _ _ qr.r qr.b ?_
    generalize hw : romAt l ((i / 16384 : Nat) : Int) (i : Int) = w
    have hil : i < l.length := by omega
    have gb := getD_map8 hi
    have gl := getD_map8 hil
    have ql1 : ∀ W, (Q.upd b1 W) (m1 + 2) = some ⟨l.map .u8, 5, false⟩ := fun W => by rw [Heap.upd_ne _ _ (by omega)]; exact ql
    simp only [go_sem, qb, hi, gb, List.length_map]
    refine ⟨by omega, ?_⟩
    simp only [go_sem, ql, ql1, hil, gl, List.length_map]
    refine ⟨by omega, by omega, by omega, by omega, by omega, ?_⟩
    rw [wd]
    have vr : ∀ W V, RomIn ((Q.upd b1 W).upd (m1 + 2) V) (m1 + 1) m1 l 1#32 (fnvS l) := fun W V => qr.mono (by rw [Heap.upd_ne _ _ (by omega), Heap.upd_ne _ _ (by omega)]) (by rw [Heap.upd_ne _ _ (by omega), Heap.upd_ne _ _ (by omega)])
    have va : ∀ W V, RomIn ((Q.upd b1 W).upd (m1 + 2) V) (m1 + 4) (m1 + 3) l 1#32 (fnvS l) := fun W V => qa.mono (by rw [Heap.upd_ne _ _ (by omega), Heap.upd_ne _ _ (by omega)]) (by rw [Heap.upd_ne _ _ (by omega), Heap.upd_ne _ _ (by omega)])
    refine rom_at (m1 + 1) m1 l hl _ _ _ _ _ _ _ _ _ (vr _ _).r (vr _ _).b ?_
    rw [hw]
    simp only [go_sem, beq_self_eq_true, wd]
    refine rom_at (m1 + 4) (m1 + 3) l hl _ _ _ _ _ _ _ _ _ (va _ _).r (va _ _).b ?_
    rw [hw]
    simp only [go_sem, beq_self_eq_true]
    refine awp_ev dr0 (by decide +kernel) ?_
    simp only [go_sem]
    refine rom_banks (m1 + 1) m1 l.length _ _ (by omega) _ _ _ (vr _ _).r ?_
    simp only [go_sem]
    rw [hfin]
    exact Fin.back wf h (fun k hk => by rw [Heap.upd_ne _ _ (by omega), Heap.upd_ne _ _ (by omega)]; exact qold k hk) rfl
  · refine awp_ev dr0 (by decide +kernel) ?_
    simp only [go_sem]
    refine rom_banks (m1 + 1) m1 l.length _ _ (by omega) _ _ _ qr.r ?_
    simp only [go_sem]
    rw [hfin]
    exact Fin.back wf h qold rfl
end Go.Proofs.Joy
namespace Go.Proofs.Joy
open Go.Ab Go.Proofs Go

set_option maxHeartbeats 1000000
set_option maxRecDepth 20000

theorem lenS_uniq {k j : Nat} (hk : 0 < k) (h1 : 2 ^ (lenS k - 1) ≤ j) (h2 : j < 2 ^ lenS k) : lenS j = lenS k := by
  have hj : j ≠ 0 := by have := Nat.two_pow_pos (lenS k - 1); omega
  unfold lenS at *
  rw [if_neg (by omega)] at h1 h2 ⊢
  rw [if_neg (by omega)]
  rw [Nat.add_sub_cancel] at h1
  rw [(Nat.log2_eq_iff hj).2 ⟨h1, h2⟩]
theorem romBanks_grow {n : Nat} (h : n < romBanks n * 16384) : romBanks (n + 1) = romBanks n := by
  have hc : bankCount (n + 1) = (n + 16384) / 16384 := rfl
  have hc0 : bankCount n = (n + 16383) / 16384 := rfl
  unfold romBanks at h ⊢
  by_cases h1 : bankCount n ≤ 1
  · rw [if_pos h1] at h ⊢
    rw [if_pos (by omega)]
  · rw [if_neg h1] at h ⊢
    rw [if_neg (by omega)]
    obtain ⟨s1, s2, s3⟩ := lenS_spec (bankCount n - 1) (by omega)
    rw [lenS_uniq (k := bankCount n - 1) (by omega) (by omega) (by omega)]
theorem romL_whole {bs : List (BitVec 8)} (h : bs.length ≤ 4194304) : romL bs = bs ++ List.replicate (romBanks bs.length * 16384 - bs.length) 0#8 := by
  unfold romL; rw [List.take_of_length_le h]
theorem romL_grow {bs : List (BitVec 8)} (h : bs.length < 4194304) (h2 : bs.length < (romL bs).length) : romL (bs ++ [0#8]) = romL bs := by
  rw [romL_len, List.take_of_length_le (by omega)] at h2
  rw [romL_whole (by rw [List.length_append, List.length_singleton]; omega), romL_whole (by omega), List.length_append, List.length_singleton, romBanks_grow h2, List.append_assoc]
  congr 1
  have : romBanks bs.length * 16384 - bs.length = (romBanks bs.length * 16384 - (bs.length + 1)) + 1 := by omega
  rw [this, List.replicate_succ, List.singleton_append]
theorem romL_lo {bs : List (BitVec 8)} (h : bs.length ≤ 4194304) {i : Nat} (hi : i < bs.length) : (romL bs).getD i 0#8 = bs.getD i 0#8 := by
  rw [romL_whole h, List.getD_eq_getElem?_getD, List.getElem?_append_left hi, List.getD_eq_getElem?_getD]
theorem romL_hi {bs : List (BitVec 8)} (h : bs.length ≤ 4194304) {i : Nat} (hi : bs.length ≤ i) : (romL bs).getD i 0#8 = 0#8 := by
  rw [romL_whole h, List.getD_eq_getElem?_getD, List.getElem?_append_right hi, List.getElem?_replicate]
  split <;> rfl
theorem romAt_lo {l : List (BitVec 8)} (hl : romOk l) {i : Nat} (hi : i < l.length) : romAt l ((i / 16384 : Nat) : Int) ((i % 16384 : Nat) : Int) = l.getD i 0#8 := by
  obtain ⟨j, hj, e⟩ := hl
  unfold romAt
  rw [e, Nat.mul_div_cancel _ (by decide)]
  rw [e] at hi
  congr 1
  generalize 2 ^ j = B at *
  rw [Int.emod_eq_of_lt (by omega) (by omega)]
  omega
theorem romAt_wrap {l : List (BitVec 8)} (hl : romOk l) {i : Nat} (hi : i < l.length) : romAt l (((i / 16384 : Nat) : Int) + ((l.length / 16384 : Nat) : Int)) (i : Int) = l.getD i 0#8 := by
  obtain ⟨j, hj, e⟩ := hl
  unfold romAt
  rw [e, Nat.mul_div_cancel _ (by decide)]
  rw [e] at hi
  congr 1
  generalize 2 ^ j = B at *
  rw [Int.add_emod_right, Int.emod_eq_of_lt (by omega) (by omega)]
  omega

end Go.Proofs.Joy
open Go.Ab Go in
theorem Go.Ab.ACalls.gen {P : Program} {f : Nat} {vs : List AV} {H : Heap} {n : Nat} {K : AV → Heap → Nat → Prop} (R : Heap → Prop) (hR : R H) (h : ∀ X, R X → ACalls P f vs X n K) : ACalls P f vs H n K := h H hR
namespace Go.Proofs.Joy
open Go.Ab Go.Proofs Go

structure GrS where
  X : Heap
  p : Nat
  m : Nat

def grS (W : Heap) (p : Nat) (l2 : List (BitVec 8)) : GrS := ⟨(W.upd p (some ⟨l2.map .u8, 5, false⟩)).upd (p + 1) (some (romB p l2.length)), p, p + 2⟩
theorem grS_inv {H1 Y W : Heap} {m1 p : Nat} {l l2 : List (BitVec 8)} (ww : W.wf p) (hp : m1 + 2 ≤ p) (yr : RomIn Y (m1 + 1) m1 l 0#32 0#32) (wo : ∀ k, k < m1 + 2 → W k = Y k) (yo : ∀ k, k < m1 → Y k = H1 k) :
    (grS W p l2).X.wf (grS W p l2).m ∧ m1 + 2 ≤ (grS W p l2).p ∧ (grS W p l2).p + 2 ≤ (grS W p l2).m ∧ RomIn (grS W p l2).X (m1 + 1) m1 l 0#32 0#32 ∧ RomIn (grS W p l2).X ((grS W p l2).p + 1) (grS W p l2).p l2 0#32 0#32 ∧ (∀ k, k < m1 → (grS W p l2).X k = H1 k) := by
  simp only [grS]
  exact ⟨new_wf ww l2, hp, Nat.le_refl _, yr.mono (by rw [Heap.upd_ne _ _ (by omega), Heap.upd_ne _ _ (by omega), wo _ (by omega)]) (by rw [Heap.upd_ne _ _ (by omega), Heap.upd_ne _ _ (by omega), wo _ (by omega)]),
    ⟨Heap.upd_same _ _ _, by rw [Heap.upd_ne _ _ (by omega), Heap.upd_same], .inl rfl⟩, fun k hk => by rw [Heap.upd_ne _ _ (by omega), Heap.upd_ne _ _ (by omega), wo _ (by omega), yo k hk]⟩

theorem grows_walk (v : AV) (ts : List (BitVec 8)) (many at_ : Int) (x : BitVec 8) (at2 : Int) (hat : -9223372036854775808 ≤ at2 ∧ at2 ≤ 9223372036854775807) (H : Heap) (n : Nat) (K : AV → Heap → Nat → Prop) (hv : bytesIn H v ts)
    (h : K (.bo true) H n) : ACalls Try.prog 6 [.ag [v, .i64 many, .i64 at_, .u8 x], .i64 at2] H n K := by
  refine ACalls.of_awp Try.func6 rfl (by decide +kernel) (show 2 ≤ 91 by decide) (by simp) fun wf => ?_
  have hvok : v.ok n = true := by
    rcases hv with ⟨rfl, rfl⟩ | ⟨su, b, o, c, blk, rfl, h0, h1, h2, h3⟩
    · rfl
    · exact vw_ok (wf b _ h1).1
  refine awp_step dr6 (by decide +kernel) ?_
  simp only [go_sem, Try.f6]
  refine awp_gen (fun X => X.wf (n + 1) ∧ X n = some ⟨[v, .i64 many, .i64 at_, .u8 x], 29, false⟩ ∧ ∀ k, k < n → X k = H k) ⟨Heap.wf_upd wf (fun y hy => by
      simp only [List.mem_cons, List.not_mem_nil, or_false] at hy
      rcases hy with rfl | rfl | rfl | rfl
      · exact AV.ok_mono (by omega) _ hvok
      all_goals rfl), Heap.upd_same _ _ _, fun k hk => Heap.upd_ne _ _ (by omega)⟩ ?_
  rintro X ⟨xw, x0, xo⟩
  have hvX := hv.mono hvok xo
  have hlv := lenB_bytes hvX
  refine awp_step dr6 (by decide +kernel) ?_
  simp only [go_sem]
  refine alive_ok _ _ _ ?_
  simp only [go_sem]
  refine awp_step dr6 (by decide +kernel) ?_
  simp only [go_sem, x0, hlv]
  refine ⟨fun _ => Fin.back wf h xo rfl, fun h5 => ?_⟩
  refine awp_step dr6 (by decide +kernel) ?_
  simp only [go_sem, x0]
  refine build_ok v ts (by omega) many at_ x _ _ _ hvX ?_
  intro H1 m1 b1 hm1 w1 o1 hb1 hbm1 g1
  have hml := manyR_le many
  have hbl := buildR_len ts many at_ x
  generalize buildR ts many at_ x = bs at g1 hbl
  rw [← hbl]
  have hB : bytesIn H1 (.sl b1 0 bs.length bs.length) bs := .whole g1 rfl (Nat.le_refl _)
  have hl := romL_ok bs
  have hge := romL_bytes_ge bs (by omega)
  have hlm : (romL bs).length ≤ 4194304 := by
    obtain ⟨j, hj, e⟩ := hl
    have : 2 ^ j ≤ 2 ^ 8 := Nat.pow_le_pow_right (by decide) hj
    omega
  have hlb : (((romL bs).length / 16384 : Nat) : Int) * 16384 = (romL bs).length := by
    obtain ⟨j, hj, e⟩ := hl
    rw [e, Nat.mul_div_cancel _ (by decide)]; omega
  simp only [go_sem]
  refine awp_step dr6 (by decide +kernel) ?_
  simp only [go_sem]
  refine rom_new _ bs _ _ _ hB (by omega) ?_
  simp only [go_sem]
  have hgrow := romL_grow (bs := bs) (by omega)
  have hlo := @romL_lo bs (by omega)
  have hhi := @romL_hi bs (by omega)
  have hl2 := romL_ok (bs ++ [0#8])
  generalize romL bs = l at hl hge hlm hlb hgrow hlo hhi ⊢
  generalize hl2e : romL (bs ++ [0#8]) = l2 at hgrow hl2
  have hlm2 : l2.length ≤ 4194304 := by
    obtain ⟨j, hj, e⟩ := hl2
    have : 2 ^ j ≤ 2 ^ 8 := Nat.pow_le_pow_right (by decide) hj
    omega
  refine awp_gen (fun Y => Y.wf (m1 + 2) ∧ RomIn Y (m1 + 1) m1 l 0#32 0#32 ∧ (∀ k, k < m1 → Y k = H1 k)) ⟨new_wf w1 _, ⟨Heap.upd_same _ _ _, (by repeat (first | rw [Heap.upd_same] | rw [Heap.upd_ne _ _ (by omega)])), .inl rfl⟩, fun k hk => by rw [Heap.upd_ne _ _ (by omega), Heap.upd_ne _ _ (by omega)]⟩ ?_
  rintro Y ⟨yw, yr, yo⟩
  have yB : bytesIn Y (.sl b1 0 bs.length bs.length) bs := hB.mono (n := m1) (by simp [AV.ok, hbm1]) yo
  refine awp_seqF (S := GrS) (fun t => [(1, .i64 at2), (5, .sl b1 0 bs.length bs.length), (6, .pt (m1 + 1) 0), (7, .pt (t.p + 1) 0)]) (fun t => t.X) (fun t => t.m)
    (fun t => t.X.wf t.m ∧ m1 + 2 ≤ t.p ∧ t.p + 2 ≤ t.m ∧ RomIn t.X (m1 + 1) m1 l 0#32 0#32 ∧ RomIn t.X (t.p + 1) t.p l2 0#32 0#32 ∧ (∀ k, k < m1 → t.X k = H1 k))
    (fun t ht => ⟨ht.1, Env.okAt_of2 (by simp [AV.ok]; omega)⟩) ?_ ?_
  · refine awp_ev dr6 (by decide +kernel) ?_
    generalize hvb : AV.sl b1 0 bs.length bs.length = vb at yB ⊢
    have vbok : vb.ok m1 = true := by rw [← hvb]; simp [AV.ok, hbm1]
    have vbj : vb ≠ .junk := yB.ne
    simp only [go_sem]
    refine app_bytes (k := 0) (l0 := []) (b := m1 + 2) (Heap.wf_upd yw (fun y hy => by cases hy)) (by omega) (Heap.upd_same _ _ _) rfl (yB.mono (n := m1) vbok (fun i hi => Heap.upd_ne _ _ (by omega))) (by omega) ?_
    intro r6 V m6 hm6 w6 o6 hr6 ok6 hd
    rw [List.nil_append] at hr6
    have vr : ∀ k, k < m1 + 2 → V k = Y k := fun k hk => by rw [o6 k (by omega), Heap.upd_ne _ _ (by omega)]
    rcases hd with ⟨hb0, rfl, hV, rfl⟩ | ⟨hb0, rfl, hV, rfl⟩
    · subst hb0
      have v2 : V (m1 + 2) = some ⟨[], 5, false⟩ := by rw [hV]; exact Heap.upd_same _ _ _
      simp only [go_sem, v2]
      refine ACalls.gen (fun W => W.wf (m1 + 5) ∧ W (m1 + 4) = some ⟨[0#8].map .u8, 5, false⟩ ∧ ∀ k, k < m1 + 2 → W k = Y k) ⟨Heap.wf_upd (Heap.wf_upd w6 (map_u8_ok (bs := [0#8]))) (map_u8_ok (bs := [0#8])), Heap.upd_same _ _ _, fun k hk => by rw [Heap.upd_ne _ _ (by omega), Heap.upd_ne _ _ (by omega), vr k hk]⟩ ?_
      rintro W ⟨ww, w4, wo⟩
      refine rom_new _ [0#8] _ _ _ (.wholeU w4 rfl) (by decide) ?_
      rw [List.nil_append] at hl2e
      rw [hl2e]
      simp only [go_sem]
      exact Ends.mk (grS W (m1 + 5) l2) (grS_inv ww (by omega) yr wo yo) (by repeat (first | exact Env.le_nil _ | refine Env.le_cons rfl ?_)) (fun _ _ => rfl) (by simp only [grS]; omega) (Nat.le_refl _)
    · have v3 : V (m1 + 3) = some ⟨bs.map .u8, 5, false⟩ := by rw [hV]; exact Heap.upd_same _ _ _
      simp only [go_sem, v3]
      refine ⟨by rw [List.length_map]; exact Nat.le_refl _, by omega, ?_⟩
      refine ACalls.gen (fun W => W.wf (m1 + 6) ∧ W (m1 + 5) = some ⟨(bs ++ [0#8]).map .u8, 5, false⟩ ∧ ∀ k, k < m1 + 2 → W k = Y k) ⟨Heap.wf_upd (Heap.wf_upd_none (Heap.wf_upd w6 (map_u8_ok (bs := [0#8])))) (by
          have := map_u8_ok (bs := bs ++ [0#8]) (n := m1 + 6)
          rw [List.map_append] at this; exact this), by rw [Heap.upd_same, List.map_append]; rfl, fun k hk => by rw [Heap.upd_ne _ _ (by omega), Heap.upd_ne _ _ (by omega), Heap.upd_ne _ _ (by omega), vr k hk]⟩ ?_
      rintro W ⟨ww, w5, wo⟩
      have el : (bs ++ [0#8]).length = bs.length + 1 := by simp
      refine rom_new _ (bs ++ [0#8]) _ _ _ (.wholeU w5 el.symm) (by omega) ?_
      rw [hl2e]
      simp only [go_sem]
      exact Ends.mk (grS W (m1 + 6) l2) (grS_inv ww (by omega) yr wo yo) (by repeat (first | exact Env.le_nil _ | refine Env.le_cons rfl ?_)) (fun _ _ => rfl) (by simp only [grS]; omega) (Nat.le_refl _)
  rintro ⟨Q, p, m⟩ ⟨qw, hp1, hp2, qr, qs, qo⟩
  simp only at qw hp1 hp2 qr qs qo ⊢
  have qb : Q b1 = some ⟨bs.map .u8, 5, false⟩ := by rw [qo _ hbm1]; exact g1
  have qold : ∀ k, k < n → Q k = H k := fun k hk => by rw [qo k (by omega), o1 k (by omega), xo k hk]
  have wl : wrap64 ((l.length : Nat) : Int) = l.length := wrap_id _ (by omega) (by omega)
  refine awp_seqF (S := RoS) (fun _ => [(1, .i64 at2), (5, .sl b1 0 bs.length bs.length), (6, .pt (m1 + 1) 0)]) (fun t => t.X) (fun _ => m)
    (fun t => t.X.wf m ∧ (∃ d s, RomIn t.X (m1 + 1) m1 l d s) ∧ (∀ k, k < m1 → t.X k = H1 k)) (fun t ht => ⟨ht.1, Env.okAt_of2 (by simp [AV.ok]; omega)⟩) ?_ ?_
  · refine awp_step dr6 (by decide +kernel) ?_
    simp only [go_sem]
    refine rom_banks (m1 + 1) m1 l.length _ _ (by omega) _ _ _ qr.r ?_
    simp only [go_sem, hlb, wl]
    refine ⟨fun hlt => ?_, fun hlt => ?_⟩
    · have e2 : l2 = l := hgrow (by omega)
      subst e2
      refine rom_banks (p + 1) p l2.length _ _ (by omega) _ _ _ qs.r ?_
      simp only [go_sem]
      refine rom_banks (m1 + 1) m1 l2.length _ _ (by omega) _ _ _ qr.r ?_
      simp only [go_sem, bne_self_eq_false]
      refine rom_sum (p + 1) p l2 (by omega) _ _ (.inl rfl) _ _ _ _ _ qs.r qs.b ?_
      simp only [go_sem]
      have qr1 : ∀ W, RomIn (Q.upd (p + 1) W) (m1 + 1) m1 l2 0#32 0#32 := fun W => qr.mono (Heap.upd_ne _ _ (by omega)) (Heap.upd_ne _ _ (by omega))
      refine rom_sum (m1 + 1) m1 l2 (by omega) _ _ (.inl rfl) _ _ _ _ _ (qr1 _).r (qr1 _).b ?_
      simp only [go_sem, bne_self_eq_false]
      refine awp_ev dr0 (by decide +kernel) ?_
      simp only [go_sem]
      exact Ends.mk (⟨0, (Q.upd (p + 1) (some (romM p l2.length 1#32 0#32 (fnvS l2)))).upd (m1 + 1) (some (romM m1 l2.length 1#32 0#32 (fnvS l2)))⟩ : RoS) ⟨Heap.wf_set (Heap.wf_set qw (by omega) (romM_ok _ _ _ _ _ _ (by omega))) (by omega) (romM_ok _ _ _ _ _ _ (by omega)),
        ⟨_, _, (qr1 _).sum⟩, fun k hk => by simp only; rw [Heap.upd_ne _ _ (by omega), Heap.upd_ne _ _ (by omega), qo k hk]⟩ (by repeat (first | exact Env.le_nil _ | refine Env.le_cons rfl ?_)) (fun _ _ => rfl) (Nat.le_refl _) (Nat.le_refl _)
    · refine awp_ev dr0 (by decide +kernel) ?_
      simp only [go_sem]
      exact Ends.mk (⟨0, Q⟩ : RoS) ⟨qw, ⟨_, _, qr⟩, qo⟩ (by repeat (first | exact Env.le_nil _ | refine Env.le_cons rfl ?_)) (fun _ _ => rfl) (Nat.le_refl _) (Nat.le_refl _)
  rintro ⟨_, R⟩ ⟨rw_, ⟨d, s, rr⟩, ro⟩
  simp only at rw_ rr ro ⊢
  have rb : R b1 = some ⟨bs.map .u8, 5, false⟩ := by rw [ro _ hbm1]; exact g1
  have rold : ∀ k, k < n → R k = H k := fun k hk => by rw [ro k (by omega), o1 k (by omega), xo k hk]
  refine awp_step dr6 (by decide +kernel) ?_
  simp only [go_sem]
  refine awp_step dr6 (by decide +kernel) ?_
  simp only [go_sem]
  obtain ⟨i, hi⟩ : ∃ i : Nat, max 0 at2 = (i : Int) := ⟨(max 0 at2).toNat, by omega⟩
  rw [hi]
  have hil : i ≤ 9223372036854775807 := by omega
  have wd : wrap64 ((i : Int).tdiv 16384) = ((i / 16384 : Nat) : Int) := by
    rw [Int.tdiv_eq_ediv_of_nonneg (by omega), wrap_id _ (by omega) (by omega)]; omega
  have td : (i : Int).tmod 16384 = ((i % 16384 : Nat) : Int) := by rw [Int.tmod_eq_emod_of_nonneg (by omega)]; omega
  refine ⟨fun hib => ?_, fun hib => ?_⟩
  · refine rom_banks (m1 + 1) m1 l.length _ _ (by omega) _ _ _ rr.r ?_
    simp only [go_sem, hlb, wl]
    refine ⟨fun hlt => ?_, fun _ => Fin.back wf h rold rfl⟩
    rw [wd, td]
    refine rom_at (m1 + 1) m1 l hl _ _ _ _ _ _ _ _ _ rr.r rr.b ?_
    rw [romAt_lo hl (by omega), hhi (by omega)]
    simp only [go_sem, beq_self_eq_true]
    exact Fin.back wf h rold rfl
  · have hib' : i < bs.length := by omega
    have gb := getD_map8 hib'
    have wb : wrap64 (((i / 16384 : Nat) : Int) + ((l.length / 16384 : Nat) : Int)) = ((i / 16384 : Nat) : Int) + ((l.length / 16384 : Nat) : Int) := wrap_id _ (by omega) (by omega)
    have ha1 : romAt l ((i / 16384 : Nat) : Int) ((i % 16384 : Nat) : Int) = bs.getD i 0#8 := by rw [romAt_lo hl (by omega), hlo hib']
    have ha2 : romAt l (((i / 16384 : Nat) : Int) + ((l.length / 16384 : Nat) : Int)) (i : Int) = bs.getD i 0#8 := by rw [romAt_wrap hl (by omega), hlo hib']
    refine awp_ev dr6 (by decide +kernel) ?_
    simp only [go_sem, wd, td, rb, gb, hib', List.length_map]
    have hii : (i : Int) < bs.length := by omega
    repeat' first
      | with_reducible refine And.intro ?_ ?_
      | exact hii
      | (refine rom_at (m1 + 1) m1 l hl _ _ _ _ _ _ _ _ _ rr.r rr.b ?_
         first | rw [ha1] | rw [ha2]
         simp only [go_sem, wd, td, wb, rb, gb, hib', List.length_map, beq_self_eq_true])
      | (refine rom_banks (m1 + 1) m1 l.length _ _ (by omega) _ _ _ rr.r ?_
         simp only [go_sem, wd, td, wb, rb, gb, hib', List.length_map, beq_self_eq_true])
      | exact Fin.back wf h rold rfl
    all_goals trace_state
end Go.Proofs.Joy
namespace Go.Proofs.Joy
open Go.Ab Go.Proofs Go

set_option maxHeartbeats 1000000
set_option maxRecDepth 20000

theorem romL_78 : (romL [7#8, 8#8]).length = 16384 ∧ ∀ k, (romL [7#8, 8#8]).getD k 0#8 = if k = 0 then 7#8 else if k = 1 then 8#8 else 0#8 := by
  have e : romL [7#8, 8#8] = [7#8, 8#8] ++ List.replicate 16382 0#8 := by
    unfold romL
    rw [show ([7#8, 8#8] : List (BitVec 8)).take 4194304 = [7#8, 8#8] from rfl, show romBanks ([7#8, 8#8] : List (BitVec 8)).length = 1 by decide]
    rfl
  refine ⟨by rw [e, List.length_append, List.length_replicate]; rfl, fun k => ?_⟩
  rw [e]
  match k with
  | 0 => rfl
  | 1 => rfl
  | k + 2 =>
    rw [if_neg (by omega), if_neg (by omega), getD_app_r (by simp), List.getD_eq_getElem?_getD, List.getElem?_replicate]
    split <;> rfl
theorem romL_most : (romL (List.replicate 4194309 0#8)).length = 4194304 := by
  rw [romL_len, List.take_replicate, List.length_replicate, show min 4194304 4194309 = 4194304 from rfl, banks256]

theorem names_walk (H : Heap) (n : Nat) (K : AV → Heap → Nat → Prop) (h : K (.bo true) H n) : ACalls Try.prog 3 [] H n K := by
  refine ACalls.of_awp Try.func3 rfl (by decide +kernel) (show 0 ≤ 29 by decide) (by simp) fun wf => ?_
  refine awp_step dr0 (by decide +kernel) ?_
  simp only [go_sem, Try.f3]
  refine awp_step dr0 (by decide +kernel) ?_
  simp only [go_sem]
  refine alive_ok _ _ _ ?_
  simp only [go_sem]
  refine awp_step dr0 (by decide +kernel) ?_
  simp only [go_sem]
  refine rom_new (.sl n 0 2 2) [7#8, 8#8] _ _ _ (.whole (Heap.upd_same _ _ _) rfl (Nat.le_refl _)) (by decide) ?_
  obtain ⟨l1, g1⟩ := romL_78
  have l2 := romL_most
  simp only [go_sem]
  generalize romL [7#8, 8#8] = z1 at l1 g1 ⊢
  refine awp_gen (fun X => X.wf (n + 3) ∧ RomIn X (n + 2) (n + 1) z1 0#32 0#32 ∧ ∀ k, k < n → X k = H k) ?_ ?_
  · refine ⟨new_wf (Heap.wf_upd wf (by intro v hv; simp at hv; rcases hv with rfl | rfl <;> rfl)) z1, ⟨Heap.upd_same _ _ _, by rw [Heap.upd_ne _ _ (by omega), Heap.upd_same], .inl rfl⟩, fun k hk => by
      rw [Heap.upd_ne _ _ (by omega), Heap.upd_ne _ _ (by omega), Heap.upd_ne _ _ (by omega)]⟩
  rintro X ⟨xw, xa, xo⟩
  refine awp_step dr0 (by decide +kernel) ?_
  simp only [go_sem]
  rw [rep_u8]
  have hz : (List.replicate 4194309 0#8).length = 4194309 := List.length_replicate
  refine rom_new (.sl (n + 3) 0 4194309 4194309) (List.replicate 4194309 0#8) _ _ _ (.whole (Heap.upd_same _ _ _) hz.symm (Nat.le_refl _)) (by rw [hz]; decide) ?_
  simp only [go_sem]
  generalize romL (List.replicate 4194309 0#8) = z2 at l2 ⊢
  generalize List.replicate 4194309 0#8 = z3
  refine awp_gen (fun Y => Y.wf (n + 6) ∧ RomIn Y (n + 2) (n + 1) z1 0#32 0#32 ∧ RomIn Y (n + 5) (n + 4) z2 0#32 0#32 ∧ ∀ k, k < n → Y k = H k) ?_ ?_
  · refine ⟨new_wf (Heap.wf_upd xw map_u8_ok) z2, xa.mono (by rw [Heap.upd_ne _ _ (by omega), Heap.upd_ne _ _ (by omega), Heap.upd_ne _ _ (by omega)]) (by rw [Heap.upd_ne _ _ (by omega), Heap.upd_ne _ _ (by omega), Heap.upd_ne _ _ (by omega)]),
      ⟨Heap.upd_same _ _ _, (by repeat (first | rw [Heap.upd_same] | rw [Heap.upd_ne _ _ (by omega)])), .inl rfl⟩, fun k hk => by rw [Heap.upd_ne _ _ (by omega), Heap.upd_ne _ _ (by omega), Heap.upd_ne _ _ (by omega), xo k hk]⟩
  rintro Y ⟨yw, ya, yb, yo⟩
  have ok1 : romOk z1 := ⟨0, by decide, l1⟩
  have a1 : romAt z1 0 1 = 8#8 := by unfold romAt; rw [l1, g1]; rfl
  have a2 : romAt z1 (-1) 16384 = 7#8 := by unfold romAt; rw [l1, g1]; rfl
  have a3 : romAt z1 5 (-1) = 0#8 := by unfold romAt; rw [l1, g1]; rfl
  refine awp_ev dr0 (by decide +kernel) ?_
  simp only [go_sem]
  refine rom_at (n + 2) (n + 1) z1 ok1 0#32 0#32 _ _ 0 1 _ _ _ ya.r ya.b ?_
  rw [a1]
  simp only [go_sem]
  refine rom_at (n + 2) (n + 1) z1 ok1 0#32 0#32 _ _ (-1) 16384 _ _ _ ya.r ya.b ?_
  rw [a2]
  simp only [go_sem]
  refine rom_at (n + 2) (n + 1) z1 ok1 0#32 0#32 _ _ 5 (-1) _ _ _ ya.r ya.b ?_
  rw [a3]
  simp only [go_sem]
  refine rom_banks (n + 5) (n + 4) z2.length 0#32 0#32 (by omega) _ _ _ yb.r ?_
  rw [l2, show ((4194304 / 16384 : Nat) : Int) = 256 from rfl]
  simp only [go_sem]
  exact Fin.back wf h yo rfl
end Go.Proofs.Joy
namespace Go.Proofs.Joy
open Go.Ab Go.Proofs

def shI : AK := .one (.k (.int .i64))
def shPiece : AK := .ag [.s 5 [.int .u8], .k (.int .i64), .k (.int .i64), .k (.int .u8)]
def shPlaces : AK := .one (.s 39 [.int .i64, .int .i64])
theorem piece_args {H : Heap} {v : AV} (h : fitA H shPiece v) : ∃ p ts many at_ x, v = .ag [p, .i64 many, .i64 at_, .u8 x] ∧ bytesIn H p ts := by
  obtain ⟨l, rfl, hl⟩ := h
  match l, hl with
  | [p, a, b, c], ⟨h1, h2, h3, h4, _⟩ =>
    obtain ⟨ts, ht⟩ := fitL_bytesIn h1
    obtain ⟨a, rfl, _⟩ := fitL_int h2
    obtain ⟨b, rfl, _⟩ := fitL_int h3
    obtain ⟨c, rfl⟩ := fitL_u8 h4
    exact ⟨p, ts, a, b, c, rfl, ht⟩
theorem names_all (H : Heap) (n : Nat) (L : List AV) (_ : RO H) (_ : H.wf n) (_ : ∀ x ∈ L, x.ok n = true) (hf : fitAs H [] L) : ACalls Try.prog 3 L H n fun v _ _ => v = .bo true := by
  match L, hf with
  | [], _ => exact names_walk _ _ _ rfl
theorem runs_all (H : Heap) (n : Nat) (L : List AV) (_ : RO H) (_ : H.wf n) (_ : ∀ x ∈ L, x.ok n = true) (hf : fitAs H [shPiece, shPlaces] L) : ACalls Try.prog 4 L H n fun v _ _ => v = .bo true := by
  match L, hf with
  | [a, b], ⟨h1, h2, _⟩ =>
    obtain ⟨p, ts, many, at_, x, rfl, hp⟩ := piece_args h1
    obtain ⟨ps, hps⟩ := fitL_list (α := P2) (el := 39) encP (fun l hl => by
      match l, hl.1 with
      | [.i64 a, .i64 b], _ => exact ⟨(a, b), rfl⟩) h2
    refine runs_walk _ b _ _ _ _ ps _ _ _ hp ?_ rfl
    rcases hps with hs | ⟨b, c, el, rfl, h3, _, h4⟩
    · exact .inl hs
    · exact .inr ⟨b, c, el, true, rfl, h3, h4⟩
theorem keeps_all (H : Heap) (n : Nat) (L : List AV) (_ : RO H) (_ : H.wf n) (_ : ∀ x ∈ L, x.ok n = true) (hf : fitAs H [shPiece, shI] L) : ACalls Try.prog 5 L H n fun v _ _ => v = .bo true := by
  match L, hf with
  | [a, b], ⟨h1, h2, _⟩ =>
    obtain ⟨p, ts, many, at_, x, rfl, hp⟩ := piece_args h1
    obtain ⟨y, rfl, hy⟩ := fitA_int h2
    exact keeps_walk _ _ _ _ _ _ hy _ _ _ hp rfl
theorem grows_all (H : Heap) (n : Nat) (L : List AV) (_ : RO H) (_ : H.wf n) (_ : ∀ x ∈ L, x.ok n = true) (hf : fitAs H [shPiece, shI] L) : ACalls Try.prog 6 L H n fun v _ _ => v = .bo true := by
  match L, hf with
  | [a, b], ⟨h1, h2, _⟩ =>
    obtain ⟨p, ts, many, at_, x, rfl, hp⟩ := piece_args h1
    obtain ⟨y, rfl, hy⟩ := fitA_int h2
    exact grows_walk _ _ _ _ _ _ hy _ _ _ hp rfl
end Go.Proofs.Joy
