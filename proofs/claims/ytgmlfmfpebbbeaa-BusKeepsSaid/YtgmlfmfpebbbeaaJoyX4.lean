/- Parts of the proof: contracts of the seat's functions. -/
import Derived.Test.YtgmlfmfpebbbeaaJoyW2
import Derived.Test.YtgmlfmfpebbbeaaProg
import Derived.KernelRfl
import Derived.Test.YtgmlfmfpebbbeaaJoyW3
namespace Go.Proofs.Joy
open Go.Ab Go.Proofs
@[go_sem] theorem F.ty33 : tyA Try.prog 33 = some (false, 1) := by kernel_rfl
@[go_sem] theorem F.ty27 : tyA Try.prog 27 = some (false, 1) := by kernel_rfl
@[go_sem] theorem F.ty29 : tyA Try.prog 29 = some (false, 1) := by kernel_rfl
@[go_sem] theorem F.ty5 : tyA Try.prog 5 = some (false, 1) := by kernel_rfl
@[go_sem] theorem F.ty3 : tyA Try.prog 3 = some (false, 1) := by kernel_rfl
@[go_sem] theorem F.ty51 : tyA Try.prog 51 = some (true, 3) := by kernel_rfl
@[go_sem] theorem F.ty23 : tyA Try.prog 23 = some (false, 1) := by kernel_rfl
@[go_sem] theorem F.ty22 : tyA Try.prog 22 = some (true, 4) := by kernel_rfl
@[go_sem] theorem F.fld61_2 : fldT Try.prog 61 2 = some (8193, true, 32768) := by kernel_rfl
@[go_sem] theorem F.fld77_0 : fldT Try.prog 77 0 = some (0, false, 1) := by kernel_rfl
@[go_sem] theorem F.fld55_0 : fldT Try.prog 55 0 = some (0, false, 1) := by kernel_rfl
@[go_sem] theorem F.fld61_0 : fldT Try.prog 61 0 = some (0, false, 1) := by kernel_rfl
@[go_sem] theorem F.fld55_2 : fldT Try.prog 55 2 = some (2, false, 1) := by kernel_rfl
@[go_sem] theorem F.fld55_1 : fldT Try.prog 55 1 = some (1, false, 1) := by kernel_rfl
@[go_sem] theorem F.fld61_3 : fldT Try.prog 61 3 = some (40961, true, 4) := by kernel_rfl
@[go_sem] theorem F.fld61_1 : fldT Try.prog 61 1 = some (1, true, 8192) := by kernel_rfl
@[go_sem] theorem F.fld55_3 : fldT Try.prog 55 3 = some (3, true, 4) := by kernel_rfl
@[go_sem] theorem F.fld51_2 : fldT Try.prog 51 2 = some (2, false, 1) := by kernel_rfl
@[go_sem] theorem F.fld51_1 : fldT Try.prog 51 1 = some (1, false, 1) := by kernel_rfl
@[go_sem] theorem F.fld51_0 : fldT Try.prog 51 0 = some (0, false, 1) := by kernel_rfl
@[go_sem] theorem F.ix9 : ixT Try.prog 9 = none := by kernel_rfl
@[go_sem] theorem F.ix88 : ixT Try.prog 88 = some (none, false, 1) := by kernel_rfl
@[go_sem] theorem F.ix59 : ixT Try.prog 59 = some (some 32768, false, 1) := by kernel_rfl
@[go_sem] theorem F.ix58 : ixT Try.prog 58 = some (some 8192, false, 1) := by kernel_rfl
@[go_sem] theorem F.ix33 : ixT Try.prog 33 = some (none, false, 1) := by kernel_rfl
@[go_sem] theorem F.ix29 : ixT Try.prog 29 = some (none, false, 1) := by kernel_rfl
@[go_sem] theorem F.ix48 : ixT Try.prog 48 = some (none, true, 3) := by kernel_rfl
@[go_sem] theorem F.ix41 : ixT Try.prog 41 = some (some 2, false, 1) := by kernel_rfl
@[go_sem] theorem F.ix22 : ixT Try.prog 22 = some (some 4, false, 1) := by kernel_rfl
@[go_sem] theorem F.str9 : isStrT Try.prog 9 = true := by kernel_rfl
@[go_sem] theorem F.zero5 : zeroT Try.prog 5 = some ([.u8 0#8]) := by kernel_rfl
@[go_sem] theorem F.zero29 : zeroT Try.prog 29 = some ([.sn]) := by kernel_rfl
@[go_sem] theorem F.zero55 : zeroT Try.prog 55 = some ([.sn, .sn, .sn, .u8 0#8, .u8 0#8, .u8 0#8, .u8 0#8]) := by kernel_rfl
@[go_sem] theorem F.zero77 : zeroT Try.prog 77 = some ([.sn, .u32 0#32, .i32 0#32, .u32 0#32, .u32 0#32]) := by kernel_rfl
set_option maxRecDepth 1000000 in
@[go_sem] theorem F.zero61 : zeroT Try.prog 61 = some ([.pn] ++ List.replicate 40964 (.u8 0#8)) := by kernel_rfl
@[go_sem] theorem F.zero22 : zeroT Try.prog 22 = some ([.u8 0#8, .u8 0#8, .u8 0#8, .u8 0#8]) := by kernel_rfl
@[go_sem] theorem F.zero51 : zeroT Try.prog 51 = some ([.i64 0, .u16 0#16, .u8 0#8]) := by kernel_rfl
@[go_sem] theorem F.el88 : elT Try.prog 88 = some (29, 1, 24) := by kernel_rfl
@[go_sem] theorem F.el33 : elT Try.prog 33 = some (5, 1, 1) := by kernel_rfl
@[go_sem] theorem F.el29 : elT Try.prog 29 = some (5, 1, 1) := by kernel_rfl
@[go_sem] theorem F.eq22 : eqT Try.prog 22 = some ([.int .u8, .int .u8, .int .u8, .int .u8]) := by kernel_rfl
@[go_sem] theorem F.kind78 : kindT Try.prog 78 = some .ptr := by kernel_rfl
@[go_sem] theorem F.kind25 : kindT Try.prog 25 = some .ptr := by kernel_rfl
@[go_sem] theorem F.kind9 : kindT Try.prog 9 = none := by kernel_rfl
@[go_sem] theorem F.kind22 : kindT Try.prog 22 = none := by kernel_rfl
@[go_sem] theorem F.kind45 : kindT Try.prog 45 = none := by kernel_rfl
@[go_sem] theorem F.kind3 : kindT Try.prog 3 = none := by kernel_rfl
@[go_sem] theorem F.kind5 : kindT Try.prog 5 = none := by kernel_rfl
@[go_sem] theorem F.conv85_5 : convT Try.prog 85 5 = some (.int .u8) := by kernel_rfl
@[go_sem] theorem F.conv67_5 : convT Try.prog 67 5 = some (.int .u8) := by kernel_rfl
@[go_sem] theorem F.conv63_67 : convT Try.prog 63 67 = some (.int .u32) := by kernel_rfl
@[go_sem] theorem F.conv3_5 : convT Try.prog 3 5 = some (.int .u8) := by kernel_rfl
@[go_sem] theorem F.conv3_63 : convT Try.prog 3 63 = some (.int .u64) := by kernel_rfl
@[go_sem] theorem F.conv29_9 : convT Try.prog 29 9 = some .b2s := by kernel_rfl
@[go_sem] theorem F.conv5_3 : convT Try.prog 5 3 = some (.int .i64) := by kernel_rfl
@[go_sem] theorem F.conv23_3 : convT Try.prog 23 3 = some (.int .i64) := by kernel_rfl
@[go_sem] theorem F.conv23_5 : convT Try.prog 23 5 = some (.int .u8) := by kernel_rfl
@[go_sem] theorem F.conv3_23 : convT Try.prog 3 23 = some (.int .u16) := by kernel_rfl
@[go_sem] theorem F.nif9 : notIface Try.prog 9 = true := by kernel_rfl
@[go_sem] theorem F.len88 : lenT Try.prog 88 = some .slice := by kernel_rfl
@[go_sem] theorem F.len33 : lenT Try.prog 33 = some .slice := by kernel_rfl
@[go_sem] theorem F.len48 : lenT Try.prog 48 = some .slice := by kernel_rfl
@[go_sem] theorem F.len29 : lenT Try.prog 29 = some .slice := by kernel_rfl
@[go_sem] theorem F.nint3 : notIntT Try.prog 3 = false := by kernel_rfl
@[go_sem] theorem F.int3 : intT Try.prog 3 = true := by kernel_rfl
@[go_sem] theorem F.nint29 : notIntT Try.prog 29 = true := by kernel_rfl
@[go_sem] theorem F.app29 : appT Try.prog 29 = some ⟨5, 1, 1, [.u8 0#8]⟩ := by kernel_rfl
@[go_sem] theorem F.bld55 : bldT Try.prog 55 = true := by kernel_rfl
@[go_sem] theorem F.bld77 : bldT Try.prog 77 = true := by kernel_rfl
@[go_sem] theorem F.bld61 : bldT Try.prog 61 = true := by kernel_rfl
@[go_sem] theorem F.bld22 : bldT Try.prog 22 = true := by kernel_rfl
@[go_sem] theorem F.pl55_3 : plT Try.prog 55 3 = some (3, 4) := by kernel_rfl
@[go_sem] theorem F.pl55_2 : plT Try.prog 55 2 = some (2, 1) := by kernel_rfl
@[go_sem] theorem F.pl55_1 : plT Try.prog 55 1 = some (1, 1) := by kernel_rfl
@[go_sem] theorem F.pl55_0 : plT Try.prog 55 0 = some (0, 1) := by kernel_rfl
@[go_sem] theorem F.pl77_0 : plT Try.prog 77 0 = some (0, 1) := by kernel_rfl
@[go_sem] theorem F.pl61_3 : plT Try.prog 61 3 = some (40961, 4) := by kernel_rfl
@[go_sem] theorem F.pl61_0 : plT Try.prog 61 0 = some (0, 1) := by kernel_rfl
@[go_sem] theorem F.pl22_3 : plT Try.prog 22 3 = some (3, 1) := by kernel_rfl
@[go_sem] theorem F.pl22_2 : plT Try.prog 22 2 = some (2, 1) := by kernel_rfl
@[go_sem] theorem F.pl22_1 : plT Try.prog 22 1 = some (1, 1) := by kernel_rfl
@[go_sem] theorem F.pl22_0 : plT Try.prog 22 0 = some (0, 1) := by kernel_rfl
-- joystick/joysticklaw02.BusRuns
@[go_sem] def tr7_29 : DT := .op 0 (.op 3 (.fork 1 [] (.fork 2 [] (.fork 4 [] (.fork 5 [] (.op 6 (.op 7 (.done))) (.stop)) (.stop)) (.fork 4 [] (.fork 2 [] (.fork 5 [] (.op 6 (.op 7 (.done))) (.stop)) (.fork 5 [] (.fork 2 [] (.op 6 (.op 7 (.done))) (.stop)) (.stop))) (.stop))) (.stop)))
def td7_29 : Draw := ⟨[0, 1, 3, 0, 11, 27, 63, 127], [], []⟩
@[go_sem] def dr7 : Nat → Draw
  | 13 => ⟨[0, 0, 2, 7, 0, 0, 32, 127, 255], [(0, []), (1, []), (2, []), (4, []), (5, []), (6, []), (3, [6]), (7, []), (8, [])], []⟩
  | 26 => ⟨[0, 1, 0, 4, 12, 28, 63], [(0, []), (2, []), (3, []), (4, []), (5, []), (1, [5]), (6, [])], []⟩
  | 29 => ⟨[0, 1, 3, 0, 11, 27, 63, 127], [(0, []), (3, []), (1, []), (2, []), (4, []), (5, []), (6, []), (7, [])], []⟩
  | _ => {}
-- joystick/joysticklaw02.BusKeeps
@[go_sem] def tr8_18 : DT := .op 0 (.op 1 (.fork 2 [] (.op 3 (.op 4 (.op 5 (.op 8 (.fork 6 [] (.fork 7 [] (.fork 9 [] (.op 10 (.op 11 (.op 12 (.done)))) (.stop)) (.fork 9 [] (.fork 7 [] (.op 10 (.op 11 (.op 12 (.done)))) (.stop)) (.stop))) (.fork 9 [] (.fork 6 [] (.fork 7 [] (.op 10 (.op 11 (.op 12 (.done)))) (.stop)) (.stop)) (.stop))))))) (.stop)))
def td8_18 : Draw := ⟨[0, 0, 3, 7, 15, 31, 63, 127, 31, 287, 1023, 2047, 4095], [], []⟩
@[go_sem] def dr8 : Nat → Draw
  | 12 => ⟨[0, 0, 3, 7, 0, 0, 48, 112, 255], [(0, []), (1, []), (2, []), (3, []), (4, []), (5, []), (6, []), (7, []), (8, [])], []⟩
  | 18 => ⟨[0, 0, 3, 7, 15, 31, 63, 127, 31, 287, 1023, 2047, 4095], [(0, []), (1, []), (2, []), (3, []), (4, []), (5, []), (8, []), (9, []), (6, []), (7, []), (10, []), (11, []), (12, [])], []⟩
  | _ => {}
-- joystick/joystickref02.New
@[go_sem] def dr13 : Nat → Draw
  | 1 => ⟨[0, 0, 0, 0, 15, 31, 63], [(0, []), (3, []), (1, []), (2, []), (4, []), (5, []), (6, [])], [(1, 4), (2, 5)]⟩
  | _ => {}
-- joystick/joystickref02.Write
@[go_sem] def dr16 : Nat → Draw
  | 6 => ⟨[0, 1, 3, 7, 0, 0, 48, 0, 255, 511], [(0, []), (1, []), (2, []), (3, []), (4, []), (5, []), (7, []), (6, [3]), (8, []), (9, [])], []⟩
  | _ => {}
-- joystick/joystickref02.Read
@[go_sem] def dr18 : Nat → Draw
  | 5 => ⟨[0, 1, 3, 7, 0, 0, 48, 127, 255, 511], [(0, []), (1, []), (2, []), (3, []), (4, []), (5, []), (6, [3]), (7, []), (8, []), (9, [])], []⟩
  | 7 => ⟨[0, 1, 3, 7, 0, 16, 48, 112, 240, 496, 0, 1024, 4095, 8191], [(0, []), (1, []), (2, []), (3, []), (4, []), (5, []), (6, []), (7, []), (8, []), (9, []), (10, []), (11, []), (12, []), (13, [])], []⟩
  | 9 => ⟨[0, 1, 3, 7, 0, 16, 48, 112, 240, 496, 0, 1024, 4095, 8191], [(0, []), (1, []), (2, []), (3, []), (4, []), (5, []), (6, []), (7, []), (8, []), (9, []), (10, []), (11, []), (12, []), (13, [])], []⟩
  | 11 => ⟨[0, 1, 3, 7, 0, 16, 48, 112, 240, 496, 0, 2047, 4095], [(0, []), (1, []), (2, []), (3, []), (4, []), (5, []), (6, []), (7, []), (8, []), (9, []), (10, []), (11, []), (12, [])], []⟩
  | _ => {}
-- (*joystick/rom.Rom).At
@[go_sem] def dr19 : Nat → Draw
  | 1 => ⟨[0, 1, 3, 7, 0, 16, 0, 64, 240, 0, 512, 1536, 3584, 7680, 15872, 32752, 65535, 131071, 262143], [(0, []), (1, []), (2, []), (3, []), (4, []), (5, []), (6, []), (7, []), (8, []), (9, []), (10, []), (11, []), (12, []), (13, []), (14, []), (15, []), (16, []), (17, []), (18, [])], []⟩
  | _ => {}
-- (*joystick/bus.Bus).Dump
@[go_sem] def dr22 : Nat → Draw
  | 1 => ⟨[0, 1, 3, 7, 0, 16, 48, 112, 0, 256, 768, 1792, 4095, 8191, 16383], [(0, []), (1, []), (2, []), (3, []), (4, []), (5, []), (6, []), (7, []), (8, []), (9, []), (10, []), (11, []), (12, []), (13, []), (14, [])], []⟩
  | _ => {}
-- joystick/joystickref02.Dump
@[go_sem] def dr23 : Nat → Draw
  | 1 => ⟨[0, 0, 2, 6, 14, 31, 0, 64, 192, 448, 1023, 2047], [(1, []), (2, []), (3, []), (4, []), (6, []), (7, []), (8, []), (9, []), (0, [4, 9]), (5, [9]), (10, []), (11, [])], []⟩
  | _ => {}
-- joystick/joystickref02.Load
@[go_sem] def dr24 : Nat → Draw
  | 8 => ⟨[0, 0, 0, 0, 8, 28, 60, 1, 129, 511, 1023], [(0, []), (1, []), (2, []), (3, []), (4, []), (5, []), (6, []), (7, []), (8, []), (9, []), (10, [])], []⟩
  | _ => {}
def dr0 : Nat → Draw := fun _ => {}
end Go.Proofs.Joy
namespace Go.Proofs.Joy
open Go.Ab Go.Proofs

set_option maxHeartbeats 1000000
set_option maxRecDepth 20000

/-- How many bits a small number has. -/
def lenS (n : Nat) : Nat := if n = 0 then 0 else n.log2 + 1

theorem len64_ok (x : BitVec 64) (hx : x.toNat < 256) (H : Heap) (n : Nat) (K : AV → Heap → Nat → Prop) (h : K (.i64 (lenS x.toNat)) H n) : ACalls Try.prog 32 [.u64 x] H n K := by
  refine ACalls.of_ev dr0 Try.func32 rfl (by decide +kernel) (by decide +kernel) (show 1 ≤ 25 by decide) (by simp) fun wf => ?_
  simp only [go_sem, Try.f32]
  refine ⟨fun a => absurd a (by rw [BitVec.le_def]; simp; omega), fun _ => ⟨fun a => absurd a (by rw [BitVec.le_def]; simp; omega), fun _ => ⟨fun a => absurd a (by rw [BitVec.le_def]; simp; omega), fun _ => ?_⟩⟩⟩
  generalize hL : List.map UInt8.toBitVec _ = L
  have hT : ∀ q : Fin 256, L.length = 256 ∧ (L.getD q.val 0#8).toNat = lenS q.val := by subst hL; decide +kernel
  have hs : (BitVec.setWidth 8 x).toNat = x.toNat := by simp; omega
  have h1 := hT ⟨x.toNat, hx⟩
  simp only at h1
  rw [hs, h1.1, h1.2, Int.zero_add, wrap_id _ (by omega) (by unfold lenS; split; omega; have := (Nat.log2_lt (by assumption)).2 (show x.toNat < 2 ^ 8 by omega); omega)]
  exact ⟨by omega, Fin.back wf h (fun _ _ => rfl) rfl⟩

theorem len_ok (x : BitVec 64) (hx : x.toNat < 256) (H : Heap) (n : Nat) (K : AV → Heap → Nat → Prop) (h : K (.i64 (lenS x.toNat)) H n) : ACalls Try.prog 26 [.u64 x] H n K := by
  refine ACalls.of_ev dr0 Try.func26 rfl (by decide +kernel) (by decide +kernel) (show 1 ≤ 8 by decide) (by simp) fun wf => ?_
  simp only [go_sem, Try.f26]
  refine len64_ok x hx _ _ _ ?_
  simp only [go_sem]
  exact Fin.back wf h (fun _ _ => rfl) rfl
end Go.Proofs.Joy
namespace Go.Proofs.Joy
open Go.Ab Go.Proofs

set_option maxHeartbeats 1000000
set_option maxRecDepth 20000

def bankCount (n : Nat) : Nat := (n + 16383) / 16384
def romBanks (n : Nat) : Nat := if bankCount n ≤ 1 then 1 else 2 ^ lenS (bankCount n - 1)
def romL (bs : List (BitVec 8)) : List (BitVec 8) := bs.take 4194304 ++ List.replicate (romBanks (bs.take 4194304).length * 16384 - (bs.take 4194304).length) 0#8

theorem lenS_spec (k : Nat) (h : 0 < k) : 2 ^ (lenS k - 1) ≤ k ∧ k < 2 ^ lenS k ∧ 0 < lenS k := by
  unfold lenS
  rw [if_neg (by omega)]
  have h1 := Nat.log2_self_le (n := k) (by omega)
  have h2 := Nat.lt_log2_self (n := k)
  exact ⟨by rw [Nat.add_sub_cancel]; exact h1, h2, by omega⟩
theorem romBanks_ge (n : Nat) : n ≤ romBanks n * 16384 := by
  unfold romBanks
  split
  · unfold bankCount at *; omega
  · rename_i h
    have := (lenS_spec (bankCount n - 1) (by omega)).2.1
    have h2 : bankCount n ≤ 2 ^ lenS (bankCount n - 1) := by omega
    have : bankCount n * 16384 ≤ 2 ^ lenS (bankCount n - 1) * 16384 := Nat.mul_le_mul_right _ h2
    unfold bankCount at *; omega
theorem romBanks_le (n : Nat) (h : n ≤ 4194304) : romBanks n ≤ 256 ∧ 1 ≤ romBanks n := by
  unfold romBanks
  split
  · omega
  · rename_i hc
    have hb : bankCount n ≤ 256 := by unfold bankCount; omega
    have : lenS (bankCount n - 1) ≤ 8 := by
      unfold lenS; split
      · omega
      · have := (Nat.log2_lt (by assumption)).2 (show bankCount n - 1 < 2 ^ 8 by omega); omega
    have h1 : 2 ^ lenS (bankCount n - 1) ≤ 2 ^ 8 := Nat.pow_le_pow_right (by decide) this
    have h2 := Nat.one_le_two_pow (n := lenS (bankCount n - 1))
    omega
theorem romL_len (bs : List (BitVec 8)) : (romL bs).length = romBanks (bs.take 4194304).length * 16384 := by
  have := romBanks_ge (bs.take 4194304).length
  unfold romL; rw [List.length_append, List.length_replicate]; omega

def romB (b l : Nat) (d : BitVec 32 := 0#32) (s : BitVec 32 := 0#32) : Blk := ⟨[.sl b 0 l l, .u32 d, .i32 0#32, .u32 0#32, .u32 s], 77, false⟩

theorem rom_new (v : AV) (bs : List (BitVec 8)) (H : Heap) (n : Nat) (K : AV → Heap → Nat → Prop) (hv : bytesIn H v bs) (hm : bs.length ≤ 4294967296)
    (h : K (.pt (n + 1) 0) ((H.upd n (some ⟨(romL bs).map .u8, 5, false⟩)).upd (n + 1) (some (romB n (romL bs).length))) (n + 2)) : ACalls Try.prog 11 [v] H n K := by
  refine ACalls.of_awp Try.func11 rfl (by decide +kernel) (show 1 ≤ 32 by decide) (by simp [hv.ne]) fun wf => ?_
  have hlb : ∀ K, lenB (some .slice) v K = K (.i64 bs.length) := lenB_bytes hv
  refine awp_step dr0 (by decide +kernel) ?_
  simp only [go_sem, Try.f11]
  refine awp_step dr0 (by decide +kernel) ?_
  simp only [go_sem, hlb]
  have hvok : v.ok n = true := by
    rcases hv with ⟨rfl, rfl⟩ | ⟨su, b, o, c, blk, rfl, h0, h1, h2, h3⟩
    · rfl
    · exact vw_ok (wf b _ h1).1
  have hix : ixT Try.prog 29 = some (none, false, 1) := by simp only [go_sem]
  refine slB_bytes hix hv hvok 0 (min bs.length 4194304) (by simp only [Option.some.injEq]; omega) (Nat.zero_le _) (Nat.min_le_left _ _) fun v' hv' hvok' => ?_
  rw [List.drop_zero, Nat.sub_zero] at hv'
  have hbs : bs.take (min bs.length 4194304) = bs.take 4194304 := by
    rcases Nat.le_total bs.length 4194304 with hle | hle
    · rw [Nat.min_eq_left hle, List.take_length, List.take_of_length_le hle]
    · rw [Nat.min_eq_right hle]
  rw [hbs] at hv'
  have hrl : romL bs = bs.take 4194304 ++ List.replicate (romBanks (bs.take 4194304).length * 16384 - (bs.take 4194304).length) 0#8 := rfl
  have hl := romL_len bs
  have hc4 : (bs.take 4194304).length ≤ 4194304 := by rw [List.length_take]; omega
  generalize bs.take 4194304 = cs at hv' hrl hl hc4
  have hlb' : ∀ K, lenB (some .slice) v' K = K (.i64 cs.length) := lenB_bytes hv'
  simp only [go_sem]
  refine awp_step dr0 (by decide +kernel) ?_
  simp only [go_sem, hlb']
  have w1 : wrap64 ((wrap64 (wrap64 ((cs.length : Int) + 16384) - 1)).tdiv 16384) = ((bankCount cs.length : Nat) : Int) := by
    rw [wrap_id (_ + _) (by omega) (by omega), wrap_id (_ - _) (by omega) (by omega), Int.tdiv_eq_ediv_of_nonneg (by omega), wrap_id _ (by omega) (by omega)]
    unfold bankCount; omega
  rw [w1]
  have hbc : bankCount cs.length ≤ 256 := by unfold bankCount; omega
  have hbl := romBanks_le cs.length hc4
  refine awp_seqF (S := Unit) (fun _ => [(0, v'), (2, .pn), (3, .i64 ((if bankCount cs.length ≤ 1 then bankCount cs.length else 2 ^ lenS (bankCount cs.length - 1) : Nat) : Int))]) (fun _ => H) (fun _ => n) (fun _ => True) (fun _ _ => ⟨wf, Env.okAt_of2 (by simp [AV.ok, hvok'])⟩) ?_ ?_
  · refine awp_ev dr0 (by decide +kernel) ?_
    simp only [go_sem]
    refine ⟨fun a1 => ?_, fun a1 => ?_⟩
    · have w2 : wrap64 (((bankCount cs.length : Nat) : Int) - 1) = ((bankCount cs.length - 1 : Nat) : Int) := by rw [wrap_id _ (by omega) (by omega)]; omega
      have hx : (BitVec.ofNat 64 (bankCount cs.length - 1)).toNat = bankCount cs.length - 1 := by rw [BitVec.toNat_ofNat]; omega
      simp only [w2, BitVec.ofInt_natCast]
      refine len_ok _ (by rw [hx]; omega) _ _ _ ?_
      have hls : lenS (bankCount cs.length - 1) ≤ 8 := by
        unfold lenS; split
        · omega
        · have := (Nat.log2_lt (by assumption)).2 (show bankCount cs.length - 1 < 2 ^ 8 by omega); omega
      have hp : (2 : Nat) ^ lenS (bankCount cs.length - 1) ≤ 2 ^ 8 := Nat.pow_le_pow_right (by decide) hls
      have pk : ((2 : Int) ^ lenS (bankCount cs.length - 1)) = ((2 ^ lenS (bankCount cs.length - 1) : Nat) : Int) := by rw [Int.natCast_pow]; rfl
      have w3 : wrap64 (1 * 2 ^ min (lenS (bankCount cs.length - 1)) 64) = ((2 ^ lenS (bankCount cs.length - 1) : Nat) : Int) := by
        rw [Nat.min_eq_left (by omega), Int.one_mul, pk]
        generalize 2 ^ lenS (bankCount cs.length - 1) = X at hp
        exact wrap_id _ (by omega) (by omega)
      simp only [go_sem, hx, w3]
      exact Ends.mk () trivial (Env.le_cons rfl (Env.le_cons rfl (Env.le_cons (by rw [if_neg (by omega)]; rfl) (Env.le_nil _)))) (fun _ _ => rfl) (Nat.le_refl _) (Nat.le_refl _)
    · exact Ends.mk () trivial (Env.le_cons rfl (Env.le_cons rfl (Env.le_cons (by rw [if_pos (by omega)]; rfl) (Env.le_nil _)))) (fun _ _ => rfl) (Nat.le_refl _) (Nat.le_refl _)
  rintro - -
  have w4 : wrap64 (max (((if bankCount cs.length ≤ 1 then bankCount cs.length else 2 ^ lenS (bankCount cs.length - 1) : Nat) : Int)) 1 * 16384) = (((romL bs).length : Nat) : Int) := by
    have e : max (((if bankCount cs.length ≤ 1 then bankCount cs.length else 2 ^ lenS (bankCount cs.length - 1) : Nat) : Int)) 1 = ((romBanks cs.length : Nat) : Int) := by
      unfold romBanks
      split
      · omega
      · have := Nat.one_le_two_pow (n := lenS (bankCount cs.length - 1)); omega
    rw [e, hl, wrap_id _ (by omega) (by omega)]; omega
  have hge := romBanks_ge cs.length
  have hcl : cs.length ≤ (romL bs).length := by omega
  have hlz : 0 < (romL bs).length := by omega
  refine awp_step dr0 (by decide +kernel) ?_
  simp only [go_sem, w4]
  refine ⟨by omega, by omega, by omega, ?_⟩
  rw [rep_u8]
  have hv2 : bytesIn (H.upd n (some ⟨(List.replicate (romL bs).length 0#8).map .u8, 5, false⟩)) v' cs := hv'.mono hvok' fun i hi => Heap.upd_ne _ _ (by omega)
  refine awp_step dr0 (by decide +kernel) ?_
  simp only [go_sem, copyB_bytes hv2, List.length_map, List.length_replicate, hcl]
  have es : splice (List.map AV.u8 (List.replicate (romL bs).length 0#8)) 0 (List.map AV.u8 cs) = (romL bs).map .u8 := by
    rw [splice, List.take_zero, List.nil_append, Nat.zero_add, List.length_map, ← List.map_drop, ← List.map_append, List.drop_replicate, hl, ← hrl]
  rw [es]
  refine awp_ev dr0 (by decide +kernel) ?_
  simp only [go_sem]
  exact Fin.keep h
end Go.Proofs.Joy
namespace Go.Proofs.Joy
open Go.Ab Go.Proofs

set_option maxHeartbeats 1000000
set_option maxRecDepth 20000

def romOk (l : List (BitVec 8)) : Prop := ∃ j, j ≤ 8 ∧ l.length = 2 ^ j * 16384
theorem romBanks_pow (n : Nat) (h : n ≤ 4194304) : ∃ j, j ≤ 8 ∧ romBanks n = 2 ^ j := by
  unfold romBanks
  split
  · exact ⟨0, by omega, rfl⟩
  · rename_i hc
    refine ⟨_, ?_, rfl⟩
    have hb : bankCount n ≤ 256 := by unfold bankCount; omega
    unfold lenS; split
    · omega
    · have := (Nat.log2_lt (by assumption)).2 (show bankCount n - 1 < 2 ^ 8 by omega); omega
theorem romL_ok (bs : List (BitVec 8)) : romOk (romL bs) := by
  obtain ⟨j, h1, h2⟩ := romBanks_pow (bs.take 4194304).length (by rw [List.length_take]; omega)
  exact ⟨j, h1, by rw [romL_len, h2]⟩

theorem and64_mask (k : Nat) (hk : k ≤ 62) (x : Int) : and64 x (((2 ^ k - 1 : Nat) : Nat) : Int) = x % ((2 ^ k : Nat) : Int) := by
  have hp : 0 < 2 ^ k := Nat.two_pow_pos k
  have hle : (2 : Nat) ^ k ≤ 2 ^ 62 := Nat.pow_le_pow_right (by decide) hk
  have e1 : (BitVec.ofInt 64 x &&& BitVec.ofInt 64 (((2 ^ k - 1 : Nat) : Nat) : Int)).toNat = (BitVec.ofInt 64 x).toNat % 2 ^ k := by
    rw [BitVec.toNat_and, BitVec.ofInt_natCast, BitVec.toNat_ofNat, Nat.mod_eq_of_lt (by omega), Nat.and_two_pow_sub_one_eq_mod]
  have e2 : (((BitVec.ofInt 64 x).toNat % 2 ^ k : Nat) : Int) = x % ((2 ^ k : Nat) : Int) := by
    rw [Int.natCast_emod, BitVec.toNat_ofInt]
    have hnn : 0 ≤ x % ((2 ^ 64 : Nat) : Int) := Int.emod_nonneg _ (by decide)
    rw [Int.toNat_of_nonneg hnn]
    exact Int.emod_emod_of_dvd _ (by
      have : (2 : Nat) ^ k ∣ 2 ^ 64 := Nat.pow_dvd_pow 2 (by omega)
      exact Int.ofNat_dvd.2 this)
  unfold and64
  rw [e1]
  have hlt : (BitVec.ofInt 64 x).toNat % 2 ^ k < 2 ^ k := Nat.mod_lt _ hp
  rw [wrap_id _ (by omega) (by omega), e2]

theorem getD_map8 {bs : List (BitVec 8)} {i : Nat} (h : i < bs.length) : (bs.map AV.u8).getD i .junk = .u8 (bs.getD i 0#8) := by
  simp [List.getD_eq_getElem?_getD, h]

def romAt (l : List (BitVec 8)) (bank off : Int) : BitVec 8 := l.getD ((bank % ((l.length / 16384 : Nat) : Int)) * 16384 + off % 16384).toNat 0#8

theorem wrap_emod (x : Int) (k : Nat) (hk : k ≤ 64) : wrap64 x % ((2 ^ k : Nat) : Int) = x % ((2 ^ k : Nat) : Int) := by
  have hd : ((2 ^ k : Nat) : Int) ∣ ((2 ^ 64 : Nat) : Int) := Int.ofNat_dvd.2 (Nat.pow_dvd_pow 2 hk)
  obtain ⟨c, hc⟩ : ∃ c : Int, wrap64 x = x + c * ((2 ^ 64 : Nat) : Int) := by
    rw [show (((2 ^ 64 : Nat) : Nat) : Int) = 18446744073709551616 from rfl]
    show ∃ c : Int, (if (true && decide (x % 18446744073709551616 ≥ 9223372036854775808)) = true then x % 18446744073709551616 - 18446744073709551616 else x % 18446744073709551616) = x + c * 18446744073709551616
    rw [Bool.true_and]
    by_cases h : x % 18446744073709551616 ≥ 9223372036854775808
    · rw [if_pos (by simpa using h)]; exact ⟨-(x / 18446744073709551616) - 1, by omega⟩
    · rw [if_neg (by simpa using h)]; exact ⟨-(x / 18446744073709551616), by omega⟩
  obtain ⟨d, hd⟩ := hd
  rw [hc, hd, ← Int.mul_assoc, Int.mul_comm c, Int.mul_assoc]
  exact Int.add_mul_emod_self_left _ _ _

/-- Where a byte of a bank stands. -/
theorem at_index {l : List (BitVec 8)} (hl : romOk l) (bank off : Int) :
    and64 (wrap64 (wrap64 (bank * 16384) + and64 off 16383)) (wrap64 ((l.length : Int) - 1)) = (bank % ((l.length / 16384 : Nat) : Int)) * 16384 + off % 16384 ∧
    0 ≤ (bank % ((l.length / 16384 : Nat) : Int)) * 16384 + off % 16384 ∧ (bank % ((l.length / 16384 : Nat) : Int)) * 16384 + off % 16384 < l.length := by
  obtain ⟨j, hj, hlen⟩ := hl
  have hp : 1 ≤ 2 ^ j := Nat.one_le_two_pow
  have hp2 : 2 ^ j ≤ 2 ^ 8 := Nat.pow_le_pow_right (by decide) hj
  have hb : l.length / 16384 = 2 ^ j := by omega
  have e14 : l.length = 2 ^ (j + 14) := by rw [hlen, Nat.pow_add]
  have m1 : and64 off 16383 = off % 16384 := and64_mask 14 (by decide) off
  have m2 : wrap64 ((l.length : Int) - 1) = ((2 ^ (j + 14) - 1 : Nat) : Int) := by rw [wrap_id _ (by omega) (by omega), ← e14]; omega
  rw [m1, m2, and64_mask (j + 14) (by omega), wrap_emod _ _ (by omega), Int.add_emod, wrap_emod _ _ (by omega), ← Int.add_emod, ← e14, hb, hlen]
  generalize 2 ^ j = B at *
  have h1 : 0 ≤ off % 16384 := Int.emod_nonneg _ (by decide)
  have h2 : off % 16384 < 16384 := Int.emod_lt_of_pos _ (by decide)
  have h3 : 0 ≤ bank % (B : Int) := Int.emod_nonneg _ (by omega)
  have h4 : bank % (B : Int) < B := Int.emod_lt_of_pos _ (by omega)
  refine ⟨?_, by omega, by omega⟩
  have e : bank * 16384 + off % 16384 = (bank % (B : Int) * 16384 + off % 16384) + (((B * 16384 : Nat) : Nat) : Int) * (bank / (B : Int)) := by
    have hd := Int.emod_add_mul_ediv bank (B : Int)
    rw [Int.natCast_mul]
    have : bank * 16384 = (bank % (B : Int) + (B : Int) * (bank / (B : Int))) * 16384 := by rw [hd]
    rw [this, Int.add_mul]
    have : (B : Int) * (bank / (B : Int)) * 16384 = (B : Int) * 16384 * (bank / (B : Int)) := by rw [Int.mul_assoc, Int.mul_assoc, Int.mul_comm (bank / (B : Int))]
    rw [this]
    show _ = _ + (B : Int) * 16384 * (bank / (B : Int))
    omega
  rw [e, Int.add_mul_emod_self_left, Int.emod_eq_of_lt (by omega) (by omega)]

theorem rom_at (b bb : Nat) (l : List (BitVec 8)) (hl : romOk l) (d s : BitVec 32) (el : TypeId) (ro : Bool) (bank off : Int) (H : Heap) (n : Nat) (K : AV → Heap → Nat → Prop) (hb : H b = some (romB bb l.length d s)) (hbb : H bb = some ⟨l.map .u8, el, ro⟩)
    (h : K (.u8 (romAt l bank off)) H n) : ACalls Try.prog 19 [.pt b 0, .i64 bank, .i64 off] H n K := by
  refine ACalls.of_ev dr19 Try.func19 rfl (by decide +kernel) (by decide +kernel) (show 3 ≤ 25 by decide) (by simp) fun wf => ?_
  obtain ⟨i1, i2, i3⟩ := at_index hl bank off
  have hlt : ((bank % ((l.length / 16384 : Nat) : Int)) * 16384 + off % 16384).toNat < l.length := by omega
  have hg : (l.map AV.u8).getD ((bank % ((l.length / 16384 : Nat) : Int)) * 16384 + off % 16384).toNat .junk = .u8 (romAt l bank off) := by
    unfold romAt
    exact getD_map8 hlt
  have hbn := (wf b _ hb).1
  have hbn2 := (wf bb _ hbb).1
  simp only [go_sem, Try.f19, hb, romB, hbb, i1, i2, i3, hlt, hg, List.length_map]
  exact Fin.back wf h (fun _ _ => rfl) rfl

theorem rom_banks (b bb L : Nat) (d s : BitVec 32) (hL : L ≤ 4294967296) (H : Heap) (n : Nat) (K : AV → Heap → Nat → Prop) (hb : H b = some (romB bb L d s))
    (h : K (.i64 (L / 16384 : Nat)) H n) : ACalls Try.prog 20 [.pt b 0] H n K := by
  refine ACalls.of_ev dr0 Try.func20 rfl (by decide +kernel) (by decide +kernel) (show 1 ≤ 9 by decide) (by simp) fun wf => ?_
  simp only [go_sem, Try.f20]
  have w : wrap64 ((L : Int).tdiv 16384) = ((L / 16384 : Nat) : Int) := by rw [Int.tdiv_eq_ediv_of_nonneg (by omega), wrap_id _ (by omega) (by omega)]; omega
  simp only [go_sem, hb, romB, w]
  exact Fin.back wf h (fun _ _ => rfl) rfl
end Go.Proofs.Joy
namespace Go.Proofs.Joy
open Go.Ab Go.Proofs

set_option maxHeartbeats 1000000
set_option maxRecDepth 20000

theorem grow_ok (size : Nat) (H : Heap) (n : Nat) (K : AV → Heap → Nat → Prop) (hl : 0 < size) (hm : size ≤ 4294967296)
    (h : K (.su n 0 0 1) (H.upd n (some ⟨(List.replicate size 0#8).map .u8, 5, false⟩)) (n + 1)) : ACalls Try.prog 35 [.sn, .i64 size] H n K := by
  refine ACalls.of_ev dr0 Try.func35 rfl (by decide +kernel) (by decide +kernel) (show 2 ≤ 27 by decide) (by simp) fun wf => ?_
  simp only [go_sem, Try.f35]
  have w1 : wrap64 ((size : Int) - 0) = size := by rw [wrap_id _ (by omega) (by omega)]; omega
  have hl' : (0 : Int) < size := by omega
  have hm' : (size : Int) ≤ 4294967296 := by omega
  refine ⟨fun h => absurd h (by omega), fun _ => ?_⟩
  simp only [go_sem, w1, hl', hm']
  rw [rep_u8]
  exact ⟨Nat.zero_le _, Fin.keep h⟩

structure CC where
  i : Nat
structure CQ where
  i : Nat
  q : Nat

theorem wf_none {H : Heap} {n i : Nat} (wf : H.wf n) (hi : n ≤ i) : H i = none := by
  cases h : H i with
  | none => rfl
  | some b => have := (wf i b h).1; omega

theorem concat_ok (bx cap : Nat) (ro : Bool) (el : TypeId) (vs : List AV) (bss : List (List (BitVec 8))) (H : Heap) (n : Nat) (K : AV → Heap → Nat → Prop) (hx : H bx = some ⟨vs, el, ro⟩) (hlen : vs.length = bss.length)
    (hv : ∀ i, i < vs.length → bytesIn H (vs.getD i .junk) (bss.getD i [])) (hpos : 0 < bss.flatten.length) (hmax : bss.flatten.length ≤ 4294967296) (hk : bss.length ≤ 1000)
    (h : K (.su n 0 bss.flatten.length 1) (H.upd n (some ⟨bss.flatten.map .u8, 5, false⟩)) (n + 1)) : ACalls Try.prog 30 [.sl bx 0 vs.length cap] H n K := by
  refine ACalls.of_awp Try.func30 rfl (by decide +kernel) (show 1 ≤ 36 by decide) (by simp) fun wf => ?_
  have hbn := (wf bx _ hx).1
  have hvok : ∀ i, i < vs.length → (vs.getD i .junk).ok n = true := fun i hi => by
    rw [List.getD_eq_getElem?_getD, List.getElem?_eq_getElem hi]
    exact (wf bx _ hx).2 _ (List.getElem_mem hi)
  have hsum : ∀ i, ((bss.take (i + 1)).flatten).length = ((bss.take i).flatten).length + (bss.getD i []).length := fun i => by
    rcases Nat.lt_or_ge i bss.length with hi | hi
    · rw [List.take_succ_eq_append_getElem hi, List.flatten_append, List.length_append, List.getD_eq_getElem?_getD, List.getElem?_eq_getElem hi]
      simp
    · rw [List.take_of_length_le (by omega), List.take_of_length_le hi]
      simp [List.getD_eq_getElem?_getD, hi]
  have hle : ∀ i, ((bss.take i).flatten).length ≤ bss.flatten.length := fun i => by
    have : bss.flatten = (bss.take i).flatten ++ (bss.drop i).flatten := by rw [← List.flatten_append, List.take_append_drop]
    rw [this]; simp
  refine awp_step dr0 (by decide +kernel) ?_
  simp only [go_sem, Try.f30]
  refine awp_step dr0 (by decide +kernel) ?_
  simp only [go_sem]
  refine awp_seq (awp_step dr0 (by decide +kernel) ?_)
  simp only [go_sem]
  refine awp_block ?_
  refine awp_loopF (S := CC) (fun s => [(0, .sl bx 0 vs.length cap), (3, .i64 ((bss.take s.i).flatten.length : Nat)), (9, .sl bx 0 vs.length cap), (10, .i64 vs.length), (11, .i64 s.i)]) (fun _ => H) (fun _ => n) (fun s => s.i ≤ vs.length) (fun s => vs.length - s.i)
    (fun s _ => ⟨wf, Env.okAt_of2 (by simp [AV.ok, hbn])⟩) ?_ ⟨0⟩ (Nat.zero_le _) (Env.le_cons rfl (Env.le_cons rfl (Env.le_cons rfl (Env.le_cons rfl (Env.le_cons rfl (Env.le_nil _)))))) (fun _ _ => rfl) rfl
  · rintro ⟨i⟩ hi
    simp only at hi ⊢
    refine awp_step dr0 (by decide +kernel) ?_
    simp only [go_sem]
    refine awp_step dr0 (by decide +kernel) ?_
    simp only [go_sem]
    refine ⟨fun hlt => ?_, fun hlt => ?_⟩
    · have hlt' : i < vs.length := by omega
      have hvi := hv i hlt'
      have hs := hsum i
      have hl1 := hle (i + 1)
      have w1 : wrap64 (((bss.take i).flatten.length : Nat) + ((bss.getD i []).length : Nat) : Int) = ((bss.take (i + 1)).flatten.length : Nat) := by rw [wrap_id _ (by omega) (by omega), hs]; omega
      have w2 : wrap64 ((i : Int) + 1) = ((i + 1 : Nat) : Int) := by rw [wrap_id _ (by omega) (by omega)]; omega
      have hn0 : ¬ (((bss.take (i + 1)).flatten.length : Nat) : Int) < 0 := by omega
      refine awp_ev dr0 (by decide +kernel) ?_
      simp only [go_sem, hx, hlt, hlt', lenB_bytes hvi, w1, w2, hn0, false_implies, true_and]
      refine Ends.mk ⟨i + 1⟩ ⟨by simp only; omega, by simp only; omega⟩ (Env.le_cons rfl (Env.le_cons rfl (Env.le_cons rfl (Env.le_cons rfl (Env.le_cons rfl (Env.le_nil _)))))) (fun _ _ => rfl) (Nat.le_refl _) (Nat.le_refl _)
    · have hie : i = bss.length := by omega
      subst hie
      rw [List.take_length]
      refine awp_step dr0 (by decide +kernel) ?_
      simp only [go_sem]
      refine grow_ok _ _ _ _ hpos hmax ?_
      simp only [go_sem]
      refine awp_seq (awp_step dr0 (by decide +kernel) ?_)
      simp only [go_sem]
      refine awp_block ?_
      refine awp_loopF (S := CQ) (fun s => [(6, .su s.q 0 ((bss.take s.i).flatten.length) 1), (25, .sl bx 0 vs.length cap), (26, .i64 vs.length), (27, .i64 s.i)])
        (fun s => H.upd s.q (some ⟨(if s.i = 0 then List.replicate bss.flatten.length 0#8 else (bss.take s.i).flatten).map .u8, 5, false⟩)) (fun s => s.q + 1) (fun s => s.i ≤ vs.length ∧ n ≤ s.q) (fun s => vs.length - s.i)
        (fun s hs => ⟨Heap.wf_upd (Heap.wf_mono wf hs.2) map_u8_ok, Env.okAt_of2 (by simp [AV.ok]; omega)⟩) ?_ ⟨0, n⟩ ⟨Nat.zero_le _, Nat.le_refl _⟩ (Env.le_cons rfl (Env.le_cons rfl (Env.le_cons rfl (Env.le_cons rfl (Env.le_nil _))))) (fun _ _ => rfl) rfl
      · rintro ⟨i, q⟩ ⟨hi, hq⟩
        simp only at hi hq ⊢
        refine awp_step dr0 (by decide +kernel) ?_
        simp only [go_sem]
        refine awp_step dr0 (by decide +kernel) ?_
        simp only [go_sem]
        refine ⟨fun hlt => ?_, fun hlt => ?_⟩
        · have hlt' : i < vs.length := by omega
          have hbq : bx < q := by omega
          have hvi := hv i hlt'
          have hvi2 : bytesIn (H.upd q (some ⟨(if i = 0 then List.replicate bss.flatten.length 0#8 else (bss.take i).flatten).map .u8, 5, false⟩)) (vs.getD i .junk) (bss.getD i []) := hvi.mono (hvok i hlt') (fun k hk => Heap.upd_ne _ _ (by omega))
          have hs := hsum i
          have hl0 := hle i
          have hl1 := hle (i + 1)
          have w2 : wrap64 ((i : Int) + 1) = ((i + 1 : Nat) : Int) := by rw [wrap_id _ (by omega) (by omega)]; omega
          refine awp_ev dr0 (by decide +kernel) ?_
          simp only [go_sem, hx, hbq, hlt, hlt', appX_bytes hvi2, srcK_bytes hvi2, w2, true_and]
          refine ⟨?_, by omega, ?_⟩
          · rw [List.length_map]; split
            · rw [List.length_replicate]; exact hl0
            · exact Nat.le_refl _
          have hcells : List.take (bss.take i).flatten.length (List.map AV.u8 (if i = 0 then List.replicate bss.flatten.length 0#8 else (bss.take i).flatten)) ++ List.map AV.u8 (bss.getD i []) = ((bss.take (i + 1)).flatten).map AV.u8 := by
            have e1 : (bss.take (i + 1)).flatten = (bss.take i).flatten ++ bss.getD i [] := by
              rw [List.take_succ_eq_append_getElem (by omega), List.flatten_append, List.getD_eq_getElem?_getD, List.getElem?_eq_getElem (by omega)]; simp
            rw [e1, List.map_append]
            congr 1
            split
            · rename_i h0; subst h0; simp
            · rw [List.take_of_length_le (by rw [List.length_map]; exact Nat.le_refl _)]
          rw [hcells, ← hs]
          refine Ends.mk ⟨i + 1, q + 1⟩ ⟨by simp only; omega, by simp only; omega, by simp only; omega⟩ (Env.le_cons rfl (Env.le_cons rfl (Env.le_cons rfl (Env.le_cons rfl (Env.le_nil _))))) ?_ (by simp only; omega) (Nat.le_refl _)
          intro k hk
          simp only [Nat.add_eq_zero_iff, Nat.succ_ne_self, and_false, if_false]
          obtain hk | rfl | rfl : k < q ∨ k = q ∨ k = q + 1 := by simp only at hk; omega
          · simp only [go_sem, hk]
          · simp only [go_sem]; rw [wf_none wf hq]
          · simp only [go_sem]
        · have hie2 : i = bss.length := by omega
          subst hie2
          have hb0 : bss.length ≠ 0 := by rintro h0; rw [List.length_eq_zero_iff.1 h0] at hpos; simp at hpos
          rw [List.take_length, if_neg hb0]
          refine awp_ev dr0 (by decide +kernel) ?_
          simp only [go_sem]
          exact Fin.one q wf h hq (by simp only [go_sem]) (fun k hk => by rw [Heap.upd_ne _ _ (by omega)]) map_u8_ok (by simp [AV.ren]) (by simp [AV.ok])
end Go.Proofs.Joy
namespace Go.Proofs.Joy
open Go.Ab

/-- What a processor sees: a cartridge's bytes, and what may change. -/
structure BusS where
  rom : List (BitVec 8)
  ram : List (BitVec 8)
  paper : List (BitVec 8)
  mapper : List (BitVec 8)
structure BusS.lens (s : BusS) : Prop where
  ram : s.ram.length = 8192
  paper : s.paper.length = 32768
  mapper : s.mapper.length = 4

def BusS.cells (s : BusS) (rb : Nat) : List AV := AV.pt rb 0 :: (s.ram.map AV.u8 ++ (s.paper.map AV.u8 ++ s.mapper.map AV.u8))

section
variable {s : BusS} (h : s.lens) (rb : Nat)
include h
theorem BusS.len : (s.cells rb).length = 40965 := by simp [BusS.cells, h.ram, h.paper, h.mapper]
omit h in
theorem BusS.get_rom : (s.cells rb).getD 0 .junk = .pt rb 0 := rfl
theorem BusS.get_ram {i : Nat} (hi : i < 8192) : (s.cells rb).getD (1 + i) .junk = .u8 (s.ram.getD i 0#8) := by
  rw [Nat.add_comm]
  show (s.ram.map AV.u8 ++ (s.paper.map AV.u8 ++ s.mapper.map AV.u8)).getD i .junk = _
  rw [getD_app_l (by rw [List.length_map, h.ram]; exact hi)]
  exact getD_map_u8' (by rw [h.ram]; exact hi)
theorem BusS.tail1 (i : Nat) : (s.cells rb).getD (8193 + i) .junk = (s.paper.map AV.u8 ++ s.mapper.map AV.u8).getD i .junk := by
  rw [show 8193 + i = (8192 + i) + 1 by omega]
  show (s.ram.map AV.u8 ++ (s.paper.map AV.u8 ++ s.mapper.map AV.u8)).getD (8192 + i) .junk = _
  rw [getD_app_r (by rw [List.length_map, h.ram]; omega), List.length_map, h.ram, Nat.add_sub_cancel_left]
theorem BusS.get_paper {i : Nat} (hi : i < 32768) : (s.cells rb).getD (8193 + i) .junk = .u8 (s.paper.getD i 0#8) := by
  rw [BusS.tail1 h, getD_app_l (by rw [List.length_map, h.paper]; exact hi)]
  exact getD_map_u8' (by rw [h.paper]; exact hi)
theorem BusS.get_mapper {i : Nat} (hi : i < 4) : (s.cells rb).getD (40961 + i) .junk = .u8 (s.mapper.getD i 0#8) := by
  rw [show 40961 + i = 8193 + (32768 + i) by omega, BusS.tail1 h, getD_app_r (by rw [List.length_map, h.paper]; omega), List.length_map, h.paper, Nat.add_sub_cancel_left]
  exact getD_map_u8' (by rw [h.mapper]; exact hi)
theorem BusS.get_m0 : (s.cells rb).getD 40961 .junk = .u8 (s.mapper.getD 0 0#8) := BusS.get_mapper h rb (i := 0) (by decide)
theorem BusS.get_m1 : (s.cells rb).getD 40962 .junk = .u8 (s.mapper.getD 1 0#8) := BusS.get_mapper h rb (i := 1) (by decide)
theorem BusS.get_m2 : (s.cells rb).getD 40963 .junk = .u8 (s.mapper.getD 2 0#8) := BusS.get_mapper h rb (i := 2) (by decide)
theorem BusS.get_m3 : (s.cells rb).getD 40964 .junk = .u8 (s.mapper.getD 3 0#8) := BusS.get_mapper h rb (i := 3) (by decide)
theorem BusS.set_ram {i : Nat} (hi : i < 8192) (v : BitVec 8) : (s.cells rb).set (1 + i) (.u8 v) = ({ s with ram := s.ram.set i v } : BusS).cells rb := by
  unfold BusS.cells
  rw [Nat.add_comm, List.set_cons_succ, List.set_append_left _ _ (by rw [List.length_map, h.ram]; exact hi), List.map_set]
theorem BusS.set_paper {i : Nat} (hi : i < 32768) (v : BitVec 8) : (s.cells rb).set (8193 + i) (.u8 v) = ({ s with paper := s.paper.set i v } : BusS).cells rb := by
  unfold BusS.cells
  rw [show 8193 + i = (8192 + i) + 1 by omega, List.set_cons_succ, List.set_append_right _ _ (by rw [List.length_map, h.ram]; omega), List.length_map, h.ram, Nat.add_sub_cancel_left,
    List.set_append_left _ _ (by rw [List.length_map, h.paper]; exact hi), List.map_set]
theorem BusS.set_mapper {i : Nat} (hi : i < 4) (v : BitVec 8) : (s.cells rb).set (40961 + i) (.u8 v) = ({ s with mapper := s.mapper.set i v } : BusS).cells rb := by
  unfold BusS.cells
  rw [show 40961 + i = (8192 + (32768 + i)) + 1 by omega, List.set_cons_succ, List.set_append_right _ _ (by rw [List.length_map, h.ram]; omega), List.length_map, h.ram, Nat.add_sub_cancel_left,
    List.set_append_right _ _ (by rw [List.length_map, h.paper]; omega), List.length_map, h.paper, Nat.add_sub_cancel_left, List.map_set]
theorem BusS.all_ram : ((s.cells rb).drop 1).take 8192 = s.ram.map .u8 := by
  unfold BusS.cells
  rw [List.drop_succ_cons, List.drop_zero, List.take_left' (by rw [List.length_map, h.ram])]
theorem BusS.all_paper : ((s.cells rb).drop 8193).take 32768 = s.paper.map .u8 := by
  unfold BusS.cells
  rw [show 8193 = 8192 + 1 by rfl, List.drop_succ_cons, List.drop_left' (by rw [List.length_map, h.ram]), List.take_left' (by rw [List.length_map, h.paper])]
theorem BusS.all_mapper : ((s.cells rb).drop 40961).take 4 = s.mapper.map .u8 := by
  unfold BusS.cells
  rw [show 40961 = (8192 + 32768) + 1 by rfl, List.drop_succ_cons, ← List.drop_drop, List.drop_left' (by rw [List.length_map, h.ram]), List.drop_left' (by rw [List.length_map, h.paper]), List.take_of_length_le (by rw [List.length_map, h.mapper]; exact Nat.le_refl _)]
theorem BusS.splice_ram {xs : List (BitVec 8)} (hx : xs.length = 8192) : splice (s.cells rb) 1 (xs.map .u8) = ({ s with ram := xs } : BusS).cells rb := by
  unfold BusS.cells
  rw [show (AV.pt rb 0 :: (s.ram.map AV.u8 ++ (s.paper.map AV.u8 ++ s.mapper.map AV.u8))) = [AV.pt rb 0] ++ (s.ram.map AV.u8 ++ (s.paper.map AV.u8 ++ s.mapper.map AV.u8)) from rfl]
  rw [show (1 : Nat) = ([AV.pt rb 0] : List AV).length + 0 from rfl, splice_app_r, splice_app_l (by simp [h.ram, hx]), splice_whole (by simp [h.ram, hx])]
  rfl
theorem BusS.splice_paper {xs : List (BitVec 8)} (hx : xs.length = 32768) : splice (s.cells rb) 8193 (xs.map .u8) = ({ s with paper := xs } : BusS).cells rb := by
  unfold BusS.cells
  rw [show (AV.pt rb 0 :: (s.ram.map AV.u8 ++ (s.paper.map AV.u8 ++ s.mapper.map AV.u8))) = [AV.pt rb 0] ++ (s.ram.map AV.u8 ++ (s.paper.map AV.u8 ++ s.mapper.map AV.u8)) from rfl]
  have e : (8193 : Nat) = ([AV.pt rb 0] : List AV).length + ((s.ram.map AV.u8).length + 0) := by simp [h.ram]
  rw [e, splice_app_r, splice_app_r, splice_app_l (by simp [h.paper, hx]), splice_whole (by simp [h.paper, hx])]
  rfl
theorem BusS.splice_mapper {xs : List (BitVec 8)} (hx : xs.length = 4) : splice (s.cells rb) 40961 (xs.map .u8) = ({ s with mapper := xs } : BusS).cells rb := by
  unfold BusS.cells
  rw [show (AV.pt rb 0 :: (s.ram.map AV.u8 ++ (s.paper.map AV.u8 ++ s.mapper.map AV.u8))) = [AV.pt rb 0] ++ (s.ram.map AV.u8 ++ (s.paper.map AV.u8 ++ s.mapper.map AV.u8)) from rfl]
  have e : (40961 : Nat) = ([AV.pt rb 0] : List AV).length + ((s.ram.map AV.u8).length + ((s.paper.map AV.u8).length + 0)) := by simp [h.ram, h.paper]
  rw [e, splice_app_r, splice_app_r, splice_app_r, splice_whole (by simp [h.mapper, hx])]
  rfl
end
theorem BusS.cells_ok (s : BusS) {rb n : Nat} (hr : rb < n) : ∀ v ∈ s.cells rb, v.ok n = true := by
  intro v hv
  simp only [BusS.cells, List.mem_cons, List.mem_append, List.mem_map] at hv
  rcases hv with rfl | ⟨_, _, rfl⟩ | ⟨_, _, rfl⟩ | ⟨_, _, rfl⟩
  · simp [AV.ok, hr]
  all_goals rfl
attribute [go_sem] BusS.len BusS.get_rom BusS.get_m0 BusS.get_m1 BusS.get_m2 BusS.get_m3 BusS.all_mapper

/-- The place in the paper that an address is. -/
def sheetS (s : BusS) (a : BitVec 16) : Option Nat :=
  if a.toNat < 32768 ∨ 49152 ≤ a.toNat ∨ s.mapper.getD 0 0#8 &&& 8#8 = 0#8 then none
  else some (a.toNat % 16384 + if s.mapper.getD 0 0#8 &&& 4#8 = 0#8 then 0 else 16384)
theorem sheetS_lt {s : BusS} {a : BitVec 16} {i : Nat} (h : sheetS s a = some i) : i < 32768 := by
  unfold sheetS at h
  split at h
  · cases h
  · have := Option.some.inj h; split at this <;> omega
end Go.Proofs.Joy
namespace Go.Proofs.Joy
open Go.Ab Go.Proofs

set_option maxHeartbeats 1000000
set_option maxRecDepth 20000

def busB (rb : Nat) (s : BusS) : Blk := ⟨s.cells rb, 61, false⟩
def readB (s : BusS) (a : BitVec 16) : BitVec 8 :=
  if 49152 ≤ a.toNat then s.ram.getD (a.toNat % 8192) 0#8 else match sheetS s a with
    | some i => s.paper.getD i 0#8
    | none => romAt s.rom (if a.toNat < 1024 then 0 else ((s.mapper.getD (1 + a.toNat / 16384) 0#8).toNat : Int)) (a.toNat % 16384 : Nat)
def writeB (s : BusS) (a : BitVec 16) (v : BitVec 8) : BusS :=
  if 49152 ≤ a.toNat then { s with ram := s.ram.set (a.toNat % 8192) v, mapper := if 65532 ≤ a.toNat then s.mapper.set (a.toNat - 65532) v else s.mapper }
  else match sheetS s a with
    | some i => { s with paper := s.paper.set i v }
    | none => s
def newB (l : List (BitVec 8)) : BusS := ⟨l, List.replicate 8192 0#8, List.replicate 32768 0#8, [0#8, 0#8, 1#8, 2#8]⟩
theorem newB_lens (l : List (BitVec 8)) : (newB l).lens := ⟨List.length_replicate, List.length_replicate, rfl⟩
theorem writeB_lens {s : BusS} (h : s.lens) (a : BitVec 16) (v : BitVec 8) : (writeB s a v).lens := by
  unfold writeB
  split
  · refine ⟨by simp [h.ram], h.paper, ?_⟩
    show (if _ then _ else _ : List (BitVec 8)).length = 4
    split
    · simp [h.mapper]
    · exact h.mapper
  · split
    · exact ⟨h.ram, by simp [h.paper], h.mapper⟩
    · exact h
theorem writeB_rom (s : BusS) (a : BitVec 16) (v : BitVec 8) : (writeB s a v).rom = s.rom := by
  unfold writeB; split
  · rfl
  · split <;> rfl

theorem new_cells (A B : Nat) (z : AV) (M : List AV) (hM : M.length = 4) : splice (List.replicate (A + (B + 4)) z) (A + B) M = List.replicate A z ++ (List.replicate B z ++ M) := by
  unfold splice
  rw [List.take_replicate, List.drop_replicate, hM, show A + (B + 4) - (A + B + 4) = 0 by omega, Nat.min_eq_left (by omega), List.replicate_zero, List.append_nil, ← List.append_assoc, List.replicate_append_replicate]

theorem bus_new (rb : Nat) (l : List (BitVec 8)) (H : Heap) (n : Nat) (hr : rb < n) (K : AV → Heap → Nat → Prop) (h : K (.pt n 0) (H.upd n (some (busB rb (newB l)))) (n + 1)) :
    ACalls Try.prog 10 [.pt rb 0] H n K := by
  refine ACalls.of_ev dr0 Try.func10 rfl (by decide +kernel) (by decide +kernel) (show 1 ≤ 7 by decide) (by simp) fun wf => ?_
  simp only [go_sem, Try.f10]
  have e : (newB l).cells rb = AV.pt rb 0 :: splice (List.replicate 40964 (AV.u8 0#8)) 40960 [AV.u8 0#8, AV.u8 0#8, AV.u8 1#8, AV.u8 2#8] := by
    have := new_cells 8192 32768 (AV.u8 0#8) [AV.u8 0#8, AV.u8 0#8, AV.u8 1#8, AV.u8 2#8] rfl
    rw [show 40964 = 8192 + (32768 + 4) from rfl, show 40960 = 8192 + 32768 from rfl, this]
    unfold BusS.cells newB
    rw [List.map_replicate, List.map_replicate]
    rfl
  rw [← e]
  exact ⟨by rw [List.length_replicate]; exact Nat.le_refl _, Fin.keep h⟩

theorem sheet_ok (b rb : Nat) (s : BusS) (hs : s.lens) (a : BitVec 16) (H : Heap) (n : Nat) (K : AV → Heap → Nat → Prop) (hb : H b = some (busB rb s)) (h : K (match sheetS s a with | none => .pn | some i => .pt b (8193 + i)) H n) :
    ACalls Try.prog 27 [.pt b 0, .u16 a] H n K := by
  refine ACalls.of_ev dr0 Try.func27 rfl (by decide +kernel) (by decide +kernel) (show 2 ≤ 38 by decide) (by simp) fun wf => ?_
  simp only [go_sem, Try.f27]
  have hbn := (wf b _ hb).1
  have w1 : ((a.toNat : Nat) : Int).tmod 16384 = ((a.toNat % 16384 : Nat) : Int) := by rw [Int.tmod_eq_emod_of_nonneg (by omega)]; omega
  have w2 : wrap64 (((a.toNat % 16384 : Nat) : Int) + 16384) = ((a.toNat % 16384 + 16384 : Nat) : Int) := by rw [wrap_id _ (by omega) (by omega)]; omega
  simp only [go_sem, hb, busB, hs, w1, w2, Int.toNat_natCast]
  have none' : (a.toNat < 32768 ∨ 49152 ≤ a.toNat ∨ s.mapper.getD 0 0#8 &&& 8#8 = 0#8) → Fin n .pn H n K := fun hx => by
    unfold sheetS at h; rw [if_pos hx] at h; exact Fin.back wf h (fun _ _ => rfl) rfl
  refine ⟨fun a1 => ⟨fun a2 => ⟨fun a3 => none' (.inr (.inr (by simpa using a3))), fun a3 => ⟨fun a4 => ?_, fun a4 => ?_⟩⟩, fun a2 => none' (.inr (.inl (BitVec.le_def.1 a2)))⟩, fun a1 => none' (.inl (BitVec.lt_def.1 a1))⟩
  all_goals
    have c1 : ¬ a.toNat < 32768 := fun hx => a1 (BitVec.lt_def.2 hx)
    have c2 : ¬ 49152 ≤ a.toNat := fun hx => a2 (BitVec.le_def.2 hx)
    have c3 : ¬ s.mapper.getD 0 0#8 &&& 8#8 = 0#8 := by simpa using a3
    unfold sheetS at h
    rw [if_neg (by rintro (hx | hx | hx); exact c1 hx; exact c2 hx; exact c3 hx)] at h
  · rw [if_neg (by simpa using a4)] at h
    refine ⟨by omega, ?_⟩
    exact Fin.back wf h (fun _ _ => rfl) (by simp [AV.ok, hbn])
  · rw [if_pos (by simpa using a4)] at h
    refine ⟨by omega, ?_⟩
    exact Fin.back wf h (fun _ _ => rfl) (by simp [AV.ok, hbn])

/-- The cartridge is there. -/
def romIn (H : Heap) (rb : Nat) (l : List (BitVec 8)) : Prop := romOk l ∧ ∃ bb d sm el ro, H rb = some (romB bb l.length d sm) ∧ H bb = some ⟨l.map .u8, el, ro⟩

theorem bus_read (b rb : Nat) (s : BusS) (hs : s.lens) (a : BitVec 16) (H : Heap) (n : Nat) (K : AV → Heap → Nat → Prop) (hb : H b = some (busB rb s)) (hr : romIn H rb s.rom) (h : K (.u8 (readB s a)) H n) :
    ACalls Try.prog 17 [.pt b 0, .u16 a] H n K := by
  refine ACalls.of_awp Try.func17 rfl (by decide +kernel) (show 2 ≤ 44 by decide) (by simp) fun wf => ?_
  have hbn := (wf b _ hb).1
  obtain ⟨hro, bb, d, sm, el, ro, hr1, hr2⟩ := hr
  have hal := a.isLt
  have m8 : (a % 8192#16).toNat = a.toNat % 8192 := by rw [BitVec.toNat_umod]; rfl
  have m8lt : (a % 8192#16).toNat < 8192 := by rw [m8]; exact Nat.mod_lt _ (by decide)
  have m8lt' : (((a % 8192#16).toNat : Nat) : Int) < 8192 := by omega
  have m8nn : (0 : Int) ≤ (((a % 8192#16).toNat : Nat) : Int) := by omega
  refine awp_ev dr0 (by decide +kernel) ?_
  simp only [go_sem, Try.f17, hb, busB, hs, BusS.get_ram hs rb m8lt, m8lt, m8lt', m8nn]
  unfold readB at h
  refine ⟨fun a1 => ⟨by omega, ?_⟩, fun a1 => ?_⟩
  · have c : 49152 ≤ a.toNat := BitVec.le_def.1 a1
    rw [if_pos c] at h
    rw [m8]
    exact Fin.back wf h (fun _ _ => rfl) rfl
  have alt : a.toNat < 49152 := Nat.lt_of_not_le fun hx => a1 (BitVec.le_def.2 hx)
  rw [if_neg (Nat.not_le.2 alt)] at h
  refine sheet_ok b rb s hs a _ _ _ hb ?_
  cases hsh : sheetS s a with
  | some i =>
    rw [hsh] at h
    have hi := sheetS_lt hsh
    simp only [go_sem, hb, busB, hs, BusS.get_paper hs rb hi]
    exact ⟨by omega, Fin.back wf h (fun _ _ => rfl) rfl⟩
  | none =>
    rw [hsh] at h
    have d16 : (a / 16384#16).toNat = a.toNat / 16384 := by rw [BitVec.toNat_udiv]; rfl
    have i16 : (1#16 + a / 16384#16).toNat = 1 + a.toNat / 16384 := by
      rw [BitVec.toNat_add, d16]; simp; omega
    have m4 : a.toNat / 16384 < 3 := by omega
    have w1 : ((a.toNat : Nat) : Int).tmod 16384 = ((a.toNat % 16384 : Nat) : Int) := by rw [Int.tmod_eq_emod_of_nonneg (by omega)]; omega
    simp only [go_sem, hb, busB, hs, i16, w1]
    refine ⟨by omega, by omega, ?_⟩
    rw [BusS.get_mapper hs rb (by omega)]
    simp only [go_sem, hb, busB, hs, w1]
    refine ⟨fun a2 => ?_, fun a2 => ?_⟩
    · have c : a.toNat < 1024 := BitVec.lt_def.1 a2
      refine rom_at rb bb s.rom hro d sm el ro _ _ _ _ _ hr1 hr2 ?_
      simp only [go_sem]
      rw [if_pos c] at h
      exact Fin.back wf h (fun _ _ => rfl) rfl
    · have c : ¬ a.toNat < 1024 := fun hx => a2 (BitVec.lt_def.2 hx)
      refine rom_at rb bb s.rom hro d sm el ro _ _ _ _ _ hr1 hr2 ?_
      simp only [go_sem]
      rw [if_neg c] at h
      exact Fin.back wf h (fun _ _ => rfl) rfl

theorem bus_write (b rb : Nat) (s : BusS) (hs : s.lens) (a : BitVec 16) (v : BitVec 8) (H : Heap) (n : Nat) (K : AV → Heap → Nat → Prop) (hb : H b = some (busB rb s)) (h : K (.tu []) (H.upd b (some (busB rb (writeB s a v)))) n) :
    ACalls Try.prog 15 [.pt b 0, .u16 a, .u8 v] H n K := by
  refine ACalls.of_awp Try.func15 rfl (by decide +kernel) (show 3 ≤ 33 by decide) (by simp) fun wf => ?_
  have hbn := (wf b _ hb).1
  have hrb : rb < n := by
    have := (wf b _ hb).2 (.pt rb 0) (by simp [busB, BusS.cells])
    simpa [AV.ok] using this
  have hal := a.isLt
  have m8 : (a % 8192#16).toNat = a.toNat % 8192 := by rw [BitVec.toNat_umod]; rfl
  have m8lt : (a % 8192#16).toNat < 8192 := by rw [m8]; exact Nat.mod_lt _ (by decide)
  have m8lt' : (((a % 8192#16).toNat : Nat) : Int) < 8192 := by omega
  have m8nn : (0 : Int) ≤ (((a % 8192#16).toNat : Nat) : Int) := by omega
  have fin : ∀ s', writeB s a v = s' → Fin n (.tu []) (H.upd b (some (busB rb s'))) n K := fun s' hs' => by
    rw [hs'] at h
    exact Fin.back (Heap.wf_set wf hbn (BusS.cells_ok _ hrb)) h (fun _ _ => rfl) rfl
  refine awp_ev dr0 (by decide +kernel) ?_
  simp only [go_sem, Try.f15, hb, busB, hs, m8lt, m8lt', m8nn, BusS.set_ram hs rb m8lt]
  unfold writeB at fin
  have hs1 : ({ s with ram := s.ram.set (a % 8192#16).toNat v } : BusS).lens := ⟨by simp [hs.ram], hs.paper, hs.mapper⟩
  refine ⟨fun a1 => ⟨by omega, fun a2 => ?_, fun a2 => ?_⟩, fun a1 => ?_⟩
  · have c1 : 49152 ≤ a.toNat := BitVec.le_def.1 a1
    have c2 : 65532 ≤ a.toNat := BitVec.le_def.1 a2
    have i4 : (a - 65532#16).toNat = a.toNat - 65532 := by rw [BitVec.toNat_sub]; simp; omega
    rw [i4]
    refine ⟨by omega, by rw [BusS.len hs1]; omega, ?_⟩
    rw [BusS.set_mapper hs1 rb (by omega)]
    refine fin _ ?_
    rw [if_pos c1, if_pos c2, m8]
  · have c1 : 49152 ≤ a.toNat := BitVec.le_def.1 a1
    have c2 : ¬ 65532 ≤ a.toNat := fun hx => a2 (BitVec.le_def.2 hx)
    refine fin _ ?_
    rw [if_pos c1, if_neg c2, m8]
  have c1 : ¬ 49152 ≤ a.toNat := fun hx => a1 (BitVec.le_def.2 hx)
  refine sheet_ok b rb s hs a _ _ _ hb ?_
  cases hsh : sheetS s a with
  | some i =>
    have hi := sheetS_lt hsh
    simp only [go_sem, hb, busB, hs, BusS.set_paper hs rb hi]
    refine ⟨by omega, fin _ ?_⟩
    rw [if_neg c1, hsh]
  | none =>
    simp only [go_sem]
    rw [writeB, if_neg c1, hsh] at h
    change K (.tu []) (H.upd b (some (busB rb s))) n at h
    rw [Heap.upd_self hb] at h
    exact Fin.back wf h (fun _ _ => rfl) rfl

theorem mapper_ok (b rb : Nat) (s : BusS) (hs : s.lens) (H : Heap) (n : Nat) (K : AV → Heap → Nat → Prop) (hb : H b = some (busB rb s)) (h : K (.ag (s.mapper.map .u8)) H n) : ACalls Try.prog 25 [.pt b 0] H n K := by
  refine ACalls.of_ev dr0 Try.func25 rfl (by decide +kernel) (by decide +kernel) (show 1 ≤ 7 by decide) (by simp) fun wf => ?_
  simp only [go_sem, Try.f25]
  have hbn := (wf b _ hb).1
  simp only [go_sem, hbn, hb, busB, hs, hs.mapper, List.length_map]
  rw [splice_whole (by simp [hs.mapper])]
  refine ⟨by simp [hs.mapper], ?_⟩
  rw [take_map_all hs.mapper]
  exact Fin.back wf h (fun i hi => by simp only [go_sem, hi]) (by rw [AV.ok, AV.oks_eq]; simp [AV.ok, AV.one])

def loadB' (s : BusS) (d : List (BitVec 8)) : BusS := { s with ram := d.take 8192, paper := (d.drop 8192).take 32768, mapper := (d.drop 40960).take 4 }
def dumpB (s : BusS) : List (BitVec 8) := s.ram ++ (s.paper ++ s.mapper)
theorem dumpB_len {s : BusS} (h : s.lens) : (dumpB s).length = 40964 := by simp [dumpB, h.ram, h.paper, h.mapper]

theorem bus_dump (b rb : Nat) (s : BusS) (hs : s.lens) (H : Heap) (n : Nat) (K : AV → Heap → Nat → Prop) (hb : H b = some (busB rb s)) (h : K (.su n 0 40964 1) (H.upd n (some ⟨(dumpB s).map .u8, 5, false⟩)) (n + 1)) :
    ACalls Try.prog 22 [.pt b 0] H n K := by
  refine ACalls.of_ev dr22 Try.func22 rfl (by decide +kernel) (by decide +kernel) (show 1 ≤ 17 by decide) (by simp) fun wf => ?_
  have hbn := (wf b _ hb).1
  simp only [go_sem, Try.f22]
  have e : [s.ram, s.paper, s.mapper].flatten = dumpB s := by simp [dumpB]
  have hl := dumpB_len hs
  refine concat_ok n 3 false 29 [.sl b 1 8192 8192, .sl b 8193 32768 32768, .sl b 40961 4 4] [s.ram, s.paper, s.mapper] _ _ _ (by simp only [go_sem]) rfl ?_ (by rw [e, hl]; decide) (by rw [e, hl]; decide) (by simp) ?_
  · intro i hi
    have hb' : ∀ X, (H.upd n X) b = some (busB rb s) := fun X => by rw [Heap.upd_ne _ _ (by omega), hb]
    obtain rfl | rfl | rfl : i = 0 ∨ i = 1 ∨ i = 2 := by simp at hi; omega
    · show bytesIn _ (.sl b 1 8192 8192) s.ram
      exact .sl (blk := busB rb s) (hb' _) hs.ram.symm (Nat.le_refl _) (by simp only [busB, hs.ram, BusS.all_ram hs]) (by simp only [busB, BusS.len hs, hs.ram]; omega)
    · show bytesIn _ (.sl b 8193 32768 32768) s.paper
      exact .sl (blk := busB rb s) (hb' _) hs.paper.symm (Nat.le_refl _) (by simp only [busB, hs.paper, BusS.all_paper hs]) (by simp only [busB, BusS.len hs, hs.paper]; omega)
    · show bytesIn _ (.sl b 40961 4 4) s.mapper
      exact .sl (blk := busB rb s) (hb' _) hs.mapper.symm (Nat.le_refl _) (by simp only [busB, hs.mapper, BusS.all_mapper hs]) (by simp only [busB, BusS.len hs, hs.mapper]; omega)
  rw [e, hl]
  simp only [go_sem]
  exact Fin.one (n + 1) wf h (by omega) (by simp only [go_sem]) (fun i hi => by simp only [go_sem, hi]) map_u8_ok (by simp [AV.ren]) (by simp [AV.ok])

theorem bus_load (b rb : Nat) (s : BusS) (hs : s.lens) (v : AV) (d : List (BitVec 8)) (H : Heap) (n : Nat) (K : AV → Heap → Nat → Prop) (hb : H b = some (busB rb s)) (hv0 : bytesIn (H.upd b none) v d) (hm : d.length ≤ 4294967296)
    (h : K (.i64 (if d.length = 40964 then 0 else 21)) (if d.length = 40964 then H.upd b (some (busB rb (loadB' s d))) else H) n) : ACalls Try.prog 21 [.pt b 0, v] H n K := by
  refine ACalls.of_awp Try.func21 rfl (by decide +kernel) (show 2 ≤ 30 by decide) (by simp [hv0.ne]) fun wf => ?_
  have hbn := (wf b _ hb).1
  have hrb : rb < n := by
    have := (wf b _ hb).2 (.pt rb 0) (by simp [busB, BusS.cells])
    simpa [AV.ok] using this
  have hlb : ∀ K, lenB (some .slice) v K = K (.i64 d.length) := lenB_bytes hv0
  refine awp_step dr0 (by decide +kernel) ?_
  simp only [go_sem, Try.f21]
  by_cases hlen : d.length = 40964
  rotate_left
  · have hne : ((d.length : Int) != 40964) = true := by rw [bne_iff_ne]; omega
    rw [if_neg hlen, if_neg hlen] at h
    refine awp_step dr0 (by decide +kernel) ?_
    simp only [go_sem, hlb, hne]
    exact Fin.back wf h (fun _ _ => rfl) rfl
  have hne : ((d.length : Int) != 40964) = false := by rw [hlen]; rfl
  rw [if_pos hlen, if_pos hlen] at h
  refine awp_step dr0 (by decide +kernel) ?_
  simp only [go_sem, hlb, hne]
  rcases hv0 with ⟨rfl, rfl⟩ | ⟨su, b2, o, c, blk, rfl, h0, h1, h2, h3⟩
  · simp at hlen
  have hne2 : b2 ≠ b := by
    rintro rfl
    rw [Heap.upd_same] at h1
    cases h1
  rw [Heap.upd_ne _ _ hne2] at h1
  have hix : ixT Try.prog 29 = some (none, false, 1) := by simp only [go_sem]
  have hup : ∀ X : Option Blk, (H.upd b X) b2 = some blk := fun X => by rw [Heap.upd_ne _ _ hne2]; exact h1
  have hd0 : bytesIn H (vw su b2 o d.length c) d := .vw h1 rfl h0 h2 h3
  have hm1 : min d.length 8192 = 8192 := by omega
  have cutA : ∀ (X : Option Blk) (lo hi : Nat), lo ≤ hi → hi ≤ d.length → bytesIn (H.upd b X) (vw su b2 (o + lo) (hi - lo) (c - lo)) ((d.drop lo).take (hi - lo)) := fun X lo hi a1 a2 => bytesIn.cut (hup X) rfl h0 h2 h3 a1 a2
  have l1 : ((d.drop 8192).take 32772).length = 32772 := by simp; omega
  have l2 : ((d.drop 40960).take 4).length = 4 := by simp; omega
  refine awp_step dr0 (by decide +kernel) ?_
  simp only [go_sem, hb, busB, hs, srcK_bytes hd0, hm1]
  rw [← List.map_take, BusS.splice_ram (xs := d.take 8192) hs rb (by simp; omega)]
  have hs1 : ({ s with ram := d.take 8192 } : BusS).lens := ⟨by simp; omega, hs.paper, hs.mapper⟩
  refine slB_vw hix (hup _) h3 h0 8192 40964 (by simp only [hlen]) (by omega) (by omega) ?_
  simp only [go_sem]
  refine awp_step dr0 (by decide +kernel) ?_
  have c2 := fun X => cutA X 8192 40964 (by omega) (by omega)
  simp only [Nat.reduceSub] at c2
  have hm2 : min 32772 32768 = 32768 := rfl
  have hm2' : min 32768 32772 = 32768 := rfl
  simp only [go_sem, busB, hs1, srcK_bytes (c2 _), l1, hm2]
  rw [← List.map_take, BusS.splice_paper (xs := ((d.drop 8192).take 32772).take 32768) hs1 rb (by rw [List.length_take, l1]; rfl), List.take_take, hm2']
  have hs2 : ({ s with ram := d.take 8192, paper := (d.drop 8192).take 32768 } : BusS).lens := ⟨by simp; omega, by simp; omega, hs.mapper⟩
  refine slB_vw hix (hup _) (by omega) (by omega) 32768 32772 rfl (by omega) (by omega) ?_
  simp only [go_sem]
  have c3 : ∀ (X : Option Blk) (cc : Nat), 4 ≤ cc → bytesIn (H.upd b X) (vw su b2 (o + 40960) 4 cc) ((d.drop 40960).take 4) := fun X cc hcc => by
    refine .vw (hup X) l2.symm hcc ?_ (by rw [l2]; omega)
    rw [l2, List.map_take, List.map_drop, ← h2, List.drop_take, List.drop_drop, List.take_take, Nat.min_eq_left (by omega)]
  refine awp_ev dr0 (by decide +kernel) ?_
  simp only [go_sem, busB, hs2, srcK_bytes (c3 _ _ (show 4 ≤ c - 8192 - 32768 by omega)), l2]
  rw [BusS.splice_mapper hs2 rb l2]
  exact Fin.back (Heap.wf_set wf hbn (BusS.cells_ok _ hrb)) h (fun _ _ => rfl) rfl
end Go.Proofs.Joy
namespace Go.Proofs.Joy
open Go.Ab Go.Proofs

set_option maxHeartbeats 1000000
set_option maxRecDepth 20000

/-- How far a row has been filled. -/
def fill (l : List (BitVec 8)) (i : Nat) : List (BitVec 8) := l.take i ++ List.replicate (l.length - i) 0#8
theorem fill_len {l : List (BitVec 8)} {i : Nat} (h : i ≤ l.length) : (fill l i).length = l.length := by simp [fill]; omega
theorem fill_zero (l : List (BitVec 8)) : fill l 0 = List.replicate l.length 0#8 := by simp [fill]
theorem fill_all (l : List (BitVec 8)) : fill l l.length = l := by simp [fill]
theorem fill_set {l : List (BitVec 8)} {i : Nat} (h : i < l.length) : (fill l i).set i (l.getD i 0#8) = fill l (i + 1) := by
  unfold fill
  rw [List.set_append_right _ _ (by simp; omega), List.length_take, Nat.min_eq_left (by omega), Nat.sub_self, show l.length - i = (l.length - (i + 1)) + 1 by omega, List.replicate_succ, List.set_cons_zero,
    List.take_succ_eq_append_getElem h, List.append_assoc, List.getD_eq_getElem?_getD, List.getElem?_eq_getElem h]
  rfl
theorem fill_skip {l : List (BitVec 8)} {i : Nat} (h : i < l.length) (h0 : l.getD i 0#8 = 0#8) : fill l i = fill l (i + 1) := by
  rw [← fill_set h, h0]
  symm
  apply List.ext_getElem?
  intro j
  rw [List.getElem?_set]
  split
  · rename_i e; subst e
    have hl : i < (fill l i).length := by rw [fill_len (by omega)]; exact h
    rw [if_pos hl]
    unfold fill
    rw [List.getElem?_append_right (by simp; omega), List.length_take, Nat.min_eq_left (by omega), Nat.sub_self, List.getElem?_replicate, if_pos (by omega)]
  · rfl

theorem ref_banks (n j : Nat) (hj : j ≤ 8) (h1 : j = 0 ∨ 2 ^ (j - 1) * 16384 < n) (h2 : j = 8 ∨ n ≤ 2 ^ j * 16384) : romBanks (min n 4194304) = 2 ^ j := by
  have hc : bankCount (min n 4194304) = (min n 4194304 + 16383) / 16384 := rfl
  unfold romBanks
  split
  · rename_i hle
    rcases h1 with rfl | h1
    · rfl
    · have := Nat.one_le_two_pow (n := j - 1); omega
  · rename_i hgt
    obtain ⟨a1, a2, a3⟩ := lenS_spec (bankCount (min n 4194304) - 1) (by omega)
    have hj0 : j ≠ 0 := by rintro rfl; rcases h2 with h2 | h2 <;> simp at h2; omega
    rcases h1 with rfl | h1
    · exact absurd rfl hj0
    have p7 : 2 ^ (j - 1) ≤ 2 ^ 7 := Nat.pow_le_pow_right (by decide) (by omega)
    have b1 : 2 ^ (j - 1) ≤ bankCount (min n 4194304) - 1 := by omega
    have b2 : bankCount (min n 4194304) - 1 < 2 ^ j := by
      rcases h2 with rfl | h2
      · omega
      · have := Nat.one_le_two_pow (n := j); omega
    have c1 : j - 1 < lenS (bankCount (min n 4194304) - 1) := (Nat.pow_lt_pow_iff_right (a := 2) (by decide)).1 (by omega)
    have c2 : lenS (bankCount (min n 4194304) - 1) - 1 < j := (Nat.pow_lt_pow_iff_right (a := 2) (by decide)).1 (by omega)
    rw [show lenS (bankCount (min n 4194304) - 1) = j by omega]

structure RS where
  i : Nat

theorem ref_new (v : AV) (bs : List (BitVec 8)) (H : Heap) (n : Nat) (K : AV → Heap → Nat → Prop) (hv : bytesIn H v bs) (hm : bs.length ≤ 4294967296)
    (h : K (.sl n 0 (romL bs).length (romL bs).length) (H.upd n (some ⟨(romL bs).map .u8, 5, false⟩)) (n + 1)) : ACalls Try.prog 14 [v] H n K := by
  refine ACalls.of_awp Try.func14 rfl (by decide +kernel) (show 1 ≤ 38 by decide) (by simp [hv.ne]) fun wf => ?_
  have hlb : ∀ K, lenB (some .slice) v K = K (.i64 bs.length) := lenB_bytes hv
  have hvok : v.ok n = true := by
    rcases hv with ⟨rfl, rfl⟩ | ⟨su, b, o, c, blk, rfl, h0, h1, h2, h3⟩
    · rfl
    · exact vw_ok (wf b _ h1).1
  refine awp_step dr0 (by decide +kernel) ?_
  simp only [go_sem, Try.f14]
  refine awp_step dr0 (by decide +kernel) ?_
  simp only [go_sem]
  have hrl : romL bs = bs.take 4194304 ++ List.replicate (romBanks (bs.take 4194304).length * 16384 - (bs.take 4194304).length) 0#8 := rfl
  have hlen := romL_len bs
  have htl : (bs.take 4194304).length = min bs.length 4194304 := by rw [List.length_take]; omega
  rw [htl] at hlen hrl
  have hbl := romBanks_le (min bs.length 4194304) (Nat.min_le_right _ _)
  refine awp_seqF (S := Unit) (fun _ => [(0, v), (3, .i64 ((romBanks (min bs.length 4194304) : Nat) : Int))]) (fun _ => H) (fun _ => n) (fun _ => True) (fun _ _ => ⟨wf, Env.okAt_of2 (by simp [AV.ok, hvok])⟩) ?_ ?_
  · refine awp_block ?_
    refine awp_loopF (S := RS) (fun s => [(0, v), (3, .i64 ((2 ^ s.i : Nat) : Int))]) (fun _ => H) (fun _ => n) (fun s => s.i ≤ 8 ∧ (s.i = 0 ∨ 2 ^ (s.i - 1) * 16384 < bs.length)) (fun s => 8 - s.i)
      (fun s _ => ⟨wf, Env.okAt_of2 (by simp [AV.ok, hvok])⟩) ?_ ⟨0⟩ ⟨Nat.zero_le _, .inl rfl⟩ (Env.le_cons rfl (Env.le_cons rfl (Env.le_nil _))) (fun _ _ => rfl) rfl
    rintro ⟨j⟩ ⟨hj, hp⟩
    simp only at hj hp ⊢
    have p8 : 2 ^ j ≤ 2 ^ 8 := Nat.pow_le_pow_right (by decide) hj
    have w1 : wrap64 (((2 ^ j : Nat) : Int) * 16384) = ((2 ^ j * 16384 : Nat) : Int) := by
      generalize 2 ^ j = B at *
      rw [wrap_id _ (by omega) (by omega)]; omega
    have w2 : wrap64 (2 * ((2 ^ j : Nat) : Int)) = ((2 ^ (j + 1) : Nat) : Int) := by
      rw [Nat.pow_succ]
      generalize 2 ^ j = B at *
      rw [wrap_id _ (by omega) (by omega)]; omega
    have stop : (j = 8 ∨ bs.length ≤ 2 ^ j * 16384) → ((romBanks (min bs.length 4194304) : Nat) : Int) = ((2 ^ j : Nat) : Int) := fun hs => by rw [ref_banks _ j hj hp hs]
    refine awp_step dr0 (by decide +kernel) ?_
    simp only [go_sem, hlb, w1]
    refine ⟨fun a1 => ⟨fun a2 => ?_, fun a2 => ?_⟩, fun a1 => ?_⟩
    · have hj7 : j < 8 := by
        rcases Nat.lt_or_ge j 8 with hlt | hge
        · exact hlt
        · obtain rfl : j = 8 := by omega
          exact absurd a1 (by decide)
      refine awp_ev dr0 (by decide +kernel) ?_
      simp only [go_sem, w2]
      exact Ends.mk ⟨j + 1⟩ ⟨by simp only; omega, by simp only; omega, .inr (by simp only [Nat.add_sub_cancel]; omega)⟩ (Env.le_cons rfl (Env.le_cons rfl (Env.le_nil _))) (fun _ _ => rfl) (Nat.le_refl _) (Nat.le_refl _)
    · exact Ends.mk () trivial (Env.le_cons rfl (Env.le_cons (by rw [stop (.inr (by omega))]; rfl) (Env.le_nil _))) (fun _ _ => rfl) (Nat.le_refl _) (Nat.le_refl _)
    · have hj8 : j = 8 := by
        rcases Nat.lt_or_ge j 8 with hlt | hge
        · have : 2 ^ j ≤ 2 ^ 7 := Nat.pow_le_pow_right (by decide) (by omega)
          omega
        · omega
      exact Ends.mk () trivial (Env.le_cons rfl (Env.le_cons (by rw [stop (.inl hj8)]; rfl) (Env.le_nil _))) (fun _ _ => rfl) (Nat.le_refl _) (Nat.le_refl _)
  rintro - -
  have w4 : wrap64 (((romBanks (min bs.length 4194304) : Nat) : Int) * 16384) = (((romL bs).length : Nat) : Int) := by
    rw [hlen, wrap_id _ (by omega) (by omega)]; omega
  have hlz : 0 < (romL bs).length := by omega
  refine awp_step dr0 (by decide +kernel) ?_
  simp only [go_sem, w4]
  refine ⟨by omega, by omega, by omega, ?_⟩
  rw [rep_u8, ← fill_zero]
  refine awp_seq (awp_step dr0 (by decide +kernel) ?_)
  simp only [go_sem]
  refine awp_block ?_
  have hval : ∀ i, (romL bs).getD i 0#8 = if i < min bs.length 4194304 then bs.getD i 0#8 else 0#8 := fun i => by
    rw [hrl, List.getD_eq_getElem?_getD]
    split
    · rename_i hi
      rw [List.getElem?_append_left (by rw [htl]; exact hi), List.getElem?_take, if_pos (by omega), List.getD_eq_getElem?_getD]
    · rename_i hi
      rw [List.getElem?_append_right (by rw [htl]; omega), List.getElem?_replicate]
      split <;> rfl
  have hLm : (romL bs).length ≤ 4194304 := by omega
  refine awp_loopF (S := RS) (fun s => [(0, v), (4, .sl n 0 (romL bs).length (romL bs).length), (21, .i64 (romL bs).length), (22, .i64 s.i)]) (fun s => H.upd n (some ⟨(fill (romL bs) s.i).map .u8, 5, false⟩)) (fun _ => n + 1) (fun s => s.i ≤ (romL bs).length) (fun s => (romL bs).length - s.i)
    (fun s _ => ⟨Heap.wf_upd wf map_u8_ok, Env.okAt_of2 (by simp [AV.ok, AV.ok_mono (Nat.le_succ n) _ hvok])⟩) ?_ ⟨0⟩ (Nat.zero_le _) (Env.le_cons rfl (Env.le_cons rfl (Env.le_cons rfl (Env.le_cons rfl (Env.le_nil _))))) (fun _ _ => rfl) rfl
  rintro ⟨i⟩ hi
  simp only at hi ⊢
  refine awp_step dr0 (by decide +kernel) ?_
  simp only [go_sem]
  refine awp_step dr0 (by decide +kernel) ?_
  simp only [go_sem]
  refine ⟨fun hlt => ?_, fun hlt => ?_⟩
  · have hlt' : i < (romL bs).length := by omega
    have w2 : wrap64 ((i : Int) + 1) = ((i + 1 : Nat) : Int) := by rw [wrap_id _ (by omega) (by omega)]; omega
    have hfl := fill_len hi
    refine awp_ev dr0 (by decide +kernel) ?_
    simp only [go_sem, hlb, w2, hlt, hlt']
    refine ⟨fun a1 => ?_, fun a1 => ?_⟩
    · have a1' : i < bs.length := by omega
      rcases hv with ⟨rfl, rfl⟩ | ⟨su, b, o, c, blk, rfl, h0, h1, h2, h3⟩
      · simp at a1'
      have hbn := vw_ok' hvok
      obtain ⟨q1, q2⟩ := cells_at h2 h3 a1'
      simp only [go_sem, h1, hbn, q1, q2, a1, a1', hfl, List.length_map, hlt, hlt', w2]
      refine ⟨by omega, ?_⟩
      have hv2 := hval i
      rw [if_pos (by omega)] at hv2
      rw [← List.map_set, ← hv2, fill_set hlt']
      exact Ends.mk ⟨i + 1⟩ ⟨by simp only; omega, by simp only; omega⟩ (Env.le_cons rfl (Env.le_cons rfl (Env.le_cons rfl (Env.le_cons rfl (Env.le_nil _))))) (fun _ _ => rfl) (Nat.le_refl _) (Nat.le_refl _)
    · have hv2 := hval i
      rw [if_neg (by omega)] at hv2
      rw [fill_skip hlt' hv2]
      exact Ends.mk ⟨i + 1⟩ ⟨by simp only; omega, by simp only; omega⟩ (Env.le_cons rfl (Env.le_cons rfl (Env.le_cons rfl (Env.le_cons rfl (Env.le_nil _))))) (fun _ _ => rfl) (Nat.le_refl _) (Nat.le_refl _)
  have hie : i = (romL bs).length := by omega
  subst hie
  rw [fill_all]
  refine awp_ev dr0 (by decide +kernel) ?_
  simp only [go_sem]
  exact Fin.keep h

theorem tmod_pos (x y : Int) (hy : 0 < y) : (if x.tmod y < 0 then x.tmod y + y else x.tmod y) = x % y := by
  have h1 := Int.emod_nonneg x (show y ≠ 0 by omega)
  have h2 := Int.emod_lt_of_pos x hy
  rcases Int.lt_or_le x 0 with hx | hx
  · have e : x.tmod y = -((-x) % y) := by
      rw [show x = -(-x) by omega, Int.neg_tmod, Int.tmod_eq_emod_of_nonneg (by omega)]; simp
    rw [e]
    have h3 := Int.emod_nonneg (-x) (show y ≠ 0 by omega)
    have h4 := Int.emod_lt_of_pos (-x) hy
    by_cases hz : (-x) % y = 0
    · rw [hz]
      have hd : y ∣ x := (Int.dvd_neg).1 (Int.dvd_of_emod_eq_zero hz)
      rw [Int.emod_eq_zero_of_dvd hd]; simp
    · rw [if_pos (by omega)]
      have hq : x = y * (-((-x) / y) - 1) + (y - (-x) % y) := by
        have := Int.emod_add_mul_ediv (-x) y
        rw [Int.mul_sub, Int.mul_neg]; omega
      have := Int.emod_emod_of_dvd x (Int.dvd_refl y)
      conv => rhs; rw [hq, Int.add_comm, Int.add_mul_emod_self_left, Int.emod_eq_of_lt (by omega) (by omega)]
      omega
  · rw [Int.tmod_eq_emod_of_nonneg hx, if_neg (by omega)]

theorem modulo_ok (x y : Int) (hy : 0 < y) (hy2 : y ≤ 4611686018427387904) (H : Heap) (n : Nat) (K : AV → Heap → Nat → Prop) (h : K (.i64 (x % y)) H n) : ACalls Try.prog 33 [.i64 x, .i64 y] H n K := by
  refine ACalls.of_ev dr0 Try.func33 rfl (by decide +kernel) (by decide +kernel) (show 2 ≤ 15 by decide) (by simp) fun wf => ?_
  simp only [go_sem, Try.f33]
  have e := tmod_pos x y hy
  have hne : y ≠ 0 := by omega
  have h1 := Int.emod_nonneg x hne
  have h2 := Int.emod_lt_of_pos x hy
  simp only [hne, not_false_eq_true, ne_eq, true_and]
  refine ⟨fun a1 => ?_, fun a1 => ?_⟩
  · rw [if_pos a1] at e
    rw [e, wrap_id _ (by omega) (by omega)]
    exact Fin.back wf h (fun _ _ => rfl) rfl
  · rw [if_neg a1] at e
    rw [e]
    exact Fin.back wf h (fun _ _ => rfl) rfl

theorem banks_ok (b L c : Nat) (hL : L ≤ 4294967296) (hc : True) (H : Heap) (n : Nat) (hbn : b < n) (K : AV → Heap → Nat → Prop) (h : K (.i64 (L / 16384 : Nat)) H n) : ACalls Try.prog 34 [.sl b 0 L c] H n K := by
  refine ACalls.of_ev dr0 Try.func34 rfl (by decide +kernel) (by decide +kernel) (show 1 ≤ 6 by decide) (by simp) fun wf => ?_
  simp only [go_sem, Try.f34]
  have w : wrap64 ((L : Int).tdiv 16384) = ((L / 16384 : Nat) : Int) := by rw [Int.tdiv_eq_ediv_of_nonneg (by omega), wrap_id _ (by omega) (by omega)]; omega
  rw [w]
  exact Fin.back wf h (fun _ _ => rfl) rfl

theorem ref_at (b : Nat) (l : List (BitVec 8)) (hl : romOk l) (el : TypeId) (ro : Bool) (bank off : Int) (H : Heap) (n : Nat) (K : AV → Heap → Nat → Prop) (hb : H b = some ⟨l.map .u8, el, ro⟩)
    (h : K (.u8 (romAt l bank off)) H n) : ACalls Try.prog 29 [.sl b 0 l.length l.length, .i64 bank, .i64 off] H n K := by
  refine ACalls.of_ev dr0 Try.func29 rfl (by decide +kernel) (by decide +kernel) (show 3 ≤ 18 by decide) (by simp) fun wf => ?_
  simp only [go_sem, Try.f29]
  have hbn := (wf b _ hb).1
  obtain ⟨_, i2, i3⟩ := at_index hl bank off
  have hlt : ((bank % ((l.length / 16384 : Nat) : Int)) * 16384 + off % 16384).toNat < l.length := by omega
  have hg : (l.map AV.u8).getD ((bank % ((l.length / 16384 : Nat) : Int)) * 16384 + off % 16384).toNat .junk = .u8 (romAt l bank off) := getD_map8 hlt
  obtain ⟨j, hj, hlen⟩ := hl
  have hp2 : 2 ^ j ≤ 2 ^ 8 := Nat.pow_le_pow_right (by decide) hj
  have hp1 : 1 ≤ 2 ^ j := Nat.one_le_two_pow
  have hB : 0 < l.length / 16384 := by omega
  have h3 : 0 ≤ bank % ((l.length / 16384 : Nat) : Int) := Int.emod_nonneg _ (by omega)
  have h4 : bank % ((l.length / 16384 : Nat) : Int) < ((l.length / 16384 : Nat) : Int) := Int.emod_lt_of_pos _ (by omega)
  have h5 : 0 ≤ off % 16384 := Int.emod_nonneg _ (by decide)
  have h6 : off % 16384 < 16384 := Int.emod_lt_of_pos _ (by decide)
  have w1 : wrap64 (bank % ((l.length / 16384 : Nat) : Int) * 16384) = bank % ((l.length / 16384 : Nat) : Int) * 16384 := wrap_id _ (by omega) (by omega)
  have w2 : wrap64 (bank % ((l.length / 16384 : Nat) : Int) * 16384 + off % 16384) = bank % ((l.length / 16384 : Nat) : Int) * 16384 + off % 16384 := wrap_id _ (by omega) (by omega)
  refine banks_ok b l.length l.length (by omega) trivial _ _ hbn _ ?_
  simp only [go_sem]
  refine modulo_ok _ _ (by omega) (by omega) _ _ _ ?_
  simp only [go_sem]
  refine modulo_ok _ _ (by omega) (by omega) _ _ _ ?_
  simp only [go_sem, w1, w2, hb, i2, i3, hlt, hg, List.length_map]
  exact Fin.back wf h (fun _ _ => rfl) rfl
end Go.Proofs.Joy
namespace Go.Proofs.Joy
open Go.Ab Go.Proofs

set_option maxHeartbeats 1000000
set_option maxRecDepth 20000

structure BQ where
  b : Nat
  l : Nat
  r : Nat
  p : Nat
  ru : Bool
  pu : Bool
  rc : Nat
  pc : Nat
structure BQ.ok (q : BQ) : Prop where
  bl : q.b ≠ q.l
  br : q.b ≠ q.r
  bp : q.b ≠ q.p
  lr : q.l ≠ q.r
  lp : q.l ≠ q.p
  rp : q.r ≠ q.p
  rc : 8192 ≤ q.rc
  pc : 32768 ≤ q.pc
def byB (l : List (BitVec 8)) : Blk := ⟨l.map .u8, 5, false⟩
def refC (q : BQ) (s : BusS) : List AV := .sl q.l 0 s.rom.length s.rom.length :: vw q.ru q.r 0 8192 q.rc :: vw q.pu q.p 0 32768 q.pc :: s.mapper.map .u8
def refB (q : BQ) (s : BusS) : Blk := ⟨refC q s, 55, false⟩
structure refH (H : Heap) (q : BQ) (s : BusS) : Prop where
  b : H q.b = some (refB q s)
  l : ∃ el ro, H q.l = some ⟨s.rom.map .u8, el, ro⟩
  r : H q.r = some (byB s.ram)
  p : H q.p = some (byB s.paper)
theorem map4 {s : BusS} (h : s.lens) : ∃ m0 m1 m2 m3, s.mapper = [m0, m1, m2, m3] := by
  have := h.mapper
  match h' : s.mapper, this with
  | [m0, m1, m2, m3], _ => exact ⟨m0, m1, m2, m3, rfl⟩

theorem bit8 (m : BitVec 8) : (m / 8#8 % 2#8 == 1#8) = !(m &&& 8#8 == 0#8) := by revert m; decide +kernel
theorem bit4 (m : BitVec 8) : (m / 4#8 % 2#8).toNat = if m &&& 4#8 = 0#8 then 0 else 1 := by revert m; decide +kernel

theorem rpaper_ok (q : BQ) (s : BusS) (hs : s.lens) (a : BitVec 16) (H : Heap) (n : Nat) (K : AV → Heap → Nat → Prop) (hb : H q.b = some (refB q s)) (h : K (.i64 (match sheetS s a with | none => -1 | some i => (i : Int))) H n) :
    ACalls Try.prog 28 [.pt q.b 0, .i64 a.toNat] H n K := by
  refine ACalls.of_ev dr0 Try.func28 rfl (by decide +kernel) (by decide +kernel) (show 2 ≤ 33 by decide) (by simp) fun wf => ?_
  simp only [go_sem, Try.f28]
  have hbn := (wf _ _ hb).1
  have hal := a.isLt
  obtain ⟨m0, m1, m2, m3, hm⟩ := map4 hs
  have w1 : ((a.toNat : Nat) : Int).tmod 16384 = ((a.toNat % 16384 : Nat) : Int) := by rw [Int.tmod_eq_emod_of_nonneg (by omega)]; omega
  simp only [go_sem, hb, refB, refC, hm, w1, bit8, bit4, List.map_cons, List.map_nil]
  unfold sheetS at h
  rw [hm] at h
  have none' : (a.toNat < 32768 ∨ 49152 ≤ a.toNat ∨ m0 &&& 8#8 = 0#8) → Fin n (.i64 (-1)) H n K := fun hx => by
    rw [if_pos (by simpa using hx)] at h; exact Fin.back wf h (fun _ _ => rfl) rfl
  refine ⟨fun a1 => ⟨fun a2 => ⟨fun a3 => ?_, fun a3 => none' (.inr (.inr (by simpa using a3)))⟩, fun a2 => none' (.inr (.inl (by omega)))⟩, fun a1 => none' (.inl (by omega))⟩
  have c3 : ¬ m0 &&& 8#8 = 0#8 := by simpa using a3
  rw [if_neg (by rintro (hx | hx | hx); omega; omega; exact c3 (by simpa using hx))] at h
  simp only [List.getD_cons_zero] at h
  have w2 : wrap64 (((a.toNat % 16384 : Nat) : Int) + wrap64 (16384 * (((if m0 &&& 4#8 = 0#8 then 0 else 1 : Nat) : Nat) : Int))) = ((a.toNat % 16384 + if m0 &&& 4#8 = 0#8 then 0 else 16384 : Nat) : Int) := by
    split
    · rw [wrap_id (_ * _) (by omega) (by omega), wrap_id _ (by omega) (by omega)]; omega
    · rw [wrap_id (_ * _) (by omega) (by omega), wrap_id _ (by omega) (by omega)]; omega
  rw [w2]
  exact Fin.back wf h (fun _ _ => rfl) rfl

theorem romAt_mod (l : List (BitVec 8)) (bank : Int) (x y : Int) (h : x % 16384 = y % 16384) : romAt l bank x = romAt l bank y := by unfold romAt; rw [h]

theorem rread_ok (q : BQ) (s : BusS) (hs : s.lens) (hro : romOk s.rom) (a : BitVec 16) (H : Heap) (n : Nat) (K : AV → Heap → Nat → Prop) (hh : refH H q s) (h : K (.u8 (readB s a)) H n) :
    ACalls Try.prog 18 [.pt q.b 0, .u16 a] H n K := by
  refine ACalls.of_ev dr18 Try.func18 rfl (by decide +kernel) (by decide +kernel) (show 2 ≤ 86 by decide) (by simp) fun wf => ?_
  have hb := hh.b
  obtain ⟨el, ro, hl⟩ := hh.l
  have hbn := (wf _ _ hb).1
  have hal := a.isLt
  obtain ⟨m0, m1, m2, m3, hm⟩ := map4 hs
  have w8 : ((a.toNat : Nat) : Int).tmod 8192 = ((a.toNat % 8192 : Nat) : Int) := by rw [Int.tmod_eq_emod_of_nonneg (by omega)]; omega
  have lt8 : a.toNat % 8192 < 8192 := Nat.mod_lt _ (by decide)
  have lt8' : ((a.toNat % 8192 : Nat) : Int) < 8192 := by omega
  have nn8 : (0 : Int) ≤ ((a.toNat % 8192 : Nat) : Int) := by omega
  have hgr : (s.ram.map AV.u8).getD (a.toNat % 8192) .junk = .u8 (s.ram.getD (a.toNat % 8192) 0#8) := getD_map_u8' (by rw [hs.ram]; exact lt8)
  simp only [go_sem, Try.f18, hb, refB, refC, hm, List.map_cons, List.map_nil, hh.r, byB, w8, lt8, lt8', nn8, hs.ram, List.length_map, hgr]
  have w32 : ((a.toNat : Nat) : Int) - 32768 = wrap64 (((a.toNat : Nat) : Int) - 32768) := by rw [wrap_id _ (by omega) (by omega)]
  have w16 : ((a.toNat : Nat) : Int) - 16384 = wrap64 (((a.toNat : Nat) : Int) - 16384) := by rw [wrap_id _ (by omega) (by omega)]
  unfold readB at h
  refine ⟨fun a1 => ?_, fun a1 => ?_⟩
  · rw [if_pos (by omega)] at h; exact Fin.back wf h (fun _ _ => rfl) rfl
  rw [if_neg (by omega)] at h
  refine rpaper_ok q s hs a _ _ _ hb ?_
  cases hsh : sheetS s a with
  | some i =>
    rw [hsh] at h
    have hi := sheetS_lt hsh
    have hi' : (i : Int) < 32768 := by omega
    have hgp : (s.paper.map AV.u8).getD i .junk = .u8 (s.paper.getD i 0#8) := getD_map_u8' (by rw [hs.paper]; exact hi)
    simp only [go_sem, hb, refB, refC, hm, List.map_cons, List.map_nil]
    refine rpaper_ok q s hs a _ _ _ hb ?_
    rw [hsh]
    simp only [go_sem, hb, refB, refC, hm, List.map_cons, List.map_nil, hh.p, byB, hi, hi', hs.paper, List.length_map, hgp]
    exact Fin.back wf h (fun _ _ => rfl) rfl
  | none =>
    rw [hsh] at h
    simp only [go_sem, hb, refB, refC, hm, List.map_cons, List.map_nil]
    rw [hm] at h
    refine ⟨fun a2 => ?_, fun a2 => ⟨fun a3 => ?_, fun a3 => ⟨fun a4 => ?_, fun a4 => ?_⟩⟩⟩
    all_goals
      refine ref_at q.l s.rom hro el ro _ _ _ _ _ hl ?_
      simp only [go_sem, hb, refB, refC, hm, List.map_cons, List.map_nil]
    · rw [if_neg (by omega), show a.toNat / 16384 = 2 by omega] at h
      rw [romAt_mod _ _ _ ((a.toNat % 16384 : Nat) : Int) (by rw [← w32]; omega)]
      exact Fin.back wf h (fun _ _ => rfl) rfl
    · rw [if_neg (by omega), show a.toNat / 16384 = 1 by omega] at h
      rw [romAt_mod _ _ _ ((a.toNat % 16384 : Nat) : Int) (by rw [← w16]; omega)]
      exact Fin.back wf h (fun _ _ => rfl) rfl
    · rw [if_neg (by omega), show a.toNat / 16384 = 0 by omega] at h
      rw [romAt_mod _ _ _ ((a.toNat % 16384 : Nat) : Int) (by omega)]
      exact Fin.back wf h (fun _ _ => rfl) rfl
    · rw [if_pos (by omega)] at h
      rw [romAt_mod _ _ _ ((a.toNat % 16384 : Nat) : Int) (by omega)]
      exact Fin.back wf h (fun _ _ => rfl) rfl

def refPut (H : Heap) (q : BQ) (s : BusS) : Heap := ((H.upd q.b (some (refB q s))).upd q.r (some (byB s.ram))).upd q.p (some (byB s.paper))
theorem refPut_ne (H : Heap) (q : BQ) (s : BusS) {i : Nat} (h1 : i ≠ q.b) (h2 : i ≠ q.r) (h3 : i ≠ q.p) : refPut H q s i = H i := by
  unfold refPut; rw [Heap.upd_ne _ _ h3, Heap.upd_ne _ _ h2, Heap.upd_ne _ _ h1]
theorem refPut_h {H : Heap} {q : BQ} (hq : q.ok) {s : BusS} (hl : ∃ el ro, H q.l = some ⟨s.rom.map .u8, el, ro⟩) : refH (refPut H q s) q s := by
  unfold refPut
  refine ⟨?_, ?_, ?_, ?_⟩
  · rw [Heap.upd_ne _ _ hq.bp, Heap.upd_ne _ _ hq.br, Heap.upd_same]
  · rw [Heap.upd_ne _ _ hq.lp, Heap.upd_ne _ _ hq.lr, Heap.upd_ne _ _ hq.bl.symm]; exact hl
  · rw [Heap.upd_ne _ _ hq.rp, Heap.upd_same]
  · rw [Heap.upd_same]
theorem refB_ok {q : BQ} {n : Nat} (hl : q.l < n) (hr : q.r < n) (hp : q.p < n) (s : BusS) : ∀ v ∈ (refB q s).cells, v.ok n = true := by
  intro v hv
  simp only [refB, refC, List.mem_cons, List.mem_map] at hv
  rcases hv with rfl | rfl | rfl | ⟨_, _, rfl⟩
  · simp [AV.ok, hl]
  · exact vw_ok hr
  · exact vw_ok hp
  · rfl
theorem refPut_wf {H : Heap} {n : Nat} {q : BQ} (wf : H.wf n) (hb : q.b < n) (hl : q.l < n) (hr : q.r < n) (hp : q.p < n) (s : BusS) : (refPut H q s).wf n :=
  Heap.wf_set (Heap.wf_set (Heap.wf_set wf hb (refB_ok hl hr hp s)) hr map_u8_ok) hp map_u8_ok
theorem refPut_eq {H H' : Heap} {n : Nat} {q : BQ} {s : BusS} (h : refH H' q s) (hf : ∀ i, i < n → i ≠ q.b → i ≠ q.r → i ≠ q.p → H' i = H i) (i : Nat) (hi : i < n) : H' i = refPut H q s i := by
  unfold refPut
  by_cases h3 : i = q.p
  · subst h3; rw [Heap.upd_same, h.p]
  rw [Heap.upd_ne _ _ h3]
  by_cases h2 : i = q.r
  · subst h2; rw [Heap.upd_same, h.r]
  rw [Heap.upd_ne _ _ h2]
  by_cases h1 : i = q.b
  · subst h1; rw [Heap.upd_same, h.b]
  rw [Heap.upd_ne _ _ h1]
  exact hf i hi h1 h2 h3
theorem refH.out {H : Heap} {q : BQ} {s : BusS} (h : refH H q s) {b : Nat} (h1 : b ≠ q.b) (h2 : b ≠ q.l) (h3 : b ≠ q.r) (h4 : b ≠ q.p) (x : Option Blk) : refH (H.upd b x) q s :=
  ⟨by rw [Heap.upd_ne _ _ h1.symm, h.b], by rw [Heap.upd_ne _ _ h2.symm]; exact h.l, by rw [Heap.upd_ne _ _ h3.symm, h.r], by rw [Heap.upd_ne _ _ h4.symm, h.p]⟩
theorem refH.mono {H H' : Heap} {q : BQ} {s : BusS} {n : Nat} (h : refH H q s) (h1 : q.b < n) (h2 : q.l < n) (h3 : q.r < n) (h4 : q.p < n) (he : ∀ i, i < n → H' i = H i) : refH H' q s :=
  ⟨by rw [he _ h1, h.b], by rw [he _ h2]; exact h.l, by rw [he _ h3, h.r], by rw [he _ h4, h.p]⟩

theorem rwrite_ok (q : BQ) (hq : q.ok) (s : BusS) (hs : s.lens) (a : BitVec 16) (v : BitVec 8) (H : Heap) (n : Nat) (K : AV → Heap → Nat → Prop) (hh : refH H q s) (h : K (.tu []) (refPut H q (writeB s a v)) n) :
    ACalls Try.prog 16 [.pt q.b 0, .u16 a, .u8 v] H n K := by
  refine ACalls.of_ev dr16 Try.func16 rfl (by decide +kernel) (by decide +kernel) (show 3 ≤ 41 by decide) (by simp) fun wf => ?_
  have hb := hh.b
  obtain ⟨el, ro, hl⟩ := hh.l
  have hbn := (wf _ _ hb).1
  have hln := (wf _ _ hl).1
  have hrn := (wf _ _ hh.r).1
  have hpn := (wf _ _ hh.p).1
  have hal := a.isLt
  obtain ⟨m0, m1, m2, m3, hm⟩ := map4 hs
  have fin : ∀ (H1 : Heap) s', writeB s a v = s' → refH H1 q s' → (∀ i, i < n → i ≠ q.b → i ≠ q.r → i ≠ q.p → H1 i = H i) → Fin n (.tu []) H1 n K := fun H1 s' he hr hf => by
    rw [he] at h
    exact Fin.back (refPut_wf wf hbn hln hrn hpn s') h (fun i hi => refPut_eq hr hf i hi) rfl
  have w8 : ((a.toNat : Nat) : Int).tmod 8192 = ((a.toNat % 8192 : Nat) : Int) := by rw [Int.tmod_eq_emod_of_nonneg (by omega)]; omega
  have lt8 : a.toNat % 8192 < 8192 := Nat.mod_lt _ (by decide)
  have lt8' : ((a.toNat % 8192 : Nat) : Int) < 8192 := by omega
  have nn8 : (0 : Int) ≤ ((a.toNat % 8192 : Nat) : Int) := by omega
  have hur : ∀ x, H.upd q.r x q.b = some (refB q s) := fun x => by rw [Heap.upd_ne _ _ hq.br, hb]
  simp only [go_sem, Try.f16, hb, refB, refC, hm, List.map_cons, List.map_nil, hh.r, byB, w8, lt8, lt8', nn8, hs.ram, List.length_map, hur]
  unfold writeB at fin
  refine ⟨fun a1 => ⟨by omega, fun a2 => ?_, fun a2 => ?_⟩, fun a1 => ?_⟩
  · have w65 : wrap64 (((a.toNat : Nat) : Int) - 65532) = ((a.toNat - 65532 : Nat) : Int) := by rw [wrap_id _ (by omega) (by omega)]; omega
    rw [w65, Int.toNat_natCast]
    refine ⟨by omega, by omega, by omega, ?_⟩
    refine fin _ { s with ram := s.ram.set (a.toNat % 8192) v, mapper := s.mapper.set (a.toNat - 65532) v } ?_ ⟨?_, ?_, ?_, ?_⟩ (fun i hi n1 n2 n3 => by rw [Heap.upd_ne _ _ n1, Heap.upd_ne _ _ n2])
    · rw [if_pos (by omega), if_pos (by omega)]
    · rw [Heap.upd_same, refB, refC, Nat.add_comm 3]
      simp only [List.set_cons_succ, List.map_set, hm, List.map_cons, List.map_nil]
    · rw [Heap.upd_ne _ _ hq.bl.symm, Heap.upd_ne _ _ hq.lr]; exact ⟨el, ro, hl⟩
    · rw [Heap.upd_ne _ _ hq.br.symm, Heap.upd_same, byB, List.map_set]
    · rw [Heap.upd_ne _ _ hq.bp.symm, Heap.upd_ne _ _ hq.rp.symm, hh.p]
  · refine fin _ { s with ram := s.ram.set (a.toNat % 8192) v } ?_ ⟨?_, ?_, ?_, ?_⟩ (fun i hi n1 n2 n3 => by rw [Heap.upd_ne _ _ n2])
    · rw [if_pos (by omega), if_neg (by omega)]
    · rw [Heap.upd_ne _ _ hq.br, hb]; rfl
    · rw [Heap.upd_ne _ _ hq.lr]; exact ⟨el, ro, hl⟩
    · rw [Heap.upd_same, byB, List.map_set]
    · rw [Heap.upd_ne _ _ hq.rp.symm, hh.p]
  refine rpaper_ok q s hs a _ _ _ hb ?_
  cases hsh : sheetS s a with
  | some i =>
    have hi := sheetS_lt hsh
    have hi' : (i : Int) < 32768 := by omega
    simp only [go_sem, hb, refB, refC, hm, List.map_cons, List.map_nil]
    refine rpaper_ok q s hs a _ _ _ hb ?_
    rw [hsh]
    simp only [go_sem, hb, refB, refC, hm, List.map_cons, List.map_nil, hh.p, byB, hi, hi', hs.paper, List.length_map]
    refine ⟨by omega, ?_⟩
    refine fin _ { s with paper := s.paper.set i v } ?_ ⟨?_, ?_, ?_, ?_⟩ (fun i hi n1 n2 n3 => by rw [Heap.upd_ne _ _ n3])
    · rw [if_neg (by omega), hsh]
    · rw [Heap.upd_ne _ _ hq.bp, hb]; rfl
    · rw [Heap.upd_ne _ _ hq.lp]; exact ⟨el, ro, hl⟩
    · rw [Heap.upd_ne _ _ hq.rp, hh.r]
    · rw [Heap.upd_same, byB, List.map_set]
  | none =>
    simp only [go_sem]
    refine fin _ s ?_ hh (fun _ _ _ _ _ => rfl)
    rw [if_neg (by omega), hsh]

theorem rnew_ok (lb : Nat) (l : List (BitVec 8)) (el : TypeId) (ro : Bool) (H : Heap) (n : Nat) (K : AV → Heap → Nat → Prop) (hl : H lb = some ⟨l.map .u8, el, ro⟩) (h : K (.pt (n + 2) 0) (refPut H ⟨n + 2, lb, n, n + 1, false, false, 8192, 32768⟩ (newB l)) (n + 3)) :
    ACalls Try.prog 13 [.sl lb 0 l.length l.length] H n K := by
  refine ACalls.of_ev dr13 Try.func13 rfl (by decide +kernel) (by decide +kernel) (show 1 ≤ 9 by decide) (by simp) fun wf => ?_
  have hln := (wf _ _ hl).1
  simp only [go_sem, Try.f13]
  have e1 : byB (newB l).ram = ⟨repCells 8192 [AV.u8 0#8], 5, false⟩ := by rw [rep_u8]; rfl
  have e2 : byB (newB l).paper = ⟨repCells 32768 [AV.u8 0#8], 5, false⟩ := by rw [rep_u8]; rfl
  refine Fin.keep ?_
  rw [← e1, ← e2, Heap.upd_swap _ _ _ (show n + 1 ≠ n + 2 by omega), Heap.upd_swap _ _ _ (show n ≠ n + 2 by omega)]
  exact h

theorem rdump_ok (q : BQ) (hq : q.ok) (s : BusS) (hs : s.lens) (H : Heap) (n : Nat) (K : AV → Heap → Nat → Prop) (hh : refH H q s) (h : K (.su n 0 40964 1) (H.upd n (some (byB (dumpB s)))) (n + 1)) :
    ACalls Try.prog 23 [.pt q.b 0] H n K := by
  refine ACalls.of_ev dr23 Try.func23 rfl (by decide +kernel) (by decide +kernel) (show 1 ≤ 21 by decide) (by simp) fun wf => ?_
  have hb := hh.b
  have hbn := (wf _ _ hb).1
  have hrn := (wf _ _ hh.r).1
  have hpn := (wf _ _ hh.p).1
  obtain ⟨m0, m1, m2, m3, hm⟩ := map4 hs
  have hl2 := dumpB_len hs
  have hl3 : (s.ram ++ s.paper).length = 40960 := by simp [hs.ram, hs.paper]
  have hr := hh.r
  have hp := hh.p
  obtain ⟨b, l, r, p, ru, pu, rc, pc⟩ := q
  have hrc := hq.rc
  have hpc := hq.pc
  simp only at hb hr hp hrn hpn hbn hrc hpc ⊢
  cases ru <;> cases pu
  all_goals
    simp only [refB, refC, vw_true, vw_false] at hb
    simp only [go_sem, Try.f23, hb, hbn, hr, hp, hrn, hpn, byB, hm, List.map_cons, List.map_nil, hs.ram, hs.paper, List.length_map]
  all_goals
    refine ⟨Nat.zero_le _, by rw [← List.map_append, List.length_map, hl3]; exact Nat.le_refl _, ?_⟩
    have e : List.take 40960 (List.map AV.u8 s.ram ++ List.map AV.u8 s.paper) ++ [AV.u8 m0, AV.u8 m1, AV.u8 m2, AV.u8 m3] = (dumpB s).map .u8 := by
      rw [← List.map_append, take_map_all hl3, dumpB, hm]; simp
    rw [e]
    exact Fin.one (n + 3) wf h (by omega) (by simp only [go_sem, byB]) (fun i hi => by simp only [go_sem, hi]) map_u8_ok (by simp [AV.ren]) (by simp [AV.ok])

theorem mix_set {e m : List (BitVec 8)} {k i : Nat} (he : e.length = k) (hm : m.length = k) (hi : i < k) : (e.take i ++ m.drop i).set i (e.getD i 0#8) = e.take (i + 1) ++ m.drop (i + 1) := by
  subst he
  rw [List.set_append_right _ _ (by rw [List.length_take]; omega), List.length_take, Nat.min_eq_left (by omega), Nat.sub_self, List.drop_eq_getElem_cons (show i < m.length by omega), List.set_cons_zero,
    List.take_succ_eq_append_getElem hi, List.append_assoc, List.getD_eq_getElem?_getD, List.getElem?_eq_getElem hi]
  rfl
theorem slice_getD (d : List (BitVec 8)) (o k i : Nat) (hi : i < k) : ((d.drop o).take k).getD i 0#8 = d.getD (o + i) 0#8 := by
  rw [List.getD_eq_getElem?_getD, List.getElem?_take, if_pos hi, List.getElem?_drop, List.getD_eq_getElem?_getD]

theorem rload_ok (q : BQ) (hq : q.ok) (s : BusS) (hs : s.lens) (v : AV) (d : List (BitVec 8)) (H : Heap) (n : Nat) (K : AV → Heap → Nat → Prop) (hh : refH H q s) (hv : bytesIn (H.upd q.b none) v d) (hm : d.length ≤ 4294967296)
    (h : if d.length = 40964 then ∀ (q' : BQ) (H' : Heap) (n' : Nat), n ≤ n' → H'.wf n' → q'.ok → q'.b = q.b → q'.l = q.l → n ≤ q'.r → n ≤ q'.p → refH H' q' (loadB' s d) → (∀ i, i < n → i ≠ q.b → H' i = H i) → K (.i64 0) H' n' else K (.i64 21) H n) :
    ACalls Try.prog 24 [.pt q.b 0, v] H n K := by
  refine ACalls.of_awp Try.func24 rfl (by decide +kernel) (show 2 ≤ 37 by decide) (by simp [hv.ne]) fun wf => ?_
  have hb := hh.b
  have hbn := (wf _ _ hb).1
  have hlb : ∀ K, lenB (some .slice) v K = K (.i64 d.length) := lenB_bytes hv
  refine awp_step dr0 (by decide +kernel) ?_
  simp only [go_sem, Try.f24]
  by_cases hlen : d.length = 40964
  rotate_left
  · have hne : ((d.length : Int) != 40964) = true := by rw [bne_iff_ne]; omega
    rw [if_neg hlen] at h
    refine awp_step dr0 (by decide +kernel) ?_
    simp only [go_sem, hlb, hne]
    exact Fin.back wf h (fun _ _ => rfl) rfl
  have hne : ((d.length : Int) != 40964) = false := by rw [hlen]; rfl
  rw [if_pos hlen] at h
  refine awp_step dr0 (by decide +kernel) ?_
  simp only [go_sem, hlb, hne]
  rcases hv with ⟨rfl, rfl⟩ | ⟨su, b2, o, c, blk, rfl, h0, h1, h2, h3⟩
  · simp at hlen
  have hne2 : b2 ≠ q.b := by
    rintro rfl
    rw [Heap.upd_same] at h1
    cases h1
  rw [Heap.upd_ne _ _ hne2] at h1
  have hb2n := (wf _ _ h1).1
  have hix : ixT Try.prog 29 = some (none, false, 1) := by simp only [go_sem]
  obtain ⟨m0, m1, m2, m3, hmm⟩ := map4 hs
  have cutA : ∀ (H1 : Heap) (lo hi : Nat), H1 b2 = some blk → lo ≤ hi → hi ≤ d.length → bytesIn H1 (vw su b2 (o + lo) (hi - lo) (c - lo)) ((d.drop lo).take (hi - lo)) := fun X lo hi hX a1 a2 => bytesIn.cut hX rfl h0 h2 h3 a1 a2
  have l1 : (d.take 8192).length = 8192 := by simp; omega
  have l2 : ((d.drop 8192).take 32768).length = 32768 := by simp; omega
  refine awp_step dr0 (by decide +kernel) ?_
  simp only [go_sem]
  refine slB_vw hix (by simp only [go_sem, hb2n, h1]) h3 h0 0 8192 rfl (by omega) (by omega) ?_
  have c1 : ∀ X, bytesIn (H.upd n X) (vw su b2 (o + 0) 8192 c) (d.take 8192) := fun X => by
    have := cutA (H.upd n X) 0 8192 (by rw [Heap.upd_ne _ _ (by omega), h1]) (by omega) (by omega)
    simpa using this
  simp only [go_sem, appX_bytes (c1 _), srcK_bytes (c1 _), l1, hb, hbn, refB, refC, hmm, List.map_cons, List.map_nil, Nat.sub_zero, true_and]
  refine ⟨by rw [appX_bytes (c1 none)]; trivial, Nat.zero_le _, ?_⟩
  have hz : repCells 0 [AV.u8 0#8] = [] := rfl
  simp only [hz, List.take_zero, List.nil_append]
  refine awp_step dr0 (by decide +kernel) ?_
  simp only [go_sem]
  refine slB_vw hix (by simp only [go_sem, hb2n, h1, Heap.upd_ne _ _ hne2]) h3 h0 8192 40960 rfl (by omega) (by omega) ?_
  have c2 : ∀ X Y Z W, bytesIn ((((H.upd n X).upd (n + 1) Y).upd q.b Z).upd (n + 2) W) (vw su b2 (o + 8192) 32768 (c - 8192)) ((d.drop 8192).take 32768) := fun X Y Z W => 
    cutA _ 8192 40960 (by rw [Heap.upd_ne _ _ (by omega), Heap.upd_ne _ _ hne2, Heap.upd_ne _ _ (by omega), Heap.upd_ne _ _ (by omega), h1]) (by omega) (by omega)
  simp only [go_sem, appX_bytes (c2 _ _ _ _), srcK_bytes (c2 _ _ _ _), l2, hbn, true_and]
  refine ⟨by rw [appX_bytes (c2 none none none none)]; trivial, Nat.zero_le _, ?_⟩
  have hqe : ∀ (r p : Nat), refB ⟨q.b, q.l, r, p, true, true, 8192, 32768⟩ ⟨s.rom, d.take 8192, (d.drop 8192).take 32768, [m0, m1, m2, m3]⟩ = ⟨[.sl q.l 0 s.rom.length s.rom.length, .su r 0 8192 1, .su p 0 32768 1, .u8 m0, .u8 m1, .u8 m2, .u8 m3], 55, false⟩ := fun r p => rfl
  obtain ⟨el, ro, hl⟩ := hh.l
  have hln := (wf _ _ hl).1
  refine awp_gen (fun X => X.wf (n + 4) ∧ X q.b = some (refB ⟨q.b, q.l, n + 1, n + 3, true, true, 8192, 32768⟩ ⟨s.rom, d.take 8192, (d.drop 8192).take 32768, [m0, m1, m2, m3]⟩) ∧ X q.l = some ⟨s.rom.map .u8, el, ro⟩ ∧ X (n + 1) = some (byB (d.take 8192)) ∧ X (n + 3) = some (byB ((d.drop 8192).take 32768)) ∧ ∀ i, i < n → i ≠ q.b → X i = H i) ⟨?_, ?_, ?_, ?_, ?_, ?_⟩ ?_
  · refine Heap.wf_set (Heap.wf_upd (Heap.wf_upd (Heap.wf_set (Heap.wf_upd (Heap.wf_upd wf (by simp)) map_u8_ok) (by omega) ?_) (by simp [repCells])) map_u8_ok) (by omega) ?_
    · intro x hx
      simp only [List.mem_cons, List.not_mem_nil, or_false] at hx
      have := hh.b
      have hokp := (wf _ _ hb).2 (vw q.pu q.p 0 32768 q.pc) (by simp [refB, refC])
      rcases hx with rfl | rfl | rfl | rfl | rfl | rfl | rfl <;> first | rfl | (simp [AV.ok]; done) | (simp [AV.ok]; omega) | exact AV.ok_mono (n := n) (n' := n + 1 + 1) (by omega) _ hokp
    · intro x hx
      simp only [List.mem_cons, List.not_mem_nil, or_false] at hx
      rcases hx with rfl | rfl | rfl | rfl | rfl | rfl | rfl <;> first | rfl | (simp [AV.ok]; done) | (simp [AV.ok]; omega)
  · rw [Heap.upd_same, hqe]
  · rw [Heap.upd_ne _ _ hq.bl.symm, Heap.upd_ne _ _ (by omega), Heap.upd_ne _ _ (by omega), Heap.upd_ne _ _ hq.bl.symm, Heap.upd_ne _ _ (by omega), Heap.upd_ne _ _ (by omega), hl]
  · rw [Heap.upd_ne _ _ (by omega), Heap.upd_ne _ _ (by omega), Heap.upd_ne _ _ (by omega), Heap.upd_ne _ _ (by omega), Heap.upd_same]; rfl
  · rw [Heap.upd_ne _ _ (by omega), Heap.upd_same]; rfl
  · intro i hi hne
    rw [Heap.upd_ne _ _ hne, Heap.upd_ne _ _ (by omega), Heap.upd_ne _ _ (by omega), Heap.upd_ne _ _ hne, Heap.upd_ne _ _ (by omega), Heap.upd_ne _ _ (by omega)]
  rintro X ⟨x1, x2, x3, x4, x5, x6⟩
  have hms : ∀ i, i ≤ 4 → (((d.drop 40960).take 4).take i ++ [m0, m1, m2, m3].drop i).length = 4 := fun i hi => by simp; omega
  refine awp_seq (awp_step dr0 (by decide +kernel) ?_)
  simp only [go_sem]
  refine awp_block ?_
  have hX2 : X b2 = some blk := by rw [x6 _ hb2n hne2, h1]
  refine awp_loopF (S := RS) (fun s => [(0, .pt q.b 0), (1, vw su b2 o d.length c), (23, .i64 s.i)])
    (fun t => X.upd q.b (some (refB ⟨q.b, q.l, n + 1, n + 3, true, true, 8192, 32768⟩ ⟨s.rom, d.take 8192, (d.drop 8192).take 32768, ((d.drop 40960).take 4).take t.i ++ [m0, m1, m2, m3].drop t.i⟩))) (fun _ => n + 4) (fun s => s.i ≤ 4) (fun s => 4 - s.i)
    (fun t _ => ⟨Heap.wf_set x1 (by omega) (refB_ok (by simp only; omega) (by simp only; omega) (by simp only; omega) _), Env.okAt_of2 (by simp [AV.ok, vw_ok (show b2 < n + 4 by omega)]; omega)⟩) ?_ ⟨0⟩ (Nat.zero_le _)
    (Env.le_cons rfl (Env.le_cons rfl (Env.le_cons rfl (Env.le_nil _)))) (fun i hi => by simp only [List.take_zero, List.nil_append, List.drop_zero]; rw [Heap.upd_self x2]) rfl
  rintro ⟨i⟩ hi
  simp only at hi ⊢
  refine awp_step dr0 (by decide +kernel) ?_
  simp only [go_sem]
  refine awp_step dr0 (by decide +kernel) ?_
  simp only [go_sem]
  refine ⟨fun hlt => ?_, fun hlt => ?_⟩
  · have hlt' : i < 4 := by omega
    have w2 : wrap64 ((i : Int) + 1) = ((i + 1 : Nat) : Int) := by rw [wrap_id _ (by omega) (by omega)]; omega
    have w3 : wrap64 (40960 + (i : Int)) = ((40960 + i : Nat) : Int) := by rw [wrap_id _ (by omega) (by omega)]; omega
    have hdl : 40960 + i < d.length := by omega
    have hdl' : ((40960 + i : Nat) : Int) < d.length := by omega
    obtain ⟨q1, q2⟩ := cells_at h2 h3 hdl
    obtain ⟨n0, n1, n2, n3, hn⟩ : ∃ n0 n1 n2 n3, ((d.drop 40960).take 4).take i ++ [m0, m1, m2, m3].drop i = [n0, n1, n2, n3] := by
      have := hms i hi
      match h' : ((d.drop 40960).take 4).take i ++ [m0, m1, m2, m3].drop i, this with
      | [n0, n1, n2, n3], _ => exact ⟨n0, n1, n2, n3, rfl⟩
    have hnext : ([n0, n1, n2, n3] : List (BitVec 8)).set i (d.getD (40960 + i) 0#8) = ((d.drop 40960).take 4).take (i + 1) ++ [m0, m1, m2, m3].drop (i + 1) := by
      rw [← hn, ← slice_getD d 40960 4 i hlt']
      exact mix_set (k := 4) (by simp; omega) rfl hlt'
    have hub : ∀ Y, (X.upd q.b Y) b2 = some blk := fun Y => by rw [Heap.upd_ne _ _ hne2, hX2]
    refine awp_ev dr24 (by decide +kernel) ?_
    simp only [go_sem, hn, w2, w3, hub, hdl, hdl', q1, q2, hlt, hlt', refB, refC, List.map_cons, List.map_nil]
    refine ⟨by omega, ?_⟩
    have hset : ([.sl q.l 0 s.rom.length s.rom.length, .su (n + 1) 0 8192 1, .su (n + 3) 0 32768 1, .u8 n0, .u8 n1, .u8 n2, .u8 n3] : List AV).set (3 + i) (.u8 (d.getD (40960 + i) 0#8)) =
        .sl q.l 0 s.rom.length s.rom.length :: .su (n + 1) 0 8192 1 :: .su (n + 3) 0 32768 1 :: (((d.drop 40960).take 4).take (i + 1) ++ [m0, m1, m2, m3].drop (i + 1)).map .u8 := by
      rw [← hnext, Nat.add_comm 3]
      simp only [List.set_cons_succ, List.map_set, List.map_cons, List.map_nil]
    rw [hset]
    exact Ends.mk ⟨i + 1⟩ ⟨by simp only; omega, by simp only; omega⟩ (Env.le_cons rfl (Env.le_cons rfl (Env.le_cons rfl (Env.le_nil _)))) (fun _ _ => rfl) (Nat.le_refl _) (Nat.le_refl _)
  have hie : i = 4 := by omega
  subst hie
  have hl4 : ((d.drop 40960).take 4).length = 4 := by simp; omega
  rw [List.take_of_length_le (i := 4) (l := (d.drop 40960).take 4) (by rw [hl4]; exact Nat.le_refl _), show [m0, m1, m2, m3].drop 4 = [] from rfl, List.append_nil]
  refine awp_ev dr0 (by decide +kernel) ?_
  simp only [go_sem]
  refine Fin.keep (h ⟨q.b, q.l, n + 1, n + 3, true, true, 8192, 32768⟩ _ _ (by omega) (Heap.wf_set x1 (by omega) (refB_ok (by simp only; omega) (by simp only; omega) (by simp only; omega) _)) ⟨hq.bl, by simp only; omega, by simp only; omega, by simp only; omega, by simp only; omega, by simp only; omega, by simp, by simp⟩ rfl rfl (by simp only; omega) (by simp only; omega) ⟨?_, ?_, ?_, ?_⟩ ?_)
  · exact Heap.upd_same _ _ _
  · rw [Heap.upd_ne _ _ hq.bl.symm]; exact ⟨el, ro, x3⟩
  · rw [Heap.upd_ne _ _ (by simp only; omega)]; exact x4
  · rw [Heap.upd_ne _ _ (by simp only; omega)]; exact x5
  · intro i hi hne'
    rw [Heap.upd_ne _ _ hne']; exact x6 i hi hne'
end Go.Proofs.Joy
namespace Go.Proofs.Joy
open Go.Ab Go.Proofs

set_option maxHeartbeats 1000000
set_option maxRecDepth 20000

def imgB (i : Nat) : BitVec 8 := BitVec.ofNat 8 i ^^^ BitVec.ofNat 8 (i / 256 % 64) * 3#8 ^^^ BitVec.ofNat 8 (i / 16384) * 17#8
def imageL (k : Nat) : List (BitVec 8) := (List.range (16384 * k)).map imgB
theorem imageL_len (k : Nat) : (imageL k).length = 16384 * k := by rw [imageL, List.length_map, List.length_range]
theorem imageL_get {k i : Nat} (h : i < 16384 * k) : (imageL k).getD i 0#8 = imgB i := by
  rw [imageL, List.getD_eq_getElem?_getD, List.getElem?_map, List.getElem?_range h]; rfl

theorem image_ok (k : Nat) (hk : k ≤ 12) (H : Heap) (n : Nat) (K : AV → Heap → Nat → Prop)
    (h : K (.sl n 0 (imageL k).length (imageL k).length) (H.upd n (some (byB (imageL k)))) (n + 1)) : ACalls Try.prog 12 [.i64 (k : Int)] H n K := by
  refine ACalls.of_awp Try.func12 rfl (by decide +kernel) (show 1 ≤ 31 by decide) (by simp) fun wf => ?_
  have hl := imageL_len k
  have w1 : wrap64 (16384 * (k : Int)) = (((imageL k).length : Nat) : Int) := by rw [hl, wrap_id _ (by omega) (by omega)]; omega
  refine awp_step dr0 (by decide +kernel) ?_
  simp only [go_sem, Try.f12]
  refine awp_step dr0 (by decide +kernel) ?_
  simp only [go_sem, w1]
  refine ⟨by omega, by omega, by omega, ?_⟩
  rw [rep_u8, ← fill_zero]
  refine awp_seq (awp_step dr0 (by decide +kernel) ?_)
  simp only [go_sem]
  refine awp_block ?_
  refine awp_loopF (S := RS) (fun s => [(3, .sl n 0 (imageL k).length (imageL k).length), (9, .i64 (imageL k).length), (10, .i64 s.i)]) (fun s => H.upd n (some ⟨(fill (imageL k) s.i).map .u8, 5, false⟩)) (fun _ => n + 1) (fun s => s.i ≤ (imageL k).length) (fun s => (imageL k).length - s.i)
    (fun s _ => ⟨Heap.wf_upd wf map_u8_ok, Env.okAt_of2 (by simp [AV.ok])⟩) ?_ ⟨0⟩ (Nat.zero_le _) (Env.le_cons rfl (Env.le_cons rfl (Env.le_cons rfl (Env.le_nil _)))) (fun _ _ => rfl) rfl
  rintro ⟨i⟩ hi
  simp only at hi ⊢
  refine awp_step dr0 (by decide +kernel) ?_
  simp only [go_sem]
  refine awp_step dr0 (by decide +kernel) ?_
  simp only [go_sem]
  refine ⟨fun hlt => ?_, fun hlt => ?_⟩
  · have hlt' : i < (imageL k).length := by omega
    have w2 : wrap64 ((i : Int) + 1) = ((i + 1 : Nat) : Int) := by rw [wrap_id _ (by omega) (by omega)]; omega
    have w3 : (wrap64 ((i : Int).tdiv 256)).tmod 64 = ((i / 256 % 64 : Nat) : Int) := by
      rw [Int.tdiv_eq_ediv_of_nonneg (by omega), wrap_id _ (by omega) (by omega), Int.tmod_eq_emod_of_nonneg (by omega)]; omega
    have w4 : wrap64 ((i : Int).tdiv 16384) = ((i / 16384 : Nat) : Int) := by
      rw [Int.tdiv_eq_ediv_of_nonneg (by omega), wrap_id _ (by omega) (by omega)]; omega
    have hfl := fill_len hi
    refine awp_ev dr0 (by decide +kernel) ?_
    simp only [go_sem, w2, w3, w4, hlt, hlt', hfl, List.length_map, BitVec.ofInt_natCast]
    have e : ((fill (imageL k) i).map AV.u8).set i (.u8 (imgB i)) = (fill (imageL k) (i + 1)).map .u8 := by
      rw [← List.map_set, ← imageL_get (k := k) (by rw [← hl]; exact hlt'), fill_set hlt']
    simp only [imgB] at e
    refine ⟨by omega, ?_⟩
    rw [e]
    exact Ends.mk ⟨i + 1⟩ ⟨by simp only; omega, by simp only; omega⟩ (Env.le_cons rfl (Env.le_cons rfl (Env.le_cons rfl (Env.le_nil _)))) (fun _ _ => rfl) (Nat.le_refl _) (Nat.le_refl _)
  have hie : i = (imageL k).length := by omega
  subst hie
  rw [fill_all]
  refine awp_ev dr0 (by decide +kernel) ?_
  simp only [go_sem]
  exact Fin.keep h

theorem romL_get (bs : List (BitVec 8)) (i : Nat) : (romL bs).getD i 0#8 = if i < min bs.length 4194304 then bs.getD i 0#8 else 0#8 := by
  unfold romL
  rw [List.getD_eq_getElem?_getD]
  have htl : (bs.take 4194304).length = min bs.length 4194304 := by rw [List.length_take]; omega
  split
  · rename_i hi
    rw [List.getElem?_append_left (by rw [htl]; exact hi), List.getElem?_take, if_pos (by omega), List.getD_eq_getElem?_getD]
  · rename_i hi
    rw [List.getElem?_append_right (by rw [htl]; omega), List.getElem?_replicate]
    split <;> rfl

/-- A cartridge made of an image, and the bus with it. -/
theorem cart_ok (k : Nat) (hk : k ≤ 12) (H : Heap) (n : Nat) (wf : H.wf n) : romIn (((H.upd n (some (byB (imageL k)))).upd (n + 1) (some (byB (romL (imageL k))))).upd (n + 2) (some (romB (n + 1) (romL (imageL k)).length))) (n + 2) (romL (imageL k)) :=
  ⟨romL_ok _, n + 1, 0#32, 0#32, 5, false, Heap.upd_same _ _ _, by rw [Heap.upd_ne _ _ (by omega), Heap.upd_same]; rfl⟩

theorem romAt_img (k : Nat) (hk : 1 ≤ k ∧ k ≤ 12) (bank off : Nat) (hb : bank < romBanks (16384 * k)) : romAt (romL (imageL k)) bank off = if bank * 16384 + off % 16384 < 16384 * k then imgB (bank * 16384 + off % 16384) else 0#8 := by
  have hl := imageL_len k
  have hL := romL_len (imageL k)
  rw [List.length_take, hl, Nat.min_eq_right (by omega)] at hL
  unfold romAt
  rw [hL, Nat.mul_div_cancel _ (by decide)]
  have e : (((bank : Nat) : Int) % ((romBanks (16384 * k) : Nat) : Int) * 16384 + ((off : Nat) : Int) % 16384).toNat = bank * 16384 + off % 16384 := by
    rw [Int.emod_eq_of_lt (by omega) (by omega)]; omega
  rw [e, romL_get, hl, Nat.min_eq_left (by omega)]
  split
  · rename_i h; exact imageL_get h
  · rfl

/-- What the chapter's example comes to. -/
def aliveS : BusS := writeB (writeB (newB (romL (imageL 8))) 65534#16 5#8) 49153#16 9#8
theorem aliveS_eq : aliveS = ⟨romL (imageL 8), ((List.replicate 8192 0#8).set 8190 5#8).set 1 9#8, List.replicate 32768 0#8, [0#8, 0#8, 5#8, 2#8]⟩ := by
  have e1 : writeB (newB (romL (imageL 8))) 65534#16 5#8 = ⟨romL (imageL 8), (List.replicate 8192 0#8).set 8190 5#8, List.replicate 32768 0#8, [0#8, 0#8, 5#8, 2#8]⟩ := by
    rw [writeB, if_pos (by decide), if_pos (by decide)]; rfl
  rw [aliveS, e1, writeB, if_pos (by decide), if_neg (by decide)]
  rfl
theorem banks8 : romBanks (16384 * 8) = 8 := by decide +kernel
theorem alive1 : readB aliveS 16384#16 = 85#8 := by
  rw [aliveS_eq, readB, if_neg (by decide)]
  have : sheetS ⟨romL (imageL 8), ((List.replicate 8192 0#8).set 8190 5#8).set 1 9#8, List.replicate 32768 0#8, [0#8, 0#8, 5#8, 2#8]⟩ 16384#16 = none := by
    unfold sheetS; rw [if_pos (.inl (by decide))]
  rw [this]
  show romAt (romL (imageL 8)) (if (16384#16).toNat < 1024 then 0 else _) _ = _
  rw [if_neg (by decide)]
  have := romAt_img 8 (by decide) 5 0 (by rw [banks8]; decide)
  have e : imgB (5 * 16384 + 0 % 16384) = 85#8 := by decide +kernel
  rw [if_pos (by decide), e] at this
  exact this
theorem alive2 : readB aliveS 57345#16 = 9#8 := by
  rw [aliveS_eq, readB, if_pos (by decide)]
  show ((((List.replicate 8192 0#8).set 8190 5#8).set 1 9#8).getD ((57345#16).toNat % 8192) 0#8) = 9#8
  rw [show (57345#16).toNat % 8192 = 1 by decide, List.getD_eq_getElem?_getD, List.getElem?_set, if_pos rfl, if_pos (by rw [List.length_set, List.length_replicate]; decide)]
  rfl

theorem alive_ok (H : Heap) (n : Nat) (K : AV → Heap → Nat → Prop) (h : K (.bo true) H n) : ACalls Try.prog 9 [] H n K := by
  refine ACalls.of_ev dr0 Try.func9 rfl (by decide +kernel) (by decide +kernel) (show 0 ≤ 25 by decide) (by simp) fun wf => ?_
  simp only [go_sem, Try.f9]
  have hl8 := imageL_len 8
  have h0 := newB_lens (romL (imageL 8))
  have h1 := writeB_lens h0 65534#16 5#8
  have h2 := writeB_lens h1 49153#16 9#8
  refine image_ok 8 (by decide) _ _ _ ?_
  simp only [go_sem]
  refine rom_new (.sl n 0 (imageL 8).length (imageL 8).length) (imageL 8) _ _ _ (.whole (el := 5) (ro := false) (by simp only [go_sem, byB]) rfl (Nat.le_refl _)) (by rw [hl8]; decide) ?_
  simp only [go_sem]
  refine bus_new (n + 2) (romL (imageL 8)) _ _ (by omega) _ ?_
  simp only [go_sem]
  refine bus_write (n + 3) (n + 2) _ h0 _ _ _ _ _ (by simp only [go_sem]) ?_
  simp only [go_sem]
  refine bus_write (n + 3) (n + 2) _ h1 _ _ _ _ _ (by simp only [go_sem]) ?_
  simp only [go_sem]
  rw [show writeB (writeB (newB (romL (imageL 8))) 65534#16 5#8) 49153#16 9#8 = aliveS from rfl] at h2 ⊢
  have hrom : aliveS.rom = romL (imageL 8) := by rw [aliveS, writeB_rom, writeB_rom]; rfl
  have hmap : aliveS.mapper = [0#8, 0#8, 5#8, 2#8] := by rw [aliveS_eq]
  refine bus_read (n + 3) (n + 2) aliveS h2 _ _ _ _ (by simp only [go_sem]) (by rw [hrom]; exact ⟨romL_ok _, n + 1, 0#32, 0#32, 5, false, by simp only [go_sem], by simp only [go_sem]⟩) ?_
  rw [alive1]
  simp only [go_sem]
  refine bus_read (n + 3) (n + 2) aliveS h2 _ _ _ _ (by simp only [go_sem]) (by rw [hrom]; exact ⟨romL_ok _, n + 1, 0#32, 0#32, 5, false, by simp only [go_sem], by simp only [go_sem]⟩) ?_
  rw [alive2]
  simp only [go_sem]
  refine mapper_ok (n + 3) (n + 2) aliveS h2 _ _ _ (by simp only [go_sem]) ?_
  rw [hmap]
  simp only [go_sem, List.map_cons, List.map_nil]
  exact Fin.back wf h (fun i hi => by simp only [go_sem, hi]) rfl
end Go.Proofs.Joy
namespace Go.Proofs.Joy
open Go.Ab Go.Proofs

set_option maxHeartbeats 2000000
set_option maxRecDepth 20000

theorem names_walk (H : Heap) (n : Nat) (K : AV → Heap → Nat → Prop) (h : K (.bo true) H n) : ACalls Try.prog 6 [] H n K := by
  refine ACalls.of_ev dr0 Try.func6 rfl (by decide +kernel) (by decide +kernel) (show 0 ≤ 30 by decide) (by simp) fun wf => ?_
  simp only [go_sem, Try.f6]
  have h0 := newB_lens (romL [])
  refine rom_new .sn [] _ _ _ (.inl ⟨rfl, rfl⟩) (by decide) ?_
  simp only [go_sem]
  refine bus_new (n + 1) (romL []) _ _ (by omega) _ ?_
  simp only [go_sem]
  refine alive_ok _ _ _ ?_
  simp only [go_sem]
  refine bus_load (n + 2) (n + 1) _ h0 .sn [] _ _ _ (by simp only [go_sem]) (.inl ⟨rfl, rfl⟩) (by decide) ?_
  rw [if_neg (by decide), if_neg (by decide)]
  simp only [go_sem]
  rw [rep_u8]
  refine bus_load (n + 2) (n + 1) _ h0 (.sl (n + 3) 0 40965 40965) (List.replicate 40965 0#8) _ _ _ (by simp only [go_sem]) (.whole (el := 5) (ro := false) (by rw [Heap.upd_ne _ _ (by omega)]; simp only [go_sem]) List.length_replicate.symm (Nat.le_refl _)) (by rw [List.length_replicate]; decide) ?_
  rw [if_neg (by rw [List.length_replicate]; decide), if_neg (by rw [List.length_replicate]; decide)]
  simp only [go_sem]
  refine bus_dump (n + 2) (n + 1) _ h0 _ _ _ (by simp only [go_sem]) ?_
  simp only [go_sem]
  exact Fin.back wf h (fun i hi => by simp only [go_sem, hi]) rfl

structure BI (H : Heap) (n b rb bb : Nat) (q : BQ) (s : BusS) (m : Nat) (H1 : Heap) : Prop where
  wf : H1.wf m
  bus : H1 b = some (busB rb s)
  r1 : H1 rb = some (romB bb s.rom.length)
  r2 : H1 bb = some ⟨s.rom.map .u8, 5, false⟩
  rok : romOk s.rom
  ref : refH H1 q s
  ok : q.ok
  lens : s.lens
  o1 : rb < b
  o2 : bb < b
  o3 : b < q.b
  o4 : b < q.l
  o5 : b < q.r
  o6 : b < q.p
  nb : n ≤ b
  old : ∀ i, i < n → H1 i = H i
section
variable {H : Heap} {n b rb bb : Nat} {q : BQ} {s : BusS} {m : Nat} {H1 : Heap}
theorem BI.rom (h : BI H n b rb bb q s m H1) : romIn H1 rb s.rom := ⟨h.rok, bb, _, _, _, _, h.r1, h.r2⟩
theorem BI.bm (h : BI H n b rb bb q s m H1) : b < m := (h.wf _ _ h.bus).1
theorem BI.qb (h : BI H n b rb bb q s m H1) : q.b < m := (h.wf _ _ h.ref.b).1
theorem BI.ql (h : BI H n b rb bb q s m H1) : q.l < m := by obtain ⟨_, _, hl⟩ := h.ref.l; exact (h.wf _ _ hl).1
theorem BI.qr (h : BI H n b rb bb q s m H1) : q.r < m := (h.wf _ _ h.ref.r).1
theorem BI.qp (h : BI H n b rb bb q s m H1) : q.p < m := (h.wf _ _ h.ref.p).1
theorem BI.refu (h : BI H n b rb bb q s m H1) (X : Option Blk) : refH (H1.upd b X) q s := h.ref.out (Nat.ne_of_lt h.o3) (Nat.ne_of_lt h.o4) (Nat.ne_of_lt h.o5) (Nat.ne_of_lt h.o6) X
theorem BI.both (h : BI H n b rb bb q s m H1) {s' : BusS} (hs : s'.lens) (hr : s'.rom = s.rom) : BI H n b rb bb q s' m (refPut (H1.upd b (some (busB rb s'))) q s') := by
  have o1 := h.o1; have o2 := h.o2; have o3 := h.o3; have o4 := h.o4; have o5 := h.o5; have o6 := h.o6; have nb := h.nb
  have lo : ∀ i, i < b → refPut (H1.upd b (some (busB rb s'))) q s' i = H1 i := fun i hi => by
    rw [refPut_ne _ _ _ (by omega) (by omega) (by omega), Heap.upd_ne _ _ (by omega)]
  obtain ⟨el, ro, hl⟩ := h.ref.l
  have hrm := (h.wf _ _ h.r1).1
  refine ⟨refPut_wf (Heap.wf_set h.wf h.bm (BusS.cells_ok _ hrm)) h.qb h.ql h.qr h.qp _, ?_, ?_, ?_, by rw [hr]; exact h.rok, refPut_h h.ok ⟨el, ro, ?_⟩, h.ok, hs, o1, o2, o3, o4, o5, o6, nb, fun i hi => by rw [lo i (by omega)]; exact h.old i hi⟩
  · rw [refPut_ne _ _ _ (by omega) (by omega) (by omega), Heap.upd_same]
  · rw [lo _ o1, hr]; exact h.r1
  · rw [lo _ o2, hr]; exact h.r2
  · rw [Heap.upd_ne _ _ (by omega), hr]; exact hl
end

/-- The two consoles' memories, new. -/
theorem BI.new (H : Heap) (n p : Nat) (hp : n ≤ p) (l : List (BitVec 8)) (hl : romOk l) (X : Heap) (wf : X.wf (p + 9))
    (h1 : X (p + 3) = some (busB (p + 2) (newB l))) (h2 : X (p + 2) = some (romB (p + 1) l.length)) (h3 : X (p + 1) = some ⟨l.map .u8, 5, false⟩) (h4 : ∃ el ro, X (p + 5) = some ⟨l.map .u8, el, ro⟩)
    (h5 : X (p + 8) = some (refB ⟨p + 8, p + 5, p + 6, p + 7, false, false, 8192, 32768⟩ (newB l))) (h6 : X (p + 6) = some (byB (newB l).ram)) (h7 : X (p + 7) = some (byB (newB l).paper)) (ho : ∀ i, i < n → X i = H i) :
    BI H n (p + 3) (p + 2) (p + 1) ⟨p + 8, p + 5, p + 6, p + 7, false, false, 8192, 32768⟩ (newB l) (p + 9) X :=
  ⟨wf, h1, h2, h3, hl, ⟨h5, h4, h6, h7⟩, ⟨by simp, by simp, by simp, by simp, by simp, by simp, by simp, by simp⟩, newB_lens l, by omega, by omega, by simp only; omega, by simp only; omega, by simp only; omega, by simp only; omega, by omega, ho⟩

def setH (H0 : Heap) (p k : Nat) : Heap :=
  refPut ((((((H0.upd p (some (byB (imageL k)))).upd (p + 1) (some (byB (romL (imageL k))))).upd (p + 2) (some (romB (p + 1) (romL (imageL k)).length))).upd (p + 3) (some (busB (p + 2) (newB (romL (imageL k)))))).upd (p + 4) (some (byB (imageL k)))).upd (p + 5) (some (byB (romL (imageL k))))) ⟨p + 8, p + 5, p + 6, p + 7, false, false, 8192, 32768⟩ (newB (romL (imageL k)))
theorem setH_old (H0 : Heap) (p k : Nat) {i : Nat} (hi : i < p) : setH H0 p k i = H0 i := by
  unfold setH
  rw [refPut_ne _ _ _ (by simp only; omega) (by simp only; omega) (by simp only; omega)]
  rw [Heap.upd_ne _ _ (by omega), Heap.upd_ne _ _ (by omega), Heap.upd_ne _ _ (by omega), Heap.upd_ne _ _ (by omega), Heap.upd_ne _ _ (by omega), Heap.upd_ne _ _ (by omega)]
theorem setH_BI (H H0 : Heap) (n p k : Nat) (hp : n ≤ p) (wf : H0.wf p) (ho : ∀ i, i < n → H0 i = H i) : BI H n (p + 3) (p + 2) (p + 1) ⟨p + 8, p + 5, p + 6, p + 7, false, false, 8192, 32768⟩ (newB (romL (imageL k))) (p + 9) (setH H0 p k) := by
  have low : ∀ i, i < p + 6 → setH H0 p k i = ((((((H0.upd p (some (byB (imageL k)))).upd (p + 1) (some (byB (romL (imageL k))))).upd (p + 2) (some (romB (p + 1) (romL (imageL k)).length))).upd (p + 3) (some (busB (p + 2) (newB (romL (imageL k)))))).upd (p + 4) (some (byB (imageL k)))).upd (p + 5) (some (byB (romL (imageL k))))) i := fun i hi => by
    unfold setH
    rw [refPut_ne _ _ _ (by simp only; omega) (by simp only; omega) (by simp only; omega)]
  have hq : (⟨p + 8, p + 5, p + 6, p + 7, false, false, 8192, 32768⟩ : BQ).ok := ⟨by simp, by simp, by simp, by simp, by simp, by simp, by simp, by simp⟩
  have hr : refH (setH H0 p k) ⟨p + 8, p + 5, p + 6, p + 7, false, false, 8192, 32768⟩ (newB (romL (imageL k))) := refPut_h hq ⟨5, false, Heap.upd_same _ _ _⟩
  refine BI.new H n p hp _ (romL_ok _) _ ?_ ?_ ?_ ?_ hr.l hr.b hr.r hr.p (fun i hi => by rw [setH_old _ _ _ (by omega), ho i hi])
  · refine refPut_wf (Heap.wf_mono (Heap.wf_upd (Heap.wf_upd (Heap.wf_upd (Heap.wf_upd (Heap.wf_upd (Heap.wf_upd wf map_u8_ok) map_u8_ok) ?_) ?_) map_u8_ok) map_u8_ok) (show p + 6 ≤ p + 9 by omega)) (by simp) (by simp) (by simp) (by simp) _
    · simp [romB, AV.ok]
    · exact BusS.cells_ok _ (by omega)
  · rw [low _ (by omega), Heap.upd_ne _ _ (by omega), Heap.upd_ne _ _ (by omega), Heap.upd_same]
  · rw [low _ (by omega), Heap.upd_ne _ _ (by omega), Heap.upd_ne _ _ (by omega), Heap.upd_ne _ _ (by omega), Heap.upd_same]
  · rw [low _ (by omega), Heap.upd_ne _ _ (by omega), Heap.upd_ne _ _ (by omega), Heap.upd_ne _ _ (by omega), Heap.upd_ne _ _ (by omega), Heap.upd_same]; rfl

structure BSt where
  i : Nat
  s : BusS
  H : Heap

theorem sees_walk (banks : Int) (m0 m1 m2 m3 : BitVec 8) (a : BitVec 16) (H : Heap) (n : Nat) (K : AV → Heap → Nat → Prop) (h : K (.bo true) H n) :
    ACalls Try.prog 3 [.i64 banks, .ag [.u8 m0, .u8 m1, .u8 m2, .u8 m3], .u16 a] H n K := by
  refine ACalls.of_awp Try.func3 rfl (by decide +kernel) (show 3 ≤ 61 by decide) (by simp) fun wf => ?_
  refine awp_step dr0 (by decide +kernel) ?_
  simp only [go_sem, Try.f3]
  refine awp_step dr0 (by decide +kernel) ?_
  simp only [go_sem]
  refine alive_ok _ _ _ ?_
  simp only [go_sem]
  refine awp_seqF (S := Unit) (fun _ => [(0, .i64 banks), (2, .u16 a), (4, .pt n 0)]) (fun _ => H.upd n (some ⟨[.u8 m0, .u8 m1, .u8 m2, .u8 m3], 22, false⟩)) (fun _ => n + 1) (fun _ => 0 ≤ banks ∧ banks ≤ 12)
    (fun _ _ => ⟨Heap.wf_upd wf (by simp [AV.ok]), Env.okAt_of2 (by simp [AV.ok])⟩) ?_ ?_
  · refine awp_ev dr0 (by decide +kernel) ?_
    simp only [go_sem]
    have fin : Fin n (.bo true) (H.upd n (some ⟨[.u8 m0, .u8 m1, .u8 m2, .u8 m3], 22, false⟩)) (n + 1) K := Fin.back wf h (fun i hi => by simp only [go_sem, hi]) rfl
    exact ⟨fun a1 => ⟨fun _ => fin, fun a2 => Ends.mk () ⟨by omega, by omega⟩ (Env.le_cons rfl (Env.le_cons rfl (Env.le_cons rfl (Env.le_nil _)))) (fun _ _ => rfl) (Nat.le_refl _) (Nat.le_refl _)⟩, fun _ => fin⟩
  rintro - ⟨b1, b2⟩
  obtain ⟨k, rfl⟩ := Int.eq_ofNat_of_zero_le b1
  have hk : k ≤ 12 := by omega
  have hl := imageL_len k
  refine awp_step dr0 (by decide +kernel) ?_
  simp only [go_sem]
  refine image_ok k hk _ _ _ ?_
  simp only [go_sem]
  refine rom_new (.sl (n + 1) 0 (imageL k).length (imageL k).length) (imageL k) _ _ _ (.whole (el := 5) (ro := false) (by simp only [go_sem, byB]) rfl (Nat.le_refl _)) (by rw [hl]; omega) ?_
  simp only [go_sem]
  refine bus_new (n + 3) (romL (imageL k)) _ _ (by omega) _ ?_
  simp only [go_sem]
  refine awp_step dr0 (by decide +kernel) ?_
  simp only [go_sem]
  refine image_ok k hk _ _ _ ?_
  simp only [go_sem]
  refine ref_new (.sl (n + 5) 0 (imageL k).length (imageL k).length) (imageL k) _ _ _ (.whole (el := 5) (ro := false) (by simp only [go_sem, byB]) rfl (Nat.le_refl _)) (by rw [hl]; omega) ?_
  simp only [go_sem]
  refine rnew_ok (n + 6) (romL (imageL k)) 5 false _ _ _ (by simp only [go_sem]) ?_
  simp only [go_sem]
  refine awp_gen (fun X => BI H n (n + 4) (n + 3) (n + 2) ⟨n + 9, n + 6, n + 7, n + 8, false, false, 8192, 32768⟩ (newB (romL (imageL k))) (n + 10) X ∧ X n = some ⟨[.u8 m0, .u8 m1, .u8 m2, .u8 m3], 22, false⟩) ⟨?_, ?_⟩ ?_
  · exact setH_BI H (H.upd n (some ⟨[.u8 m0, .u8 m1, .u8 m2, .u8 m3], 22, false⟩)) n (n + 1) k (by omega) (Heap.wf_upd wf (by simp [AV.ok])) (fun i hi => Heap.upd_ne _ _ (by omega))
  · refine Eq.trans (setH_old (H.upd n (some ⟨[.u8 m0, .u8 m1, .u8 m2, .u8 m3], 22, false⟩)) (n + 1) k (by omega)) ?_
    rw [Heap.upd_same]
  rintro X ⟨hB, hX⟩
  refine awp_seq (awp_step dr0 (by decide +kernel) ?_)
  simp only [go_sem, hX]
  refine awp_block ?_
  refine awp_loopF (S := BSt) (fun t => [(2, .u16 a), (7, .pt (n + 4) 0), (8, .pt (n + 9) 0), (27, .ag [.u8 m0, .u8 m1, .u8 m2, .u8 m3]), (28, .i64 t.i)]) (fun t => t.H) (fun _ => n + 10)
    (fun t => t.i ≤ 4 ∧ BI H n (n + 4) (n + 3) (n + 2) ⟨n + 9, n + 6, n + 7, n + 8, false, false, 8192, 32768⟩ t.s (n + 10) t.H) (fun t => 4 - t.i)
    (fun t ht => ⟨ht.2.wf, Env.okAt_of2 (by simp [AV.ok, AV.oks, AV.one])⟩) ?_ ⟨0, _, _⟩ ⟨Nat.zero_le _, hB⟩ (Env.le_cons rfl (Env.le_cons rfl (Env.le_cons rfl (Env.le_cons rfl (Env.le_cons rfl (Env.le_nil _)))))) (fun _ _ => rfl) rfl
  rintro ⟨i, s, H1⟩ ⟨hi, hI⟩
  simp only at hi hI ⊢
  refine awp_step dr0 (by decide +kernel) ?_
  simp only [go_sem]
  refine awp_step dr0 (by decide +kernel) ?_
  simp only [go_sem]
  refine ⟨fun hlt => ?_, fun hlt => ?_⟩
  · have hlt' : i < 4 := by omega
    have w2 : wrap64 ((i : Int) + 1) = ((i + 1 : Nat) : Int) := by rw [wrap_id _ (by omega) (by omega)]; omega
    obtain ⟨mi, hmi⟩ : ∃ mi, ([.u8 m0, .u8 m1, .u8 m2, .u8 m3] : List AV).getD i .junk = .u8 mi := by
      obtain rfl | rfl | rfl | rfl : i = 0 ∨ i = 1 ∨ i = 2 ∨ i = 3 := by omega
      all_goals exact ⟨_, rfl⟩
    refine awp_ev dr0 (by decide +kernel) ?_
    simp only [go_sem, w2, hmi, hlt, hlt']
    refine bus_write (n + 4) (n + 3) s hI.lens _ _ _ _ _ hI.bus ?_
    simp only [go_sem]
    refine rwrite_ok ⟨n + 9, n + 6, n + 7, n + 8, false, false, 8192, 32768⟩ hI.ok s hI.lens _ _ _ _ _ (hI.refu _) ?_
    simp only [go_sem, w2]
    exact Ends.mk ⟨i + 1, _, _⟩ ⟨by simp only; omega, by simp only; omega, hI.both (writeB_lens hI.lens _ _) (writeB_rom _ _ _)⟩ (Env.le_cons rfl (Env.le_cons rfl (Env.le_cons rfl (Env.le_cons rfl (Env.le_cons rfl (Env.le_nil _)))))) (fun _ _ => rfl) (Nat.le_refl _) (Nat.le_refl _)
  have hie : i = 4 := by omega
  refine awp_ev dr0 (by decide +kernel) ?_
  simp only [go_sem]
  refine bus_read (n + 4) (n + 3) s hI.lens a _ _ _ hI.bus hI.rom ?_
  simp only [go_sem]
  refine rread_ok ⟨n + 9, n + 6, n + 7, n + 8, false, false, 8192, 32768⟩ s hI.lens hI.rok a _ _ _ hI.ref ?_
  simp only [go_sem, beq_self_eq_true]
  refine bus_read (n + 4) (n + 3) s hI.lens a _ _ _ hI.bus hI.rom ?_
  simp only [go_sem]
  refine bus_read (n + 4) (n + 3) s hI.lens a _ _ _ hI.bus hI.rom ?_
  simp only [go_sem, beq_self_eq_true]
  exact Fin.back wf h hI.old rfl
end Go.Proofs.Joy
namespace Go.Proofs.Joy
open Go.Ab Go.Proofs

set_option maxHeartbeats 2000000
set_option maxRecDepth 20000

theorem writeB_map (s : BusS) (x : BitVec 8) : writeB s 65532#16 x = { s with ram := s.ram.set 8188 x, mapper := s.mapper.set 0 x } := by
  rw [writeB, if_pos (by decide), if_pos (by decide)]; rfl
theorem sheet_in (s : BusS) (a : BitVec 16) (m : BitVec 8) (hm : s.mapper.getD 0 0#8 = m) (ha : 32768 ≤ a.toNat) (ha2 : a.toNat < 49152) (h8 : m &&& 8#8 ≠ 0#8) : sheetS s a = some (a.toNat % 16384 + if m &&& 4#8 = 0#8 then 0 else 16384) := by
  rw [sheetS, hm, if_neg (by rintro (h | h | h); omega; omega; exact h8 h)]
theorem sheet_out (s : BusS) (a : BitVec 16) (hm : s.mapper.getD 0 0#8 = 0#8) : sheetS s a = none := by
  rw [sheetS, hm, if_pos (.inr (.inr (by decide)))]

theorem papers_law (l : List (BitVec 8)) (a : BitVec 16) (ha : 32768 ≤ a.toNat) (ha2 : a.toNat < 49152) (v on other : BitVec 8) (h8 : on &&& 8#8 ≠ 0#8) (h8' : other &&& 8#8 ≠ 0#8)
    (hd : (if on &&& 4#8 = 0#8 then 0 else 16384) ≠ (if other &&& 4#8 = 0#8 then 0 else 16384)) :
    let s0 := newB l; let s2 := writeB (writeB s0 65532#16 on) a v; let s3 := writeB s2 65532#16 other; let s4 := writeB s3 65532#16 0#8; let s6 := writeB (writeB s4 a (v + 1#8)) 65532#16 on
    readB s2 a = v ∧ readB s3 a = 0#8 ∧ readB s4 a = readB s0 a ∧ readB s6 a = v := by
  have hlen : (newB l).paper.length = 32768 := List.length_replicate
  have hi1 : a.toNat % 16384 + (if on &&& 4#8 = 0#8 then 0 else 16384) < 32768 := by split <;> omega
  have n9 : ¬ 49152 ≤ a.toNat := by omega
  have s1 := sheet_in (writeB (newB l) 65532#16 on) a on (by rw [writeB_map]; rfl) ha ha2 h8
  have e2 : writeB (writeB (newB l) 65532#16 on) a v = ⟨l, (newB l).ram.set 8188 on, (newB l).paper.set (a.toNat % 16384 + if on &&& 4#8 = 0#8 then 0 else 16384) v, [on, 0#8, 1#8, 2#8]⟩ := by
    rw [writeB, if_neg n9, s1, writeB_map]; rfl
  intro s0 s2 s3 s4 s6
  have e2' : s2 = _ := e2
  have e3 : s3 = ⟨l, ((newB l).ram.set 8188 on).set 8188 other, (newB l).paper.set (a.toNat % 16384 + if on &&& 4#8 = 0#8 then 0 else 16384) v, [other, 0#8, 1#8, 2#8]⟩ := by
    show writeB s2 _ _ = _
    rw [e2', writeB_map]; rfl
  have e4 : s4 = ⟨l, (((newB l).ram.set 8188 on).set 8188 other).set 8188 0#8, (newB l).paper.set (a.toNat % 16384 + if on &&& 4#8 = 0#8 then 0 else 16384) v, [0#8, 0#8, 1#8, 2#8]⟩ := by
    show writeB s3 _ _ = _
    rw [e3, writeB_map]; rfl
  have e5 : writeB s4 a (v + 1#8) = s4 := by
    rw [writeB, if_neg n9, sheet_out s4 a (by rw [e4]; rfl)]
  have e6 : s6 = ⟨l, ((((newB l).ram.set 8188 on).set 8188 other).set 8188 0#8).set 8188 on, (newB l).paper.set (a.toNat % 16384 + if on &&& 4#8 = 0#8 then 0 else 16384) v, [on, 0#8, 1#8, 2#8]⟩ := by
    show writeB (writeB s4 a (v + 1#8)) _ _ = _
    rw [e5, e4, writeB_map]; rfl
  refine ⟨?_, ?_, ?_, ?_⟩
  · rw [readB, if_neg n9, sheet_in s2 a on (by rw [e2']; rfl) ha ha2 h8, e2']
    simp only
    rw [List.getD_eq_getElem?_getD, List.getElem?_set, if_pos rfl, if_pos (by rw [hlen]; exact hi1)]; rfl
  · rw [readB, if_neg n9, sheet_in s3 a other (by rw [e3]; rfl) ha ha2 h8', e3]
    simp only
    rw [List.getD_eq_getElem?_getD, List.getElem?_set, if_neg (by omega)]
    show ((List.replicate 32768 0#8)[_]?).getD 0#8 = 0#8
    rw [List.getElem?_replicate]
    generalize (a.toNat % 16384 + if other &&& 4#8 = 0#8 then 0 else 16384) = j
    split <;> rfl
  · rw [readB, if_neg n9, sheet_out s4 a (by rw [e4]; rfl), readB, if_neg n9, sheet_out s0 a rfl, e4]
    rfl
  · rw [readB, if_neg n9, sheet_in s6 a on (by rw [e6]; rfl) ha ha2 h8, e6]
    simp only
    rw [List.getD_eq_getElem?_getD, List.getElem?_set, if_pos rfl, if_pos (by rw [hlen]; exact hi1)]; rfl

/-- A bus of the program, and all below n as it was. -/
structure BB (H : Heap) (n b rb bb : Nat) (s : BusS) (m : Nat) (H1 : Heap) : Prop where
  wf : H1.wf m
  bus : H1 b = some (busB rb s)
  r1 : H1 rb = some (romB bb s.rom.length)
  r2 : H1 bb = some ⟨s.rom.map .u8, 5, false⟩
  rok : romOk s.rom
  lens : s.lens
  o1 : rb < b
  o2 : bb < b
  nb : n ≤ b
  old : ∀ i, i < n → H1 i = H i
section
variable {H : Heap} {n b rb bb : Nat} {s : BusS} {m : Nat} {H1 : Heap}
theorem BB.rom (h : BB H n b rb bb s m H1) : romIn H1 rb s.rom := ⟨h.rok, bb, _, _, _, _, h.r1, h.r2⟩
theorem BB.bm (h : BB H n b rb bb s m H1) : b < m := (h.wf _ _ h.bus).1
theorem BB.set (h : BB H n b rb bb s m H1) {s' : BusS} (hs : s'.lens) (hr : s'.rom = s.rom) : BB H n b rb bb s' m (H1.upd b (some (busB rb s'))) :=
  have hrm := (h.wf _ _ h.r1).1
  have o1 := h.o1; have o2 := h.o2; have nb := h.nb
  ⟨Heap.wf_set h.wf h.bm (BusS.cells_ok _ hrm), Heap.upd_same _ _ _, by rw [Heap.upd_ne _ _ (by omega), hr]; exact h.r1, by rw [Heap.upd_ne _ _ (by omega), hr]; exact h.r2, by rw [hr]; exact h.rok, hs, o1, o2, nb,
    fun i hi => by rw [Heap.upd_ne _ _ (by omega)]; exact h.old i hi⟩
theorem BB.write (h : BB H n b rb bb s m H1) (a : BitVec 16) (v : BitVec 8) : BB H n b rb bb (writeB s a v) m (H1.upd b (some (busB rb (writeB s a v)))) := h.set (writeB_lens h.lens a v) (writeB_rom s a v)
end
theorem setB (H H0 : Heap) (n p k : Nat) (hp : n ≤ p) (wf : H0.wf p) (ho : ∀ i, i < n → H0 i = H i) : BB H n (p + 3) (p + 2) (p + 1) (newB (romL (imageL k))) (p + 4)
    ((((H0.upd p (some (byB (imageL k)))).upd (p + 1) (some (byB (romL (imageL k))))).upd (p + 2) (some (romB (p + 1) (romL (imageL k)).length))).upd (p + 3) (some (busB (p + 2) (newB (romL (imageL k)))))) := by
  refine ⟨Heap.wf_upd (Heap.wf_upd (Heap.wf_upd (Heap.wf_upd wf map_u8_ok) map_u8_ok) ?_) ?_, Heap.upd_same _ _ _, ?_, ?_, romL_ok _, newB_lens _, by omega, by omega, by omega, fun i hi => ?_⟩
  · simp [romB, AV.ok]
  · exact BusS.cells_ok _ (by omega)
  · rw [Heap.upd_ne _ _ (by omega), Heap.upd_same]; rfl
  · rw [Heap.upd_ne _ _ (by omega), Heap.upd_ne _ _ (by omega), Heap.upd_same]; rfl
  · rw [Heap.upd_ne _ _ (by omega), Heap.upd_ne _ _ (by omega), Heap.upd_ne _ _ (by omega), Heap.upd_ne _ _ (by omega), ho i hi]

theorem papers_walk (at_ : BitVec 16) (v : BitVec 8) (half : Bool) (H : Heap) (n : Nat) (K : AV → Heap → Nat → Prop) (h : K (.bo true) H n) :
    ACalls Try.prog 4 [.u16 at_, .u8 v, .bo half] H n K := by
  refine ACalls.of_awp Try.func4 rfl (by decide +kernel) (show 3 ≤ 75 by decide) (by simp) fun wf => ?_
  have hl4 := imageL_len 4
  have ha : (32768#16 + at_ % 16384#16).toNat = 32768 + at_.toNat % 16384 := by
    rw [BitVec.toNat_add, BitVec.toNat_umod]; simp; omega
  have h0 := newB_lens (romL (imageL 4))
  refine awp_step dr0 (by decide +kernel) ?_
  simp only [go_sem, Try.f4]
  refine awp_step dr0 (by decide +kernel) ?_
  simp only [go_sem]
  refine alive_ok _ _ _ ?_
  simp only [go_sem]
  refine awp_step dr0 (by decide +kernel) ?_
  simp only [go_sem]
  refine image_ok 4 (by decide) _ _ _ ?_
  simp only [go_sem]
  refine rom_new (.sl n 0 (imageL 4).length (imageL 4).length) (imageL 4) _ _ _ (.whole (el := 5) (ro := false) (by simp only [go_sem, byB]) rfl (Nat.le_refl _)) (by rw [hl4]; decide) ?_
  simp only [go_sem]
  refine bus_new (n + 2) (romL (imageL 4)) _ _ (by omega) _ ?_
  simp only [go_sem]
  refine awp_step dr0 (by decide +kernel) ?_
  simp only [go_sem]
  generalize 32768#16 + at_ % 16384#16 = a at ha
  have ha1 : 32768 ≤ a.toNat := by omega
  have ha2 : a.toNat < 49152 := by omega
  refine awp_gen (fun X => BB H n (n + 3) (n + 2) (n + 1) (newB (romL (imageL 4))) (n + 4) X) (setB H H n n 4 (Nat.le_refl _) wf fun _ _ => rfl) ?_
  intro X hB
  obtain ⟨on, other, hon, hother, f1, f2, f3⟩ : ∃ on other : BitVec 8, on = (if half then 12#8 else 8#8) ∧ other = (if half then 8#8 else 12#8) ∧ on &&& 8#8 ≠ 0#8 ∧ other &&& 8#8 ≠ 0#8 ∧ (if on &&& 4#8 = 0#8 then 0 else 16384) ≠ (if other &&& 4#8 = 0#8 then 0 else 16384) := by
    cases half
    · exact ⟨8#8, 12#8, rfl, rfl, by decide, by decide, by decide⟩
    · exact ⟨12#8, 8#8, rfl, rfl, by decide, by decide, by decide⟩
  refine awp_step dr0 (by decide +kernel) ?_
  simp only [go_sem]
  refine awp_seqF (S := Unit) (fun _ => [(1, .u8 v), (7, .pt (n + 3) 0), (8, .u16 a), (9, .u8 on), (10, .u8 other)]) (fun _ => X) (fun _ => n + 4) (fun _ => True) (fun _ _ => ⟨hB.wf, Env.okAt_of2 (by simp [AV.ok])⟩) ?_ ?_
  · refine awp_ev dr0 (by decide +kernel) ?_
    simp only [go_sem]
    refine ⟨fun hh => ?_, fun hh => ?_⟩
    all_goals
      subst hh
      simp only [if_true, Bool.false_eq_true, if_false] at hon hother
      subst hon hother
      exact Ends.mk () trivial (Env.le_cons rfl (Env.le_cons rfl (Env.le_cons rfl (Env.le_cons rfl (Env.le_cons rfl (Env.le_nil _)))))) (fun _ _ => rfl) (Nat.le_refl _) (Nat.le_refl _)
  rintro - -
  obtain ⟨p1, p2, p3, p4⟩ := papers_law (romL (imageL 4)) a ha1 ha2 v on other f1 f2 f3
  have up : ∀ {s : BusS} (hb : BB H n (n + 3) (n + 2) (n + 1) s (n + 4) (X.upd (n + 3) (some (busB (n + 2) s)))) (c : BitVec 16) (x : BitVec 8), BB H n (n + 3) (n + 2) (n + 1) (writeB s c x) (n + 4) (X.upd (n + 3) (some (busB (n + 2) (writeB s c x)))) := fun {s} hb c x => by
    have := hb.write c x
    simp only [go_sem] at this
    exact this
  have B1 := hB.write 65532#16 on
  have B2 := up B1 a v
  have B3 := up B2 65532#16 other
  have B4 := up B3 65532#16 0#8
  have B5 := up B4 a (v + 1#8)
  have B6 := up B5 65532#16 on
  refine awp_ev dr0 (by decide +kernel) ?_
  simp only [go_sem]
  refine bus_read (n + 3) (n + 2) _ hB.lens a _ _ _ hB.bus hB.rom ?_
  simp only [go_sem]
  refine bus_write (n + 3) (n + 2) _ hB.lens _ _ _ _ _ hB.bus ?_
  simp only [go_sem]
  refine bus_write (n + 3) (n + 2) _ B1.lens _ _ _ _ _ B1.bus ?_
  simp only [go_sem]
  refine bus_read (n + 3) (n + 2) _ B2.lens a _ _ _ B2.bus B2.rom ?_
  simp only [go_sem]
  refine bus_write (n + 3) (n + 2) _ B2.lens _ _ _ _ _ B2.bus ?_
  simp only [go_sem]
  refine bus_read (n + 3) (n + 2) _ B3.lens a _ _ _ B3.bus B3.rom ?_
  simp only [go_sem]
  refine bus_write (n + 3) (n + 2) _ B3.lens _ _ _ _ _ B3.bus ?_
  simp only [go_sem]
  refine bus_read (n + 3) (n + 2) _ B4.lens a _ _ _ B4.bus B4.rom ?_
  simp only [go_sem]
  refine bus_write (n + 3) (n + 2) _ B4.lens _ _ _ _ _ B4.bus ?_
  simp only [go_sem]
  refine bus_write (n + 3) (n + 2) _ B5.lens _ _ _ _ _ B5.bus ?_
  simp only [go_sem, p1, p2, p3, beq_self_eq_true]
  refine bus_read (n + 3) (n + 2) _ B6.lens a _ _ _ B6.bus B6.rom ?_
  simp only [go_sem, p4, beq_self_eq_true]
  exact Fin.back wf h B6.old rfl
end Go.Proofs.Joy
namespace Go.Proofs.Joy
open Go.Ab Go.Proofs

set_option maxHeartbeats 2000000
set_option maxRecDepth 20000

theorem shows_law (R : List (BitVec 8)) (slot off : Nat) (hs : slot < 3) (ho : off < 16384) (x : BitVec 8) (c a : BitVec 16) (hc : c.toNat = 65533 + slot) (ha : a.toNat = slot * 16384 + off) :
    readB (writeB (newB R) c x) a = if slot = 0 ∧ off < 1024 then romAt R 0 off else romAt R x.toNat off := by
  have e : writeB (newB R) c x = ⟨R, (newB R).ram.set (c.toNat % 8192) x, (newB R).paper, [0#8, 0#8, 1#8, 2#8].set (slot + 1) x⟩ := by
    rw [writeB, if_pos (by omega), if_pos (by omega), show c.toNat - 65532 = slot + 1 by omega]; rfl
  rw [e, readB, if_neg (by omega), sheet_out _ _ (by rw [List.getD_eq_getElem?_getD, List.getElem?_set, if_neg (by omega)]; rfl)]
  simp only
  have d : a.toNat / 16384 = slot := by omega
  have m : a.toNat % 16384 = off := by omega
  rw [d, m, Nat.add_comm 1 slot]
  have g : ([0#8, 0#8, 1#8, 2#8].set (slot + 1) x).getD (slot + 1) 0#8 = x := by
    rw [List.getD_eq_getElem?_getD, List.getElem?_set, if_pos rfl, if_pos (by simp; omega)]; rfl
  rw [g]
  by_cases h : slot = 0 ∧ off < 1024
  · rw [if_pos (by omega), if_pos h]
  · rw [if_neg (by omega), if_neg h]

theorem rom_at' {rb : Nat} {l : List (BitVec 8)} {H : Heap} (hr : romIn H rb l) (bank off : Int) (n : Nat) (K : AV → Heap → Nat → Prop) (h : K (.u8 (romAt l bank off)) H n) : ACalls Try.prog 19 [.pt rb 0, .i64 bank, .i64 off] H n K := by
  obtain ⟨hro, bb, d, sm, el, ro, h1, h2⟩ := hr
  exact rom_at rb bb l hro d sm el ro bank off H n K h1 h2 h
theorem rom_banks' {rb : Nat} {l : List (BitVec 8)} {H : Heap} (hr : romIn H rb l) (n : Nat) (K : AV → Heap → Nat → Prop) (h : K (.i64 (l.length / 16384 : Nat)) H n) : ACalls Try.prog 20 [.pt rb 0] H n K := by
  obtain ⟨⟨j, hj, hlen⟩, bb, d, sm, el, ro, h1, h2⟩ := hr
  have : 2 ^ j ≤ 2 ^ 8 := Nat.pow_le_pow_right (by decide) hj
  exact rom_banks rb bb l.length d sm (by omega) H n K h1 h
theorem romAt_tmod (l : List (BitVec 8)) (x : Nat) (off : Int) : romAt l (((x : Nat) : Int).tmod ((l.length / 16384 : Nat) : Int)) off = romAt l x off := by
  unfold romAt
  rw [Int.tmod_eq_emod_of_nonneg (by omega), Int.emod_emod_of_dvd _ (Int.dvd_refl _)]

theorem shows_walk (banks slot : Int) (w0 w1 : BitVec 16) (H : Heap) (n : Nat) (K : AV → Heap → Nat → Prop) (h : K (.bo true) H n) :
    ACalls Try.prog 5 [.i64 banks, .i64 slot, .ag [.u16 w0, .u16 w1]] H n K := by
  refine ACalls.of_awp Try.func5 rfl (by decide +kernel) (show 3 ≤ 85 by decide) (by simp) fun wf => ?_
  refine awp_step dr0 (by decide +kernel) ?_
  simp only [go_sem, Try.f5]
  refine awp_step dr0 (by decide +kernel) ?_
  simp only [go_sem]
  refine alive_ok _ _ _ ?_
  simp only [go_sem]
  refine awp_seqF (S := Unit) (fun _ => [(0, .i64 banks), (1, .i64 slot), (5, .pt n 0)]) (fun _ => H.upd n (some ⟨[.u16 w0, .u16 w1], 41, false⟩)) (fun _ => n + 1) (fun _ => 1 ≤ banks ∧ banks ≤ 12 ∧ 0 ≤ slot ∧ slot ≤ 2)
    (fun _ _ => ⟨Heap.wf_upd wf (by simp [AV.ok]), Env.okAt_of2 (by simp [AV.ok])⟩) ?_ ?_
  · have fin : Fin n (.bo true) (H.upd n (some ⟨[.u16 w0, .u16 w1], 41, false⟩)) (n + 1) K := Fin.back wf h (fun i hi => by simp only [go_sem, hi]) rfl
    refine awp_ev dr0 (by decide +kernel) ?_
    simp only [go_sem]
    exact ⟨fun a1 => ⟨fun a2 => ⟨fun a3 => ⟨fun _ => fin, fun a4 => Ends.mk () ⟨by omega, by omega, by omega, by omega⟩ (Env.le_cons rfl (Env.le_cons rfl (Env.le_cons rfl (Env.le_nil _)))) (fun _ _ => rfl) (Nat.le_refl _) (Nat.le_refl _)⟩, fun _ => fin⟩, fun _ => fin⟩, fun _ => fin⟩
  rintro - ⟨b1, b2, b3, b4⟩
  obtain ⟨k, rfl⟩ := Int.eq_ofNat_of_zero_le (show 0 ≤ banks by omega)
  obtain ⟨sl, rfl⟩ := Int.eq_ofNat_of_zero_le b3
  have hk : k ≤ 12 := by omega
  have hl := imageL_len k
  refine awp_step dr0 (by decide +kernel) ?_
  simp only [go_sem]
  refine image_ok k hk _ _ _ ?_
  simp only [go_sem]
  refine rom_new (.sl (n + 1) 0 (imageL k).length (imageL k).length) (imageL k) _ _ _ (.whole (el := 5) (ro := false) (by simp only [go_sem, byB]) rfl (Nat.le_refl _)) (by rw [hl]; omega) ?_
  simp only [go_sem]
  refine awp_step dr0 (by decide +kernel) ?_
  simp only [go_sem]
  refine bus_new (n + 3) (romL (imageL k)) _ _ (by omega) _ ?_
  simp only [go_sem]
  refine awp_gen (fun X => BB H n (n + 4) (n + 3) (n + 2) (newB (romL (imageL k))) (n + 5) X ∧ X n = some ⟨[.u16 w0, .u16 w1], 41, false⟩) ⟨setB H (H.upd n (some ⟨[.u16 w0, .u16 w1], 41, false⟩)) n (n + 1) k (by omega) (Heap.wf_upd wf (by simp [AV.ok])) (fun i hi => Heap.upd_ne _ _ (by omega)), by simp only [go_sem]⟩ ?_
  rintro X ⟨hB, hX⟩
  have hR := romL_ok (imageL k)
  generalize hRR : romL (imageL k) = R at hB hR
  have t1 : (65533#16 + BitVec.ofInt 16 (sl : Int)).toNat = 65533 + sl := by rw [BitVec.ofInt_natCast, BitVec.toNat_add, BitVec.toNat_ofNat]; simp; omega
  have t2 : (BitVec.ofInt 16 (sl : Int) * 16384#16 + w0 % 16384#16).toNat = sl * 16384 + w0.toNat % 16384 := by
    rw [BitVec.ofInt_natCast, BitVec.toNat_add, BitVec.toNat_mul, BitVec.toNat_ofNat, BitVec.toNat_umod]; simp; omega
  have t3 : (w0 % 16384#16).toNat = w0.toNat % 16384 := by rw [BitVec.toNat_umod]; rfl
  have ho : w0.toNat % 16384 < 16384 := Nat.mod_lt _ (by decide)
  have law := fun x => shows_law R sl (w0.toNat % 16384) (by omega) ho x _ _ t1 t2
  have Bw := fun x => hB.write (65533#16 + BitVec.ofInt 16 (sl : Int)) x
  have hXn : ∀ Y, (X.upd (n + 4) Y) n = some ⟨[.u16 w0, .u16 w1], 41, false⟩ := fun Y => by rw [Heap.upd_ne _ _ (by omega), hX]
  refine awp_ev dr0 (by decide +kernel) ?_
  simp only [go_sem, hX]
  refine bus_write (n + 4) (n + 3) _ hB.lens _ _ _ _ _ hB.bus ?_
  simp only [go_sem, hXn]
  refine bus_read (n + 4) (n + 3) _ (Bw _).lens _ _ _ _ (Bw _).bus (Bw _).rom ?_
  simp only [go_sem, hXn, law, t3]
  have hin : ∀ x, romIn (X.upd (n + 4) (some (busB (n + 3) (writeB (newB R) (65533#16 + BitVec.ofInt 16 (sl : Int)) x)))) (n + 3) R := fun x => by
    have := (Bw x).rom; rw [writeB_rom] at this; exact this
  have hB0 : ((R.length / 16384 : Nat) : Int) ≠ 0 := by
    obtain ⟨j, hj, hlen⟩ := hR
    have := Nat.one_le_two_pow (n := j); omega
  have old : ∀ x, ∀ i, i < n → (X.upd (n + 4) (some (busB (n + 3) (writeB (newB R) (65533#16 + BitVec.ofInt 16 (sl : Int)) x)))) i = H i := fun x => (Bw x).old
  have lt : ∀ x : BitVec 16, w0 % 16384#16 < 1024#16 ↔ w0.toNat % 16384 < 1024 := fun x => by rw [BitVec.lt_def, t3]; rfl
  have last : ∀ (hn : ¬ (sl = 0 ∧ w0.toNat % 16384 < 1024)), (if sl = 0 ∧ w0.toNat % 16384 < 1024 then romAt R 0 ((w0.toNat % 16384 : Nat) : Int) else romAt R ((BitVec.setWidth 8 w1).toNat : Int) ((w0.toNat % 16384 : Nat) : Int)) = romAt R ((BitVec.setWidth 8 w1).toNat : Int) ((w0.toNat % 16384 : Nat) : Int) := fun hn => if_neg hn
  refine ⟨fun c1 => ⟨fun c2 => ?_, fun c2 => ?_⟩, fun c1 => ?_⟩
  · simp only [beq_iff_eq] at c1
    refine rom_at' (hin _) _ _ _ _ ?_
    rw [if_pos ⟨by omega, (lt w0).1 c2⟩]
    simp only [go_sem, beq_self_eq_true]
    exact Fin.back wf h (old _) rfl
  all_goals
    simp only [beq_iff_eq, beq_eq_false_iff_ne, ne_eq] at c1
    rw [last (by rintro ⟨e1, e2⟩; first | exact c2 ((lt w0).2 e2) | exact c1 (by omega))]
    refine rom_at' (hin _) _ _ _ _ ?_
    simp only [go_sem, beq_self_eq_true, hXn, t3]
    refine rom_banks' (hin _) _ _ ?_
    simp only [go_sem, hB0, not_false_eq_true, true_and, ne_eq, hXn, t3]
    refine rom_at' (hin _) _ _ _ _ ?_
    rw [romAt_tmod]
    simp only [go_sem, beq_self_eq_true]
    exact Fin.back wf h (old _) rfl
end Go.Proofs.Joy
namespace Go.Proofs.Joy
open Go.Ab Go.Proofs

set_option maxHeartbeats 2000000
set_option maxRecDepth 20000

/-- How many of the first bytes differ. -/
def cnt (a b : List (BitVec 8)) : Nat → Nat
  | 0 => 0
  | i + 1 => cnt a b i + if a.getD i 0#8 = b.getD i 0#8 then 0 else 1
theorem cnt_le (a b : List (BitVec 8)) (i : Nat) : cnt a b i ≤ i := by
  induction i with
  | zero => exact Nat.le_refl _
  | succ i ih => simp only [cnt]; split <;> omega
theorem cnt_zero (a : List (BitVec 8)) (i : Nat) : cnt a a i = 0 := by
  induction i with
  | zero => rfl
  | succ i ih => simp only [cnt, ih, if_true]
theorem cnt_one (a b : List (BitVec 8)) (x : Nat) (h : ∀ j, j ≠ x → a.getD j 0#8 = b.getD j 0#8) (i : Nat) : cnt a b i ≤ if x < i then 1 else 0 := by
  induction i with
  | zero => exact Nat.zero_le _
  | succ i ih =>
    simp only [cnt]
    by_cases hx : i = x
    · subst hx
      rw [if_neg (Nat.lt_irrefl _)] at ih
      rw [if_pos (Nat.lt_succ_self _)]
      split <;> omega
    · rw [if_pos (h i hx)]
      split at ih
      · rw [if_pos (by omega)]; omega
      · rw [if_neg (by omega)]; omega
def ind (x i : Nat) : Nat := if x < i then 1 else 0
theorem ind_up (x i : Nat) : ind x i ≤ ind x (i + 1) := by unfold ind; split <;> split <;> omega
theorem ind_self (i : Nat) : ind i i = 0 ∧ ind i (i + 1) = 1 := by unfold ind; exact ⟨if_neg (by omega), if_pos (by omega)⟩
theorem ind_one (x i : Nat) : ind x i ≤ 1 := by unfold ind; split <;> omega
theorem cnt_two (a b : List (BitVec 8)) (x y : Nat) (h : ∀ j, j ≠ x → j ≠ y → a.getD j 0#8 = b.getD j 0#8) (i : Nat) : cnt a b i ≤ ind x i + ind y i := by
  induction i with
  | zero => exact Nat.zero_le _
  | succ i ih =>
    have s1 : cnt a b (i + 1) ≤ cnt a b i + 1 := by simp only [cnt]; split <;> omega
    have u1 := ind_up x i
    have u2 := ind_up y i
    by_cases hx : i = x
    · subst hx
      have := ind_self i; omega
    · by_cases hy : i = y
      · subst hy
        have := ind_self i; omega
      · have : cnt a b (i + 1) = cnt a b i := by simp only [cnt, if_pos (h i hx hy), Nat.add_zero]
        omega

theorem set_other {l : List (BitVec 8)} {k j : Nat} {x : BitVec 8} (h : j ≠ k) : (l.set k x).getD j 0#8 = l.getD j 0#8 := by
  rw [List.getD_eq_getElem?_getD, List.getElem?_set, if_neg (Ne.symm h), List.getD_eq_getElem?_getD]

theorem dumpB_get {s : BusS} (h : s.lens) (j : Nat) : (dumpB s).getD j 0#8 = if j < 8192 then s.ram.getD j 0#8 else if j < 40960 then s.paper.getD (j - 8192) 0#8 else s.mapper.getD (j - 40960) 0#8 := by
  unfold dumpB
  split
  · exact getD_app_l (by rw [h.ram]; assumption)
  · rw [getD_app_r (by rw [h.ram]; omega), h.ram]
    split
    · exact getD_app_l (by rw [h.paper]; omega)
    · rw [getD_app_r (by rw [h.paper]; omega), h.paper, Nat.sub_sub]

theorem keeps_two {s : BusS} (h : s.lens) (a : BitVec 16) (v : BitVec 8) : cnt (dumpB s) (dumpB (writeB s a v)) 40964 ≤ 2 ∧ (a.toNat < 65532 → cnt (dumpB s) (dumpB (writeB s a v)) 40964 ≤ 1) ∧
    (a.toNat < 49152 → sheetS s a = none → cnt (dumpB s) (dumpB (writeB s a v)) 40964 = 0) := by
  have hw := writeB_lens h a v
  by_cases h1 : 49152 ≤ a.toNat
  · by_cases h2 : 65532 ≤ a.toNat
    · refine ⟨?_, fun h3 => by omega, fun h3 => by omega⟩
      refine Nat.le_trans (cnt_two _ _ (a.toNat % 8192) (40960 + (a.toNat - 65532)) (fun j hx hy => ?_) 40964) (by have := ind_one (a.toNat % 8192) 40964; have := ind_one (40960 + (a.toNat - 65532)) 40964; omega)
      rw [dumpB_get h, dumpB_get hw, writeB, if_pos h1, if_pos h2]
      simp only
      split
      · rw [set_other hx]
      · split
        · rfl
        · rw [set_other (by omega)]
    · have one : cnt (dumpB s) (dumpB (writeB s a v)) 40964 ≤ 1 := by
        refine Nat.le_trans (cnt_one _ _ (a.toNat % 8192) (fun j hx => ?_) 40964) (by split <;> omega)
        rw [dumpB_get h, dumpB_get hw, writeB, if_pos h1, if_neg h2]
        simp only
        split
        · rw [set_other hx]
        · rfl
      exact ⟨by omega, fun _ => one, fun h3 => by omega⟩
  · cases hs : sheetS s a with
    | some i =>
      have one : cnt (dumpB s) (dumpB (writeB s a v)) 40964 ≤ 1 := by
        refine Nat.le_trans (cnt_one _ _ (8192 + i) (fun j hx => ?_) 40964) (by split <;> omega)
        rw [dumpB_get h, dumpB_get hw, writeB, if_neg h1, hs]
        simp only
        split
        · rfl
        · split
          · rw [set_other (by omega)]
          · rfl
      exact ⟨by omega, fun _ => one, fun _ hn => by cases hn⟩
    | none =>
      have z : cnt (dumpB s) (dumpB (writeB s a v)) 40964 = 0 := by rw [writeB, if_neg h1, hs]; exact cnt_zero _ _
      exact ⟨by omega, fun _ => by omega, fun _ _ => z⟩

theorem keeps_read {s : BusS} (h : s.lens) (a : BitVec 16) (v : BitVec 8) (hw : 49152 ≤ a.toNat ∨ ∃ i, sheetS s a = some i) : readB (writeB s a v) a = v := by
  have hal := a.isLt
  by_cases h1 : 49152 ≤ a.toNat
  · rw [readB, if_pos h1, writeB, if_pos h1]
    simp only
    rw [List.getD_eq_getElem?_getD, List.getElem?_set, if_pos rfl, if_pos (by rw [h.ram]; exact Nat.mod_lt _ (by decide))]; rfl
  · obtain ⟨i, hi⟩ := hw.resolve_left h1
    have e : writeB s a v = { s with paper := s.paper.set i v } := by rw [writeB, if_neg h1, hi]
    have e2 : sheetS (writeB s a v) a = some i := by rw [e, ← hi]; rfl
    rw [readB, if_neg h1, e2, e]
    simp only
    rw [List.getD_eq_getElem?_getD, List.getElem?_set, if_pos rfl, if_pos (by rw [h.paper]; exact sheetS_lt hi)]; rfl
theorem xor_mirror (a : BitVec 16) (h : 49152 ≤ a.toNat) : 49152 ≤ (a ^^^ 8192#16).toNat ∧ (a ^^^ 8192#16).toNat % 8192 = a.toNat % 8192 := by
  have e : (a ^^^ 8192#16).toNat = a.toNat ^^^ 8192 := by rw [BitVec.toNat_xor]; rfl
  have hal := a.isLt
  rw [e]
  have h1 : (a.toNat ^^^ 8192) >>> 14 = a.toNat >>> 14 := by rw [Nat.shiftRight_xor_distrib]; simp
  have h2 : (a.toNat ^^^ 8192) % 2 ^ 13 = a.toNat % 2 ^ 13 := by rw [Nat.xor_mod_two_pow]; simp
  rw [Nat.shiftRight_eq_div_pow, Nat.shiftRight_eq_div_pow] at h1
  exact ⟨by omega, h2⟩
theorem keeps_mirror {s : BusS} (h : s.lens) (a : BitVec 16) (v : BitVec 8) (hw : 49152 ≤ a.toNat) : readB (writeB s a v) (a ^^^ 8192#16) = v := by
  obtain ⟨x1, x2⟩ := xor_mirror a hw
  rw [readB, if_pos x1, writeB, if_pos hw, x2]
  simp only
  rw [List.getD_eq_getElem?_getD, List.getElem?_set, if_pos rfl, if_pos (by rw [h.ram]; exact Nat.mod_lt _ (by decide))]; rfl
theorem loadB_dump {s : BusS} (h : s.lens) (s2 : BusS) (hr : s2.rom = s.rom) : loadB' s2 (dumpB s) = s := by
  unfold loadB' dumpB
  have e1 : (s.ram ++ (s.paper ++ s.mapper)).take 8192 = s.ram := List.take_left' h.ram
  have e2 : (s.ram ++ (s.paper ++ s.mapper)).drop 8192 = s.paper ++ s.mapper := List.drop_left' h.ram
  have e3 : (s.ram ++ (s.paper ++ s.mapper)).drop 40960 = s.mapper := by
    rw [show 40960 = 8192 + 32768 from rfl, ← List.drop_drop, e2]; exact List.drop_left' h.paper
  rw [e1, e2, e3, List.take_left' h.paper, List.take_of_length_le (by rw [h.mapper]; exact Nat.le_refl _), hr]

theorem BB.grow {H : Heap} {n b rb bb : Nat} {s : BusS} {m m' : Nat} {H1 H2 : Heap} (h : BB H n b rb bb s m H1) (wf : H2.wf m') (ho : ∀ i, i < m → H2 i = H1 i) : BB H n b rb bb s m' H2 :=
  have bm := h.bm
  ⟨wf, by rw [ho _ bm]; exact h.bus, by rw [ho _ (Nat.lt_trans h.o1 bm)]; exact h.r1, by rw [ho _ (Nat.lt_trans h.o2 bm)]; exact h.r2, h.rok, h.lens, h.o1, h.o2, h.nb, fun i hi => by rw [ho _ (by have := h.nb; omega)]; exact h.old i hi⟩

structure KS where
  i : Nat
structure KW where
  w : Bool

theorem keeps_walk (m : BitVec 8) (a : BitVec 16) (v : BitVec 8) (H : Heap) (n : Nat) (K : AV → Heap → Nat → Prop) (h : K (.bo true) H n) :
    ACalls Try.prog 8 [.u8 m, .u16 a, .u8 v] H n K := by
  refine ACalls.of_awp Try.func8 rfl (by decide +kernel) (show 3 ≤ 109 by decide) (by simp) fun wf => ?_
  have hl4 := imageL_len 4
  refine awp_step dr0 (by decide +kernel) ?_
  simp only [go_sem, Try.f8]
  refine awp_step dr0 (by decide +kernel) ?_
  simp only [go_sem]
  refine alive_ok _ _ _ ?_
  simp only [go_sem]
  refine awp_step dr0 (by decide +kernel) ?_
  simp only [go_sem]
  refine image_ok 4 (by decide) _ _ _ ?_
  simp only [go_sem]
  refine rom_new (.sl n 0 (imageL 4).length (imageL 4).length) (imageL 4) _ _ _ (.whole (el := 5) (ro := false) (by simp only [go_sem, byB]) rfl (Nat.le_refl _)) (by rw [hl4]; decide) ?_
  simp only [go_sem]
  refine bus_new (n + 2) (romL (imageL 4)) _ _ (by omega) _ ?_
  simp only [go_sem]
  refine awp_gen (fun X => BB H n (n + 3) (n + 2) (n + 1) (newB (romL (imageL 4))) (n + 4) X) (setB H H n n 4 (Nat.le_refl _) wf fun _ _ => rfl) ?_
  intro X hB
  refine awp_step dr0 (by decide +kernel) ?_
  simp only [go_sem]
  refine bus_write (n + 3) (n + 2) _ hB.lens _ _ _ _ _ hB.bus ?_
  simp only [go_sem]
  have hB1 := hB.write 65532#16 m
  have hm0 : (writeB (newB (romL (imageL 4))) 65532#16 m).mapper.getD 0 0#8 = m := by rw [writeB_map]; rfl
  generalize writeB (newB (romL (imageL 4))) 65532#16 m = s1 at hB1 hm0
  generalize X.upd (n + 3) (some (busB (n + 2) s1)) = X1 at hB1
  refine awp_step dr0 (by decide +kernel) ?_
  simp only [go_sem]
  refine bus_dump (n + 3) (n + 2) _ hB1.lens _ _ _ hB1.bus ?_
  simp only [go_sem]
  refine awp_step dr0 (by decide +kernel) ?_
  simp only [go_sem]
  refine bus_write (n + 3) (n + 2) s1 hB1.lens _ _ _ _ _ (by rw [Heap.upd_ne _ _ (by omega)]; exact hB1.bus) ?_
  simp only [go_sem]
  refine awp_step dr0 (by decide +kernel) ?_
  simp only [go_sem]
  refine bus_dump (n + 3) (n + 2) _ (writeB_lens hB1.lens a v) _ _ _ (Heap.upd_same _ _ _) ?_
  simp only [go_sem]
  have hw := writeB_lens hB1.lens a v
  refine awp_gen (fun Y => BB H n (n + 3) (n + 2) (n + 1) (writeB s1 a v) (n + 6) Y ∧ Y (n + 4) = some ⟨(dumpB s1).map .u8, 5, false⟩ ∧ Y (n + 5) = some ⟨(dumpB (writeB s1 a v)).map .u8, 5, false⟩) ⟨?_, ?_, Heap.upd_same _ _ _⟩ ?_
  · have g1 : BB H n (n + 3) (n + 2) (n + 1) s1 (n + 5) (X1.upd (n + 4) (some ⟨(dumpB s1).map .u8, 5, false⟩)) := hB1.grow (Heap.wf_upd hB1.wf map_u8_ok) fun i hi => Heap.upd_ne _ _ (by omega)
    have g2 := g1.write a v
    exact g2.grow (Heap.wf_upd g2.wf map_u8_ok) fun i hi => Heap.upd_ne _ _ (by omega)
  · rw [Heap.upd_ne _ _ (by omega), Heap.upd_ne _ _ (by omega), Heap.upd_same]
  rintro Y ⟨hB2, y1, y2⟩
  refine awp_step dr0 (by decide +kernel) ?_
  simp only [go_sem]
  refine awp_seq (awp_step dr0 (by decide +kernel) ?_)
  simp only [go_sem]
  refine awp_block ?_
  have hd1 := dumpB_len hB1.lens
  have hd2 := dumpB_len hw
  refine awp_loopF (S := KS) (fun t => [(0, .u8 m), (1, .u16 a), (2, .u8 v), (7, .pt (n + 3) 0), (8, .su (n + 4) 0 40964 1), (9, .su (n + 5) 0 40964 1), (10, .i64 (cnt (dumpB s1) (dumpB (writeB s1 a v)) t.i)), (29, .su (n + 4) 0 40964 1), (30, .i64 40964), (31, .i64 t.i)]) (fun _ => Y) (fun _ => n + 6)
    (fun t => t.i ≤ 40964) (fun t => 40964 - t.i)
    (fun t ht => ⟨hB2.wf, Env.okAt_of2 (by simp [AV.ok])⟩) ?_ ⟨0⟩ (Nat.zero_le _) (Env.le_cons rfl (Env.le_cons rfl (Env.le_cons rfl (Env.le_cons rfl (Env.le_cons rfl (Env.le_cons rfl (Env.le_cons rfl (Env.le_cons rfl (Env.le_cons rfl (Env.le_cons rfl (Env.le_nil _))))))))))) (fun _ _ => rfl) rfl
  rintro ⟨i⟩ hi
  simp only at hi ⊢
  refine awp_step dr0 (by decide +kernel) ?_
  simp only [go_sem]
  refine awp_step dr0 (by decide +kernel) ?_
  simp only [go_sem]
  refine ⟨fun hlt => ?_, fun hlt => ?_⟩
  · have hlt' : i < 40964 := by omega
    have w2 : wrap64 ((i : Int) + 1) = ((i + 1 : Nat) : Int) := by rw [wrap_id _ (by omega) (by omega)]; omega
    have hc := cnt_le (dumpB s1) (dumpB (writeB s1 a v)) i
    have w3 : wrap64 (((cnt (dumpB s1) (dumpB (writeB s1 a v)) i : Nat) : Int) + 1) = ((cnt (dumpB s1) (dumpB (writeB s1 a v)) i + 1 : Nat) : Int) := by rw [wrap_id _ (by omega) (by omega)]; omega
    have g1 : ((dumpB s1).map AV.u8).getD i .junk = .u8 ((dumpB s1).getD i 0#8) := getD_map_u8' (by rw [hd1]; exact hlt')
    have g2 : ((dumpB (writeB s1 a v)).map AV.u8).getD i .junk = .u8 ((dumpB (writeB s1 a v)).getD i 0#8) := getD_map_u8' (by rw [hd2]; exact hlt')
    refine awp_ev dr8 (by decide +kernel) ?_
    simp only [go_sem, y1, y2, hd1, hd2, g1, g2, hlt, hlt', w2, w3, List.length_map]
    refine ⟨fun c => ?_, fun c => ?_⟩
    · refine Ends.mk ⟨i + 1⟩ ⟨by simp only; omega, by simp only; omega⟩ (Env.le_cons rfl (Env.le_cons rfl (Env.le_cons rfl (Env.le_cons rfl (Env.le_cons rfl (Env.le_cons rfl (Env.le_cons ?_ (Env.le_cons rfl (Env.le_cons rfl (Env.le_cons rfl (Env.le_nil _))))))))))) (fun _ _ => rfl) (Nat.le_refl _) (Nat.le_refl _)
      simp only [cnt]; rw [if_neg (by simpa using c)]; rfl
    · refine Ends.mk ⟨i + 1⟩ ⟨by simp only; omega, by simp only; omega⟩ (Env.le_cons rfl (Env.le_cons rfl (Env.le_cons rfl (Env.le_cons rfl (Env.le_cons rfl (Env.le_cons rfl (Env.le_cons ?_ (Env.le_cons rfl (Env.le_cons rfl (Env.le_cons rfl (Env.le_nil _))))))))))) (fun _ _ => rfl) (Nat.le_refl _) (Nat.le_refl _)
      simp only [cnt]; rw [if_pos (by simpa using c)]; rfl
  have hie : i = 40964 := by omega
  subst hie
  obtain ⟨k1, k2, k3⟩ := keeps_two hB1.lens a v
  generalize cnt (dumpB s1) (dumpB (writeB s1 a v)) 40964 = c at k1 k2 k3
  have hal := a.isLt
  refine awp_seqF (S := KW) (fun t => [(0, .u8 m), (1, .u16 a), (2, .u8 v), (7, .pt (n + 3) 0), (8, .su (n + 4) 0 40964 1), (10, .i64 c), (12, .bo t.w)]) (fun _ => Y) (fun _ => n + 6) (fun t => t.w = true ↔ (49152 ≤ a.toNat ∨ ∃ i, sheetS s1 a = some i))
    (fun _ _ => ⟨hB2.wf, Env.okAt_of2 (by simp [AV.ok])⟩) ?_ ?_
  · refine awp_ev dr0 (by decide +kernel) ?_
    simp only [go_sem]
    refine ⟨fun a1 => ⟨fun a2 => ?_, fun a2 => ?_⟩, fun a1 => ?_⟩
    · have c1 : ¬ 49152 ≤ a.toNat := fun hx => a1 (BitVec.le_def.2 hx)
      have c2 : 32768 ≤ a.toNat := BitVec.le_def.1 a2
      refine Ends.mk ⟨m &&& 8#8 != 0#8⟩ ?_ (Env.le_cons rfl (Env.le_cons rfl (Env.le_cons rfl (Env.le_cons rfl (Env.le_cons rfl (Env.le_cons rfl (Env.le_cons rfl (Env.le_nil _)))))))) (fun _ _ => rfl) (Nat.le_refl _) (Nat.le_refl _)
      simp only [bne_iff_ne, ne_eq]
      constructor
      · intro h8; exact .inr ⟨_, sheet_in s1 a m hm0 c2 (by omega) h8⟩
      · rintro (hx | ⟨i, hx⟩)
        · exact absurd hx c1
        · intro h8
          rw [sheetS, hm0, if_pos (.inr (.inr h8))] at hx; cases hx
    · have c1 : ¬ 49152 ≤ a.toNat := fun hx => a1 (BitVec.le_def.2 hx)
      have c2 : ¬ 32768 ≤ a.toNat := fun hx => a2 (BitVec.le_def.2 hx)
      refine Ends.mk ⟨false⟩ ?_ (Env.le_cons rfl (Env.le_cons rfl (Env.le_cons rfl (Env.le_cons rfl (Env.le_cons rfl (Env.le_cons rfl (Env.le_cons rfl (Env.le_nil _)))))))) (fun _ _ => rfl) (Nat.le_refl _) (Nat.le_refl _)
      simp only [Bool.false_eq_true, false_iff]
      rintro (hx | ⟨i, hx⟩)
      · exact c1 hx
      · rw [sheetS, if_pos (.inl (by omega))] at hx; cases hx
    · have c1 : 49152 ≤ a.toNat := BitVec.le_def.1 a1
      exact Ends.mk ⟨true⟩ (by simp [c1]) (Env.le_cons rfl (Env.le_cons rfl (Env.le_cons rfl (Env.le_cons rfl (Env.le_cons rfl (Env.le_cons rfl (Env.le_cons rfl (Env.le_nil _)))))))) (fun _ _ => rfl) (Nat.le_refl _) (Nat.le_refl _)
  rintro ⟨w⟩ hwr
  simp only at hwr ⊢
  refine awp_seqF (S := Unit) (fun _ => [(7, .pt (n + 3) 0), (8, .su (n + 4) 0 40964 1)]) (fun _ => Y) (fun _ => n + 6) (fun _ => True)
    (fun _ _ => ⟨hB2.wf, Env.okAt_of2 (by simp [AV.ok])⟩) ?_ ?_
  · have hc2 : ((2 : Int) < (c : Int)) = False := eq_false (by omega)
    have rd := fun hx => keeps_read hB1.lens a v hx
    have mir := fun hx => keeps_mirror hB1.lens a v hx
    have fin : ∀ (e : Env), e.get 7 = .pt (n + 3) 0 → e.get 8 = .su (n + 4) 0 40964 1 → Go.Ab.Ends (fun _ : Unit => [(7, .pt (n + 3) 0), (8, .su (n + 4) 0 40964 1)]) (fun _ => Y) (fun _ => n + 6) (fun _ => True) (n + 6) e Y (n + 6) := fun e e1 e2 =>
      Go.Ab.Ends.mk () trivial (Env.le_cons e1 (Env.le_cons e2 (Env.le_nil _))) (fun _ _ => rfl) (Nat.le_refl _) (Nat.le_refl _)
    by_cases a1 : a < 65532#16
    · have c1 : a.toNat < 65532 := BitVec.lt_def.1 a1
      have hc1 : ((1 : Int) < (c : Int)) = False := eq_false (by have := k2 c1; omega)
      cases w
      · have hc0 : c = 0 := by
          have hn : ¬ (49152 ≤ a.toNat ∨ ∃ i, sheetS s1 a = some i) := fun hx => Bool.noConfusion (hwr.2 hx)
          refine k3 (Nat.lt_of_not_le fun hx => hn (.inl hx)) ?_
          cases hs : sheetS s1 a with
          | none => rfl
          | some i => exact absurd (.inr ⟨i, hs⟩) hn
        have a2 : ¬ 49152#16 ≤ a := fun hx => Bool.noConfusion (hwr.2 (.inl (BitVec.le_def.1 hx)))
        subst hc0
        refine awp_ev dr0 (by decide +kernel) ?_
        simp only [go_sem, a1, a2, decide_true, decide_false, Int.natCast_zero, Int.reduceLT]
        exact fin _ rfl rfl
      · by_cases a2 : 49152#16 ≤ a
        · refine awp_ev dr0 (by decide +kernel) ?_
          simp only [go_sem, a1, a2, hc1, hc2, decide_true, decide_false]
          refine bus_read (n + 3) (n + 2) _ hB2.lens a _ _ _ hB2.bus hB2.rom ?_
          rw [rd (hwr.1 rfl)]
          simp only [go_sem, bne_self_eq_false, a2, hc2, decide_true, decide_false]
          refine bus_read (n + 3) (n + 2) _ hB2.lens (a ^^^ 8192#16) _ _ _ hB2.bus hB2.rom ?_
          rw [mir (BitVec.le_def.1 a2)]
          simp only [go_sem, bne_self_eq_false, hc2, decide_true, decide_false]
          exact fin _ rfl rfl
        · refine awp_ev dr0 (by decide +kernel) ?_
          simp only [go_sem, a1, a2, hc1, hc2, decide_true, decide_false]
          refine bus_read (n + 3) (n + 2) _ hB2.lens a _ _ _ hB2.bus hB2.rom ?_
          rw [rd (hwr.1 rfl)]
          simp only [go_sem, bne_self_eq_false, a2, hc2, decide_true, decide_false]
          exact fin _ rfl rfl
    · have c1 : ¬ a.toNat < 65532 := fun hx => a1 (BitVec.lt_def.2 hx)
      have a2 : 49152#16 ≤ a := BitVec.le_def.2 (by show 49152 ≤ a.toNat; omega)
      refine awp_ev dr0 (by decide +kernel) ?_
      simp only [go_sem, a1, a2, hc2, decide_true, decide_false]
      refine bus_read (n + 3) (n + 2) _ hB2.lens (a ^^^ 8192#16) _ _ _ hB2.bus hB2.rom ?_
      rw [mir (BitVec.le_def.1 a2)]
      simp only [go_sem, bne_self_eq_false, hc2, decide_true, decide_false]
      exact fin _ rfl rfl
  rintro - -
  refine awp_seq (awp_tree td8_18 tr8_18 (by decide +kernel) (by decide +kernel) ?_)
  simp only [go_sem]
  refine bus_load (n + 3) (n + 2) _ hB2.lens (.su (n + 4) 0 40964 1) (dumpB s1) _ _ _ hB2.bus (.wholeU (el := 5) (ro := false) (by rw [Heap.upd_ne _ _ (by omega)]; exact y1) hd1.symm) (by rw [hd1]; decide) ?_
  rw [if_pos hd1, if_pos hd1, loadB_dump hB1.lens _ (writeB_rom s1 a v)]
  have y1' : ∀ Z, (Y.upd (n + 3) Z) (n + 4) = some ⟨(dumpB s1).map .u8, 5, false⟩ := fun Z => by rw [Heap.upd_ne _ _ (by omega)]; exact y1
  have old := hB2.old
  simp only [go_sem, y1', y1, hd1, List.length_map]
  repeat' first
    | with_reducible refine And.intro ?_ ?_
    | (refine bus_dump (n + 3) (n + 2) s1 hB1.lens _ _ _ (by simp only [go_sem]) ?_
       simp only [go_sem, y1', y1, hd1, List.length_map, beq_self_eq_true])
    | (refine awp_ev dr0 (by decide +kernel) ?_
       simp only [go_sem]
       exact Fin.back wf h (fun i hi => by
         have e1 : i < n + 3 := by omega
         have e2 : i < n + 6 := by omega
         simp only [go_sem, e1, e2, old i hi]) rfl)
end Go.Proofs.Joy
namespace Go.Proofs.Joy
open Go.Ab Go.Proofs

def shB : AK := .one (.k (.int .u8))
def shW : AK := .one (.k (.int .u16))
theorem keeps_all (H : Heap) (n : Nat) (L : List AV) (_ : RO H) (_ : H.wf n) (_ : ∀ x ∈ L, x.ok n = true) (hf : fitAs H [shB, shW, shB] L) : ACalls Try.prog 8 L H n fun v _ _ => v = .bo true := by
  match L, hf with
  | [a, b, c], ⟨h1, h2, h3, _⟩ =>
    obtain ⟨x, rfl⟩ := fitA_u8 h1
    obtain ⟨y, rfl⟩ := fitA_u16 h2
    obtain ⟨z, rfl⟩ := fitA_u8 h3
    exact keeps_walk _ _ _ _ _ _ rfl
end Go.Proofs.Joy
