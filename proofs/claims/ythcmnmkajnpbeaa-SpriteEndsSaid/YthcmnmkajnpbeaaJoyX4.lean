/- Parts of the proof: contracts of the seat's functions. -/
import Derived.Test.YthcmnmkajnpbeaaJoyW2
import Derived.Test.YthcmnmkajnpbeaaProg
import Derived.KernelRfl
import Derived.Test.YthcmnmkajnpbeaaJoyW3
set_option linter.unusedSimpArgs false
set_option linter.unusedVariables false
namespace Go.Proofs.Joy
open Go.Ab Go.Proofs
@[go_sem] theorem F.ty45 : tyA Try.prog 45 = some (true, 8) := by kernel_rfl
@[go_sem] theorem F.ty4 : tyA Try.prog 4 = some (false, 1) := by kernel_rfl
@[go_sem] theorem F.ty39 : tyA Try.prog 39 = some (true, 258) := by kernel_rfl
@[go_sem] theorem F.ty36 : tyA Try.prog 36 = some (true, 3) := by kernel_rfl
@[go_sem] theorem F.ty22 : tyA Try.prog 22 = some (false, 1) := by kernel_rfl
@[go_sem] theorem F.ty5 : tyA Try.prog 5 = some (false, 1) := by kernel_rfl
@[go_sem] theorem F.ty29 : tyA Try.prog 29 = some (false, 1) := by kernel_rfl
@[go_sem] theorem F.ty3 : tyA Try.prog 3 = some (false, 1) := by kernel_rfl
@[go_sem] theorem F.ty26 : tyA Try.prog 26 = some (true, 11) := by kernel_rfl
@[go_sem] theorem F.ty31 : tyA Try.prog 31 = some (true, 2) := by kernel_rfl
@[go_sem] theorem F.fld39_1 : fldT Try.prog 39 1 = some (256, false, 1) := by kernel_rfl
@[go_sem] theorem F.fld39_2 : fldT Try.prog 39 2 = some (257, false, 1) := by kernel_rfl
@[go_sem] theorem F.fld39_0 : fldT Try.prog 39 0 = some (0, true, 256) := by kernel_rfl
@[go_sem] theorem F.fld31_1 : fldT Try.prog 31 1 = some (1, false, 1) := by kernel_rfl
@[go_sem] theorem F.fld31_0 : fldT Try.prog 31 0 = some (0, false, 1) := by kernel_rfl
@[go_sem] theorem F.ix45 : ixT Try.prog 45 = some (some 8, false, 1) := by kernel_rfl
@[go_sem] theorem F.ix22 : ixT Try.prog 22 = some (none, false, 1) := by kernel_rfl
@[go_sem] theorem F.ix37 : ixT Try.prog 37 = some (some 256, false, 1) := by kernel_rfl
@[go_sem] theorem F.ix36 : ixT Try.prog 36 = some (some 3, false, 1) := by kernel_rfl
@[go_sem] theorem F.ix29 : ixT Try.prog 29 = some (none, true, 3) := by kernel_rfl
@[go_sem] theorem F.ix26 : ixT Try.prog 26 = some (some 11, false, 1) := by kernel_rfl
@[go_sem] theorem F.ix23 : ixT Try.prog 23 = some (none, false, 1) := by kernel_rfl
@[go_sem] theorem F.zero5 : zeroT Try.prog 5 = some ([.u8 0#8]) := by kernel_rfl
@[go_sem] theorem F.zero3 : zeroT Try.prog 3 = some ([.i64 0]) := by kernel_rfl
@[go_sem] theorem F.zero45 : zeroT Try.prog 45 = some ([.u8 0#8, .u8 0#8, .u8 0#8, .u8 0#8, .u8 0#8, .u8 0#8, .u8 0#8, .u8 0#8]) := by kernel_rfl
set_option maxRecDepth 1000000 in
@[go_sem] theorem F.zero39 : zeroT Try.prog 39 = some (List.replicate 256 (.u8 0#8) ++ [.bo false, .bo false]) := by kernel_rfl
@[go_sem] theorem F.zero36 : zeroT Try.prog 36 = some ([.u8 0#8, .u8 0#8, .u8 0#8]) := by kernel_rfl
@[go_sem] theorem F.zero31 : zeroT Try.prog 31 = some ([.sn, .sn]) := by kernel_rfl
@[go_sem] theorem F.zero26 : zeroT Try.prog 26 = some ([.u8 0#8, .u8 0#8, .u8 0#8, .u8 0#8, .u8 0#8, .u8 0#8, .u8 0#8, .u8 0#8, .u8 0#8, .u8 0#8, .u8 0#8]) := by kernel_rfl
@[go_sem] theorem F.el23 : elT Try.prog 23 = some (3, 1, 8) := by kernel_rfl
@[go_sem] theorem F.el29 : elT Try.prog 29 = some (36, 3, 3) := by kernel_rfl
@[go_sem] theorem F.el22 : elT Try.prog 22 = some (5, 1, 1) := by kernel_rfl
@[go_sem] theorem F.kind5 : kindT Try.prog 5 = none := by kernel_rfl
@[go_sem] theorem F.kind4 : kindT Try.prog 4 = some .bool := by kernel_rfl
@[go_sem] theorem F.kind3 : kindT Try.prog 3 = none := by kernel_rfl
@[go_sem] theorem F.conv3_5 : convT Try.prog 3 5 = some (.int .u8) := by kernel_rfl
@[go_sem] theorem F.conv5_3 : convT Try.prog 5 3 = some (.int .i64) := by kernel_rfl
@[go_sem] theorem F.len22 : lenT Try.prog 22 = some .slice := by kernel_rfl
@[go_sem] theorem F.len29 : lenT Try.prog 29 = some .slice := by kernel_rfl
@[go_sem] theorem F.len23 : lenT Try.prog 23 = some .slice := by kernel_rfl
@[go_sem] theorem F.nint23 : notIntT Try.prog 23 = true := by kernel_rfl
@[go_sem] theorem F.nint29 : notIntT Try.prog 29 = true := by kernel_rfl
@[go_sem] theorem F.app23 : appT Try.prog 23 = some ⟨3, 1, 8, [.i64 0]⟩ := by kernel_rfl
@[go_sem] theorem F.app29 : appT Try.prog 29 = some ⟨36, 3, 3, [.u8 0#8, .u8 0#8, .u8 0#8]⟩ := by kernel_rfl
@[go_sem] theorem F.bld36 : bldT Try.prog 36 = true := by kernel_rfl
@[go_sem] theorem F.bld31 : bldT Try.prog 31 = true := by kernel_rfl
@[go_sem] theorem F.bld26 : bldT Try.prog 26 = true := by kernel_rfl
@[go_sem] theorem F.pl31_0 : plT Try.prog 31 0 = some (0, 1) := by kernel_rfl
@[go_sem] theorem F.pl36_2 : plT Try.prog 36 2 = some (2, 1) := by kernel_rfl
@[go_sem] theorem F.pl36_1 : plT Try.prog 36 1 = some (1, 1) := by kernel_rfl
@[go_sem] theorem F.pl36_0 : plT Try.prog 36 0 = some (0, 1) := by kernel_rfl
@[go_sem] theorem F.pl31_1 : plT Try.prog 31 1 = some (1, 1) := by kernel_rfl
@[go_sem] theorem F.pl26_1 : plT Try.prog 26 1 = some (1, 1) := by kernel_rfl
@[go_sem] theorem F.pl26_5 : plT Try.prog 26 5 = some (5, 1) := by kernel_rfl
-- joystick/joysticklaw18.SpriteOn
@[go_sem] def dr4 : Nat → Draw
  | 8 => ⟨[0, 1, 0, 4, 12, 31, 63, 127, 127, 383, 895, 2047, 4095, 8191, 16383, 32767, 16383, 131071, 262143, 524287], [(0, []), (1, []), (2, []), (3, []), (4, []), (5, []), (6, []), (7, []), (8, []), (9, []), (10, []), (11, []), (12, []), (13, []), (14, []), (16, []), (15, [16]), (17, []), (18, []), (19, [])], []⟩
  | 13 => ⟨[0, 0, 3, 7, 0, 0, 48, 112, 255], [(0, []), (1, []), (2, []), (3, []), (4, []), (5, []), (6, []), (7, []), (8, [])], []⟩
  | _ => {}
-- joystick/joysticklaw18.SpriteMoves
@[go_sem] def dr5 : Nat → Draw
  | 17 => ⟨[0, 0, 3, 0, 15, 0, 0, 127, 0, 511, 0, 0, 4095, 8191], [(0, []), (1, []), (3, []), (5, []), (6, []), (8, []), (2, [3, 5, 6, 8]), (4, [5, 6, 8]), (7, [8]), (9, []), (10, [0, 1, 3, 5, 6, 8]), (11, [0, 1, 3, 5, 6, 8]), (12, []), (13, [])], [(10, 12), (11, 13)]⟩
  | 21 => ⟨[0, 0, 2, 7, 15, 31, 31, 127, 255, 511, 1023, 2047, 4095, 4095, 12287, 32767, 65535, 131071, 262143, 262143, 1048575, 2097151, 262143, 262143, 8650751, 29622271, 262143, 130285567, 264503295, 536870911, 1073741823, 2147483647], [(0, []), (1, []), (2, []), (3, []), (4, []), (5, []), (6, []), (7, []), (8, []), (9, []), (10, []), (11, []), (12, []), (13, []), (14, []), (15, []), (16, []), (17, []), (18, []), (19, []), (20, []), (21, []), (22, []), (23, []), (24, []), (25, []), (26, []), (27, []), (28, []), (29, []), (30, []), (31, [])], []⟩
  | _ => {}
-- joystick/joysticklaw18.SpriteFirst
@[go_sem] def tr6_9 : DT := .op 1 (.op 2 (.op 4 (.op 7 (.op 8 (.op 10 (.fork 0 [10, 8, 4, 2] (.fork 3 [10, 8, 4] (.fork 5 [10, 8, 2] (.fork 6 [10, 8] (.op 9 (.fork 11 [] (.op 12 (.done)) (.stop))) (.stop)) (.stop)) (.fork 5 [10, 8, 2] (.fork 3 [10, 8, 4] (.fork 6 [10, 8] (.op 9 (.fork 11 [] (.op 12 (.done)) (.stop))) (.stop)) (.stop)) (.stop))) (.fork 5 [10, 8, 2] (.fork 0 [10, 8, 4, 2] (.fork 3 [10, 8, 4] (.fork 6 [10, 8] (.op 9 (.fork 11 [] (.op 12 (.done)) (.stop))) (.stop)) (.stop)) (.stop)) (.stop))))))))
def td6_9 : Draw := ⟨[0, 0, 2, 7, 0, 16, 63, 0, 128, 511, 0, 2047, 4095], [], []⟩
@[go_sem] def dr6 : Nat → Draw
  | 8 => ⟨[0, 1, 0, 4, 15, 0, 32, 127, 0, 511, 1023], [(0, []), (2, []), (3, []), (5, []), (6, []), (8, []), (1, [3, 6, 8]), (4, [6, 8]), (7, []), (9, []), (10, [])], []⟩
  | 9 => ⟨[0, 0, 2, 7, 0, 16, 63, 0, 128, 511, 0, 2047, 4095], [(1, []), (2, []), (4, []), (7, []), (8, []), (10, []), (0, [2, 4, 8, 10]), (3, [4, 8, 10]), (5, [2, 8, 10]), (6, [8, 10]), (9, []), (11, []), (12, [])], []⟩
  | 11 => ⟨[0, 0, 3, 0, 0, 31, 0, 0, 255, 511], [(0, []), (1, []), (3, []), (4, []), (2, [4]), (5, []), (6, [1, 4]), (7, [1, 4]), (8, []), (9, [])], [(6, 11), (7, 12)]⟩
  | 12 => ⟨[0, 0, 3, 0, 0, 31, 0, 0, 255, 511], [(0, []), (1, []), (3, []), (4, []), (2, [4]), (5, []), (6, [1, 4]), (7, [1, 4]), (8, []), (9, [])], [(6, 13), (7, 14)]⟩
  | 16 => ⟨[0, 0, 3, 7, 15, 31, 63, 63, 255, 511, 63, 63, 3135, 7231, 16383, 32767], [(0, []), (1, []), (2, []), (3, []), (4, []), (5, []), (6, []), (7, []), (8, []), (9, []), (10, []), (11, []), (12, []), (13, []), (14, []), (15, [])], []⟩
  | 18 => ⟨[0, 0, 3, 7, 15, 31, 63, 63, 255, 511, 63, 63, 3135, 7231, 16383, 32767], [(0, []), (1, []), (2, []), (3, []), (4, []), (5, []), (6, []), (7, []), (8, []), (9, []), (10, []), (11, []), (12, []), (13, []), (14, []), (15, [])], []⟩
  | _ => {}
-- joystick/joysticklaw18.SpriteEnds
@[go_sem] def dr7 : Nat → Draw
  | 13 => ⟨[0, 0, 3, 0, 0, 31, 63, 127], [(0, []), (1, []), (3, []), (4, []), (2, [3, 4]), (5, []), (6, []), (7, [])], []⟩
  | _ => {}
-- joystick/joysticklaw18.build
@[go_sem] def dr12 : Nat → Draw
  | 6 => ⟨[0, 0, 0, 4, 0, 0, 32, 96, 240, 508, 1020, 0, 2048, 6144, 16380, 32767, 65535], [(0, []), (1, []), (2, []), (3, []), (4, []), (5, []), (6, []), (7, []), (8, []), (9, []), (10, []), (11, []), (12, []), (13, []), (14, []), (15, []), (16, [])], []⟩
  | _ => {}
-- joystick/joystickref18.On
@[go_sem] def dr13 : Nat → Draw
  | 10 => ⟨[0, 1, 0, 7, 15, 31, 31, 95, 31, 479, 991, 2047, 4095], [(0, []), (2, []), (1, []), (3, []), (4, []), (5, []), (6, []), (8, []), (7, [8]), (9, []), (10, []), (11, []), (12, [])], []⟩
  | _ => {}
-- joystick/tile.Row
@[go_sem] def dr25 : Nat → Draw
  | 13 => ⟨[0, 1, 3, 0, 0, 24, 56, 0, 248, 511, 1023, 2047], [(0, []), (1, []), (2, []), (3, []), (4, []), (5, []), (6, []), (7, []), (8, []), (9, []), (10, []), (11, [])], []⟩
  | _ => {}
def dr0 : Nat → Draw := fun _ => {}
end Go.Proofs.Joy
namespace Go.Proofs.Joy
open Go.Ab

/-- A byte of memory. -/
def atS (v : List (BitVec 8)) (a : Int) : BitVec 8 := v.getD (a % 16384).toNat 0#8
def heightS (regs : List (BitVec 8)) : Int := (if regs.getD 1 0#8 &&& 2#8 = 0#8 then 8 else 16) * (if regs.getD 1 0#8 &&& 1#8 = 0#8 then 1 else 2)
def baseS (regs : List (BitVec 8)) : Int := ((regs.getD 5 0#8 &&& 126#8).toNat * 128 : Nat)
def topS (y : BitVec 8) : Int := if y.toNat < 240 then (y.toNat : Int) + 1 else (y.toNat : Int) - 255
def yS (v regs : List (BitVec 8)) (i : Nat) : BitVec 8 := atS v (baseS regs + i)
def onS' (v regs : List (BitVec 8)) (line : Int) (i : Nat) : Bool := decide (topS (yS v regs i) ≤ line) && decide (line < topS (yS v regs i) + heightS regs)
/-- Those on a line among the first i, if the list goes that far. -/
def hitsTo (v regs : List (BitVec 8)) (line : Int) (i : Nat) : List Nat := (List.range i).filter (onS' v regs line)
/-- Where the list ends. -/
def endS (v regs : List (BitVec 8)) : Nat := ((List.range 64).findIdx? (fun i => yS v regs i == 208#8)).getD 64
def hitsS (v regs : List (BitVec 8)) (line : Int) : List Nat := if line < 0 ∨ 191 < line then [] else hitsTo v regs line (endS v regs)

theorem hitsTo_succ (v regs : List (BitVec 8)) (line : Int) (i : Nat) : hitsTo v regs line (i + 1) = hitsTo v regs line i ++ if onS' v regs line i then [i] else [] := by
  unfold hitsTo
  rw [List.range_succ, List.filter_append]
  congr 1
  by_cases h : onS' v regs line i = true
  · simp [h]
  · simp [h]
theorem hitsTo_len (v regs : List (BitVec 8)) (line : Int) (i : Nat) : (hitsTo v regs line i).length ≤ i := by
  unfold hitsTo
  exact Nat.le_trans (List.length_filter_le _ _) (by rw [List.length_range]; exact Nat.le_refl _)
theorem endS_at {v regs : List (BitVec 8)} {i : Nat} (hi : i < 64) (hy : yS v regs i = 208#8) (hb : ∀ j, j < i → yS v regs j ≠ 208#8) : endS v regs = i := by
  unfold endS
  have : (List.range 64).findIdx? (fun i => yS v regs i == 208#8) = some i := by
    rw [List.findIdx?_eq_some_iff_getElem]
    refine ⟨by simp [hi], by simp [hy], fun j hj => ?_⟩
    simp only [List.getElem_range, beq_iff_eq]
    exact hb j hj
  rw [this]; rfl
theorem endS_none {v regs : List (BitVec 8)} (hb : ∀ j, j < 64 → yS v regs j ≠ 208#8) : endS v regs = 64 := by
  unfold endS
  have : (List.range 64).findIdx? (fun i => yS v regs i == 208#8) = none := by
    rw [List.findIdx?_eq_none_iff]
    intro x hx
    simp only [beq_eq_false_iff_ne, ne_eq]
    exact hb x (List.mem_range.1 hx)
  rw [this]; rfl
theorem endS_ge {v regs : List (BitVec 8)} {i : Nat} (hi : i ≤ 64) (hb : ∀ j, j < i → yS v regs j ≠ 208#8) : i ≤ endS v regs := by
  unfold endS
  cases hf : (List.range 64).findIdx? (fun i => yS v regs i == 208#8) with
  | none => exact hi
  | some k =>
    rw [List.findIdx?_eq_some_iff_getElem] at hf
    obtain ⟨hk, h1, -⟩ := hf
    simp only [List.getElem_range, beq_iff_eq] at h1
    simp only [Option.getD_some]
    rcases Nat.lt_or_ge k i with c | c
    · exact absurd h1 (hb k c)
    · exact c
theorem hitsTo_pre (v regs : List (BitVec 8)) (line : Int) {i e : Nat} (h : i ≤ e) : ∃ r, hitsTo v regs line e = hitsTo v regs line i ++ r := by
  induction e with
  | zero => exact ⟨[], by rw [show i = 0 by omega]; simp⟩
  | succ e ih =>
    rcases Nat.lt_or_ge e i with c | c
    · exact ⟨[], by rw [show i = e + 1 by omega]; simp⟩
    · obtain ⟨r, hr⟩ := ih c
      exact ⟨_, by rw [hitsTo_succ, hr, List.append_assoc]⟩
theorem heightS_le (regs : List (BitVec 8)) : 8 ≤ heightS regs ∧ heightS regs ≤ 32 := by
  unfold heightS; split <;> split <;> omega
theorem topS_le (y : BitVec 8) : -15 ≤ topS y ∧ topS y ≤ 240 := by
  have := y.isLt
  unfold topS; split <;> omega
theorem baseS_le (regs : List (BitVec 8)) : 0 ≤ baseS regs ∧ baseS regs ≤ 16128 := by
  unfold baseS
  have : (regs.getD 5 0#8 &&& 126#8).toNat ≤ 126 := by rw [BitVec.toNat_and]; exact Nat.and_le_right
  omega
end Go.Proofs.Joy
namespace Go.Proofs.Joy
open Go.Ab Go.Proofs

set_option maxHeartbeats 1000000
set_option maxRecDepth 20000

theorem tile_at (v : AV) (bs : List (BitVec 8)) (a : Int) (H : Heap) (n : Nat) (K : AV → Heap → Nat → Prop) (hv : bytesIn H v bs) (hvok : v.ok n = true) (h : K (.u8 (atS bs a)) H n) : ACalls Try.prog 16 [v, .i64 a] H n K := by
  refine ACalls.of_ev dr0 Try.func16 rfl (by decide +kernel) (by decide +kernel) (show 2 ≤ 15 by decide) (by simp [hv.ne]) fun wf => ?_
  have hlb : ∀ K, lenB (some .slice) v K = K (.i64 bs.length) := lenB_bytes hv
  have e : and64 a 16383 = a % 16384 := and64_mask 14 (by decide) a
  have h0 := Int.emod_nonneg a (show (16384 : Int) ≠ 0 by decide)
  simp only [go_sem, Try.f16, hlb, e]
  refine ⟨fun hlt => ?_, fun hlt => ?_⟩
  · obtain ⟨k, hk⟩ := Int.eq_ofNat_of_zero_le h0
    rw [hk] at hlt
    have hk' : k < bs.length := by omega
    rcases hv with ⟨rfl, rfl⟩ | ⟨su, b, o, c, blk, rfl, g0, g1, g2, g3⟩
    · simp at hk'
    obtain ⟨q1, q2⟩ := cells_at g2 g3 hk'
    simp only [go_sem, hk, g1, q1, q2, hlt, hk']
    unfold atS at h
    rw [hk, Int.toNat_natCast] at h
    exact Fin.back wf h (fun _ _ => rfl) rfl
  · unfold atS at h
    rw [List.getD_eq_getElem?_getD, List.getElem?_eq_none (by omega)] at h
    exact Fin.back wf h (fun _ _ => rfl) rfl
end Go.Proofs.Joy
namespace Go.Proofs.Joy
open Go.Ab Go.Proofs

set_option maxHeartbeats 1000000
set_option maxRecDepth 20000

theorem regs11 {regs : List (BitVec 8)} (h : regs.length = 11) : ∃ r0 r1 r2 r3 r4 r5 r6 r7 r8 r9 r10, regs = [r0, r1, r2, r3, r4, r5, r6, r7, r8, r9, r10] := by
  match regs, h with
  | [r0, r1, r2, r3, r4, r5, r6, r7, r8, r9, r10], _ => exact ⟨r0, r1, r2, r3, r4, r5, r6, r7, r8, r9, r10, rfl⟩

theorem height_ok (regs : List (BitVec 8)) (hr : regs.length = 11) (H : Heap) (n : Nat) (K : AV → Heap → Nat → Prop) (h : K (.i64 (heightS regs)) H n) : ACalls Try.prog 10 [.ag (regs.map .u8)] H n K := by
  refine ACalls.of_ev dr0 Try.func10 rfl (by decide +kernel) (by decide +kernel) (show 1 ≤ 15 by decide) (by simp) fun wf => ?_
  simp only [go_sem, Try.f10]
  obtain ⟨r0, r1, r2, r3, r4, r5, r6, r7, r8, r9, r10, rfl⟩ := regs11 hr
  simp only [go_sem, List.map_cons, List.map_nil]
  have hh : ∀ (x : Int), heightS [r0, r1, r2, r3, r4, r5, r6, r7, r8, r9, r10] = x → ∀ X, Fin n (.i64 x) (H.upd n X) (n + 1) K := fun x hx X => by
    rw [hx] at h; exact Fin.back wf h (fun i hi => by simp only [go_sem, hi]) rfl
  have e : heightS [r0, r1, r2, r3, r4, r5, r6, r7, r8, r9, r10] = (if r1 &&& 2#8 = 0#8 then 8 else 16) * (if r1 &&& 1#8 = 0#8 then 1 else 2) := rfl
  refine ⟨fun a1 => ⟨fun a2 => ?_, fun a2 => ?_⟩, fun a1 => ⟨fun a2 => ?_, fun a2 => ?_⟩⟩
  all_goals simp only [bne_iff_ne, ne_eq, bne_eq_false_iff_eq] at a1 a2
  · exact hh _ (by rw [e, if_neg a1, if_neg a2]; rfl) _
  · exact hh _ (by rw [e, if_neg a1, if_pos a2]; rfl) _
  · exact hh _ (by rw [e, if_pos a1, if_neg a2]; rfl) _
  · exact hh _ (by rw [e, if_pos a1, if_pos a2]; rfl) _

theorem base_ok (regs : List (BitVec 8)) (hr : regs.length = 11) (H : Heap) (n : Nat) (K : AV → Heap → Nat → Prop) (h : K (.i64 (baseS regs)) H n) : ACalls Try.prog 17 [.ag (regs.map .u8)] H n K := by
  refine ACalls.of_ev dr0 Try.func17 rfl (by decide +kernel) (by decide +kernel) (show 1 ≤ 8 by decide) (by simp) fun wf => ?_
  simp only [go_sem, Try.f17]
  obtain ⟨r0, r1, r2, r3, r4, r5, r6, r7, r8, r9, r10, rfl⟩ := regs11 hr
  simp only [go_sem, List.map_cons, List.map_nil]
  have hb := (baseS_le [r0, r1, r2, r3, r4, r5, r6, r7, r8, r9, r10])
  have e : wrap64 (((r5 &&& 126#8).toNat : Int) * 2 ^ 7) = baseS [r0, r1, r2, r3, r4, r5, r6, r7, r8, r9, r10] := by
    have e2 : baseS [r0, r1, r2, r3, r4, r5, r6, r7, r8, r9, r10] = (((r5 &&& 126#8).toNat * 128 : Nat) : Int) := rfl
    rw [e2] at hb ⊢
    rw [show (2 : Int) ^ 7 = 128 from rfl, wrap_id _ (by omega) (by omega)]; omega
  rw [e]
  exact Fin.back wf h (fun i hi => by simp only [go_sem, hi]) rfl

theorem top_ok (y : BitVec 8) (H : Heap) (n : Nat) (K : AV → Heap → Nat → Prop) (h : K (.i64 (topS y)) H n) : ACalls Try.prog 18 [.u8 y] H n K := by
  refine ACalls.of_ev dr0 Try.func18 rfl (by decide +kernel) (by decide +kernel) (show 1 ≤ 12 by decide) (by simp) fun wf => ?_
  simp only [go_sem, Try.f18]
  have hy := y.isLt
  have w1 : wrap64 ((y.toNat : Int) + 1) = (y.toNat : Int) + 1 := wrap_id _ (by omega) (by omega)
  unfold topS at h
  rw [w1]
  refine ⟨fun a1 => ?_, fun a1 => ?_⟩
  · rw [if_neg (by omega)] at h
    rw [wrap_id _ (by omega) (by omega), show (y.toNat : Int) + 1 - 256 = (y.toNat : Int) - 255 by omega]
    exact Fin.back wf h (fun _ _ => rfl) rfl
  · rw [if_pos (by omega)] at h
    exact Fin.back wf h (fun _ _ => rfl) rfl

structure OnS where
  i : Nat
  q : Nat
  m : Nat
  H : Heap

/-- Numbers in a row of memory. -/
def intsC (l : List Nat) : List AV := l.map fun (j : Nat) => AV.i64 (j : Int)

def intsV (q l : Nat) : AV := if l = 0 then .sn else .su q 0 l 1

structure OnI (bs regs : List (BitVec 8)) (line : Int) (H : Heap) (n : Nat) (t : OnS) : Prop where
  i : t.i ≤ 64
  no : ∀ j, j < t.i → yS bs regs j ≠ 208#8
  len : (hitsTo bs regs line t.i).length ≤ 8
  m : n + 1 ≤ t.m
  wf : t.H.wf t.m
  rg : t.H n = some ⟨regs.map .u8, 26, false⟩
  old : ∀ k, k < n → t.H k = H k
  out : hitsTo bs regs line t.i ≠ [] → n + 1 ≤ t.q ∧ t.q < t.m ∧ t.H t.q = some ⟨intsC (hitsTo bs regs line t.i), 3, false⟩
theorem intsV_ok {q l n : Nat} (h : l ≠ 0 → q < n) : (intsV q l).ok n = true := by
  unfold intsV; split
  · rfl
  · rename_i hz; simp [AV.ok, h hz]
theorem lenB_ints (q l : Nat) (K : AV → Prop) : lenB (some .slice) (intsV q l) K = K (.i64 l) := by
  unfold intsV; split
  · rename_i h; subst h; rfl
  · rfl

theorem on_ok (v : AV) (bs regs : List (BitVec 8)) (hr : regs.length = 11) (line : Int) (hln : -9223372036854775808 ≤ line ∧ line ≤ 9223372036854775807) (H : Heap) (n : Nat) (K : AV → Heap → Nat → Prop) (hv : bytesIn H v bs)
    (h : ∀ (q : Nat) (H' : Heap) (m : Nat), n ≤ m → H'.wf m → (∀ i, i < n → H' i = H i) → ((hitsS bs regs line).take 8 ≠ [] → n ≤ q ∧ H' q = some ⟨intsC ((hitsS bs regs line).take 8), 3, false⟩) →
      K (.tu [intsV q ((hitsS bs regs line).take 8).length, .bo (decide (8 < (hitsS bs regs line).length))]) H' m) : ACalls Try.prog 8 [v, .ag (regs.map .u8), .i64 line] H n K := by
  refine ACalls.of_awp Try.func8 rfl (by decide +kernel) (show 3 ≤ 51 by decide) (by simp [hv.ne]) fun wf => ?_
  have hvok : v.ok n = true := by
    rcases hv with ⟨rfl, rfl⟩ | ⟨su, b, o, c, blk, rfl, h0, h1, h2, h3⟩
    · rfl
    · exact vw_ok (wf b _ h1).1
  refine awp_step dr0 (by decide +kernel) ?_
  simp only [go_sem, Try.f8]
  have hRB : ∀ x ∈ (⟨regs.map .u8, 26, false⟩ : Blk).cells, x.ok (n + 1) = true := map_u8_ok
  refine awp_seqF (S := Unit) (fun _ => [(0, v), (2, .i64 line), (4, .pt n 0)]) (fun _ => H.upd n (some ⟨regs.map .u8, 26, false⟩)) (fun _ => n + 1) (fun _ => 0 ≤ line ∧ line < 192)
    (fun _ _ => ⟨Heap.wf_upd wf hRB, Env.okAt_of2 (by simp [AV.ok, AV.ok_mono (Nat.le_succ n) _ hvok])⟩) ?_ ?_
  · have out : (line < 0 ∨ 191 < line) → Fin n (.tu [.sn, .bo false]) (H.upd n (some ⟨regs.map .u8, 26, false⟩)) (n + 1) K := fun ho => by
      have e : hitsS bs regs line = [] := if_pos ho
      have := h 0 (H.upd n (some ⟨regs.map .u8, 26, false⟩)) (n + 1) (by omega) (Heap.wf_upd wf hRB) (fun i hi => Heap.upd_ne _ _ (by omega))
      rw [e] at this
      exact Fin.keep (this (fun hn => absurd rfl hn))
    refine awp_ev dr0 (by decide +kernel) ?_
    simp only [go_sem]
    exact ⟨fun a1 => ⟨fun a2 => out (by omega), fun a2 => Ends.mk () ⟨by omega, by omega⟩ (Env.le_cons rfl (Env.le_cons rfl (Env.le_cons rfl (Env.le_nil _)))) (fun _ _ => rfl) (Nat.le_refl _) (Nat.le_refl _)⟩, fun a1 => out (by omega)⟩
  rintro - ⟨l1, l2⟩
  refine awp_step dr0 (by decide +kernel) ?_
  simp only [go_sem]
  have hS : hitsS bs regs line = hitsTo bs regs line (endS bs regs) := if_neg (by omega)
  have done : ∀ (i q m : Nat) (H1 : Heap) (more : Bool) (out : List Nat), n + 1 ≤ m → H1.wf m → (∀ k, k < n → H1 k = H k) → out = (hitsS bs regs line).take 8 → more = decide (8 < (hitsS bs regs line).length) → (out ≠ [] → n + 1 ≤ q ∧ H1 q = some ⟨intsC out, 3, false⟩) →
      Fin n (.tu [intsV q out.length, .bo more]) H1 m K := fun i q m H1 more out e1 e2 e3 e4 e5 e6 => by
    subst e4 e5
    exact Fin.keep (h q H1 m (by omega) e2 e3 (fun hn => ⟨by have := (e6 hn).1; omega, (e6 hn).2⟩))
  refine awp_seqF (S := OnS) (fun t => [(8, intsV t.q ((hitsS bs regs line).take 8).length)]) (fun t => t.H) (fun t => t.m)
    (fun t => n + 1 ≤ t.m ∧ t.H.wf t.m ∧ (∀ k, k < n → t.H k = H k) ∧ (hitsS bs regs line).length ≤ 8 ∧ ((hitsS bs regs line).take 8 ≠ [] → n + 1 ≤ t.q ∧ t.q < t.m ∧ t.H t.q = some ⟨intsC ((hitsS bs regs line).take 8), 3, false⟩))
    (fun t ht => ⟨ht.2.1, Env.okAt_of2 (by
      intro p hp
      simp only [List.mem_cons, List.not_mem_nil, or_false] at hp
      subst hp
      simp only [intsV]
      split
      · rfl
      · rename_i hz
        have := (ht.2.2.2.2 (by rintro hh; rw [hh] at hz; exact hz rfl)).2.1
        simp [AV.ok, this])⟩) ?_ ?_
  · refine awp_step dr0 (by decide +kernel) ?_
    simp only [go_sem]
    refine awp_block ?_
    refine awp_loopF (S := OnS) (fun t => [(0, v), (2, .i64 line), (4, .pt n 0), (8, intsV t.q (hitsTo bs regs line t.i).length), (18, .i64 t.i)]) (fun t => t.H) (fun t => t.m) (OnI bs regs line H n) (fun t => 64 - t.i)
      (fun t ht => ⟨ht.wf, Env.okAt_of2 (by
        have e1 := ht.m
        have e2 := intsV_ok (q := t.q) (l := (hitsTo bs regs line t.i).length) (n := t.m) fun hz => (ht.out (by rintro hh; rw [hh] at hz; exact hz rfl)).2.1
        simp [AV.ok, AV.ok_mono (show n ≤ t.m by omega) _ hvok, e2]; omega)⟩) ?_ ⟨0, 0, n + 1, _⟩
      ⟨Nat.zero_le _, fun j hj => absurd hj (Nat.not_lt_zero _), Nat.zero_le _, Nat.le_refl _, Heap.wf_upd wf hRB, Heap.upd_same _ _ _, fun k hk => Heap.upd_ne _ _ (by omega), fun hn => absurd rfl hn⟩
      (Env.le_cons rfl (Env.le_cons rfl (Env.le_cons rfl (Env.le_cons rfl (Env.le_cons rfl (Env.le_nil _)))))) (fun _ _ => rfl) rfl
    rintro ⟨i, q, m, H1⟩ hI
    have hi := hI.i; have hno := hI.no; have hlen := hI.len; have hm := hI.m; have hwf := hI.wf; have hreg := hI.rg; have hold := hI.old; have hout := hI.out
    simp only at hi hno hlen hm hwf hreg hold hout ⊢
    have hv1 : bytesIn H1 v bs := hv.mono hvok hold
    have hvok1 : v.ok m = true := AV.ok_mono (by omega) _ hvok
    have ends : ∀ e : Env, e.get 8 = intsV q (hitsTo bs regs line i).length → endS bs regs = i → Go.Ab.Ends (fun t : OnS => [(8, intsV t.q ((hitsS bs regs line).take 8).length)]) (fun t => t.H) (fun t => t.m)
        (fun t => n + 1 ≤ t.m ∧ t.H.wf t.m ∧ (∀ k, k < n → t.H k = H k) ∧ (hitsS bs regs line).length ≤ 8 ∧ (¬(hitsS bs regs line).take 8 = [] → n + 1 ≤ t.q ∧ t.q < t.m ∧ t.H t.q = some ⟨intsC ((hitsS bs regs line).take 8), 3, false⟩)) (n + 1)
        e H1 m := fun e0 hg he => by
      have e : hitsS bs regs line = hitsTo bs regs line i := by rw [hS, he]
      have e8 : (hitsTo bs regs line i).take 8 = hitsTo bs regs line i := List.take_of_length_le hlen
      exact Go.Ab.Ends.mk ⟨i, q, m, H1⟩ ⟨hm, hwf, hold, by rw [e]; exact hlen, by rw [e, e8]; exact hout⟩ (Env.le_cons (by rw [e, e8]; exact hg) (Env.le_nil _)) (fun _ _ => rfl) hm (Nat.le_refl _)
    have hsucc := hitsTo_succ bs regs line i
    have next : ∀ e : Env, e.get 0 = v → e.get 2 = .i64 line → e.get 4 = .pt n 0 → e.get 8 = intsV q (hitsTo bs regs line i).length → e.get 18 = .i64 (wrap64 ((i : Int) + 1)) → i < 64 → yS bs regs i ≠ 208#8 → onS' bs regs line i = false → Go.Ab.Ends (fun t : OnS =>
        [(0, v), (2, AV.i64 line), (4, AV.pt n 0), (8, intsV t.q (hitsTo bs regs line t.i).length), (18, AV.i64 (t.i : Int))])
        (fun t => t.H) (fun t => t.m) (fun s' => 64 - s'.i < 64 - i ∧ OnI bs regs line H n s') m e H1 m := fun e g0 g2 g4 g8 g18 hlt' hy ho => by
      have w2 : wrap64 ((i : Int) + 1) = ((i + 1 : Nat) : Int) := by rw [wrap_id _ (by omega) (by omega)]; omega
      rw [w2] at g18
      have e1 : hitsTo bs regs line (i + 1) = hitsTo bs regs line i := by rw [hsucc, ho]; simp
      have hno' : ∀ j, j < i + 1 → yS bs regs j ≠ 208#8 := fun j hj => by
        rcases Nat.lt_or_ge j i with c | c
        · exact hno j c
        · rw [show j = i by omega]; exact hy
      exact Go.Ab.Ends.mk ⟨i + 1, q, m, H1⟩ ⟨by simp only; omega, hlt', hno', by simp only; rw [e1]; exact hlen, hm, hwf, hreg, hold, by simp only; rw [e1]; exact hout⟩ (Env.le_cons g0 (Env.le_cons g2 (Env.le_cons g4 (Env.le_cons (by rw [e1]; exact g8) (Env.le_cons g18 (Env.le_nil _)))))) (fun _ _ => rfl) (Nat.le_refl _) (Nat.le_refl _)
    have ok1 : ∀ k, ∀ x ∈ [AV.i64 (i : Int)], x.ok k = true := fun k x hx => by
      simp only [List.mem_cons, List.not_mem_nil, or_false] at hx; subst hx; rfl
    have app : ∀ (e : Env) (q' m' : Nat) (H' : Heap), e.get 0 = v → e.get 2 = .i64 line → e.get 4 = .pt n 0 → e.get 8 = intsV q' (hitsTo bs regs line (i + 1)).length → e.get 18 = .i64 (wrap64 ((i : Int) + 1)) → i < 64 → (∀ j, j < i + 1 → yS bs regs j ≠ 208#8) →
        (hitsTo bs regs line i).length < 8 → m ≤ q' → q' < m' → H'.wf m' → H' n = some ⟨regs.map .u8, 26, false⟩ → (∀ k, k < n → H' k = H k) → (H' q' = some ⟨intsC (hitsTo bs regs line (i + 1)), 3, false⟩) → Go.Ab.Ends (fun t : OnS =>
        [(0, v), (2, AV.i64 line), (4, AV.pt n 0), (8, intsV t.q (hitsTo bs regs line t.i).length), (18, AV.i64 (t.i : Int))])
        (fun t => t.H) (fun t => t.m) (fun s' => 64 - s'.i < 64 - i ∧ OnI bs regs line H n s') m e H' m' := fun e q' m' H' g0 g2 g4 g8 g18 hlt' hno' h8 k1 k2 k3 k4 k5 k6 => by
      have w2 : wrap64 ((i : Int) + 1) = ((i + 1 : Nat) : Int) := by rw [wrap_id _ (by omega) (by omega)]; omega
      rw [w2] at g18
      have hl : (hitsTo bs regs line (i + 1)).length ≤ 8 := by
        rw [hsucc, List.length_append]; split <;> simp <;> omega
      exact Go.Ab.Ends.mk ⟨i + 1, q', m', H'⟩ ⟨by simp only; omega, hlt', hno', hl, by simp only; omega, k3, k4, k5, fun _ => ⟨by simp only; omega, k2, k6⟩⟩ (Env.le_cons g0 (Env.le_cons g2 (Env.le_cons g4 (Env.le_cons g8 (Env.le_cons g18 (Env.le_nil _)))))) (fun _ _ => rfl) (by simp only; omega) (Nat.le_refl _)
    refine awp_step dr0 (by decide +kernel) ?_
    simp only [go_sem]
    refine awp_step dr0 (by decide +kernel) ?_
    simp only [go_sem]
    refine ⟨fun hlt => ?_, fun hlt => ?_⟩
    · have hlt' : i < 64 := by omega
      have w2 : wrap64 ((i : Int) + 1) = ((i + 1 : Nat) : Int) := by rw [wrap_id _ (by omega) (by omega)]; omega
      have hbl := baseS_le regs
      have w3 : wrap64 (baseS regs + (i : Int)) = baseS regs + i := wrap_id _ (by omega) (by omega)
      have hnm : n < m := by omega
      refine awp_ev dr0 (by decide +kernel) ?_
      simp only [go_sem, hreg, hr, List.length_map, take_map_all hr]
      refine base_ok regs hr _ _ _ ?_
      simp only [go_sem, w3]
      refine tile_at v bs _ _ _ _ hv1 hvok1 ?_
      rw [show atS bs (baseS regs + (i : Int)) = yS bs regs i from rfl]
      simp only [go_sem]
      refine ⟨fun hy => ?_, fun hy => ?_⟩
      · simp only [beq_iff_eq] at hy
        exact ends _ rfl (endS_at hlt' hy hno)
      simp only [beq_eq_false_iff_ne, ne_eq] at hy
      have ht := topS_le (yS bs regs i)
      have hh := heightS_le regs
      have w4 : wrap64 (line - topS (yS bs regs i)) = line - topS (yS bs regs i) := wrap_id _ (by omega) (by omega)
      refine top_ok _ _ _ _ ?_
      simp only [go_sem, w4, hreg, hr, List.length_map, take_map_all hr]
      have hno' : ∀ j, j < i + 1 → yS bs regs j ≠ 208#8 := fun j hj => by
        rcases Nat.lt_or_ge j i with c | c
        · exact hno j c
        · rw [show j = i by omega]; exact hy
      refine ⟨fun c1 => ?_, fun c1 => ?_⟩
      · refine height_ok regs hr _ _ _ ?_
        simp only [go_sem]
        refine ⟨fun c2 => ?_, fun c2 => ?_⟩
        · exact next _ rfl rfl rfl rfl rfl hlt' hy (by unfold onS'; rw [Bool.and_eq_false_iff]; right; simp; omega)
        have ho : onS' bs regs line i = true := by unfold onS'; rw [Bool.and_eq_true]; exact ⟨by simp; omega, by simp; omega⟩
        rw [ho, if_pos rfl] at hsucc
        have hge : i + 1 ≤ endS bs regs := endS_ge hlt' hno'
        obtain ⟨rest, hrest⟩ := hitsTo_pre bs regs line hge
        rw [hsucc] at hrest
        rw [lenB_ints]
        simp only [go_sem]
        refine ⟨fun c3 => ?_, fun c3 => ?_⟩
        · have c3' : (hitsTo bs regs line i).length = 8 := by simp at c3; omega
          have e9 : hitsS bs regs line = hitsTo bs regs line i ++ ([i] ++ rest) := by rw [hS, hrest, List.append_assoc]
          have et : (hitsS bs regs line).take 8 = hitsTo bs regs line i := by rw [e9, ← c3', List.take_left']; rfl
          have el : 8 < (hitsS bs regs line).length := by rw [e9]; simp only [List.length_append, List.length_cons, c3']; omega
          exact ⟨by unfold intsV; split <;> simp, done i q m H1 true _ hm hwf hold et.symm (by simp [el]) (fun hn => ⟨(hout hn).1, (hout hn).2.2⟩)⟩
        · have c3' : (hitsTo bs regs line i).length < 8 := by simp at c3; omega
          by_cases hz : (hitsTo bs regs line i).length = 0
          · have hz' : hitsTo bs regs line i = [] := List.eq_nil_of_length_eq_zero hz
            rw [show intsV q (hitsTo bs regs line i).length = .sn by unfold intsV; rw [if_pos hz]]
            simp only [go_sem]
            exact app _ (m + 1) (m + 2) _ rfl rfl rfl (by rw [hsucc, hz']; rfl) rfl hlt' hno' c3' (by omega) (by omega)
              (Heap.wf_upd (Heap.wf_upd hwf (ok1 _)) (ok1 _)) (by rw [Heap.upd_ne _ _ (by omega), Heap.upd_ne _ _ (by omega)]; exact hreg)
              (fun k hk => by rw [Heap.upd_ne _ _ (by omega), Heap.upd_ne _ _ (by omega)]; exact hold k hk) (by rw [Heap.upd_same, hsucc, hz']; rfl)
          · obtain ⟨q1, q2, hq⟩ := hout (by intro hx; rw [hx] at hz; exact hz rfl)
            rw [show intsV q (hitsTo bs regs line i).length = .su q 0 (hitsTo bs regs line i).length 1 by unfold intsV; rw [if_neg hz]]
            have hq' : ∀ X, (H1.upd m X) q = some ⟨intsC (hitsTo bs regs line i), 3, false⟩ := fun X => by rw [Heap.upd_ne _ _ (by omega)]; exact hq
            have hql : (intsC (hitsTo bs regs line i)).length = (hitsTo bs regs line i).length := by simp [intsC]
            simp only [go_sem, hq', hql]
            have ec : (intsC (hitsTo bs regs line i)).take (hitsTo bs regs line i).length ++ [AV.i64 (i : Int)] = intsC (hitsTo bs regs line (i + 1)) := by
              rw [List.take_of_length_le (by rw [hql]; exact Nat.le_refl _), hsucc]; simp [intsC]
            have el1 : (hitsTo bs regs line (i + 1)).length = (hitsTo bs regs line i).length + 1 := by rw [hsucc]; simp
            refine ⟨by omega, ?_⟩
            rw [ec]
            exact app _ (m + 1) (m + 2) _ rfl rfl rfl (by rw [el1]; rfl) rfl hlt' hno' c3' (by omega) (by omega)
              (Heap.wf_upd (Heap.wf_upd_none (Heap.wf_upd hwf (ok1 _))) (by
                intro x hx
                simp only [intsC, List.mem_map] at hx
                obtain ⟨j, -, rfl⟩ := hx
                rfl)) (by rw [Heap.upd_ne _ _ (by omega), Heap.upd_ne _ _ (by omega), Heap.upd_ne _ _ (by omega)]; exact hreg)
              (fun k hk => by rw [Heap.upd_ne _ _ (by omega), Heap.upd_ne _ _ (by omega), Heap.upd_ne _ _ (by omega)]; exact hold k hk) (by rw [Heap.upd_same])
      · exact next _ rfl rfl rfl rfl rfl hlt' hy (by unfold onS'; rw [Bool.and_eq_false_iff]; left; simp; omega)
    · have hie : i = 64 := by omega
      subst hie
      exact ends _ rfl (endS_none hno)
  · rintro ⟨i, q, m, H1⟩ ⟨e1, e2, e3, e4, e5⟩
    simp only at e1 e2 e3 e5 ⊢
    refine awp_ev dr0 (by decide +kernel) ?_
    simp only [go_sem]
    exact ⟨by unfold intsV; split <;> simp, done i q m H1 false _ e1 e2 e3 rfl (by simp; omega) (fun hn => ⟨(e5 hn).1, (e5 hn).2.2⟩)⟩
end Go.Proofs.Joy
namespace Go.Proofs.Joy
open Go.Ab Go.Proofs

set_option maxHeartbeats 1000000
set_option maxRecDepth 20000

theorem modulo16_ok (x y : Int) (hy : 0 < y) (hy2 : y ≤ 4611686018427387904) (H : Heap) (n : Nat) (K : AV → Heap → Nat → Prop) (h : K (.i64 (x % y)) H n) : ACalls Try.prog 24 [.i64 x, .i64 y] H n K := by
  refine ACalls.of_ev dr0 Try.func24 rfl (by decide +kernel) (by decide +kernel) (show 2 ≤ 15 by decide) (by simp) fun wf => ?_
  simp only [go_sem, Try.f24]
  have e := tmod_pos x y hy
  have hne : y ≠ 0 := by omega
  have h1 := Int.emod_nonneg x hne
  have h2 := Int.emod_lt_of_pos x hy
  simp only [hne, not_false_eq_true, ne_eq, true_and]
  refine ⟨fun a1 => ?_, fun a1 => ?_⟩
  · rw [if_pos a1] at e
    rw [e, wrap_id _ (by omega) (by omega)]
    exact Fin.back wf h (fun _ _ => rfl) rfl
  · rw [if_neg a1] at e
    rw [e]
    exact Fin.back wf h (fun _ _ => rfl) rfl

theorem ref16_at (v : AV) (bs : List (BitVec 8)) (a : Int) (H : Heap) (n : Nat) (K : AV → Heap → Nat → Prop) (hv : bytesIn H v bs) (hvok : v.ok n = true) (h : K (.u8 (atS bs a)) H n) : ACalls Try.prog 20 [v, .i64 a] H n K := by
  refine ACalls.of_ev dr0 Try.func20 rfl (by decide +kernel) (by decide +kernel) (show 2 ≤ 16 by decide) (by simp [hv.ne]) fun wf => ?_
  have hlb : ∀ K, lenB (some .slice) v K = K (.i64 bs.length) := lenB_bytes hv
  have h0 := Int.emod_nonneg a (show (16384 : Int) ≠ 0 by decide)
  simp only [go_sem, Try.f20]
  refine modulo16_ok a 16384 (by decide) (by decide) _ _ _ ?_
  simp only [go_sem, hlb]
  refine ⟨fun hlt => ?_, fun hlt => ?_⟩
  · unfold atS at h
    rw [List.getD_eq_getElem?_getD, List.getElem?_eq_none (by omega)] at h
    exact Fin.back wf h (fun _ _ => rfl) rfl
  · obtain ⟨k, hk⟩ := Int.eq_ofNat_of_zero_le h0
    rw [hk] at hlt
    have hk' : k < bs.length := by omega
    rcases hv with ⟨rfl, rfl⟩ | ⟨su, b, o, c, blk, rfl, g0, g1, g2, g3⟩
    · simp at hk'
    obtain ⟨q1, q2⟩ := cells_at g2 g3 hk'
    have hk2 : (k : Int) < bs.length := by omega
    simp only [go_sem, hk, g1, q1, q2, hk2, hk']
    unfold atS at h
    rw [hk, Int.toNat_natCast] at h
    exact Fin.back wf h (fun _ _ => rfl) rfl
end Go.Proofs.Joy
namespace Go.Proofs.Joy
open Go.Ab Go.Proofs

set_option maxHeartbeats 1000000
set_option maxRecDepth 20000

theorem ref_height (regs : List (BitVec 8)) (hr : regs.length = 11) (H : Heap) (n : Nat) (K : AV → Heap → Nat → Prop) (h : K (.i64 (heightS regs)) H n) : ACalls Try.prog 14 [.ag (regs.map .u8)] H n K := by
  refine ACalls.of_ev dr0 Try.func14 rfl (by decide +kernel) (by decide +kernel) (show 1 ≤ 16 by decide) (by simp) fun wf => ?_
  simp only [go_sem, Try.f14]
  obtain ⟨r0, r1, r2, r3, r4, r5, r6, r7, r8, r9, r10, rfl⟩ := regs11 hr
  simp only [go_sem, List.map_cons, List.map_nil]
  have e : heightS [r0, r1, r2, r3, r4, r5, r6, r7, r8, r9, r10] = (if r1 &&& 2#8 = 0#8 then 8 else 16) * (if r1 &&& 1#8 = 0#8 then 1 else 2) := rfl
  have key : ∀ r : BitVec 8, wrap64 (wrap64 (8 * wrap64 (1 + ((r / 2#8 % 2#8).toNat : Int))) * wrap64 (1 + ((r % 2#8).toNat : Int))) = (if r &&& 2#8 = 0#8 then 8 else 16) * (if r &&& 1#8 = 0#8 then 1 else 2) := by decide +kernel
  rw [key, ← e]
  exact Fin.back wf h (fun i hi => by simp only [go_sem, hi]) rfl

theorem ref_base (regs : List (BitVec 8)) (hr : regs.length = 11) (H : Heap) (n : Nat) (K : AV → Heap → Nat → Prop) (h : K (.i64 (baseS regs)) H n) : ACalls Try.prog 19 [.ag (regs.map .u8)] H n K := by
  refine ACalls.of_ev dr0 Try.func19 rfl (by decide +kernel) (by decide +kernel) (show 1 ≤ 10 by decide) (by simp) fun wf => ?_
  simp only [go_sem, Try.f19]
  obtain ⟨r0, r1, r2, r3, r4, r5, r6, r7, r8, r9, r10, rfl⟩ := regs11 hr
  simp only [go_sem, List.map_cons, List.map_nil]
  have e : baseS [r0, r1, r2, r3, r4, r5, r6, r7, r8, r9, r10] = (((r5 &&& 126#8).toNat * 128 : Nat) : Int) := rfl
  have key : ∀ r : BitVec 8, wrap64 (128 * ((r / 2#8 % 64#8 * 2#8).toNat : Int)) = (((r &&& 126#8).toNat * 128 : Nat) : Int) := by decide +kernel
  rw [key, ← e]
  exact Fin.back wf h (fun i hi => by simp only [go_sem, hi]) rfl

theorem ref_top (y : BitVec 8) (H : Heap) (n : Nat) (K : AV → Heap → Nat → Prop) (h : K (.i64 (topS y)) H n) : ACalls Try.prog 21 [.u8 y] H n K := by
  refine ACalls.of_ev dr0 Try.func21 rfl (by decide +kernel) (by decide +kernel) (show 1 ≤ 12 by decide) (by simp) fun wf => ?_
  simp only [go_sem, Try.f21]
  have hy := y.isLt
  have w1 : wrap64 ((y.toNat : Int) + 1) = (y.toNat : Int) + 1 := wrap_id _ (by omega) (by omega)
  unfold topS at h
  rw [w1]
  refine ⟨fun a1 => ?_, fun a1 => ?_⟩
  · rw [if_neg (by omega)] at h
    rw [wrap_id _ (by omega) (by omega), show (y.toNat : Int) + 1 - 256 = (y.toNat : Int) - 255 by omega]
    exact Fin.back wf h (fun _ _ => rfl) rfl
  · rw [if_pos (by omega)] at h
    exact Fin.back wf h (fun _ _ => rfl) rfl
end Go.Proofs.Joy
namespace Go.Proofs.Joy
open Go.Ab Go.Proofs

set_option maxHeartbeats 1000000
set_option maxRecDepth 20000

/-- An answer: numbers, or an empty row that is not nil. -/
def intsE (q l : Nat) : AV := if l = 0 then .sl q 0 0 0 else .su q 0 l 1

theorem intsE_ok {q l n : Nat} (h : q < n) : (intsE q l).ok n = true := by
  unfold intsE; split <;> simp [AV.ok, h]

structure RefI (bs regs : List (BitVec 8)) (line : Int) (H : Heap) (n : Nat) (t : OnS) : Prop where
  i : t.i ≤ 64
  no : ∀ j, j < t.i → yS bs regs j ≠ 208#8
  m : n + 2 ≤ t.m
  wf : t.H.wf t.m
  rg : t.H n = some ⟨regs.map .u8, 26, false⟩
  old : ∀ k, k < n → t.H k = H k
  q0 : n + 1 ≤ t.q
  q1 : t.q < t.m
  out : t.H t.q = some ⟨intsC (hitsTo bs regs line t.i), 3, false⟩

theorem ref_on (v : AV) (bs regs : List (BitVec 8)) (hr : regs.length = 11) (line : Int) (hln : -9223372036854775808 ≤ line ∧ line ≤ 9223372036854775807) (H : Heap) (n : Nat) (K : AV → Heap → Nat → Prop) (hv : bytesIn H v bs)
    (h : ∀ (q : Nat) (H' : Heap) (m : Nat), n ≤ m → H'.wf m → (∀ i, i < n → H' i = H i) → q < m → (hitsS bs regs line ≠ [] → n ≤ q ∧ H' q = some ⟨intsC (hitsS bs regs line), 3, false⟩) →
      K (intsE q (hitsS bs regs line).length) H' m) : ACalls Try.prog 13 [v, .ag (regs.map .u8), .i64 line] H n K := by
  refine ACalls.of_awp Try.func13 rfl (by decide +kernel) (show 3 ≤ 49 by decide) (by simp [hv.ne]) fun wf => ?_
  have hvok : v.ok n = true := by
    rcases hv with ⟨rfl, rfl⟩ | ⟨su, b, o, c, blk, rfl, h0, h1, h2, h3⟩
    · rfl
    · exact vw_ok (wf b _ h1).1
  refine awp_step dr13 (by decide +kernel) ?_
  simp only [go_sem, Try.f13]
  refine awp_step dr13 (by decide +kernel) ?_
  simp only [go_sem]
  have hRB : ∀ x ∈ (⟨regs.map .u8, 26, false⟩ : Blk).cells, x.ok (n + 1) = true := map_u8_ok
  refine awp_gen (RefI bs regs line H n ⟨0, n + 1, n + 2, ·⟩) ⟨Nat.zero_le _, fun j hj => absurd hj (Nat.not_lt_zero _), Nat.le_refl _, Heap.wf_upd (Heap.wf_upd wf hRB) (by intro x hx; simp [repCells] at hx), by
    simp only; rw [Heap.upd_ne _ _ (by omega), Heap.upd_same], fun k hk => by simp only; rw [Heap.upd_ne _ _ (by omega), Heap.upd_ne _ _ (by omega)], Nat.le_refl _, Nat.lt_succ_self _, by simp only; rw [Heap.upd_same]; rfl⟩ ?_
  intro X hX
  have x0 := hX.rg
  simp only at x0
  have fin : ∀ (q m : Nat) (H1 : Heap), n + 1 ≤ q → q < m → H1.wf m → (∀ k, k < n → H1 k = H k) → H1 q = some ⟨intsC (hitsS bs regs line), 3, false⟩ → Fin n (intsE q (hitsS bs regs line).length) H1 m K := fun q m H1 a1 a2 a3 a4 a5 =>
    Fin.keep (h q H1 m (by omega) a3 a4 a2 (fun _ => ⟨by omega, a5⟩))
  refine awp_seqF (S := Unit) (fun _ => [(0, v), (2, .i64 line), (4, .pt n 0), (7, .sl (n + 1) 0 0 0)]) (fun _ => X) (fun _ => n + 2) (fun _ => 0 ≤ line ∧ line < 192)
    (fun _ _ => ⟨hX.wf, Env.okAt_of2 (by simp [AV.ok, AV.ok_mono (show n ≤ n + 2 by omega) _ hvok])⟩) ?_ ?_
  · have out : (line < 0 ∨ 191 < line) → Fin n (.sl (n + 1) 0 0 0) X (n + 2) K := fun ho => by
      have e : hitsS bs regs line = [] := if_pos ho
      have := fin (n + 1) (n + 2) X (by omega) (by omega) hX.wf hX.old (by rw [e]; exact hX.out)
      rw [e] at this
      exact this
    refine awp_ev dr13 (by decide +kernel) ?_
    simp only [go_sem]
    exact ⟨fun a1 => ⟨fun a2 => out (by omega), fun a2 => Ends.mk () ⟨by omega, by omega⟩ (Env.le_cons rfl (Env.le_cons rfl (Env.le_cons rfl (Env.le_cons rfl (Env.le_nil _))))) (fun _ _ => rfl) (Nat.le_refl _) (Nat.le_refl _)⟩, fun a1 => out (by omega)⟩
  rintro - ⟨l1, l2⟩
  have hS : hitsS bs regs line = hitsTo bs regs line (endS bs regs) := if_neg (by omega)
  refine awp_seqF (S := OnS) (fun t => [(7, intsE t.q (hitsS bs regs line).length)]) (fun t => t.H) (fun t => t.m)
    (fun t => n + 1 ≤ t.q ∧ t.q < t.m ∧ t.H.wf t.m ∧ (∀ k, k < n → t.H k = H k) ∧ t.H t.q = some ⟨intsC (hitsS bs regs line), 3, false⟩)
    (fun t ht => ⟨ht.2.2.1, Env.okAt_of2 (by simp [intsE_ok ht.2.1])⟩) ?_ ?_
  · refine awp_step dr13 (by decide +kernel) ?_
    simp only [go_sem]
    refine awp_block ?_
    refine awp_loopF (S := OnS) (fun t => [(0, v), (2, .i64 line), (4, .pt n 0), (7, intsE t.q (hitsTo bs regs line t.i).length), (8, .i64 t.i)]) (fun t => t.H) (fun t => t.m) (RefI bs regs line H n) (fun t => 64 - t.i)
      (fun t ht => ⟨ht.wf, Env.okAt_of2 (by
        have e1 := ht.m
        have e2 := intsE_ok (q := t.q) (l := (hitsTo bs regs line t.i).length) (n := t.m) ht.q1
        simp [AV.ok, AV.ok_mono (show n ≤ t.m by omega) _ hvok, e2]; omega)⟩) ?_ ⟨0, n + 1, n + 2, X⟩ hX
      (Env.le_cons rfl (Env.le_cons rfl (Env.le_cons rfl (Env.le_cons rfl (Env.le_cons rfl (Env.le_nil _)))))) (fun _ _ => rfl) rfl
    rintro ⟨i, q, m, H1⟩ hI
    have hi := hI.i; have hno := hI.no; have hm := hI.m; have hwf := hI.wf; have hreg := hI.rg; have hold := hI.old; have hq0 := hI.q0; have hq1 := hI.q1; have hout := hI.out
    simp only at hi hno hm hwf hreg hold hq0 hq1 hout ⊢
    have hv1 : bytesIn H1 v bs := hv.mono hvok hold
    have hvok1 : v.ok m = true := AV.ok_mono (by omega) _ hvok
    have hsucc := hitsTo_succ bs regs line i
    refine awp_step dr13 (by decide +kernel) ?_
    simp only [go_sem]
    refine ⟨fun hlt => ?_, fun hlt => ?_⟩
    · have hlt' : i < 64 := by omega
      have w2 : wrap64 ((i : Int) + 1) = ((i + 1 : Nat) : Int) := by rw [wrap_id _ (by omega) (by omega)]; omega
      have hbl := baseS_le regs
      have w3 : wrap64 (baseS regs + (i : Int)) = baseS regs + i := wrap_id _ (by omega) (by omega)
      have ht := topS_le (yS bs regs i)
      have hh := heightS_le regs
      have w4 : wrap64 (topS (yS bs regs i) + heightS regs) = topS (yS bs regs i) + heightS regs := wrap_id _ (by omega) (by omega)
      refine awp_ev dr13 (by decide +kernel) ?_
      simp only [go_sem, hreg, hr, List.length_map, take_map_all hr]
      refine ref_base regs hr _ _ _ ?_
      simp only [go_sem, w3]
      refine ref16_at v bs _ _ _ _ hv1 hvok1 ?_
      rw [show atS bs (baseS regs + (i : Int)) = yS bs regs i from rfl]
      simp only [go_sem]
      refine ⟨fun hy => ?_, fun hy => ?_⟩
      · simp only [beq_iff_eq] at hy
        have he : hitsS bs regs line = hitsTo bs regs line i := by rw [hS, endS_at hlt' hy hno]
        rw [he] at fin
        exact ⟨by unfold intsE; split <;> simp, fin q m H1 hq0 hq1 hwf hold hout⟩
      simp only [beq_eq_false_iff_ne, ne_eq] at hy
      have hno' : ∀ j, j < i + 1 → yS bs regs j ≠ 208#8 := fun j hj => by
        rcases Nat.lt_or_ge j i with c | c
        · exact hno j c
        · rw [show j = i by omega]; exact hy
      have next : ∀ e : Env, e.get 0 = v → e.get 2 = .i64 line → e.get 4 = .pt n 0 → e.get 7 = intsE q (hitsTo bs regs line i).length → e.get 8 = .i64 ((i + 1 : Nat) : Int) → onS' bs regs line i = false → Go.Ab.Ends (fun t : OnS =>
          [(0, v), (2, AV.i64 line), (4, AV.pt n 0), (7, intsE t.q (hitsTo bs regs line t.i).length), (8, AV.i64 (t.i : Int))])
          (fun t => t.H) (fun t => t.m) (fun s' => 64 - s'.i < 64 - i ∧ RefI bs regs line H n s') m e H1 m := fun e g0 g2 g4 g7 g8 ho => by
        have e1 : hitsTo bs regs line (i + 1) = hitsTo bs regs line i := by rw [hsucc, ho]; simp
        exact Go.Ab.Ends.mk ⟨i + 1, q, m, H1⟩ ⟨by simp only; omega, hlt', hno', hm, hwf, hreg, hold, hq0, hq1, by simp only; rw [e1]; exact hout⟩ (Env.le_cons g0 (Env.le_cons g2 (Env.le_cons g4 (Env.le_cons (by rw [e1]; exact g7) (Env.le_cons g8 (Env.le_nil _)))))) (fun _ _ => rfl) (Nat.le_refl _) (Nat.le_refl _)
      refine ref_top _ _ _ _ ?_
      simp only [go_sem, hreg, hr, List.length_map, take_map_all hr]
      refine ⟨fun c1 => ?_, fun c1 => ?_⟩
      · refine ref_top _ _ _ _ ?_
        simp only [go_sem]
        refine ⟨by simp only [go_sem, hreg, hr, List.length_map, take_map_all hr], ?_⟩
        refine ref_height regs hr _ _ _ ?_
        simp only [go_sem, w4, hreg, hr, List.length_map, take_map_all hr]
        refine ⟨fun c2 => ?_, fun c2 => ?_⟩
        · have ho : onS' bs regs line i = true := by unfold onS'; rw [Bool.and_eq_true]; exact ⟨by simp; omega, by simp; omega⟩
          rw [ho, if_pos rfl] at hsucc
          have hll := hitsTo_len bs regs line i
          have ok1 : ∀ k, ∀ x ∈ [AV.i64 (i : Int)], x.ok k = true := fun k x hx => by
            simp only [List.mem_cons, List.not_mem_nil, or_false] at hx; subst hx; rfl
          have ok2 : ∀ k, ∀ x ∈ intsC (hitsTo bs regs line (i + 1)), x.ok k = true := fun k x hx => by
            simp only [intsC, List.mem_map] at hx
            obtain ⟨j, -, rfl⟩ := hx
            rfl
          have el1 : (hitsTo bs regs line (i + 1)).length = (hitsTo bs regs line i).length + 1 := by rw [hsucc]; simp
          have hq' : ∀ Z, (H1.upd m Z) q = some ⟨intsC (hitsTo bs regs line i), 3, false⟩ := fun Z => by rw [Heap.upd_ne _ _ (by omega)]; exact hout
          have hql : (intsC (hitsTo bs regs line i)).length = (hitsTo bs regs line i).length := by simp [intsC]
          have ec : (intsC (hitsTo bs regs line i)).take (hitsTo bs regs line i).length ++ [AV.i64 (i : Int)] = intsC (hitsTo bs regs line (i + 1)) := by
            rw [List.take_of_length_le (by rw [hql]; exact Nat.le_refl _), hsucc]; simp [intsC]
          have app : ∀ (e : Env) (H' : Heap), e.get 0 = v → e.get 2 = .i64 line → e.get 4 = .pt n 0 → e.get 7 = intsE (m + 1) (hitsTo bs regs line (i + 1)).length → e.get 8 = .i64 ((i + 1 : Nat) : Int) →
              H'.wf (m + 2) → H' n = some ⟨regs.map .u8, 26, false⟩ → (∀ k, k < n → H' k = H k) → H' (m + 1) = some ⟨intsC (hitsTo bs regs line (i + 1)), 3, false⟩ → Go.Ab.Ends (fun t : OnS =>
              [(0, v), (2, AV.i64 line), (4, AV.pt n 0), (7, intsE t.q (hitsTo bs regs line t.i).length), (8, AV.i64 (t.i : Int))])
              (fun t => t.H) (fun t => t.m) (fun s' => 64 - s'.i < 64 - i ∧ RefI bs regs line H n s') m e H' (m + 2) := fun e H' g0 g2 g4 g7 g8 k3 k4 k5 k6 =>
            Go.Ab.Ends.mk ⟨i + 1, m + 1, m + 2, H'⟩ ⟨by simp only; omega, hlt', hno', by simp only; omega, k3, k4, k5, by simp only; omega, by simp only; omega, k6⟩ (Env.le_cons g0 (Env.le_cons g2 (Env.le_cons g4 (Env.le_cons g7 (Env.le_cons g8 (Env.le_nil _)))))) (fun _ _ => rfl) (by simp only; omega) (Nat.le_refl _)
          by_cases hz : (hitsTo bs regs line i).length = 0
          · rw [show intsE q (hitsTo bs regs line i).length = .sl q 0 0 0 by unfold intsE; rw [if_pos hz]]
            simp only [go_sem, hq', hql, w2]
            have hz' : hitsTo bs regs line i = [] := List.eq_nil_of_length_eq_zero hz
            have hs1 : hitsTo bs regs line (i + 1) = [i] := by rw [hsucc, hz']; rfl
            exact ⟨Nat.zero_le _, app _ _ rfl rfl rfl (by rw [hs1]; rfl) rfl (Heap.wf_upd (Heap.wf_upd hwf (ok1 _)) (ok1 _)) (by rw [Heap.upd_ne _ _ (by omega), Heap.upd_ne _ _ (by omega)]; exact hreg)
              (fun k hk => by rw [Heap.upd_ne _ _ (by omega), Heap.upd_ne _ _ (by omega)]; exact hold k hk) (by rw [Heap.upd_same, hs1]; rfl)⟩
          · rw [show intsE q (hitsTo bs regs line i).length = .su q 0 (hitsTo bs regs line i).length 1 by unfold intsE; rw [if_neg hz]]
            simp only [go_sem, hq', hql, w2]
            rw [ec]
            exact ⟨by omega, app _ _ rfl rfl rfl (by rw [el1]; rfl) rfl (Heap.wf_upd (Heap.wf_upd_none (Heap.wf_upd hwf (ok1 _))) (ok2 _)) (by rw [Heap.upd_ne _ _ (by omega), Heap.upd_ne _ _ (by omega), Heap.upd_ne _ _ (by omega)]; exact hreg)
              (fun k hk => by rw [Heap.upd_ne _ _ (by omega), Heap.upd_ne _ _ (by omega), Heap.upd_ne _ _ (by omega)]; exact hold k hk) (by rw [Heap.upd_same])⟩
        · simp only [w2]
          exact next _ rfl rfl rfl rfl rfl (by unfold onS'; rw [Bool.and_eq_false_iff]; right; simp; omega)
      · simp only [w2]
        exact next _ rfl rfl rfl rfl rfl (by unfold onS'; rw [Bool.and_eq_false_iff]; left; simp; omega)
    · have hie : i = 64 := by omega
      subst hie
      have he : hitsS bs regs line = hitsTo bs regs line 64 := by rw [hS, endS_none hno]
      exact Go.Ab.Ends.mk ⟨64, q, m, H1⟩ ⟨hq0, hq1, hwf, hold, by rw [he]; exact hout⟩ (Env.le_cons (by rw [he]; rfl) (Env.le_nil _)) (fun _ _ => rfl) (by omega) (Nat.le_refl _)
  rintro ⟨i, q, m, H1⟩ ⟨e1, e2, e3, e4, e5⟩
  simp only at e1 e2 e3 e4 e5 ⊢
  refine awp_ev dr13 (by decide +kernel) ?_
  simp only [go_sem]
  exact ⟨by unfold intsE; split <;> simp, fin q m H1 e1 e2 e3 e4 e5⟩
end Go.Proofs.Joy
namespace Go.Proofs.Joy
open Go.Ab Go.Proofs

set_option maxHeartbeats 1000000
set_option maxRecDepth 20000

/-- Threes of bytes in a row. -/
def flat3 (xs : List (BitVec 8 × BitVec 8 × BitVec 8)) : List AV := xs.flatMap fun x => [.u8 x.1, .u8 x.2.1, .u8 x.2.2]
def threesIn (H : Heap) (v : AV) (xs : List (BitVec 8 × BitVec 8 × BitVec 8)) : Prop :=
  (v = .sn ∧ xs = []) ∨
  (∃ b c el ro, v = .sl b 0 xs.length c ∧ xs.length ≤ c ∧ H b = some ⟨flat3 xs, el, ro⟩) ∨
  (∃ b el ro, v = .su b 0 xs.length 3 ∧ H b = some ⟨flat3 xs, el, ro⟩)

theorem lenB_threes {H : Heap} {v : AV} {xs : List (BitVec 8 × BitVec 8 × BitVec 8)} (h : threesIn H v xs) (K : AV → Prop) : lenB (some .slice) v K = K (.i64 xs.length) := by
  rcases h with ⟨rfl, rfl⟩ | ⟨b, c, el, ro, rfl, _, _⟩ | ⟨b, el, ro, rfl, _⟩ <;> rfl

def greatS (xs : List (BitVec 8 × BitVec 8 × BitVec 8)) (ts : List (BitVec 8)) : Bool := decide (64 < xs.length) || decide (300 < ts.length)

theorem great_ok (v w : AV) (xs : List (BitVec 8 × BitVec 8 × BitVec 8)) (ts : List (BitVec 8)) (H : Heap) (n : Nat) (K : AV → Heap → Nat → Prop) (hv : threesIn H v xs) (hw : bytesIn H w ts) (h : K (.bo (greatS xs ts)) H n) : ACalls Try.prog 11 [.ag [v, w]] H n K := by
  refine ACalls.of_ev dr0 Try.func11 rfl (by decide +kernel) (by decide +kernel) (show 1 ≤ 13 by decide) (by simp) fun wf => ?_
  have l1 : ∀ K, lenB (some .slice) v K = K (.i64 xs.length) := lenB_threes hv
  have l2 : ∀ K, lenB (some .slice) w K = K (.i64 ts.length) := lenB_bytes hw
  simp only [go_sem, Try.f11, l1, l2]
  have d : ∀ X, ∀ k, k < n → (H.upd n X) k = H k := fun X k hk => Heap.upd_ne _ _ (by omega)
  have e3 : decide ((300 : Int) < (ts.length : Int)) = decide (300 < ts.length) := by rw [decide_eq_decide]; omega
  refine ⟨fun c => ?_, fun c => ?_⟩
  · rw [show greatS xs ts = decide (300 < ts.length) by unfold greatS; rw [show decide (64 < xs.length) = false by simp; omega]; rfl] at h
    rw [e3]
    exact Fin.back wf h (d _) rfl
  · rw [show greatS xs ts = true by unfold greatS; rw [show decide (64 < xs.length) = true by simp; omega]; rfl] at h
    exact Fin.back wf h (d _) rfl
end Go.Proofs.Joy
namespace Go.Proofs.Joy
open Go.Ab

def bitS (b : BitVec 8) (k p : Nat) : BitVec 8 := ((b >>> k) &&& 1#8) <<< p
/-- A dot of the row that begins at a place, of the first p planes. -/
def dotS (v : List (BitVec 8)) (first : Int) (t : Bool) : Nat → Nat → BitVec 8
  | 0, _ => 0#8
  | p + 1, i => dotS v first t p i ||| bitS (atS v (first + p)) (if t = true then i else 7 - i) p
def mixS (v : List (BitVec 8)) (first : Int) (t : Bool) (p i : Nat) : List (BitVec 8) := (List.range 8).map fun j => dotS v first t (if j < i then p + 1 else p) j
def rowS (v : List (BitVec 8)) (first : Int) (t : Bool) : List (BitVec 8) := (List.range 8).map fun j => dotS v first t 4 j
def firstS (tile row : Int) : Int := tile % 512 * 32 + row % 8 * 4

theorem mixS_len (v : List (BitVec 8)) (first : Int) (t : Bool) (p i : Nat) : (mixS v first t p i).length = 8 := by simp [mixS]
theorem mixS_get (v : List (BitVec 8)) (first : Int) (t : Bool) (p i j : Nat) (h : j < 8) : (mixS v first t p i)[j]? = some (dotS v first t (if j < i then p + 1 else p) j) := by
  simp [mixS, h]
theorem mixS_set (v : List (BitVec 8)) (first : Int) (t : Bool) (p i : Nat) (h : i < 8) : (mixS v first t p i).set i (dotS v first t (p + 1) i) = mixS v first t p (i + 1) := by
  apply List.ext_getElem?
  intro j
  rcases Nat.lt_or_ge j 8 with c | c
  · rw [List.getElem?_set, mixS_get _ _ _ _ _ _ c, mixS_get _ _ _ _ _ _ c, mixS_len]
    by_cases e : i = j
    · subst e; simp [h]
    · rw [if_neg e]
      rcases Nat.lt_or_ge j i with d | d
      · simp [d, Nat.lt_succ_of_lt d]
      · rw [if_neg (by omega), if_neg (by omega)]
  · rw [List.getElem?_eq_none (by simp [mixS_len, c]), List.getElem?_eq_none (by simp [mixS_len, c])]
theorem mixS_8 (v : List (BitVec 8)) (first : Int) (t : Bool) (p : Nat) : mixS v first t p 8 = mixS v first t (p + 1) 0 := by
  unfold mixS
  apply List.map_congr_left
  intro j hj
  rw [List.mem_range] at hj
  simp [hj]
theorem mixS_4 (v : List (BitVec 8)) (first : Int) (t : Bool) : mixS v first t 4 0 = rowS v first t := by
  unfold mixS rowS
  simp
theorem mixS_0 (v : List (BitVec 8)) (first : Int) (t : Bool) : mixS v first t 0 0 = List.replicate 8 0#8 := by
  unfold mixS; simp [dotS]; rfl
theorem firstS_le (tile row : Int) : 0 ≤ firstS tile row ∧ firstS tile row ≤ 16380 := by unfold firstS; omega
end Go.Proofs.Joy
namespace Go.Proofs.Joy
open Go.Ab Go.Proofs

set_option maxHeartbeats 1000000
set_option maxRecDepth 20000

structure TR where
  i : Nat

def E0 (v : AV) (turned : Bool) (first : Int) (n p : Nat) (b : BitVec 8) (i : Nat) : Env := [(0, v), (3, .bo turned), (8, .pt n 0), (9, .pt (n + 1) 0), (10, .i64 first), (11, .i64 p), (12, .u8 b), (22, .i64 p), (30, .i64 i)]

theorem tile_row (v : AV) (bs : List (BitVec 8)) (tile row : Int) (turned : Bool) (H : Heap) (n : Nat) (K : AV → Heap → Nat → Prop) (hv : bytesIn H v bs) (h : K (.ag ((rowS bs (firstS tile row) turned).map .u8)) H n) : ACalls Try.prog 25 [v, .i64 tile, .i64 row, .bo turned] H n K := by
  refine ACalls.of_awp Try.func25 rfl (by decide +kernel) (show 4 ≤ 51 by decide) (by simp [hv.ne]) fun wf => ?_
  have hvok : v.ok n = true := by
    rcases hv with ⟨rfl, rfl⟩ | ⟨su, b, o, c, blk, rfl, h0, h1, h2, h3⟩
    · rfl
    · exact vw_ok (wf b _ h1).1
  have e1 : and64 tile 511 = tile % 512 := and64_mask 9 (by decide) tile
  have e2 : and64 row 7 = row % 8 := and64_mask 3 (by decide) row
  have hf := firstS_le tile row
  have e3 : wrap64 (wrap64 (tile % 512 * 32) + wrap64 (row % 8 * 4)) = firstS tile row := by
    unfold firstS at hf ⊢
    rw [wrap_id (tile % 512 * 32) (by omega) (by omega), wrap_id (row % 8 * 4) (by omega) (by omega), wrap_id _ (by omega) (by omega)]
  have ok0 : ∀ k, ∀ x ∈ ((List.replicate 8 0#8).map AV.u8), x.ok k = true := fun k => map_u8_ok
  let X : Option Blk := some ⟨(List.replicate 8 0#8).map .u8, 45, false⟩
  let G : Nat → Nat → Heap := fun p i => (H.upd n X).upd (n + 1) (some ⟨(mixS bs (firstS tile row) turned p i).map .u8, 45, false⟩)
  have wfG : ∀ p i, (G p i).wf (n + 2) := fun p i => Heap.wf_upd (Heap.wf_upd wf (ok0 _)) map_u8_ok
  have hvG : ∀ p i, bytesIn (G p i) v bs := fun p i => hv.mono hvok (fun k hk => by show ((H.upd n X).upd (n + 1) _) k = _; rw [Heap.upd_ne _ _ (by omega), Heap.upd_ne _ _ (by omega)])
  have hvok1 : v.ok (n + 2) = true := AV.ok_mono (by omega) _ hvok
  have gG : ∀ p i, G p i (n + 1) = some ⟨(mixS bs (firstS tile row) turned p i).map .u8, 45, false⟩ := fun p i => Heap.upd_same _ _ _
  refine awp_step dr25 (by decide +kernel) ?_
  simp only [go_sem, Try.f25]
  refine awp_step dr25 (by decide +kernel) ?_
  simp only [go_sem]
  refine awp_step dr25 (by decide +kernel) ?_
  simp only [go_sem, e1, e2, e3]
  refine awp_seqF (S := Unit) (fun _ => [(8, .pt n 0), (9, .pt (n + 1) 0)]) (fun _ => G 4 0) (fun _ => n + 2) (fun _ => True) (fun _ _ => ⟨wfG _ _, Env.okAt_of2 (by simp [AV.ok])⟩) ?_ ?_
  · refine awp_step dr25 (by decide +kernel) ?_
    simp only [go_sem]
    refine awp_block ?_
    refine awp_loopF (S := TR) (fun t => [(0, v), (3, .bo turned), (8, .pt n 0), (9, .pt (n + 1) 0), (10, .i64 (firstS tile row)), (22, .i64 t.i)]) (fun t => G t.i 0) (fun _ => n + 2) (fun t => t.i ≤ 4) (fun t => 4 - t.i)
      (fun t _ => ⟨wfG _ _, Env.okAt_of2 (by simp [AV.ok, hvok1])⟩) ?_ ⟨0⟩ (Nat.zero_le _)
      (Env.le_cons rfl (Env.le_cons rfl (Env.le_cons rfl (Env.le_cons rfl (Env.le_cons rfl (Env.le_cons rfl (Env.le_nil _))))))) (fun k _ => by show _ = ((H.upd n X).upd (n + 1) _) k; rw [mixS_0]; rfl) rfl
    rintro ⟨p⟩ hp
    simp only at hp ⊢
    refine awp_step dr25 (by decide +kernel) ?_
    simp only [go_sem]
    refine awp_step dr25 (by decide +kernel) ?_
    simp only [go_sem]
    refine ⟨fun hlt => ?_, fun hlt => ?_⟩
    · have hlt' : p < 4 := by omega
      have w1 : wrap64 ((p : Int) + 1) = ((p + 1 : Nat) : Int) := by rw [wrap_id _ (by omega) (by omega)]; omega
      have w2 : wrap64 (firstS tile row + (p : Int)) = firstS tile row + p := wrap_id _ (by omega) (by omega)
      refine awp_seq (awp_block ?_)
      refine awp_step dr25 (by decide +kernel) ?_
      simp only [go_sem]
      refine awp_step dr25 (by decide +kernel) ?_
      simp only [go_sem, w2]
      refine tile_at v bs _ _ _ _ (hvG _ _) hvok1 ?_
      simp only [go_sem]
      refine awp_step dr25 (by decide +kernel) ?_
      simp only [go_sem]
      refine awp_block ?_
      refine awp_loopF (S := TR) (fun t => [(0, v), (3, .bo turned), (8, .pt n 0), (9, .pt (n + 1) 0), (10, .i64 (firstS tile row)), (11, .i64 p), (12, .u8 (atS bs (firstS tile row + p))), (22, .i64 p), (30, .i64 t.i)]) (fun t => G p t.i) (fun _ => n + 2) (fun t => t.i ≤ 8) (fun t => 8 - t.i)
        (fun t _ => ⟨wfG _ _, Env.okAt_of2 (by simp [AV.ok, hvok1])⟩) ?_ ⟨0⟩ (Nat.zero_le _)
        (Env.le_cons rfl (Env.le_cons rfl (Env.le_cons rfl (Env.le_cons rfl (Env.le_cons rfl (Env.le_cons rfl (Env.le_cons rfl (Env.le_cons rfl (Env.le_cons rfl (Env.le_nil _)))))))))) (fun k _ => rfl) rfl
      rintro ⟨i⟩ hi
      simp only at hi ⊢
      refine awp_step dr25 (by decide +kernel) ?_
      simp only [go_sem]
      refine awp_step dr25 (by decide +kernel) ?_
      simp only [go_sem]
      refine ⟨fun hlt2 => ?_, fun hlt2 => ?_⟩
      · have hi' : i < 8 := by omega
        have w3 : wrap64 ((i : Int) + 1) = ((i + 1 : Nat) : Int) := by rw [wrap_id _ (by omega) (by omega)]; omega
        have w4 : wrap64 (7 - (i : Int)) = ((7 - i : Nat) : Int) := by rw [wrap_id _ (by omega) (by omega)]; omega
        refine awp_ev dr25 (by decide +kernel) ?_
        have gd : ((mixS bs (firstS tile row) turned p i).map AV.u8).getD i .junk = .u8 (dotS bs (firstS tile row) turned p i) := by
          rw [List.getD_eq_getElem?_getD, List.getElem?_map, mixS_get _ _ _ _ _ _ hi', if_neg (Nat.lt_irrefl i)]; rfl
        have hiI : (i : Int) < 8 := by omega
        have gs : ∀ x, x = dotS bs (firstS tile row) turned (p + 1) i → ∀ k, (G p i).upd (n + 1) (some ⟨((mixS bs (firstS tile row) turned p i).map AV.u8).set i (.u8 x), 45, false⟩) k = G p (i + 1) k := fun x hx k => by
          subst hx
          rw [← List.map_set, mixS_set _ _ _ _ _ hi']
          by_cases hk : k = n + 1
          · subst hk; rw [Heap.upd_same, gG]
          · rw [Heap.upd_ne _ _ hk]; show ((H.upd n X).upd (n + 1) _) k = ((H.upd n X).upd (n + 1) _) k; rw [Heap.upd_ne _ _ hk, Heap.upd_ne _ _ hk]
        simp only [go_sem, w4, w3, gG, mixS_len, hi', hiI, List.length_map, gd]
        have tail : ∀ (e : Env) (x : BitVec 8), x = dotS bs (firstS tile row) turned (p + 1) i → (E0 v turned (firstS tile row) n p (atS bs (firstS tile row + p)) (i + 1)).le e → Go.Ab.Ends (fun t : TR => E0 v turned (firstS tile row) n p (atS bs (firstS tile row + p)) t.i) (fun t => G p t.i) (fun _ => n + 2) (fun s' => 8 - s'.i < 8 - i ∧ s'.i ≤ 8) (n + 2) e
            ((G p i).upd (n + 1) (some ⟨((mixS bs (firstS tile row) turned p i).map AV.u8).set i (.u8 x), 45, false⟩)) (n + 2) := fun e x hx he =>
          Go.Ab.Ends.mk (⟨i + 1⟩ : TR) ⟨by simp only; omega, by simp only; omega⟩ he (fun k _ => gs x hx k) (by omega) (Nat.le_refl _)
        refine ⟨fun ht => ⟨by omega, ?_⟩, fun ht => ⟨by omega, ?_⟩⟩
        · exact tail _ _ (by simp only [dotS, bitS, ht]; rfl) (Env.le_cons rfl (Env.le_cons rfl (Env.le_cons rfl (Env.le_cons rfl (Env.le_cons rfl (Env.le_cons rfl (Env.le_cons rfl (Env.le_cons rfl (Env.le_cons rfl (Env.le_nil _))))))))))
        · exact tail _ _ (by simp only [dotS, bitS, ht]; rfl) (Env.le_cons rfl (Env.le_cons rfl (Env.le_cons rfl (Env.le_cons rfl (Env.le_cons rfl (Env.le_cons rfl (Env.le_cons rfl (Env.le_cons rfl (Env.le_cons rfl (Env.le_nil _))))))))))
      · have hie : i = 8 := by omega
        subst hie
        refine awp_ev dr25 (by decide +kernel) ?_
        simp only [go_sem, w1]
        exact Go.Ab.Ends.mk ⟨p + 1⟩ ⟨by simp only; omega, by simp only; omega⟩ (Env.le_cons rfl (Env.le_cons rfl (Env.le_cons rfl (Env.le_cons rfl (Env.le_cons rfl (Env.le_cons rfl (Env.le_nil _))))))) (fun k _ => by
          show ((H.upd n X).upd (n + 1) _) k = ((H.upd n X).upd (n + 1) _) k; rw [mixS_8]) (by omega) (Nat.le_refl _)
    · have hpe : p = 4 := by omega
      subst hpe
      exact Go.Ab.Ends.mk () trivial (Env.le_cons rfl (Env.le_cons rfl (Env.le_nil _))) (fun _ _ => rfl) (by omega) (Nat.le_refl _)
  rintro - -
  refine awp_step dr25 (by decide +kernel) ?_
  have g0 : G 4 0 n = some ⟨(List.replicate 8 0#8).map .u8, 45, false⟩ := by show ((H.upd n X).upd (n + 1) _) n = _; rw [Heap.upd_ne _ _ (by omega), Heap.upd_same]
  simp only [go_sem, gG, g0, mixS_len, List.length_map]
  refine ⟨by decide, ?_⟩
  refine awp_ev dr25 (by decide +kernel) ?_
  have es : splice ((List.replicate 8 0#8).map AV.u8) 0 ((mixS bs (firstS tile row) turned 4 0).map AV.u8) = (rowS bs (firstS tile row) turned).map AV.u8 := by
    rw [mixS_4]; simp [splice, rowS]
  simp only [go_sem, es]
  refine ⟨by simp [rowS], ?_⟩
  rw [List.take_of_length_le (by simp [rowS])]
  exact Fin.back wf h (fun k hk => by rw [Heap.upd_ne _ _ (by omega)]; show ((H.upd n X).upd (n + 1) _) k = _; rw [Heap.upd_ne _ _ (by omega), Heap.upd_ne _ _ (by omega)]) rfl
end Go.Proofs.Joy
namespace Go.Proofs.Joy
open Go.Ab

/-- The number of a sprite's tile. -/
def numS (v regs : List (BitVec 8)) (i : Nat) : Int :=
  let n : Nat := (atS v (baseS regs + 128 + 2 * i + 1)).toNat + (if regs.getD 6 0#8 &&& 4#8 = 0#8 then 0 else 256)
  if regs.getD 1 0#8 &&& 2#8 = 0#8 then (n : Int) else ((n - n % 2 : Nat) : Int)
/-- The row of it that a line shows. -/
def downS (v regs : List (BitVec 8)) (i : Nat) (line : Int) : Int :=
  if regs.getD 1 0#8 &&& 1#8 = 0#8 then line - topS (yS v regs i) else (line - topS (yS v regs i)).tdiv 2
def dotsL (v regs : List (BitVec 8)) (i : Nat) (line : Int) : List (BitVec 8) := rowS v (firstS (numS v regs i + (downS v regs i line).tdiv 8) ((downS v regs i line).tmod 8)) false

theorem andNot_one : ∀ n, n < 512 → andNot64 ((n : Nat) : Int) 1 = ((n - n % 2 : Nat) : Int) := by decide +kernel
theorem tdiv_bd (D k b : Int) (h : -b ≤ D ∧ D ≤ b) : -b ≤ D.tdiv k ∧ D.tdiv k ≤ b := by
  have := Int.natAbs_tdiv D k
  have h2 : (D.tdiv k).natAbs ≤ D.natAbs := by rw [this]; exact Nat.div_le_self _ _
  omega
theorem dotsL_len (v regs : List (BitVec 8)) (i : Nat) (line : Int) : (dotsL v regs i line).length = 8 := by simp [dotsL, rowS]
theorem numS_le (v regs : List (BitVec 8)) (i : Nat) : 0 ≤ numS v regs i ∧ numS v regs i < 512 := by
  have := (atS v (baseS regs + 128 + 2 * i + 1)).isLt
  unfold numS
  simp only
  split <;> split <;> omega
end Go.Proofs.Joy
namespace Go.Proofs.Joy
open Go.Ab Go.Proofs

set_option maxHeartbeats 1000000
set_option maxRecDepth 20000

theorem dots_ok (v : AV) (bs regs : List (BitVec 8)) (hr : regs.length = 11) (i : Nat) (hi : i < 64) (line : Int) (hl : 0 ≤ line ∧ line < 192) (H : Heap) (n : Nat) (K : AV → Heap → Nat → Prop) (hv : bytesIn H v bs) (h : K (.ag ((dotsL bs regs i line).map .u8)) H n) :
    ACalls Try.prog 22 [v, .ag (regs.map .u8), .i64 i, .i64 line] H n K := by
  refine ACalls.of_awp Try.func22 rfl (by decide +kernel) (show 4 ≤ 57 by decide) (by simp [hv.ne]) fun wf => ?_
  have hvok : v.ok n = true := by
    rcases hv with ⟨rfl, rfl⟩ | ⟨su, b, o, c, blk, rfl, h0, h1, h2, h3⟩
    · rfl
    · exact vw_ok (wf b _ h1).1
  obtain ⟨r0, r1, r2, r3, r4, r5, r6, r7, r8, r9, r10, rfl⟩ := regs11 hr
  have hbl := baseS_le [r0, r1, r2, r3, r4, r5, r6, r7, r8, r9, r10]
  let R : List (BitVec 8) := [r0, r1, r2, r3, r4, r5, r6, r7, r8, r9, r10]
  have hRok : ∀ x ∈ (R.map AV.u8), x.ok (n + 1) = true := map_u8_ok
  have hZok : ∀ x ∈ ((List.replicate 8 0#8).map AV.u8), x.ok (n + 2) = true := map_u8_ok
  let G : Heap := (H.upd n (some ⟨R.map .u8, 26, false⟩)).upd (n + 1) (some ⟨(List.replicate 8 0#8).map .u8, 45, false⟩)
  have wfG : G.wf (n + 2) := Heap.wf_upd (Heap.wf_upd wf hRok) hZok
  have hvG : bytesIn G v bs := hv.mono hvok (fun k hk => by show ((H.upd n _).upd (n + 1) _) k = _; rw [Heap.upd_ne _ _ (by omega), Heap.upd_ne _ _ (by omega)])
  have hvok2 : v.ok (n + 2) = true := AV.ok_mono (by omega) _ hvok
  refine awp_step dr0 (by decide +kernel) ?_
  simp only [go_sem, Try.f22, List.map_cons, List.map_nil]
  refine awp_gen (fun X => X = G) rfl ?_
  rintro _ rfl
  have gn : G n = some ⟨R.map .u8, 26, false⟩ := by show ((H.upd n _).upd (n + 1) _) n = _; rw [Heap.upd_ne _ _ (by omega), Heap.upd_same]
  have gn1 : G (n + 1) = some ⟨(List.replicate 8 0#8).map .u8, 45, false⟩ := Heap.upd_same _ _ _
  refine awp_step dr0 (by decide +kernel) ?_
  simp only [go_sem, gn, R, List.map_cons, List.map_nil]
  have ht := topS_le (yS bs [r0, r1, r2, r3, r4, r5, r6, r7, r8, r9, r10] i)
  refine base_ok [r0, r1, r2, r3, r4, r5, r6, r7, r8, r9, r10] hr _ _ _ ?_
  have w1 : wrap64 (baseS [r0, r1, r2, r3, r4, r5, r6, r7, r8, r9, r10] + (i : Int)) = baseS [r0, r1, r2, r3, r4, r5, r6, r7, r8, r9, r10] + i := wrap_id _ (by omega) (by omega)
  simp only [go_sem]
  refine awp_step dr0 (by decide +kernel) ?_
  simp only [go_sem, w1]
  refine tile_at v bs _ _ _ _ hvG hvok2 ?_
  rw [show atS bs (baseS [r0, r1, r2, r3, r4, r5, r6, r7, r8, r9, r10] + (i : Int)) = yS bs [r0, r1, r2, r3, r4, r5, r6, r7, r8, r9, r10] i from rfl]
  simp only [go_sem]
  refine top_ok _ _ _ _ ?_
  have w2 : wrap64 (line - topS (yS bs [r0, r1, r2, r3, r4, r5, r6, r7, r8, r9, r10] i)) = line - topS (yS bs [r0, r1, r2, r3, r4, r5, r6, r7, r8, r9, r10] i) := wrap_id _ (by omega) (by omega)
  have w3 : wrap64 (wrap64 (wrap64 (baseS [r0, r1, r2, r3, r4, r5, r6, r7, r8, r9, r10] + 128) + wrap64 (2 * (i : Int))) + 1) = baseS [r0, r1, r2, r3, r4, r5, r6, r7, r8, r9, r10] + 128 + 2 * i + 1 := by
    rw [wrap_id (baseS _ + 128) (by omega) (by omega), wrap_id (2 * (i : Int)) (by omega) (by omega), wrap_id (_ + 2 * (i : Int)) (by omega) (by omega), wrap_id _ (by omega) (by omega)]
  simp only [go_sem, w2]
  refine awp_step dr0 (by decide +kernel) ?_
  simp only [go_sem, w3]
  refine tile_at v bs _ _ _ _ hvG hvok2 ?_
  simp only [go_sem]
  have hb := (atS bs (baseS [r0, r1, r2, r3, r4, r5, r6, r7, r8, r9, r10] + 128 + 2 * (i : Int) + 1)).isLt
  generalize hbe : atS bs (baseS [r0, r1, r2, r3, r4, r5, r6, r7, r8, r9, r10] + 128 + 2 * (i : Int) + 1) = nb at hb ⊢
  have hd : ∀ a b, numS bs [r0, r1, r2, r3, r4, r5, r6, r7, r8, r9, r10] i + (downS bs [r0, r1, r2, r3, r4, r5, r6, r7, r8, r9, r10] i line).tdiv 8 = a → (downS bs [r0, r1, r2, r3, r4, r5, r6, r7, r8, r9, r10] i line).tmod 8 = b →
      rowS bs (firstS a b) false = dotsL bs [r0, r1, r2, r3, r4, r5, r6, r7, r8, r9, r10] i line := fun a b ha hb => by subst ha hb; rfl
  have hD : -300 ≤ line - topS (yS bs [r0, r1, r2, r3, r4, r5, r6, r7, r8, r9, r10] i) ∧ line - topS (yS bs [r0, r1, r2, r3, r4, r5, r6, r7, r8, r9, r10] i) ≤ 300 := by omega
  have hnum : numS bs [r0, r1, r2, r3, r4, r5, r6, r7, r8, r9, r10] i = if r1 &&& 2#8 = 0#8 then ((nb.toNat + (if r6 &&& 4#8 = 0#8 then 0 else 256) : Nat) : Int) else ((nb.toNat + (if r6 &&& 4#8 = 0#8 then 0 else 256) - (nb.toNat + (if r6 &&& 4#8 = 0#8 then 0 else 256)) % 2 : Nat) : Int) := by
    unfold numS; simp only [hbe]; rfl
  have hdown : downS bs [r0, r1, r2, r3, r4, r5, r6, r7, r8, r9, r10] i line = if r1 &&& 1#8 = 0#8 then line - topS (yS bs [r0, r1, r2, r3, r4, r5, r6, r7, r8, r9, r10] i) else (line - topS (yS bs [r0, r1, r2, r3, r4, r5, r6, r7, r8, r9, r10] i)).tdiv 2 := rfl
  generalize line - topS (yS bs [r0, r1, r2, r3, r4, r5, r6, r7, r8, r9, r10] i) = D at hD hdown ⊢
  have b2 : -300 ≤ D.tdiv 2 ∧ D.tdiv 2 ≤ 300 := tdiv_bd _ _ _ hD
  have b8 : -300 ≤ D.tdiv 8 ∧ D.tdiv 8 ≤ 300 := tdiv_bd _ _ _ hD
  have b28 : -300 ≤ (D.tdiv 2).tdiv 8 ∧ (D.tdiv 2).tdiv 8 ≤ 300 := tdiv_bd _ _ _ b2
  have x1 : wrap64 (D.tdiv 2) = D.tdiv 2 := wrap_id _ (by omega) (by omega)
  have x2 : wrap64 (D.tdiv 8) = D.tdiv 8 := wrap_id _ (by omega) (by omega)
  have x3 : wrap64 ((D.tdiv 2).tdiv 8) = (D.tdiv 2).tdiv 8 := wrap_id _ (by omega) (by omega)
  have x4 : wrap64 ((nb.toNat : Int) + 256) = ((nb.toNat + 256 : Nat) : Int) := by rw [wrap_id _ (by omega) (by omega)]; omega
  have x5 : andNot64 ((nb.toNat + 256 : Nat) : Int) 1 = ((nb.toNat + 256 - (nb.toNat + 256) % 2 : Nat) : Int) := andNot_one _ (by omega)
  have x6 : andNot64 (nb.toNat : Int) 1 = ((nb.toNat - nb.toNat % 2 : Nat) : Int) := andNot_one _ (by omega)
  have fin : ∀ l, l = dotsL bs [r0, r1, r2, r3, r4, r5, r6, r7, r8, r9, r10] i line → ∀ X, Fin n (.ag (l.map .u8)) (G.upd (n + 1) X) (n + 2) K := fun l hl X => by
    subst hl
    exact Fin.back wf h (fun k hk => by rw [Heap.upd_ne _ _ (by omega)]; show ((H.upd n _).upd (n + 1) _) k = _; rw [Heap.upd_ne _ _ (by omega), Heap.upd_ne _ _ (by omega)]) rfl
  refine awp_ev dr0 (by decide +kernel) ?_
  simp only [go_sem, gn, R, List.map_cons, List.map_nil, x1, x2, x3, x4, x5, x6]
  refine ⟨fun a1 => ⟨fun a2 => ⟨fun a3 => ?_, fun a3 => ?_⟩, fun a2 => ⟨fun a3 => ?_, fun a3 => ?_⟩⟩, fun a1 => ⟨fun a2 => ⟨fun a3 => ?_, fun a3 => ?_⟩, fun a2 => ⟨fun a3 => ?_, fun a3 => ?_⟩⟩⟩
  all_goals
    simp only [bne_iff_ne, ne_eq, bne_eq_false_iff_eq] at a1 a2 a3
    simp only [a1, a2, a3, if_true, if_false, Nat.add_zero] at hnum hdown
    refine tile_row v bs _ _ _ _ _ _ hvG ?_
    rw [hd _ _ (by rw [hnum, hdown, wrap_id _ (by omega) (by omega)]) (by rw [hdown])]
    simp only [go_sem, gn1]
    have es : splice ((List.replicate 8 0#8).map AV.u8) 0 ((dotsL bs [r0, r1, r2, r3, r4, r5, r6, r7, r8, r9, r10] i line).map AV.u8) = (dotsL bs [r0, r1, r2, r3, r4, r5, r6, r7, r8, r9, r10] i line).map AV.u8 := by
      simp [splice, dotsL_len]
    rw [es, List.take_of_length_le (l := (dotsL bs [r0, r1, r2, r3, r4, r5, r6, r7, r8, r9, r10] i line).map AV.u8) (by rw [List.length_map, dotsL_len]; exact Nat.le_refl _)]
    exact ⟨by rw [List.length_map, dotsL_len], by decide, by rw [List.length_map, dotsL_len]; exact Nat.le_refl _, fin _ rfl _⟩
end Go.Proofs.Joy
namespace Go.Proofs.Joy
open Go.Ab

def putC (c : List (BitVec 8)) (x : Int) (d : BitVec 8) : List (BitVec 8) := if d = 0#8 ∨ x < 0 then c else if c.getD x.toNat 0#8 ≠ 0#8 then c else c.set x.toNat (16#8 + d)
def putM (c : List (BitVec 8)) (m : Bool) (x : Int) (d : BitVec 8) : Bool := if d = 0#8 ∨ x < 0 then m else if c.getD x.toNat 0#8 ≠ 0#8 then true else m
theorem putC_len (c : List (BitVec 8)) (x : Int) (d : BitVec 8) : (putC c x d).length = c.length := by
  unfold putC; split
  · rfl
  · split
    · rfl
    · rw [List.length_set]

/-- Colors, and whether two met. -/
structure RowS where
  c : List (BitVec 8)
  m : Bool
def RowS.put (s : RowS) (x : Int) (d : BitVec 8) : RowS := if x < 256 then ⟨putC s.c x d, putM s.c s.m x d⟩ else s
def wideS (regs : List (BitVec 8)) : Nat := if regs.getD 1 0#8 &&& 1#8 = 0#8 then 1 else 2
def leftS (v regs : List (BitVec 8)) (i : Nat) : Int := (atS v (baseS regs + 128 + 2 * i)).toNat - (if regs.getD 0 0#8 &&& 8#8 = 0#8 then 0 else 8)
/-- A sprite's first dots laid on a row. -/
def sprTo (v regs : List (BitVec 8)) (line : Int) (i : Nat) (s : RowS) : Nat → RowS
  | 0 => s
  | t + 1 => (sprTo v regs line i s t).put (leftS v regs i + t) ((dotsL v regs i line).getD (t / wideS regs) 0#8)
def sprS (v regs : List (BitVec 8)) (line : Int) (i : Nat) (s : RowS) : RowS := sprTo v regs line i s (8 * wideS regs)
def rowTo (v regs : List (BitVec 8)) (line : Int) : List Nat → RowS → RowS
  | [], s => s
  | i :: l, s => rowTo v regs line l (sprS v regs line i s)
/-- Sprites' row of a line. -/
def spritesS (v regs : List (BitVec 8)) (line : Int) : RowS := rowTo v regs line ((hitsS v regs line).take 8) ⟨List.replicate 256 0#8, false⟩

theorem RowS.put_len (s : RowS) (x : Int) (d : BitVec 8) : (s.put x d).c.length = s.c.length := by
  unfold RowS.put; split
  · exact putC_len _ _ _
  · rfl
theorem sprTo_len (v regs : List (BitVec 8)) (line : Int) (i : Nat) (s : RowS) (t : Nat) : (sprTo v regs line i s t).c.length = s.c.length := by
  induction t with
  | zero => rfl
  | succ t ih => rw [sprTo, RowS.put_len, ih]
theorem sprTo_end (v regs : List (BitVec 8)) (line : Int) (i : Nat) (s : RowS) (t : Nat) (h : 256 ≤ leftS v regs i + t) : ∀ k, sprTo v regs line i s (t + k) = sprTo v regs line i s t := fun k => by
  induction k with
  | zero => rfl
  | succ k ih => rw [← Nat.add_assoc, sprTo, ih, RowS.put, if_neg (by omega)]
theorem rowTo_app (v regs : List (BitVec 8)) (line : Int) (l : List Nat) (i : Nat) (s : RowS) : rowTo v regs line (l ++ [i]) s = sprS v regs line i (rowTo v regs line l s) := by
  induction l generalizing s with
  | nil => rfl
  | cons j l ih => exact ih _
theorem rowTo_len (v regs : List (BitVec 8)) (line : Int) (l : List Nat) (s : RowS) : (rowTo v regs line l s).c.length = s.c.length := by
  induction l generalizing s with
  | nil => rfl
  | cons j l ih => rw [rowTo, ih]; exact sprTo_len _ _ _ _ _ _
theorem endS_le (v regs : List (BitVec 8)) : endS v regs ≤ 64 := by
  unfold endS
  cases hf : (List.range 64).findIdx? (fun i => yS v regs i == 208#8) with
  | none => exact Nat.le_refl _
  | some k =>
    rw [List.findIdx?_eq_some_iff_getElem] at hf
    obtain ⟨hk, -⟩ := hf
    rw [List.length_range] at hk
    exact Nat.le_of_lt hk
theorem hitsS_lt {v regs : List (BitVec 8)} {line : Int} {i : Nat} (h : i ∈ hitsS v regs line) : i < 64 := by
  unfold hitsS at h
  split at h
  · cases h
  · unfold hitsTo at h
    have := List.mem_range.1 (List.mem_filter.1 h).1
    have := endS_le v regs
    omega
theorem hitsS_line {v regs : List (BitVec 8)} {line : Int} (h : hitsS v regs line ≠ []) : 0 ≤ line ∧ line < 192 := by
  unfold hitsS at h
  split at h
  · exact absurd rfl h
  · omega
theorem wideS_le (regs : List (BitVec 8)) : 1 ≤ wideS regs ∧ wideS regs ≤ 2 := by unfold wideS; split <;> omega
theorem leftS_le (v regs : List (BitVec 8)) (i : Nat) : -8 ≤ leftS v regs i ∧ leftS v regs i ≤ 255 := by
  have := (atS v (baseS regs + 128 + 2 * i)).isLt
  unfold leftS; split <;> omega
end Go.Proofs.Joy
namespace Go.Proofs.Joy
open Go.Ab Go.Proofs

set_option maxHeartbeats 1000000
set_option maxRecDepth 20000

def rowB (c : List (BitVec 8)) (o m : Bool) : Blk := ⟨c.map .u8 ++ [.bo o, .bo m], 39, false⟩
theorem rowB_ok (c : List (BitVec 8)) (o m : Bool) (n : Nat) : ∀ v ∈ (rowB c o m).cells, v.ok n = true := by
  intro v hv
  simp only [rowB, List.mem_append, List.mem_map, List.mem_cons, List.not_mem_nil, or_false] at hv
  rcases hv with ⟨x, -, rfl⟩ | rfl | rfl <;> rfl

theorem put_ok (b : Nat) (c : List (BitVec 8)) (hc : c.length = 256) (o m : Bool) (x : Int) (hx : x < 256) (d : BitVec 8) (H : Heap) (n : Nat) (K : AV → Heap → Nat → Prop) (hb : H b = some (rowB c o m))
    (h : K (.tu []) (H.upd b (some (rowB (putC c x d) o (putM c m x d)))) n) : ACalls Try.prog 23 [.pt b 0, .i64 x, .u8 d] H n K := by
  refine ACalls.of_awp Try.func23 rfl (by decide +kernel) (show 3 ≤ 31 by decide) (by simp) fun wf => ?_
  have hbn := (wf b _ hb).1
  have hb' : H b = some ⟨c.map .u8 ++ [.bo o, .bo m], 39, false⟩ := hb
  by_cases hz : d = 0#8 ∨ x < 0
  · rw [putC, putM, if_pos hz, if_pos hz, ← hb, Heap.upd_self rfl] at h
    refine awp_ev dr0 (by decide +kernel) ?_
    rcases hz with hz | hz
    · subst hz
      simp only [go_sem, Try.f23]
      exact Fin.back wf h (fun _ _ => rfl) rfl
    · have hz' : ¬ 0 ≤ x := by omega
      simp only [go_sem, hz, hz', Try.f23]
      exact ⟨fun _ => Fin.back wf h (fun _ _ => rfl) rfl, fun _ => Fin.back wf h (fun _ _ => rfl) rfl⟩
  · have hd : d ≠ 0#8 := fun e => hz (.inl e)
    obtain ⟨k, rfl⟩ := Int.eq_ofNat_of_zero_le (show 0 ≤ x by omega)
    have hk : k < 256 := by omega
    rw [putC, putM, if_neg hz, if_neg hz, Int.toNat_natCast] at h
    have gd : (c.map AV.u8 ++ [AV.bo o, AV.bo m]).getD k .junk = .u8 (c.getD k 0#8) := by
      rw [getD_app_l (by rw [List.length_map]; omega), getD_map_u8' (by omega)]
    refine awp_ev dr0 (by decide +kernel) ?_
    have hk0 : ¬ (k : Int) < 0 := by omega
    have hk1 : (k : Int) < 256 := by omega
    have hk2 : k < 258 := by omega
    simp only [go_sem, hb', gd, hk, hk0, hk1, hk2, hc, List.length_append, List.length_map, List.length_cons, List.length_nil, Try.f23]
    have s1 : (c.map AV.u8 ++ [AV.bo o, AV.bo m]).set 257 (AV.bo true) = c.map AV.u8 ++ [AV.bo o, AV.bo true] := by
      rw [List.set_append_right _ _ (by rw [List.length_map]; omega), List.length_map, hc]; rfl
    have s2 : ∀ y, (c.map AV.u8 ++ [AV.bo o, AV.bo m]).set k (AV.u8 y) = (c.set k y).map AV.u8 ++ [AV.bo o, AV.bo m] := fun y => by
      rw [List.set_append_left _ _ (by rw [List.length_map]; omega), List.map_set]
    rw [s1, s2]
    refine ⟨fun _ => ⟨fun a1 => ?_, fun a1 => ⟨by omega, ?_⟩⟩, fun a1 => absurd (by simpa using a1) hd⟩
    · simp only [bne_iff_ne, ne_eq] at a1
      rw [if_pos a1, if_pos a1] at h
      exact Fin.putb wf hbn (rowB_ok _ _ _ n) h (fun _ _ => rfl) rfl
    · simp only [bne_eq_false_iff_eq] at a1
      rw [if_neg (by simpa using a1), if_neg (by simpa using a1)] at h
      exact Fin.putb wf hbn (rowB_ok _ _ _ n) h (fun _ _ => rfl) rfl
end Go.Proofs.Joy
namespace Go.Proofs.Joy
open Go.Ab Go.Proofs

set_option maxHeartbeats 1000000
set_option maxRecDepth 20000

/-- What is known of memory while a row is made. -/
structure LI (H : Heap) (n m q : Nat) (regs : List (BitVec 8)) (L : List Nat) (o : Bool) (r : RowS) (X : Heap) : Prop where
  wf : X.wf m
  le : n + 3 ≤ m
  r0 : X n = some ⟨regs.map .u8, 26, false⟩
  r1 : X (n + 1) = some (rowB (List.replicate 256 0#8) false false)
  r2 : X (n + 2) = some (rowB r.c o r.m)
  old : ∀ k, k < n → X k = H k
  hits : L ≠ [] → n + 3 ≤ q ∧ q < m ∧ X q = some ⟨intsC L, 3, false⟩
theorem LI.put {H : Heap} {n m q : Nat} {regs : List (BitVec 8)} {L : List Nat} {o : Bool} {r : RowS} {X : Heap} (h : LI H n m q regs L o r X) (r' : RowS) (o' : Bool) : LI H n m q regs L o' r' (X.upd (n + 2) (some (rowB r'.c o' r'.m))) :=
  ⟨Heap.wf_set h.wf (by have := h.le; omega) (rowB_ok _ _ _ _), h.le, by rw [Heap.upd_ne _ _ (by omega)]; exact h.r0, by rw [Heap.upd_ne _ _ (by omega)]; exact h.r1, Heap.upd_same _ _ _,
   fun k hk => by rw [Heap.upd_ne _ _ (by omega)]; exact h.old k hk, fun hl => by obtain ⟨a, b, c⟩ := h.hits hl; exact ⟨a, b, by rw [Heap.upd_ne _ _ (by omega)]; exact c⟩⟩
theorem LI.bytes {H : Heap} {n m q : Nat} {regs : List (BitVec 8)} {L : List Nat} {o : Bool} {r : RowS} {X : Heap} (h : LI H n m q regs L o r X) {v : AV} {bs : List (BitVec 8)} (hv : bytesIn H v bs) (hvok : v.ok n = true) : bytesIn X v bs := hv.mono hvok h.old

structure LS where
  j : Nat
  X : Heap

theorem u8_oks (n : Nat) (l : List (BitVec 8)) : AV.oks n (l.map AV.u8) = true := by
  rw [AV.oks_eq, List.all_eq_true]; intro x hx; obtain ⟨y, -, rfl⟩ := List.mem_map.1 hx; rfl
theorem u8_one (l : List (BitVec 8)) : (l.map AV.u8).all AV.one = true := by
  rw [List.all_eq_true]; intro x hx; obtain ⟨y, -, rfl⟩ := List.mem_map.1 hx; rfl
theorem dots_av_ok (n : Nat) (l : List (BitVec 8)) : AV.ok n (.ag (l.map AV.u8)) = true := by rw [AV.ok, u8_oks, u8_one]; rfl

theorem line_ok (v : AV) (bs regs : List (BitVec 8)) (hr : regs.length = 11) (line : Int) (hln : -9223372036854775808 ≤ line ∧ line ≤ 9223372036854775807) (H : Heap) (n : Nat) (K : AV → Heap → Nat → Prop) (hv : bytesIn H v bs)
    (h : ∀ (H' : Heap) (m : Nat), n ≤ m → H'.wf m → (∀ i, i < n → H' i = H i) → K (.ag (rowB (spritesS bs regs line).c (decide (8 < (hitsS bs regs line).length)) (spritesS bs regs line).m).cells) H' m) : ACalls Try.prog 15 [v, .ag (regs.map .u8), .i64 line] H n K := by
  refine ACalls.of_awp Try.func15 rfl (by decide +kernel) (show 3 ≤ 83 by decide) (by simp [hv.ne]) fun wf => ?_
  have hvok : v.ok n = true := by
    rcases hv with ⟨rfl, rfl⟩ | ⟨su, b, o, c, blk, rfl, h0, h1, h2, h3⟩
    · rfl
    · exact vw_ok (wf b _ h1).1
  let Z : List (BitVec 8) := List.replicate 256 0#8
  refine awp_step dr0 (by decide +kernel) ?_
  simp only [go_sem, Try.f15]
  have hz : (⟨List.replicate 256 (AV.u8 0#8) ++ [AV.bo false, AV.bo false], 39, false⟩ : Blk) = rowB (List.replicate 256 0#8) false false := by
    unfold rowB; rw [List.map_replicate]
  have okR : ∀ x ∈ regs.map AV.u8, x.ok (n + 1) = true := map_u8_ok
  let G : Heap := ((H.upd n (some ⟨regs.map .u8, 26, false⟩)).upd (n + 1) (some (rowB (List.replicate 256 0#8) false false))).upd (n + 2) (some (rowB (List.replicate 256 0#8) false false))
  have wfG : G.wf (n + 3) := Heap.wf_upd (Heap.wf_upd (Heap.wf_upd wf okR) (rowB_ok _ _ _ _)) (rowB_ok _ _ _ _)
  have oldG : ∀ k, k < n → G k = H k := fun k hk => by
    show ((Heap.upd (Heap.upd H n _) (n + 1) _).upd (n + 2) _) k = _
    rw [Heap.upd_ne _ _ (by omega), Heap.upd_ne _ _ (by omega), Heap.upd_ne _ _ (by omega)]
  have g0 : G n = some ⟨regs.map .u8, 26, false⟩ := by
    show ((Heap.upd (Heap.upd H n _) (n + 1) _).upd (n + 2) _) n = _
    rw [Heap.upd_ne _ _ (by omega), Heap.upd_ne _ _ (by omega), Heap.upd_same]
  have g1 : G (n + 1) = some (rowB (List.replicate 256 0#8) false false) := by
    show ((Heap.upd (Heap.upd H n _) (n + 1) _).upd (n + 2) _) (n + 1) = _
    rw [Heap.upd_ne _ _ (by omega), Heap.upd_same]
  have g2 : G (n + 2) = some (rowB (List.replicate 256 0#8) false false) := Heap.upd_same _ _ _
  have hvG : bytesIn G v bs := hv.mono hvok oldG
  have hvok3 : v.ok (n + 3) = true := AV.ok_mono (by omega) _ hvok
  refine awp_scope ?_
  refine awp_step dr0 (by decide +kernel) ?_
  simp only [go_sem, hz]
  refine awp_gen (fun X => X = G) rfl ?_
  rintro _ rfl
  refine awp_step dr0 (by decide +kernel) ?_
  simp only [go_sem]
  refine awp_step dr0 (by decide +kernel) ?_
  simp only [go_sem, g0, hr, List.length_map, take_map_all hr]
  refine on_ok v bs regs hr line hln _ _ _ hvG ?_
  intro q H1 m hm wf1 old1 hout
  have r0 : H1 n = some ⟨regs.map .u8, 26, false⟩ := by rw [old1 n (by omega), g0]
  have r1 : H1 (n + 1) = some (rowB (List.replicate 256 0#8) false false) := by rw [old1 _ (by omega), g1]
  have r2 : H1 (n + 2) = some (rowB (List.replicate 256 0#8) false false) := by rw [old1 _ (by omega), g2]
  have r2' : H1 (n + 2) = some ⟨List.replicate 256 (AV.u8 0#8) ++ [AV.bo false, AV.bo false], 39, false⟩ := by rw [r2, hz]
  simp only [go_sem, r2']
  refine ⟨by rw [List.length_append, List.length_replicate]; decide, ?_⟩
  have hset : ∀ o : Bool, (List.replicate 256 (AV.u8 0#8) ++ [AV.bo false, AV.bo false]).set 256 (AV.bo o) = (rowB (List.replicate 256 0#8) o false).cells := fun o => by
    rw [List.set_append_right _ _ (by rw [List.length_replicate]; exact Nat.le_refl _), List.length_replicate]; unfold rowB; rw [List.map_replicate]; rfl
  generalize hL : (hitsS bs regs line).take 8 = L at hout ⊢
  have hrow : spritesS bs regs line = rowTo bs regs line L ⟨List.replicate 256 0#8, false⟩ := by unfold spritesS; rw [hL]
  have hLb : ∀ i ∈ L, i < 64 := fun i hi => by rw [← hL] at hi; exact hitsS_lt (List.mem_of_mem_take hi)
  have hLl : L ≠ [] → 0 ≤ line ∧ line < 192 := fun hn => hitsS_line (fun he => hn (by rw [← hL, he]; rfl))
  have hL8 : L.length ≤ 8 := by rw [← hL, List.length_take]; exact Nat.min_le_left _ _
  generalize decide (8 < (hitsS bs regs line).length) = o at h ⊢
  rw [hrow] at h
  refine awp_gen (LI H n m q regs L o ⟨List.replicate 256 0#8, false⟩) ?_ ?_
  · rw [hset]
    exact LI.put (o := false) (r := ⟨List.replicate 256 0#8, false⟩) ⟨wf1, hm, r0, r1, r2, fun k hk => by rw [old1 k (by omega), oldG k hk], fun hn => ⟨(hout hn).1, (wf1 q _ (hout hn).2).1, (hout hn).2⟩⟩ ⟨List.replicate 256 0#8, false⟩ o
  intro X hX
  refine awp_step dr0 (by decide +kernel) ?_
  simp only [go_sem]
  obtain ⟨w1, w2⟩ := wideS_le regs
  have hvok' : v.ok m = true := AV.ok_mono (by omega) _ hvok
  have hsl : (intsV q L.length).ok m = true := intsV_ok fun hz => (hX.hits (by rintro rfl; exact hz rfl)).2.1
  refine awp_seqF (S := Unit) (fun _ => [(0, v), (2, .i64 line), (4, .pt n 0), (6, .pt (n + 1) 0), (7, .pt (n + 2) 0), (8, intsV q L.length), (9, .i64 (wideS regs : Int))]) (fun _ => X) (fun _ => m) (fun _ => True)
    (fun _ _ => ⟨hX.wf, Env.okAt_of2 (by have := hX.le; simp [AV.ok, hvok', hsl]; omega)⟩) ?_ ?_
  · obtain ⟨a0, a1, a2, a3, a4, a5, a6, a7, a8, a9, a10, rfl⟩ := regs11 hr
    refine awp_ev dr0 (by decide +kernel) ?_
    simp only [go_sem, hX.r0, List.map_cons, List.map_nil]
    have wd : wideS [a0, a1, a2, a3, a4, a5, a6, a7, a8, a9, a10] = if a1 &&& 1#8 = 0#8 then 1 else 2 := rfl
    refine ⟨fun c => ?_, fun c => ?_⟩
    · simp only [bne_iff_ne, ne_eq] at c
      rw [if_neg c] at wd
      rw [wd]
      exact Go.Ab.Ends.mk () trivial (Env.le_cons rfl (Env.le_cons rfl (Env.le_cons rfl (Env.le_cons rfl (Env.le_cons rfl (Env.le_cons rfl (Env.le_cons rfl (Env.le_nil _)))))))) (fun _ _ => rfl) (Nat.le_refl _) (Nat.le_refl _)
    · simp only [bne_eq_false_iff_eq] at c
      rw [if_pos c] at wd
      rw [wd]
      exact Go.Ab.Ends.mk () trivial (Env.le_cons rfl (Env.le_cons rfl (Env.le_cons rfl (Env.le_cons rfl (Env.le_cons rfl (Env.le_cons rfl (Env.le_cons rfl (Env.le_nil _)))))))) (fun _ _ => rfl) (Nat.le_refl _) (Nat.le_refl _)
  rintro - -
  refine awp_step dr0 (by decide +kernel) ?_
  simp only [go_sem]
  refine awp_seqF (S := LS) (fun _ => [(6, .pt (n + 1) 0), (7, .pt (n + 2) 0)]) (fun t => t.X) (fun _ => m) (fun t => LI H n m q regs L o (rowTo bs regs line L ⟨List.replicate 256 0#8, false⟩) t.X)
    (fun t ht => ⟨ht.wf, Env.okAt_of2 (by have := ht.le; simp [AV.ok]; omega)⟩) ?_ ?_
  · refine awp_step dr0 (by decide +kernel) ?_
    simp only [go_sem, lenB_ints]
    refine awp_block ?_
    refine awp_loopF (S := LS) (fun t => [(0, v), (2, .i64 line), (4, .pt n 0), (6, .pt (n + 1) 0), (7, .pt (n + 2) 0), (9, .i64 (wideS regs : Int)), (28, intsV q L.length), (29, .i64 L.length), (30, .i64 t.j)]) (fun t => t.X) (fun _ => m)
      (fun t => t.j ≤ L.length ∧ LI H n m q regs L o (rowTo bs regs line (L.take t.j) ⟨List.replicate 256 0#8, false⟩) t.X) (fun t => L.length - t.j)
      (fun t ht => ⟨ht.2.wf, Env.okAt_of2 (by have := ht.2.le; simp [AV.ok, hvok', hsl]; omega)⟩) ?_ ⟨0, X⟩ ⟨Nat.zero_le _, hX⟩
      (Env.le_cons rfl (Env.le_cons rfl (Env.le_cons rfl (Env.le_cons rfl (Env.le_cons rfl (Env.le_cons rfl (Env.le_cons rfl (Env.le_cons rfl (Env.le_cons rfl (Env.le_nil _)))))))))) (fun _ _ => rfl) rfl
    rintro ⟨j, Y⟩ ⟨hj, hY⟩
    simp only at hj hY ⊢
    refine awp_step dr0 (by decide +kernel) ?_
    simp only [go_sem]
    refine awp_step dr0 (by decide +kernel) ?_
    simp only [go_sem]
    refine ⟨fun hlt => ?_, fun hlt => ?_⟩
    · have hjl : j < L.length := by omega
      have hLn : L ≠ [] := by rintro rfl; simp at hjl
      obtain ⟨i, hi⟩ : ∃ i, L[j]? = some i := ⟨L[j], List.getElem?_eq_getElem hjl⟩
      have hi64 : i < 64 := hLb i (List.mem_of_getElem? hi)
      have htk : L.take (j + 1) = L.take j ++ [i] := by rw [List.take_add_one, hi]; rfl
      obtain ⟨q1, q2, q3⟩ := hY.hits hLn
      have hle := hY.le
      have wj : wrap64 ((j : Int) + 1) = ((j + 1 : Nat) : Int) := by rw [wrap_id _ (by omega) (by omega)]; omega
      have hsu : intsV q L.length = .su q 0 L.length 1 := by unfold intsV; rw [if_neg (by omega)]
      have e28 : ∀ e : Env, e.get 28 = .su q 0 L.length 1 → e.get 28 = intsV q L.length := fun e he => by rw [hsu]; exact he
      have hgd : (intsC L).getD j .junk = .i64 (i : Int) := by unfold intsC; rw [List.getD_eq_getElem?_getD, List.getElem?_map, hi]; rfl
      have hcl : (intsC L).length = L.length := by simp [intsC]
      refine awp_seqF (S := LS) (fun t => [(0, v), (2, .i64 line), (4, .pt n 0), (6, .pt (n + 1) 0), (7, .pt (n + 2) 0), (9, .i64 (wideS regs : Int)), (28, intsV q L.length), (29, .i64 L.length), (30, .i64 j)]) (fun t => t.X) (fun _ => m)
        (fun t => LI H n m q regs L o (rowTo bs regs line (L.take (j + 1)) ⟨List.replicate 256 0#8, false⟩) t.X)
        (fun t ht => ⟨ht.wf, Env.okAt_of2 (by have := ht.le; simp [AV.ok, hvok', hsl]; omega)⟩) ?_ ?_
      · refine awp_block ?_
        refine awp_step dr0 (by decide +kernel) ?_
        simp only [go_sem, hsu, q3, hgd, hcl, hlt, hjl]
        have hb := baseS_le regs
        have hvY : bytesIn Y v bs := hY.bytes hv hvok
        have w3 : wrap64 (wrap64 (baseS regs + 128) + wrap64 (2 * (i : Int))) = baseS regs + 128 + 2 * i := by
          rw [wrap_id (baseS _ + 128) (by omega) (by omega), wrap_id (2 * (i : Int)) (by omega) (by omega), wrap_id _ (by omega) (by omega)]
        refine awp_step dr0 (by decide +kernel) ?_
        simp only [go_sem, hY.r0, hr, List.length_map, take_map_all hr]
        refine base_ok regs hr _ _ _ ?_
        simp only [go_sem, w3]
        refine tile_at v bs _ _ _ _ hvY hvok' ?_
        simp only [go_sem]
        have hbb := (atS bs (baseS regs + 128 + 2 * (i : Int))).isLt
        refine awp_seqF (S := Unit) (fun _ => [(0, v), (2, .i64 line), (4, .pt n 0), (6, .pt (n + 1) 0), (7, .pt (n + 2) 0), (9, .i64 (wideS regs : Int)), (11, .i64 i), (12, .i64 (leftS bs regs i)), (28, intsV q L.length), (29, .i64 L.length), (30, .i64 j)]) (fun _ => Y) (fun _ => m)
          (fun _ => True) (fun _ _ => ⟨hY.wf, Env.okAt_of2 (by simp [AV.ok, hvok', hsl]; omega)⟩) ?_ ?_
        · have hleft : leftS bs regs i = (atS bs (baseS regs + 128 + 2 * (i : Int))).toNat - (if regs.getD 0 0#8 &&& 8#8 = 0#8 then 0 else 8) := rfl
          have hg0 : (regs.map AV.u8).getD 0 .junk = .u8 (regs.getD 0 0#8) := getD_map_u8' (by omega)
          refine awp_ev dr0 (by decide +kernel) ?_
          simp only [go_sem, hY.r0, hg0, hr, List.length_map]
          have wl : wrap64 (((atS bs (baseS regs + 128 + 2 * (i : Int))).toNat : Int) - 8) = ((atS bs (baseS regs + 128 + 2 * (i : Int))).toNat : Int) - 8 := wrap_id _ (by omega) (by omega)
          refine ⟨fun c => ?_, fun c => ?_⟩
          · simp only [bne_iff_ne, ne_eq] at c
            rw [if_neg c] at hleft
            rw [wl, hleft]
            exact Go.Ab.Ends.mk () trivial (Env.le_cons rfl (Env.le_cons rfl (Env.le_cons rfl (Env.le_cons rfl (Env.le_cons rfl (Env.le_cons rfl (Env.le_cons rfl (Env.le_cons rfl (Env.le_cons (e28 _ rfl) (Env.le_cons rfl (Env.le_cons rfl (Env.le_nil _)))))))))))) (fun _ _ => rfl) (Nat.le_refl _) (Nat.le_refl _)
          · simp only [bne_eq_false_iff_eq] at c
            rw [if_pos c, Int.sub_zero] at hleft
            rw [hleft]
            exact Go.Ab.Ends.mk () trivial (Env.le_cons rfl (Env.le_cons rfl (Env.le_cons rfl (Env.le_cons rfl (Env.le_cons rfl (Env.le_cons rfl (Env.le_cons rfl (Env.le_cons rfl (Env.le_cons (e28 _ rfl) (Env.le_cons rfl (Env.le_cons rfl (Env.le_nil _)))))))))))) (fun _ _ => rfl) (Nat.le_refl _) (Nat.le_refl _)
        rintro - -
        refine awp_step dr0 (by decide +kernel) ?_
        simp only [go_sem, hY.r0, hr, List.length_map, take_map_all hr]
        refine dots_ok v bs regs hr i hi64 line (hLl hLn) _ _ _ hvY ?_
        simp only [go_sem]
        generalize hs0 : rowTo bs regs line (L.take j) ⟨List.replicate 256 0#8, false⟩ = s0 at hY ⊢
        have hs1 : rowTo bs regs line (L.take (j + 1)) ⟨List.replicate 256 0#8, false⟩ = sprTo bs regs line i s0 (8 * wideS regs) := by rw [htk, rowTo_app, hs0]; rfl
        have hs0l : s0.c.length = 256 := by rw [← hs0, rowTo_len]; exact List.length_replicate ..
        have hll := leftS_le bs regs i
        refine awp_block ?_
        refine awp_loopF (S := LS) (fun t => [(0, v), (2, .i64 line), (4, .pt n 0), (6, .pt (n + 1) 0), (7, .pt (n + 2) 0), (9, .i64 (wideS regs : Int)), (12, .i64 (leftS bs regs i)), (28, intsV q L.length), (29, .i64 L.length), (30, .i64 j), (53, .ag ((dotsL bs regs i line).map .u8)), (54, .i64 t.j)]) (fun t => t.X) (fun _ => m)
          (fun t => t.j ≤ 8 ∧ LI H n m q regs L o (sprTo bs regs line i s0 (t.j * wideS regs)) t.X) (fun t => 8 - t.j)
          (fun t ht => ⟨ht.2.wf, Env.okAt_of2 (by have := ht.2.le; simp [dots_av_ok, hvok', hsl]; simp [AV.ok]; omega)⟩) ?_ ⟨0, Y⟩ ⟨Nat.zero_le _, by simp only [Nat.zero_mul]; exact hY⟩
          (Env.le_cons rfl (Env.le_cons rfl (Env.le_cons rfl (Env.le_cons rfl (Env.le_cons rfl (Env.le_cons rfl (Env.le_cons rfl (Env.le_cons rfl (Env.le_cons rfl (Env.le_cons rfl (Env.le_cons rfl (Env.le_cons rfl (Env.le_nil _))))))))))))) (fun _ _ => rfl) rfl
        rintro ⟨k, W⟩ ⟨hk, hW⟩
        simp only at hk hW ⊢
        refine awp_step dr0 (by decide +kernel) ?_
        simp only [go_sem]
        refine awp_step dr0 (by decide +kernel) ?_
        simp only [go_sem]
        refine ⟨fun hkl => ?_, fun hkl => ?_⟩
        · have hk8 : k < 8 := by omega
          have hdl : (dotsL bs regs i line).length = 8 := dotsL_len _ _ _ _
          have hgk : ((dotsL bs regs i line).map AV.u8).getD k .junk = .u8 ((dotsL bs regs i line).getD k 0#8) := getD_map_u8' (by omega)
          have wk : wrap64 ((k : Int) + 1) = ((k + 1 : Nat) : Int) := by rw [wrap_id _ (by omega) (by omega)]; omega
          refine awp_seq (awp_block ?_)
          refine awp_step dr0 (by decide +kernel) ?_
          simp only [go_sem, hgk, hk8, hkl, hdl, List.length_map]
          refine awp_step dr0 (by decide +kernel) ?_
          simp only [go_sem]
          refine awp_block ?_
          refine awp_loopF (S := LS) (fun t => [(0, v), (2, .i64 line), (4, .pt n 0), (6, .pt (n + 1) 0), (7, .pt (n + 2) 0), (9, .i64 (wideS regs : Int)), (12, .i64 (leftS bs regs i)), (13, .i64 k), (14, .u8 ((dotsL bs regs i line).getD k 0#8)), (28, intsV q L.length), (29, .i64 L.length), (30, .i64 j), (53, .ag ((dotsL bs regs i line).map .u8)), (54, .i64 k), (58, .i64 (wideS regs : Int)), (59, .i64 t.j)]) (fun t => t.X) (fun _ => m)
            (fun t => t.j ≤ wideS regs ∧ LI H n m q regs L o (sprTo bs regs line i s0 (k * wideS regs + t.j)) t.X) (fun t => wideS regs - t.j)
            (fun t ht => ⟨ht.2.wf, Env.okAt_of2 (by have := ht.2.le; simp [dots_av_ok, hvok', hsl]; simp [AV.ok]; omega)⟩) ?_ ⟨0, W⟩ ⟨Nat.zero_le _, hW⟩
            (Env.le_cons rfl (Env.le_cons rfl (Env.le_cons rfl (Env.le_cons rfl (Env.le_cons rfl (Env.le_cons rfl (Env.le_cons rfl (Env.le_cons rfl (Env.le_cons rfl (Env.le_cons rfl (Env.le_cons rfl (Env.le_cons rfl (Env.le_cons rfl (Env.le_cons rfl (Env.le_cons rfl (Env.le_cons rfl (Env.le_nil _))))))))))))))))) (fun _ _ => rfl) rfl
          rintro ⟨w, V⟩ ⟨hw, hV⟩
          simp only at hw hV ⊢
          refine awp_step dr0 (by decide +kernel) ?_
          simp only [go_sem]
          refine awp_step dr0 (by decide +kernel) ?_
          simp only [go_sem]
          refine ⟨fun hwl => ?_, fun hwl => ?_⟩
          · have hw' : w < wideS regs := by omega
            have hkw : k * wideS regs ≤ 14 := by
              have := Nat.mul_le_mul (show k ≤ 7 by omega) w2; omega
            have wm : wrap64 (wrap64 (leftS bs regs i + wrap64 ((k : Int) * (wideS regs : Int))) + (w : Int)) = leftS bs regs i + (k * wideS regs + w : Nat) := by
              rw [show ((k : Int) * (wideS regs : Int)) = ((k * wideS regs : Nat) : Int) by simp, wrap_id ((k * wideS regs : Nat) : Int) (by omega) (by omega), wrap_id (leftS _ _ _ + _) (by omega) (by omega), wrap_id _ (by omega) (by omega)]; omega
            have ww : wrap64 ((w : Int) + 1) = ((w + 1 : Nat) : Int) := by rw [wrap_id _ (by omega) (by omega)]; omega
            refine awp_ev dr0 (by decide +kernel) ?_
            simp only [go_sem, wm]
            refine ⟨fun hge => ?_, fun hge => ?_⟩
            · have he := sprTo_end bs regs line i s0 (k * wideS regs + w) hge (8 * wideS regs - (k * wideS regs + w))
              have hle8 : k * wideS regs + w ≤ 8 * wideS regs := by
                have := Nat.mul_le_mul_right (wideS regs) (show k + 1 ≤ 8 by omega)
                rw [Nat.succ_mul] at this; omega
              rw [Nat.add_sub_cancel' hle8, ← hs1] at he
              rw [← he] at hV
              exact Go.Ab.Ends.mk ⟨0, V⟩ hV (Env.le_cons rfl (Env.le_cons rfl (Env.le_cons rfl (Env.le_cons rfl (Env.le_cons rfl (Env.le_cons rfl (Env.le_cons (by rw [← hsu]; rfl) (Env.le_cons rfl (Env.le_cons rfl (Env.le_nil _)))))))))) (fun _ _ => rfl) (Nat.le_refl _) (Nat.le_refl _)
            · have hdiv : (k * wideS regs + w) / wideS regs = k := by
                rw [Nat.mul_comm, Nat.mul_add_div (by omega), Nat.div_eq_of_lt hw', Nat.add_zero]
              have hst : sprTo bs regs line i s0 (k * wideS regs + (w + 1)) = (sprTo bs regs line i s0 (k * wideS regs + w)).put (leftS bs regs i + (k * wideS regs + w : Nat)) ((dotsL bs regs i line).getD k 0#8) := by
                rw [← Nat.add_assoc, sprTo, hdiv]
              rw [RowS.put, if_pos (by omega)] at hst
              refine put_ok (n + 2) _ (by rw [sprTo_len]; exact hs0l) o _ _ (by omega) _ _ _ _ hV.r2 ?_
              simp only [go_sem, ww]
              have hP := hV.put (sprTo bs regs line i s0 (k * wideS regs + (w + 1))) o
              rw [hst] at hP
              exact Go.Ab.Ends.mk (⟨w + 1, _⟩ : LS) ⟨by simp only; omega, by simp only; omega, by simp only; rw [hst]; exact hP⟩ (Env.le_cons rfl (Env.le_cons rfl (Env.le_cons rfl (Env.le_cons rfl (Env.le_cons rfl (Env.le_cons rfl (Env.le_cons rfl (Env.le_cons rfl (Env.le_cons rfl (Env.le_cons rfl (Env.le_cons rfl (Env.le_cons rfl (Env.le_cons rfl (Env.le_cons rfl (Env.le_cons rfl (Env.le_cons rfl (Env.le_nil _))))))))))))))))) (fun _ _ => rfl) (Nat.le_refl _) (Nat.le_refl _)
          · have hwe : w = wideS regs := by omega
            subst hwe
            refine awp_ev dr0 (by decide +kernel) ?_
            simp only [go_sem, wk]
            exact Go.Ab.Ends.mk ⟨k + 1, V⟩ ⟨by simp only; omega, hk8, by simp only; rw [Nat.succ_mul]; exact hV⟩ (Env.le_cons rfl (Env.le_cons rfl (Env.le_cons rfl (Env.le_cons rfl (Env.le_cons rfl (Env.le_cons rfl (Env.le_cons rfl (Env.le_cons rfl (Env.le_cons rfl (Env.le_cons rfl (Env.le_cons rfl (Env.le_cons rfl (Env.le_nil _))))))))))))) (fun _ _ => rfl) (Nat.le_refl _) (Nat.le_refl _)
        · have hke : k = 8 := by omega
          subst hke
          rw [← hs1] at hW
          exact Go.Ab.Ends.mk ⟨0, W⟩ hW (Env.le_cons rfl (Env.le_cons rfl (Env.le_cons rfl (Env.le_cons rfl (Env.le_cons rfl (Env.le_cons rfl (Env.le_cons (by rw [← hsu]; rfl) (Env.le_cons rfl (Env.le_cons rfl (Env.le_nil _)))))))))) (fun _ _ => rfl) (Nat.le_refl _) (Nat.le_refl _)
      rintro ⟨j2, Y2⟩ hY2
      simp only at hY2 ⊢
      refine awp_ev dr0 (by decide +kernel) ?_
      simp only [go_sem, wj]
      exact Go.Ab.Ends.mk ⟨j + 1, Y2⟩ ⟨by simp only; omega, hjl, hY2⟩ (Env.le_cons rfl (Env.le_cons rfl (Env.le_cons rfl (Env.le_cons rfl (Env.le_cons rfl (Env.le_cons rfl (Env.le_cons rfl (Env.le_cons rfl (Env.le_cons rfl (Env.le_nil _)))))))))) (fun _ _ => rfl) (Nat.le_refl _) (Nat.le_refl _)
    · have hje : j = L.length := by omega
      subst hje
      rw [List.take_length] at hY
      exact Go.Ab.Ends.mk ⟨0, Y⟩ hY (Env.le_cons rfl (Env.le_cons rfl (Env.le_nil _))) (fun _ _ => rfl) (Nat.le_refl _) (Nat.le_refl _)
  rintro ⟨j, Y⟩ hY
  simp only at hY ⊢
  have y1 := hY.r1; have y2 := hY.r2
  refine awp_ev dr0 (by decide +kernel) ?_
  have hcl : (rowTo bs regs line L ⟨List.replicate 256 0#8, false⟩).c.length = 256 := by rw [rowTo_len]; exact List.length_replicate ..
  simp only [go_sem, y1, y2]
  have l1 : (rowB (rowTo bs regs line L ⟨List.replicate 256 0#8, false⟩).c o (rowTo bs regs line L ⟨List.replicate 256 0#8, false⟩).m).cells.length = 258 := by
    unfold rowB; rw [List.length_append, List.length_map, hcl]; rfl
  have l2 : (rowB (List.replicate 256 0#8) false false).cells.length = 258 := by
    unfold rowB; rw [List.length_append, List.length_map, List.length_replicate]; rfl
  rw [List.take_of_length_le (l := (rowB (rowTo bs regs line L ⟨List.replicate 256 0#8, false⟩).c o (rowTo bs regs line L ⟨List.replicate 256 0#8, false⟩).m).cells) (by rw [l1]; exact Nat.le_refl _),
    splice_whole (by rw [l1, l2]), List.take_of_length_le (l := (rowB (rowTo bs regs line L ⟨List.replicate 256 0#8, false⟩).c o (rowTo bs regs line L ⟨List.replicate 256 0#8, false⟩).m).cells) (by rw [l1]; exact Nat.le_refl _), l1, l2]
  refine ⟨Nat.le_refl _, rfl, rfl, Nat.le_refl _, Nat.le_refl _, ?_⟩
  have yle := hY.le
  have key := h (Y.upd (n + 1) (some ⟨(rowB (rowTo bs regs line L ⟨List.replicate 256 0#8, false⟩).c o (rowTo bs regs line L ⟨List.replicate 256 0#8, false⟩).m).cells, 39, false⟩)) m (by omega)
    (Heap.wf_set hY.wf (by omega) (rowB_ok _ _ _ _)) (fun k hk => by rw [Heap.upd_ne _ _ (by omega)]; exact hY.old k hk)
  exact Fin.keep key
end Go.Proofs.Joy
namespace Go.Proofs.Joy
open Go.Ab

abbrev B3 := BitVec 8 × BitVec 8 × BitVec 8
/-- A byte of a picture's tiles, repeated. -/
def tileB (ts : List (BitVec 8)) (i : Nat) : BitVec 8 := if ts = [] then 0#8 else ts.getD (i % ts.length) 0#8 &&& BitVec.ofNat 8 (i / 7)
def layT (ts : List (BitVec 8)) (i : Nat) : List (BitVec 8) := (List.range i).map (tileB ts) ++ List.replicate (16384 - i) 0#8
def layS (a : Nat) : Nat → List B3 → List (BitVec 8) → List (BitVec 8)
  | _, [], l => l
  | i, s :: r, l => layS a (i + 1) r (if i < 64 then ((l.set (a + i) s.1).set (a + 128 + 2 * i) s.2.1).set (a + 129 + 2 * i) s.2.2 else l)
def buildS (xs : List B3) (ts regs : List (BitVec 8)) : List (BitVec 8) :=
  let a := (baseS regs).toNat
  let l := layS a 0 xs (layT ts 16384)
  if xs.length < 64 then l.set (a + xs.length) 208#8 else l
theorem layT_len (ts : List (BitVec 8)) (i : Nat) (h : i ≤ 16384) : (layT ts i).length = 16384 := by
  unfold layT; rw [List.length_append, List.length_map, List.length_range, List.length_replicate]; omega
theorem layT_succ (ts : List (BitVec 8)) (j : Nat) (h : j < 16384) : (layT ts j).set j (tileB ts j) = layT ts (j + 1) := by
  unfold layT
  rw [List.set_append_right _ _ (by simp), List.length_map, List.length_range, Nat.sub_self, show 16384 - j = (16384 - (j + 1)) + 1 by omega, List.replicate_succ, List.set_cons_zero, List.range_succ, List.map_append, List.append_assoc]
  rfl
theorem layT_skip (j : Nat) (h : j < 16384) : layT [] (j + 1) = layT [] j := by
  unfold layT
  rw [List.range_succ, List.map_append, show 16384 - j = (16384 - (j + 1)) + 1 by omega, List.replicate_succ, List.append_assoc]
  rfl
theorem layS_app (a i : Nat) (xs : List B3) (s : B3) (l : List (BitVec 8)) : layS a i (xs ++ [s]) l = layS a (i + xs.length) [s] (layS a i xs l) := by
  induction xs generalizing i l with
  | nil => rfl
  | cons x r ih =>
    rw [List.length_cons, show i + (r.length + 1) = i + 1 + r.length by omega]
    exact ih (i + 1) _
theorem layS_len (a i : Nat) (xs : List B3) (l : List (BitVec 8)) : (layS a i xs l).length = l.length := by
  induction xs generalizing i l with
  | nil => rfl
  | cons s r ih => rw [layS, ih]; split <;> simp
theorem buildS_len (xs : List B3) (ts regs : List (BitVec 8)) : (buildS xs ts regs).length = 16384 := by
  unfold buildS
  simp only
  split
  · rw [List.length_set, layS_len, layT_len _ _ (Nat.le_refl _)]
  · rw [layS_len, layT_len _ _ (Nat.le_refl _)]
end Go.Proofs.Joy
namespace Go.Proofs.Joy
open Go.Ab

theorem getD_set8 (l : List (BitVec 8)) (i k : Nat) (x : BitVec 8) : (l.set i x).getD k 0#8 = if i = k ∧ k < l.length then x else l.getD k 0#8 := by
  rw [List.getD_eq_getElem?_getD, List.getElem?_set, List.getD_eq_getElem?_getD]
  by_cases h : i = k
  · subst h
    by_cases h2 : i < l.length
    · simp [h2]
    · simp [h2]
  · simp [h]

theorem snoc_ind {P : List B3 → Prop} (h0 : P []) (h1 : ∀ xs s, P xs → P (xs ++ [s])) : ∀ xs, P xs := by
  have : ∀ n xs, xs.length = n → P xs := by
    intro n
    induction n with
    | zero => intro xs h; rw [List.eq_nil_of_length_eq_zero h]; exact h0
    | succ n ih =>
      intro xs h
      have hne : xs ≠ [] := by rintro rfl; simp at h
      rw [← List.dropLast_concat_getLast hne]
      exact h1 _ _ (ih _ (by simp; omega))
  exact fun xs => this _ xs rfl

def d3 : B3 := (0#8, 0#8, 0#8)
/-- What lies at a place of a laid memory. -/
def layG (a : Nat) (xs : List B3) (l : List (BitVec 8)) (k : Nat) : BitVec 8 :=
  if a ≤ k ∧ k < a + xs.length then (xs.getD (k - a) d3).1
  else if a + 128 ≤ k ∧ k < a + 128 + 2 * xs.length then (if (k - (a + 128)) % 2 = 0 then (xs.getD ((k - (a + 128)) / 2) d3).2.1 else (xs.getD ((k - (a + 128)) / 2) d3).2.2)
  else l.getD k 0#8

theorem getD_snoc (xs : List B3) (s : B3) (j : Nat) : (xs ++ [s]).getD j d3 = if j < xs.length then xs.getD j d3 else if j = xs.length then s else d3 := by
  simp only [List.getD_eq_getElem?_getD, List.getElem?_append]
  by_cases h : j < xs.length
  · simp [h]
  · simp only [h, if_false]
    by_cases h2 : j = xs.length
    · subst h2; simp
    · rw [if_neg h2, List.getElem?_eq_none (by simp; omega)]; rfl

theorem layS_get (a : Nat) (l : List (BitVec 8)) (hl : l.length = 16384) (ha : a + 256 ≤ 16384) (k : Nat) (xs : List B3) : xs.length ≤ 64 → (layS a 0 xs l).getD k 0#8 = layG a xs l k := by
  refine snoc_ind (P := fun xs => xs.length ≤ 64 → (layS a 0 xs l).getD k 0#8 = layG a xs l k) ?_ ?_ xs
  · intro _
    unfold layG layS
    rw [if_neg (by simp), if_neg (by simp)]
  · intro xs s ih hx
    rw [List.length_append, List.length_singleton] at hx
    have ih := ih (by omega)
    rw [layS_app]
    simp only [layS, Nat.zero_add]
    rw [if_pos (by omega)]
    simp only [getD_set8, List.length_set, layS_len, hl, ih]
    unfold layG
    simp only [List.length_append, List.length_singleton, getD_snoc]
    by_cases c1 : k = a + 129 + 2 * xs.length
    · subst c1
      rw [if_pos (by omega), if_neg (by omega), if_pos (by omega), if_neg (by omega), if_neg (by omega), if_pos (by omega)]
    rw [if_neg (by omega)]
    by_cases c2 : k = a + 128 + 2 * xs.length
    · subst c2
      rw [if_pos (by omega), if_neg (by omega), if_pos (by omega), if_pos (by omega), if_neg (by omega), if_pos (by omega)]
    rw [if_neg (by omega)]
    by_cases c3 : k = a + xs.length
    · subst c3
      rw [if_pos (by omega), if_pos (by omega), if_neg (by omega), if_pos (by omega)]
    rw [if_neg (by omega)]
    by_cases c4 : a ≤ k ∧ k < a + xs.length
    · rw [if_pos c4, if_pos (by omega), if_pos (by omega)]
    by_cases c5 : a + 128 ≤ k ∧ k < a + 128 + 2 * xs.length
    · have h1 : ¬(a ≤ k ∧ k < a + (xs.length + 1)) := by omega
      have h2 : a + 128 ≤ k ∧ k < a + 128 + 2 * (xs.length + 1) := by omega
      have h3 : (k - (a + 128)) / 2 < xs.length := by omega
      rw [if_neg c4, if_pos c5, if_neg h1, if_pos h2, if_pos h3]
    · have h1 : ¬(a ≤ k ∧ k < a + (xs.length + 1)) := by omega
      have h2 : ¬(a + 128 ≤ k ∧ k < a + 128 + 2 * (xs.length + 1)) := by omega
      rw [if_neg c4, if_neg c5, if_neg h1, if_neg h2]

/-- A picture's memory, place by place. -/
theorem buildS_get (xs : List B3) (hx : xs.length ≤ 64) (ts regs : List (BitVec 8)) (k : Nat) :
    (buildS xs ts regs).getD k 0#8 = if xs.length < 64 ∧ k = (baseS regs).toNat + xs.length then 208#8 else layG (baseS regs).toNat xs (layT ts 16384) k := by
  have hb := baseS_le regs
  have ha : (baseS regs).toNat + 256 ≤ 16384 := by omega
  unfold buildS
  simp only
  have hl := layT_len ts 16384 (Nat.le_refl _)
  by_cases h : xs.length < 64
  · rw [if_pos h, getD_set8, layS_len, hl, layS_get _ _ hl ha _ _ hx]
    by_cases c : k = (baseS regs).toNat + xs.length
    · subst c; rw [if_pos (by omega), if_pos ⟨h, rfl⟩]
    · rw [if_neg (by omega), if_neg (by omega)]
  · rw [if_neg h, layS_get _ _ hl ha _ _ hx, if_neg (by omega)]

theorem atS_nat (bs : List (BitVec 8)) (k : Nat) (h : k < 16384) : atS bs (k : Int) = bs.getD k 0#8 := by
  unfold atS; rw [show ((k : Int) % 16384).toNat = k by omega]
theorem base_nat (regs : List (BitVec 8)) : ((baseS regs).toNat : Int) = baseS regs := by have := baseS_le regs; omega

theorem yS_build {xs : List B3} (hx : xs.length ≤ 64) (ts regs : List (BitVec 8)) {i : Nat} (hi : i < xs.length) : yS (buildS xs ts regs) regs i = (xs.getD i d3).1 := by
  have hb := baseS_le regs
  unfold yS
  rw [← base_nat, ← Int.natCast_add, atS_nat _ _ (by omega), buildS_get _ hx, if_neg (by omega)]
  unfold layG
  rw [if_pos (by omega), show (baseS regs).toNat + i - (baseS regs).toNat = i by omega]
theorem yS_end {xs : List B3} (hx : xs.length < 64) (ts regs : List (BitVec 8)) : yS (buildS xs ts regs) regs xs.length = 208#8 := by
  have hb := baseS_le regs
  unfold yS
  rw [← base_nat, ← Int.natCast_add, atS_nat _ _ (by omega), buildS_get _ (by omega), if_pos ⟨hx, rfl⟩]
theorem xS_build {xs : List B3} (hx : xs.length ≤ 64) (ts regs : List (BitVec 8)) {i : Nat} (hi : i < xs.length) : atS (buildS xs ts regs) (baseS regs + 128 + 2 * i) = (xs.getD i d3).2.1 := by
  have hb := baseS_le regs
  rw [← base_nat, show (((baseS regs).toNat : Int) + 128 + 2 * (i : Int)) = (((baseS regs).toNat + 128 + 2 * i : Nat) : Int) by omega, atS_nat _ _ (by omega), buildS_get _ hx, if_neg (by omega)]
  unfold layG
  rw [if_neg (by omega), if_pos (by omega), if_pos (by omega), show ((baseS regs).toNat + 128 + 2 * i - ((baseS regs).toNat + 128)) / 2 = i by omega]
theorem tS_build {xs : List B3} (hx : xs.length ≤ 64) (ts regs : List (BitVec 8)) {i : Nat} (hi : i < xs.length) : atS (buildS xs ts regs) (baseS regs + 128 + 2 * i + 1) = (xs.getD i d3).2.2 := by
  have hb := baseS_le regs
  rw [← base_nat, show (((baseS regs).toNat : Int) + 128 + 2 * (i : Int) + 1) = (((baseS regs).toNat + 128 + 2 * i + 1 : Nat) : Int) by omega, atS_nat _ _ (by omega), buildS_get _ hx, if_neg (by omega)]
  unfold layG
  rw [if_neg (by omega), if_pos (by omega), if_neg (by omega), show ((baseS regs).toNat + 128 + 2 * i + 1 - ((baseS regs).toNat + 128)) / 2 = i by omega]

/-! Sprites of a list. -/
def onB (regs : List (BitVec 8)) (line : Int) (s : B3) : Bool := decide (topS s.1 ≤ line) && decide (line < topS s.1 + heightS regs)
def goesB (s : B3) : Bool := s.1 != 208#8
theorem onS_build {xs : List B3} (hx : xs.length ≤ 64) (ts regs : List (BitVec 8)) (line : Int) {i : Nat} (hi : i < xs.length) : onS' (buildS xs ts regs) regs line i = onB regs line (xs.getD i d3) := by
  unfold onS' onB; rw [yS_build hx ts regs hi]

theorem takeWhile_len (xs : List B3) : (xs.takeWhile goesB).length ≤ xs.length := (List.takeWhile_sublist _).length_le
theorem takeWhile_goes (xs : List B3) {j : Nat} (h : j < (xs.takeWhile goesB).length) : (xs.getD j d3).1 ≠ 208#8 := by
  induction xs generalizing j with
  | nil => simp at h
  | cons s r ih =>
    rw [List.takeWhile_cons] at h
    split at h
    · rename_i c
      cases j with
      | zero => simpa [goesB] using c
      | succ j => exact ih (by simpa using h)
    · simp at h
theorem takeWhile_stop (xs : List B3) (h : (xs.takeWhile goesB).length < xs.length) : (xs.getD (xs.takeWhile goesB).length d3).1 = 208#8 := by
  induction xs with
  | nil => simp at h
  | cons s r ih =>
    rw [List.takeWhile_cons] at h ⊢
    split
    · rename_i c
      rw [if_pos c] at h
      exact ih (by simpa using h)
    · rename_i c
      simp only [List.length_nil, List.getD_cons_zero]
      simpa [goesB] using c
theorem endS_build {xs : List B3} (hx : xs.length ≤ 64) (ts regs : List (BitVec 8)) : endS (buildS xs ts regs) regs = (xs.takeWhile goesB).length := by
  have h1 := takeWhile_len xs
  have hb : ∀ j, j < (xs.takeWhile goesB).length → yS (buildS xs ts regs) regs j ≠ 208#8 := fun j hj => by
    rw [yS_build hx ts regs (by omega)]; exact takeWhile_goes xs hj
  rcases Nat.lt_or_ge (xs.takeWhile goesB).length xs.length with c | c
  · exact endS_at (by omega) (by rw [yS_build hx ts regs c]; exact takeWhile_stop xs c) hb
  · have e : (xs.takeWhile goesB).length = xs.length := by omega
    rw [e] at hb ⊢
    rcases Nat.lt_or_ge xs.length 64 with d | d
    · exact endS_at d (yS_end d ts regs) hb
    · rw [show xs.length = 64 by omega] at hb ⊢
      exact endS_none hb

theorem range_filter (xs : List B3) (q : B3 → Bool) (e : Nat) (he : e ≤ xs.length) : ((List.range e).filter (fun i => q (xs.getD i d3))).map (fun i => xs.getD i d3) = (xs.take e).filter q := by
  induction e with
  | zero => rfl
  | succ e ih =>
    rw [List.range_succ, List.filter_append, List.map_append, ih (by omega), List.take_add_one, List.filter_append]
    congr 1
    have hg : xs[e]? = some (xs.getD e d3) := by rw [List.getD_eq_getElem?_getD, List.getElem?_eq_getElem (by omega)]; rfl
    rw [hg]
    by_cases c : q (xs.getD e d3) = true
    · simp only [List.filter_cons, List.filter_nil, c, if_true, List.map_cons, List.map_nil, Option.toList_some]
    · simp only [List.filter_cons, List.filter_nil, c, if_false, List.map_nil, Option.toList_some, Bool.false_eq_true]
theorem take_while_len (xs : List B3) : xs.take (xs.takeWhile goesB).length = xs.takeWhile goesB := by
  induction xs with
  | nil => rfl
  | cons s r ih =>
    rw [List.takeWhile_cons]
    split
    · rw [List.length_cons, List.take_succ_cons, ih]
    · rfl
/-- Those of a list that are on a line. -/
def seenB (regs : List (BitVec 8)) (line : Int) (xs : List B3) : List B3 := if line < 0 ∨ 191 < line then [] else (xs.takeWhile goesB).filter (onB regs line)
theorem hits_build {xs : List B3} (hx : xs.length ≤ 64) (ts regs : List (BitVec 8)) (line : Int) : (hitsS (buildS xs ts regs) regs line).map (fun i => xs.getD i d3) = seenB regs line xs := by
  unfold hitsS seenB
  split
  · rfl
  · rw [endS_build hx, hitsTo]
    have h1 := takeWhile_len xs
    rw [← take_while_len xs, ← range_filter xs _ _ h1, List.filter_congr (q := fun i => onB regs line (xs.getD i d3)) (fun i hi => onS_build hx ts regs line (by rw [List.mem_range] at hi; rw [take_while_len] at hi; omega)), take_while_len]
theorem hits_lt {xs : List B3} (hx : xs.length ≤ 64) (ts regs : List (BitVec 8)) (line : Int) {i : Nat} (h : i ∈ hitsS (buildS xs ts regs) regs line) : i < xs.length := by
  unfold hitsS at h
  split at h
  · cases h
  · rw [endS_build hx] at h
    have := List.mem_range.1 (List.mem_filter.1 h).1
    have := takeWhile_len xs
    omega
theorem hits_len {xs : List B3} (hx : xs.length ≤ 64) (ts regs : List (BitVec 8)) (line : Int) : (hitsS (buildS xs ts regs) regs line).length = (seenB regs line xs).length := by
  rw [← hits_build hx ts regs line, List.length_map]
end Go.Proofs.Joy
namespace Go.Proofs.Joy
open Go.Ab

/-- A sprite's dots laid on a row: where it begins, its dots, how wide each. -/
def laid (left : Int) (dots : List (BitVec 8)) (wide : Nat) (s : RowS) : Nat → RowS
  | 0 => s
  | t + 1 => (laid left dots wide s t).put (left + t) (dots.getD (t / wide) 0#8)
theorem sprTo_laid (v regs : List (BitVec 8)) (line : Int) (i : Nat) (s : RowS) (t : Nat) : sprTo v regs line i s t = laid (leftS v regs i) (dotsL v regs i line) (wideS regs) s t := by
  induction t with
  | zero => rfl
  | succ t ih => rw [sprTo, laid, ih]

def leftB (regs : List (BitVec 8)) (s : B3) : Int := s.2.1.toNat - (if regs.getD 0 0#8 &&& 8#8 = 0#8 then 0 else 8)
def numB (regs : List (BitVec 8)) (s : B3) : Int :=
  let n : Nat := s.2.2.toNat + (if regs.getD 6 0#8 &&& 4#8 = 0#8 then 0 else 256)
  if regs.getD 1 0#8 &&& 2#8 = 0#8 then (n : Int) else ((n - n % 2 : Nat) : Int)
def downB (regs : List (BitVec 8)) (line : Int) (s : B3) : Int :=
  if regs.getD 1 0#8 &&& 1#8 = 0#8 then line - topS s.1 else (line - topS s.1).tdiv 2
def dotsB (ts regs : List (BitVec 8)) (line : Int) (s : B3) : List (BitVec 8) := rowS (layT ts 16384) (firstS (numB regs s + (downB regs line s).tdiv 8) ((downB regs line s).tmod 8)) false
def sprB (ts regs : List (BitVec 8)) (line : Int) (r : RowS) (s : B3) : RowS := laid (leftB regs s) (dotsB ts regs line s) (wideS regs) r (8 * wideS regs)
def row0 : RowS := ⟨List.replicate 256 0#8, false⟩
def rowB' (ts regs : List (BitVec 8)) (line : Int) (l : List B3) : RowS := l.foldl (sprB ts regs line) row0

theorem left_build {xs : List B3} (hx : xs.length ≤ 64) (ts regs : List (BitVec 8)) {i : Nat} (hi : i < xs.length) : leftS (buildS xs ts regs) regs i = leftB regs (xs.getD i d3) := by
  unfold leftS leftB; rw [xS_build hx ts regs hi]
theorem num_build {xs : List B3} (hx : xs.length ≤ 64) (ts regs : List (BitVec 8)) {i : Nat} (hi : i < xs.length) : numS (buildS xs ts regs) regs i = numB regs (xs.getD i d3) := by
  unfold numS numB; rw [tS_build hx ts regs hi]
theorem down_build {xs : List B3} (hx : xs.length ≤ 64) (ts regs : List (BitVec 8)) (line : Int) {i : Nat} (hi : i < xs.length) : downS (buildS xs ts regs) regs i line = downB regs line (xs.getD i d3) := by
  unfold downS downB; rw [yS_build hx ts regs hi]

theorem dotS_congr {v w : List (BitVec 8)} {first : Int} (h : ∀ p : Nat, p < 4 → atS v (first + p) = atS w (first + p)) (t : Bool) (j : Nat) : ∀ p, p ≤ 4 → dotS v first t p j = dotS w first t p j := by
  intro p
  induction p with
  | zero => intro _; rfl
  | succ p ih => intro hp; rw [dotS, dotS, ih (by omega), h p (by omega)]
theorem rowS_congr {v w : List (BitVec 8)} {first : Int} (h : ∀ p : Nat, p < 4 → atS v (first + p) = atS w (first + p)) (t : Bool) : rowS v first t = rowS w first t := by
  unfold rowS
  exact List.map_congr_left fun j _ => dotS_congr h t j 4 (Nat.le_refl _)

/-- The table lies above the tiles, and these are the first 256. -/
structure Apart (regs : List (BitVec 8)) : Prop where
  base : regs.getD 5 0#8 = 126#8
  low : regs.getD 6 0#8 &&& 4#8 = 0#8
theorem Apart.at {regs : List (BitVec 8)} (h : regs.getD 5 0#8 = 126#8) : (baseS regs).toNat = 16128 := by unfold baseS; rw [h]; rfl
theorem Apart.num {regs : List (BitVec 8)} (h : Apart regs) (s : B3) : 0 ≤ numB regs s ∧ numB regs s ≤ 255 := by
  have := s.2.2.isLt
  unfold numB
  simp only [h.low, if_true, Nat.add_zero]
  split <;> omega
theorem build_low {xs : List B3} (hx : xs.length ≤ 64) (ts : List (BitVec 8)) {regs : List (BitVec 8)} (h : regs.getD 5 0#8 = 126#8) {k : Nat} (hk : k < 16128) : atS (buildS xs ts regs) (k : Int) = atS (layT ts 16384) (k : Int) := by
  have ha := Apart.at h
  rw [atS_nat _ _ (by omega), atS_nat _ _ (by omega), buildS_get _ hx, ha, if_neg (by omega)]
  unfold layG
  rw [if_neg (by omega), if_neg (by omega)]
theorem dots_build {xs : List B3} (hx : xs.length ≤ 64) (ts : List (BitVec 8)) {regs : List (BitVec 8)} (h : Apart regs) {line : Int} (hl : 0 ≤ line ∧ line < 192) {i : Nat} (hi : i < xs.length) (ho : onB regs line (xs.getD i d3) = true) :
    dotsL (buildS xs ts regs) regs i line = dotsB ts regs line (xs.getD i d3) := by
  unfold dotsL dotsB
  rw [num_build hx ts regs hi, down_build hx ts regs line hi]
  unfold onB at ho
  rw [Bool.and_eq_true, decide_eq_true_eq, decide_eq_true_eq] at ho
  have hn := h.num (xs.getD i d3)
  have ht := topS_le (xs.getD i d3).1
  have hd : 0 ≤ downB regs line (xs.getD i d3) ∧ downB regs line (xs.getD i d3) ≤ 210 := by
    unfold downB
    split
    · omega
    · rw [Int.tdiv_eq_ediv_of_nonneg (by omega)]; omega
  refine rowS_congr (fun p hp => ?_) false
  have hd8 : (downB regs line (xs.getD i d3)).tdiv 8 = downB regs line (xs.getD i d3) / 8 := Int.tdiv_eq_ediv_of_nonneg hd.1
  rw [hd8]
  have hf : 0 ≤ firstS (numB regs (xs.getD i d3) + downB regs line (xs.getD i d3) / 8) ((downB regs line (xs.getD i d3)).tmod 8) ∧ firstS (numB regs (xs.getD i d3) + downB regs line (xs.getD i d3) / 8) ((downB regs line (xs.getD i d3)).tmod 8) ≤ 12000 := by
    unfold firstS; omega
  obtain ⟨q, hq⟩ := Int.eq_ofNat_of_zero_le hf.1
  rw [hq] at hf ⊢
  rw [← Int.natCast_add]
  exact build_low hx ts h.base (by omega)

theorem spr_build {xs : List B3} (hx : xs.length ≤ 64) (ts : List (BitVec 8)) {regs : List (BitVec 8)} (h : Apart regs) {line : Int} (hl : 0 ≤ line ∧ line < 192) {i : Nat} (hi : i < xs.length) (ho : onB regs line (xs.getD i d3) = true) (r : RowS) :
    sprS (buildS xs ts regs) regs line i r = sprB ts regs line r (xs.getD i d3) := by
  unfold sprS sprB
  rw [sprTo_laid, left_build hx ts regs hi, dots_build hx ts h hl hi ho]
theorem rowTo_build {xs : List B3} (hx : xs.length ≤ 64) (ts : List (BitVec 8)) {regs : List (BitVec 8)} (h : Apart regs) {line : Int} (hl : 0 ≤ line ∧ line < 192) (L : List Nat) (hL : ∀ i ∈ L, i < xs.length ∧ onB regs line (xs.getD i d3) = true) (r : RowS) :
    rowTo (buildS xs ts regs) regs line L r = (L.map (fun i => xs.getD i d3)).foldl (sprB ts regs line) r := by
  induction L generalizing r with
  | nil => rfl
  | cons i L ih =>
    obtain ⟨h1, h2⟩ := hL i (List.mem_cons_self)
    rw [rowTo, List.map_cons, List.foldl_cons, spr_build hx ts h hl h1 h2, ih (fun j hj => hL j (List.mem_cons_of_mem _ hj))]
/-- A picture's row, by its list alone. -/
theorem sprites_build {xs : List B3} (hx : xs.length ≤ 64) (ts : List (BitVec 8)) {regs : List (BitVec 8)} (h : Apart regs) {line : Int} (hl : 0 ≤ line ∧ line < 192) :
    spritesS (buildS xs ts regs) regs line = rowB' ts regs line ((seenB regs line xs).take 8) := by
  unfold spritesS rowB'
  rw [rowTo_build hx ts h hl _ (fun i hi => ?_), List.map_take, hits_build hx]
  · rfl
  · have hm := List.mem_of_mem_take hi
    refine ⟨hits_lt hx ts regs line hm, ?_⟩
    have := List.mem_map_of_mem (f := fun i => xs.getD i d3) hm
    rw [hits_build hx] at this
    unfold seenB at this
    rw [if_neg (by omega)] at this
    exact (List.mem_filter.1 this).2

/-! What is seen stays. -/
theorem putC_keep (c : List (BitVec 8)) (x : Int) (d : BitVec 8) (k : Nat) (h : c.getD k 0#8 ≠ 0#8) : (putC c x d).getD k 0#8 = c.getD k 0#8 := by
  unfold putC
  split
  · rfl
  · split
    · rfl
    · rename_i h2
      rw [getD_set8]
      split
      · rename_i e; obtain ⟨e, -⟩ := e; subst e; exact absurd h h2
      · rfl
theorem put_keep (s : RowS) (x : Int) (d : BitVec 8) (k : Nat) (h : s.c.getD k 0#8 ≠ 0#8) : (s.put x d).c.getD k 0#8 = s.c.getD k 0#8 := by
  unfold RowS.put; split
  · exact putC_keep _ _ _ _ h
  · rfl
theorem laid_keep (left : Int) (dots : List (BitVec 8)) (wide : Nat) (s : RowS) (k : Nat) (h : s.c.getD k 0#8 ≠ 0#8) (t : Nat) : (laid left dots wide s t).c.getD k 0#8 = s.c.getD k 0#8 := by
  induction t with
  | zero => rfl
  | succ t ih => rw [laid, put_keep _ _ _ _ (by rw [ih]; exact h), ih]
theorem fold_keep (ts regs : List (BitVec 8)) (line : Int) (l : List B3) (s : RowS) (k : Nat) (h : s.c.getD k 0#8 ≠ 0#8) : (l.foldl (sprB ts regs line) s).c.getD k 0#8 = s.c.getD k 0#8 := by
  induction l generalizing s with
  | nil => rfl
  | cons b l ih =>
    have e : (sprB ts regs line s b).c.getD k 0#8 = s.c.getD k 0#8 := laid_keep _ _ _ _ _ h _
    rw [List.foldl_cons, ih _ (by rw [e]; exact h), e]
theorem row_app (ts regs : List (BitVec 8)) (line : Int) (a b : List B3) (k : Nat) (h : (rowB' ts regs line a).c.getD k 0#8 ≠ 0#8) : (rowB' ts regs line (a ++ b)).c.getD k 0#8 = (rowB' ts regs line a).c.getD k 0#8 := by
  unfold rowB' at h ⊢
  rw [List.foldl_append, fold_keep _ _ _ _ _ _ h]

theorem laid_len (left : Int) (dots : List (BitVec 8)) (wide : Nat) (s : RowS) (t : Nat) : (laid left dots wide s t).c.length = s.c.length := by
  induction t with
  | zero => rfl
  | succ t ih => rw [laid, RowS.put_len, ih]

/-! Moved by some dots. -/
structure Shift (n : Nat) (s s' : RowS) : Prop where
  l : s.c.length = 256
  l' : s'.c.length = 256
  m : s'.m = s.m
  z : ∀ k, k < n → s'.c.getD k 0#8 = 0#8
  c : ∀ k, k + n < 256 → s'.c.getD (k + n) 0#8 = s.c.getD k 0#8
theorem Shift.put {n : Nat} {s s' : RowS} (h : Shift n s s') {k : Nat} (hk : k + n < 256) (d : BitVec 8) : Shift n (s.put (k : Int) d) (s'.put ((k : Int) + n) d) := by
  have e1 : ((k : Int)).toNat = k := by omega
  have e2 : ((k : Int) + n).toNat = k + n := by omega
  have hc := h.c k hk
  unfold RowS.put
  rw [if_pos (by omega), if_pos (by omega)]
  unfold putC putM
  rw [e1, e2, hc]
  by_cases hd : d = 0#8
  · rw [if_pos (.inl hd), if_pos (.inl hd), if_pos (.inl hd), if_pos (.inl hd)]; exact h
  · have d1 : ¬(d = 0#8 ∨ (k : Int) < 0) := fun h1 => h1.elim hd (fun h2 => by omega)
    have d2 : ¬(d = 0#8 ∨ (k : Int) + (n : Int) < 0) := fun h1 => h1.elim hd (fun h2 => by omega)
    rw [if_neg d1, if_neg d1, if_neg d2, if_neg d2]
    by_cases hz : s.c.getD k 0#8 = 0#8
    · have hz' : ¬(s.c.getD k 0#8 ≠ 0#8) := fun h => h hz
      rw [if_neg hz', if_neg hz', if_neg hz', if_neg hz']
      refine ⟨by simp [h.l], by simp [h.l'], h.m, fun j hj => ?_, fun j hj => ?_⟩
      · simp only [getD_set8]
        rw [if_neg (by omega)]; exact h.z j hj
      · simp only [getD_set8, h.l, h.l']
        by_cases e : k = j
        · subst e; rw [if_pos (by omega), if_pos (by omega)]
        · rw [if_neg (by omega), if_neg (by omega)]; exact h.c j hj
    · rw [if_pos hz, if_pos hz, if_pos hz, if_pos hz]
      exact ⟨h.l, h.l', rfl, h.z, h.c⟩
theorem Shift.laid {n : Nat} {s s' : RowS} (h : Shift n s s') {left : Nat} (dots : List (BitVec 8)) (wide : Nat) (t : Nat) (ht : left + t + n ≤ 256) : Shift n (laid left dots wide s t) (laid ((left : Int) + n) dots wide s' t) := by
  induction t with
  | zero => exact h
  | succ t ih =>
    have := (ih (by omega)).put (k := left + t) (by omega) (dots.getD (t / wide) 0#8)
    rw [Joy.laid, Joy.laid, show ((left : Int) + n + (t : Nat)) = ((left + t : Nat) : Int) + n by omega, show (left : Int) + (t : Nat) = ((left + t : Nat) : Int) by omega]
    exact this
theorem getD_rep0 (m k : Nat) : (List.replicate m 0#8).getD k 0#8 = 0#8 := by
  rw [List.getD_eq_getElem?_getD, List.getElem?_replicate]; split <;> rfl
theorem Shift.zero (n : Nat) : Shift n row0 row0 := ⟨List.length_replicate, List.length_replicate, rfl, fun k _ => getD_rep0 _ _, fun k _ => by
  show (List.replicate 256 0#8).getD _ _ = (List.replicate 256 0#8).getD _ _
  rw [getD_rep0, getD_rep0]⟩
def modX (n : Nat) (s : B3) : B3 := (s.1, BitVec.ofNat 8 (s.2.1.toNat % 160 + n), s.2.2)
theorem Shift.fold {n : Nat} (hn : n < 60) (ts : List (BitVec 8)) {regs : List (BitVec 8)} (h0 : regs.getD 0 0#8 &&& 8#8 = 0#8) (line : Int) (l : List B3) {s s' : RowS} (h : Shift n s s') :
    Shift n ((l.map (modX 0)).foldl (sprB ts regs line) s) ((l.map (modX n)).foldl (sprB ts regs line) s') := by
  induction l generalizing s s' with
  | nil => exact h
  | cons b l ih =>
    rw [List.map_cons, List.foldl_cons, List.map_cons, List.foldl_cons]
    refine ih ?_
    have hw := wideS_le regs
    have e0 : leftB regs (modX 0 b) = ((b.2.1.toNat % 160 : Nat) : Int) := by
      unfold leftB modX; rw [if_pos h0]; simp only [BitVec.toNat_ofNat]; omega
    have e1 : leftB regs (modX n b) = ((b.2.1.toNat % 160 : Nat) : Int) + n := by
      unfold leftB modX; rw [if_pos h0]; simp only [BitVec.toNat_ofNat]; omega
    unfold sprB
    rw [e0, e1]
    exact h.laid _ _ _ (by omega)
theorem modX_seen (n : Nat) (regs : List (BitVec 8)) (line : Int) (l : List B3) : seenB regs line (l.map (modX n)) = (seenB regs line l).map (modX n) := by
  unfold seenB
  split
  · rfl
  · rw [List.takeWhile_map, List.filter_map]; rfl
/-- ALL MOVED BY SOME DOTS. -/
theorem moves_shift {n : Nat} (hn : n < 60) (xs : List B3) (hx : xs.length ≤ 64) (ts : List (BitVec 8)) {regs : List (BitVec 8)} (h0 : regs.getD 0 0#8 &&& 8#8 = 0#8) (h : Apart regs) {line : Int} (hl : 0 ≤ line ∧ line < 192) :
    Shift n (spritesS (buildS (xs.map (modX 0)) ts regs) regs line) (spritesS (buildS (xs.map (modX n)) ts regs) regs line) := by
  rw [sprites_build (by simpa using hx) ts h hl, sprites_build (by simpa using hx) ts h hl, modX_seen, modX_seen, ← List.map_take, ← List.map_take]
  exact Shift.fold hn ts h0 line _ (Shift.zero n)
theorem moves_over (n : Nat) (xs : List B3) (hx : xs.length ≤ 64) (ts regs : List (BitVec 8)) (line : Int) : (hitsS (buildS (xs.map (modX n)) ts regs) regs line).length = (seenB regs line xs).length := by
  rw [hits_len (by simpa using hx), modX_seen, List.length_map]

/-! Who is first. -/
theorem takeWhile_self {xs : List B3} (h : ∀ a ∈ xs, goesB a = true) : xs.takeWhile goesB = xs := by
  induction xs with
  | nil => rfl
  | cons a l ih => rw [List.takeWhile_cons, if_pos (h a List.mem_cons_self), ih fun b hb => h b (List.mem_cons_of_mem _ hb)]
theorem takeWhile_mem {xs : List B3} {a : B3} (h : a ∈ xs.takeWhile goesB) : goesB a = true := by
  induction xs with
  | nil => simp at h
  | cons b l ih =>
    rw [List.takeWhile_cons] at h
    split at h
    · rename_i c
      rcases List.mem_cons.1 h with rfl | h
      · exact c
      · exact ih h
    · simp at h
theorem seen_len (regs : List (BitVec 8)) (line : Int) (xs : List B3) : (seenB regs line xs).length ≤ xs.length := by
  unfold seenB
  split
  · simp
  · exact Nat.le_trans (List.length_filter_le _ _) (takeWhile_len xs)
theorem seen_ahead (regs : List (BitVec 8)) (line : Int) (e : B3) (xs : List B3) : ∃ r, seenB regs line (e :: xs) = seenB regs line [e] ++ r := by
  unfold seenB
  split
  · exact ⟨[], rfl⟩
  · simp only [List.takeWhile_cons, List.takeWhile_nil]
    split
    · exact ⟨(xs.takeWhile goesB).filter (onB regs line), by rw [List.filter_cons, List.filter_cons]; split <;> rfl⟩
    · exact ⟨[], rfl⟩
theorem seen_behind (regs : List (BitVec 8)) (line : Int) (e : B3) (xs : List B3) : ∃ r, seenB regs line (xs ++ [e]) = seenB regs line xs ++ r := by
  unfold seenB
  split
  · exact ⟨[], rfl⟩
  · rw [List.takeWhile_append]
    split
    · rename_i h
      refine ⟨([e].takeWhile goesB).filter (onB regs line), ?_⟩
      have e2 : xs.takeWhile goesB = xs := takeWhile_self fun a ha => by
        have := List.takeWhile_prefix (p := goesB) (l := xs)
        have h3 := List.IsPrefix.eq_of_length this h
        rw [← h3] at ha
        exact takeWhile_mem ha
      rw [List.filter_append, e2]
    · exact ⟨[], by simp⟩
theorem first_ahead (xs : List B3) (hx : xs.length ≤ 6) (e : B3) (ts : List (BitVec 8)) {regs : List (BitVec 8)} (h : Apart regs) {line : Int} (hl : 0 ≤ line ∧ line < 192) (k : Nat) (hk : (spritesS (buildS [e] ts regs) regs line).c.getD k 0#8 ≠ 0#8) :
    (spritesS (buildS (e :: xs) ts regs) regs line).c.getD k 0#8 = (spritesS (buildS [e] ts regs) regs line).c.getD k 0#8 := by
  have h1 : (e :: xs).length ≤ 8 := by simp; omega
  have q0 : [e].length ≤ 8 := by simp
  have e1 := sprites_build (show [e].length ≤ 64 by simp) ts h hl
  have e2 := sprites_build (show (e :: xs).length ≤ 64 by omega) ts h hl
  rw [List.take_of_length_le (Nat.le_trans (seen_len _ _ _) q0)] at e1
  rw [List.take_of_length_le (Nat.le_trans (seen_len _ _ _) h1)] at e2
  rw [e1] at hk ⊢
  rw [e2]
  obtain ⟨r, hr⟩ := seen_ahead regs line e xs
  rw [hr]
  exact row_app _ _ _ _ _ _ hk
theorem first_behind (xs : List B3) (hx : xs.length ≤ 6) (e : B3) (ts : List (BitVec 8)) {regs : List (BitVec 8)} (h : Apart regs) {line : Int} (hl : 0 ≤ line ∧ line < 192) (k : Nat) (hk : (spritesS (buildS xs ts regs) regs line).c.getD k 0#8 ≠ 0#8) :
    (spritesS (buildS (xs ++ [e]) ts regs) regs line).c.getD k 0#8 = (spritesS (buildS xs ts regs) regs line).c.getD k 0#8 := by
  have h1 : (xs ++ [e]).length ≤ 8 := by simp; omega
  have e1 := sprites_build (show xs.length ≤ 64 by omega) ts h hl
  have e2 := sprites_build (show (xs ++ [e]).length ≤ 64 by omega) ts h hl
  rw [List.take_of_length_le (Nat.le_trans (seen_len _ _ _) (show xs.length ≤ 8 by omega))] at e1
  rw [List.take_of_length_le (Nat.le_trans (seen_len _ _ _) h1)] at e2
  rw [e1] at hk ⊢
  rw [e2]
  obtain ⟨r, hr⟩ := seen_behind regs line e xs
  rw [hr]
  exact row_app _ _ _ _ _ _ hk
theorem few_hits (xs : List B3) (hx : xs.length ≤ 8) (ts regs : List (BitVec 8)) (line : Int) : (hitsS (buildS xs ts regs) regs line).length ≤ 8 := by
  rw [hits_len (by omega)]; exact Nat.le_trans (seen_len _ _ _) hx

/-! Behind the end. -/
theorem takeWhile_idem (xs : List B3) : (xs.takeWhile goesB).takeWhile goesB = xs.takeWhile goesB := takeWhile_self fun _ ha => takeWhile_mem ha
theorem ends_same (xs : List B3) (hx : xs.length ≤ 64) (ts regs : List (BitVec 8)) (line : Int) : (hitsS (buildS (xs.takeWhile goesB) ts regs) regs line).length = (hitsS (buildS xs ts regs) regs line).length := by
  rw [hits_len (Nat.le_trans (takeWhile_len xs) hx), hits_len hx]
  unfold seenB
  rw [takeWhile_idem]
/-- Higher sprites are on no fewer lines, of the same memory. -/
theorem ends_tall (bs regs regs' : List (BitVec 8)) (hb : baseS regs' = baseS regs) (hh : heightS regs ≤ heightS regs') (line : Int) : (hitsS bs regs line).length ≤ (hitsS bs regs' line).length := by
  have hy : ∀ i, yS bs regs' i = yS bs regs i := fun i => by unfold yS; rw [hb]
  have he : endS bs regs' = endS bs regs := by unfold endS; simp only [hy]
  unfold hitsS
  split
  · exact Nat.le_refl _
  · rw [he]
    unfold hitsTo
    have key : ∀ l : List Nat, (l.filter (onS' bs regs line)).length ≤ (l.filter (onS' bs regs' line)).length := by
      intro l
      induction l with
      | nil => exact Nat.le_refl _
      | cons i l ih =>
        rw [List.filter_cons, List.filter_cons]
        by_cases c : onS' bs regs line i = true
        · have c2 : onS' bs regs' line i = true := by
            unfold onS' at c ⊢
            rw [hy]
            rw [Bool.and_eq_true, decide_eq_true_eq, decide_eq_true_eq] at c ⊢
            omega
          rw [if_pos c, if_pos c2, List.length_cons, List.length_cons]; omega
        · rw [if_neg c]
          split
          · rw [List.length_cons]; omega
          · exact ih
    exact key _
theorem height_tall (regs : List (BitVec 8)) : heightS regs ≤ 32 := (heightS_le regs).2
end Go.Proofs.Joy
namespace Go.Proofs.Joy
open Go.Ab Go.Proofs

set_option maxHeartbeats 1000000
set_option maxRecDepth 20000

theorem flat3_at {xs : List B3} {i : Nat} (h : i < xs.length) : ((flat3 xs).drop (i * 3)).take 3 = [.u8 (xs.getD i d3).1, .u8 (xs.getD i d3).2.1, .u8 (xs.getD i d3).2.2] := by
  induction xs generalizing i with
  | nil => simp at h
  | cons s r ih =>
    cases i with
    | zero => rfl
    | succ i =>
      rw [show (i + 1) * 3 = i * 3 + 1 + 1 + 1 by omega]
      exact ih (by simpa using h)
theorem flat3_len (xs : List B3) : (flat3 xs).length = xs.length * 3 := by
  induction xs with
  | nil => rfl
  | cons s r ih => rw [show flat3 (s :: r) = .u8 s.1 :: .u8 s.2.1 :: .u8 s.2.2 :: flat3 r from rfl]; simp only [List.length_cons, ih]; omega

theorem threes_mono {H H' : Heap} {v : AV} {xs : List B3} {n : Nat} (h : threesIn H v xs) (hok : v.ok n = true) (he : ∀ k, k < n → H' k = H k) : threesIn H' v xs := by
  rcases h with ⟨rfl, rfl⟩ | ⟨b, c, el, ro, rfl, h0, h1⟩ | ⟨b, el, ro, rfl, h1⟩
  · exact .inl ⟨rfl, rfl⟩
  · exact .inr (.inl ⟨b, c, el, ro, rfl, h0, by rw [he b (by simpa [AV.ok] using hok)]; exact h1⟩)
  · exact .inr (.inr ⟨b, el, ro, rfl, by rw [he b (by simpa [AV.ok] using hok)]; exact h1⟩)

theorem layS_next (a : Nat) {xs : List B3} {i : Nat} (h : i < xs.length) (h64 : i < 64) (l : List (BitVec 8)) :
    layS a 0 (xs.take (i + 1)) l = (((layS a 0 (xs.take i) l).set (a + i) (xs.getD i d3).1).set (a + (128 + 2 * i)) (xs.getD i d3).2.1).set (a + (129 + 2 * i)) (xs.getD i d3).2.2 := by
  have e : xs.take (i + 1) = xs.take i ++ [xs.getD i d3] := by
    rw [List.take_add_one, List.getElem?_eq_getElem h, List.getD_eq_getElem?_getD, List.getElem?_eq_getElem h]; rfl
  have hl : (xs.take i).length = i := by rw [List.length_take]; omega
  rw [e, layS_app, hl]
  simp only [layS, Nat.zero_add]
  rw [if_pos h64, ← Nat.add_assoc, ← Nat.add_assoc]

structure BdI (H : Heap) (n : Nat) (v w : AV) (regs bs : List (BitVec 8)) (m : Nat) (X : Heap) : Prop where
  wf : X.wf m
  le : n + 3 ≤ m
  x0 : X n = some ⟨[v, w], 31, false⟩
  x1 : X (n + 1) = some ⟨regs.map .u8, 26, false⟩
  x2 : X (n + 2) = some ⟨bs.map .u8, 5, false⟩
  old : ∀ k, k < n → X k = H k
theorem BdI.put {H : Heap} {n : Nat} {v w : AV} {regs bs : List (BitVec 8)} {m : Nat} {X : Heap} (h : BdI H n v w regs bs m X) (bs' : List (BitVec 8)) : BdI H n v w regs bs' m (X.upd (n + 2) (some ⟨bs'.map .u8, 5, false⟩)) :=
  ⟨Heap.wf_set h.wf (by have := h.le; omega) map_u8_ok, h.le, by rw [Heap.upd_ne _ _ (by omega)]; exact h.x0, by rw [Heap.upd_ne _ _ (by omega)]; exact h.x1, Heap.upd_same _ _ _,
   fun k hk => by rw [Heap.upd_ne _ _ (by omega)]; exact h.old k hk⟩

theorem build_ok (v w : AV) (xs : List B3) (hx : xs.length ≤ 64) (ts regs : List (BitVec 8)) (hr : regs.length = 11) (H : Heap) (n : Nat) (K : AV → Heap → Nat → Prop) (hv : threesIn H v xs) (hw : bytesIn H w ts)
    (h : ∀ (H' : Heap) (m b : Nat), n ≤ m → H'.wf m → (∀ i, i < n → H' i = H i) → n ≤ b → b < m → H' b = some ⟨(buildS xs ts regs).map .u8, 5, false⟩ → K (.sl b 0 16384 16384) H' m) : ACalls Try.prog 12 [.ag [v, w], .ag (regs.map .u8)] H n K := by
  refine ACalls.of_awp Try.func12 rfl (by decide +kernel) (show 2 ≤ 91 by decide) (by simp) fun wf => ?_
  refine awp_step dr12 (by decide +kernel) ?_
  simp only [go_sem, Try.f12]
  refine awp_step dr12 (by decide +kernel) ?_
  simp only [go_sem]
  have hvok : v.ok n = true := by
    rcases hv with ⟨rfl, rfl⟩ | ⟨b, c, el, ro, rfl, _, h1⟩ | ⟨b, el, ro, rfl, h1⟩
    · rfl
    · have := (wf b _ h1).1; simp [AV.ok, this]
    · have := (wf b _ h1).1; simp [AV.ok, this]
  have hwok : w.ok n = true := by
    rcases hw with ⟨rfl, rfl⟩ | ⟨su, b, o, c, blk, rfl, h0, h1, h2, h3⟩
    · rfl
    · exact vw_ok (wf b _ h1).1
  rw [rep_u8]
  refine awp_gen (BdI H n v w regs (layT ts 0) (n + 3)) ?_ ?_
  · have o1 : ∀ x ∈ [v, w], x.ok (n + 1) = true := fun x hx => by
      simp only [List.mem_cons, List.not_mem_nil, or_false] at hx
      rcases hx with rfl | rfl
      · exact AV.ok_mono (by omega) _ hvok
      · exact AV.ok_mono (by omega) _ hwok
    exact ⟨Heap.wf_upd (Heap.wf_upd (Heap.wf_upd wf o1) map_u8_ok) map_u8_ok, Nat.le_refl _, by rw [Heap.upd_ne _ _ (by omega), Heap.upd_ne _ _ (by omega), Heap.upd_same], by rw [Heap.upd_ne _ _ (by omega), Heap.upd_same],
      by rw [Heap.upd_same]; unfold layT; rfl, fun k hk => by rw [Heap.upd_ne _ _ (by omega), Heap.upd_ne _ _ (by omega), Heap.upd_ne _ _ (by omega)]⟩
  intro X hX
  refine awp_seqF (S := LS) (fun t => [(2, .pt n 0), (3, .pt (n + 1) 0), (5, .sl (n + 2) 0 16384 16384)]) (fun t => t.X) (fun _ => n + 3) (fun t => BdI H n v w regs (layT ts 16384) (n + 3) t.X)
    (fun t ht => ⟨ht.wf, Env.okAt_of2 (by simp [AV.ok])⟩) ?_ ?_
  · refine awp_step dr12 (by decide +kernel) ?_
    simp only [go_sem]
    refine awp_block ?_
    refine awp_loopF (S := LS) (fun t => [(2, .pt n 0), (3, .pt (n + 1) 0), (5, .sl (n + 2) 0 16384 16384), (12, .i64 16384), (13, .i64 t.j)]) (fun t => t.X) (fun _ => n + 3)
      (fun t => t.j ≤ 16384 ∧ BdI H n v w regs (layT ts t.j) (n + 3) t.X) (fun t => 16384 - t.j)
      (fun t ht => ⟨ht.2.wf, Env.okAt_of2 (by simp [AV.ok])⟩) ?_ ⟨0, X⟩ ⟨Nat.zero_le _, hX⟩
      (Env.le_cons rfl (Env.le_cons rfl (Env.le_cons rfl (Env.le_cons rfl (Env.le_cons rfl (Env.le_nil _)))))) (fun _ _ => rfl) rfl
    rintro ⟨j, Y⟩ ⟨hj, hY⟩
    simp only at hj hY ⊢
    refine awp_step dr12 (by decide +kernel) ?_
    simp only [go_sem]
    refine awp_step dr12 (by decide +kernel) ?_
    simp only [go_sem]
    refine ⟨fun hlt => ?_, fun hlt => ?_⟩
    · have hj' : j < 16384 := by omega
      have y0 := hY.x0; have y2 := hY.x2
      have wj : wrap64 ((j : Int) + 1) = ((j + 1 : Nat) : Int) := by rw [wrap_id _ (by omega) (by omega)]; omega
      have hwY : bytesIn Y w ts := hw.mono hwok hY.old
      have hlb : ∀ K, lenB (some .slice) w K = K (.i64 ts.length) := lenB_bytes hwY
      refine awp_ev dr12 (by decide +kernel) ?_
      simp only [go_sem, y0, hlb]
      refine ⟨fun c => ?_, fun c => ?_⟩
      · have hts : ts ≠ [] := by rintro rfl; simp at c
        have htl : 0 < ts.length := List.length_pos_iff.2 hts
        have hm : (j : Int).tmod (ts.length : Int) = ((j % ts.length : Nat) : Int) := by rw [Int.tmod_eq_emod_of_nonneg (by omega)]; rfl
        have hml : j % ts.length < ts.length := Nat.mod_lt _ htl
        refine ⟨by omega, ?_⟩
        rw [hm]
        rcases hwY with ⟨rfl, he⟩ | ⟨su, b, o, c2, blk, rfl, g0, g1, g2, g3⟩
        · exact absurd he hts
        obtain ⟨q1, q2⟩ := cells_at g2 g3 hml
        have hml2 : ((j % ts.length : Nat) : Int) < (ts.length : Int) := by omega
        have hbn : b < n := by cases su <;> simpa [vw, AV.ok] using hwok
        have hd7 : wrap64 ((j : Int).tdiv 7) = ((j / 7 : Nat) : Int) := by
          rw [Int.tdiv_eq_ediv_of_nonneg (by omega), wrap_id _ (by omega) (by omega)]; omega
        have ho7 : BitVec.ofInt 8 ((j / 7 : Nat) : Int) = BitVec.ofNat 8 (j / 7) := BitVec.ofInt_natCast ..
        have hb2 : b ≠ n + 2 := by omega
        have htB : ts.getD (j % ts.length) 0#8 &&& BitVec.ofNat 8 (j / 7) = tileB ts j := by unfold tileB; rw [if_neg hts]
        have hjI : (j : Int) < 16384 := by omega
        have hll : (layT ts j).length = 16384 := layT_len _ _ hj
        simp only [go_sem, g1, q1, q2, hml, hml2, hd7, ho7, htB, hjI, y2, y0, hll, hj', hb2, List.length_map, wj]
        refine ⟨by omega, ?_⟩
        rw [← List.map_set, layT_succ ts j hj']
        exact Go.Ab.Ends.mk (⟨j + 1, _⟩ : LS) ⟨by simp only; omega, by simp only; omega, hY.put _⟩ (Env.le_cons rfl (Env.le_cons rfl (Env.le_cons rfl (Env.le_cons rfl (Env.le_cons rfl (Env.le_nil _)))))) (fun _ _ => rfl) (Nat.le_refl _) (Nat.le_refl _)
      · have hts : ts = [] := List.eq_nil_of_length_eq_zero (by omega)
        subst hts
        simp only [wj]
        exact Go.Ab.Ends.mk ⟨j + 1, Y⟩ ⟨by simp only; omega, by simp only; omega, by simp only; rw [layT_skip _ hj']; exact hY⟩ (Env.le_cons rfl (Env.le_cons rfl (Env.le_cons rfl (Env.le_cons rfl (Env.le_cons rfl (Env.le_nil _)))))) (fun _ _ => rfl) (Nat.le_refl _) (Nat.le_refl _)
    · have hje : j = 16384 := by omega
      subst hje
      exact Go.Ab.Ends.mk ⟨0, Y⟩ hY (Env.le_cons rfl (Env.le_cons rfl (Env.le_cons rfl (Env.le_nil _)))) (fun _ _ => rfl) (Nat.le_refl _) (Nat.le_refl _)
  rintro ⟨j, Y⟩ hY
  simp only at hY ⊢
  have y1 := hY.x1
  refine awp_step dr12 (by decide +kernel) ?_
  simp only [go_sem, y1, hr, List.length_map, take_map_all hr]
  refine ref_base regs hr _ _ _ ?_
  simp only [go_sem]
  have hbl := baseS_le regs
  obtain ⟨a, ha⟩ : ∃ a : Nat, baseS regs = (a : Int) := Int.eq_ofNat_of_zero_le hbl.1
  have hat : (baseS regs).toNat = a := by rw [ha]; rfl
  have ha2 : a ≤ 16128 := by omega
  rw [ha]
  have hlv : ∀ {Z : Heap}, threesIn Z v xs → ∀ K, lenB (some .slice) v K = K (.i64 xs.length) := fun hz => lenB_threes hz
  refine awp_seqF (S := LS) (fun t => [(2, .pt n 0), (5, .sl (n + 2) 0 16384 16384), (7, .i64 a)]) (fun t => t.X) (fun _ => n + 3) (fun t => BdI H n v w regs (layS a 0 xs (layT ts 16384)) (n + 3) t.X)
    (fun t ht => ⟨ht.wf, Env.okAt_of2 (by simp [AV.ok])⟩) ?_ ?_
  · refine awp_step dr12 (by decide +kernel) ?_
    simp only [go_sem, hY.x0, hlv hv]
    refine awp_block ?_
    refine awp_loopF (S := LS) (fun t => [(2, .pt n 0), (5, .sl (n + 2) 0 16384 16384), (7, .i64 a), (40, v), (41, .i64 xs.length), (42, .i64 t.j)]) (fun t => t.X) (fun _ => n + 3)
      (fun t => t.j ≤ xs.length ∧ BdI H n v w regs (layS a 0 (xs.take t.j) (layT ts 16384)) (n + 3) t.X) (fun t => xs.length - t.j)
      (fun t ht => ⟨ht.2.wf, Env.okAt_of2 (by simp [AV.ok, AV.ok_mono (show n ≤ n + 3 by omega) _ hvok])⟩) ?_ ⟨0, Y⟩ ⟨Nat.zero_le _, hY⟩
      (Env.le_cons rfl (Env.le_cons rfl (Env.le_cons rfl (Env.le_cons rfl (Env.le_cons rfl (Env.le_cons rfl (Env.le_nil _))))))) (fun _ _ => rfl) rfl
    rintro ⟨i, Z⟩ ⟨hi, hZ⟩
    simp only at hi hZ ⊢
    refine awp_step dr12 (by decide +kernel) ?_
    simp only [go_sem]
    refine awp_step dr12 (by decide +kernel) ?_
    simp only [go_sem]
    refine ⟨fun hlt => ?_, fun hlt => ?_⟩
    · have hi' : i < xs.length := by omega
      have wi : wrap64 ((i : Int) + 1) = ((i + 1 : Nat) : Int) := by rw [wrap_id _ (by omega) (by omega)]; omega
      have hq1 : (wrap64 ((a : Int) + (i : Int))).tmod 16384 = ((a + i : Nat) : Int) := by
        rw [wrap_id _ (by omega) (by omega), Int.tmod_eq_emod_of_nonneg (by omega)]; omega
      have hq2 : (wrap64 (wrap64 ((a : Int) + 128) + wrap64 (2 * (i : Int)))).tmod 16384 = ((a + 128 + 2 * i : Nat) : Int) := by
        rw [wrap_id ((a : Int) + 128) (by omega) (by omega), wrap_id (2 * (i : Int)) (by omega) (by omega), wrap_id _ (by omega) (by omega), Int.tmod_eq_emod_of_nonneg (by omega)]; omega
      have hq3 : (wrap64 (wrap64 ((a : Int) + 129) + wrap64 (2 * (i : Int)))).tmod 16384 = ((a + 129 + 2 * i : Nat) : Int) := by
        rw [wrap_id ((a : Int) + 129) (by omega) (by omega), wrap_id (2 * (i : Int)) (by omega) (by omega), wrap_id _ (by omega) (by omega), Int.tmod_eq_emod_of_nonneg (by omega)]; omega
      have l1 : a + i < 16384 := by omega
      have l2 : a + 128 + 2 * i < 16384 := by omega
      have l3 : a + 129 + 2 * i < 16384 := by omega
      have l1' : ((a + i : Nat) : Int) < 16384 := by omega
      have l2' : ((a + 128 + 2 * i : Nat) : Int) < 16384 := by omega
      have l3' : ((a + 129 + 2 * i : Nat) : Int) < 16384 := by omega
      have z2 := hZ.x2
      have hll : (layS a 0 (xs.take i) (layT ts 16384)).length = 16384 := by rw [layS_len, layT_len _ _ (Nat.le_refl _)]
      have h64 : (i : Int) < 64 := by omega
      have hf3 := flat3_at hi'
      have hfl := flat3_len xs
      have hvZ := threes_mono hv hvok hZ.old
      refine awp_ev dr12 (by decide +kernel) ?_
      rcases hvZ with ⟨rfl, rfl⟩ | ⟨b, c, el, ro, rfl, g0, g1⟩ | ⟨b, el, ro, rfl, g1⟩
      · simp at hi'
      all_goals
        simp only [go_sem, hlt, hi', g1, hf3, hfl, hq1, hq2, hq3, l1, l2, l3, l1', l2', l3', z2, hll, h64, List.length_map, List.length_set, wi, ← List.map_set]
        refine ⟨by omega, by omega, by omega, by omega, by omega, by omega, ?_⟩
        rw [← layS_next a hi' (by omega)]
        exact Go.Ab.Ends.mk (⟨i + 1, Z.upd (n + 2) (some ⟨(layS a 0 (xs.take (i + 1)) (layT ts 16384)).map .u8, 5, false⟩)⟩ : LS) ⟨by simp only; omega, by simp only; omega, hZ.put _⟩ (by repeat (first | exact Env.le_nil _ | refine Env.le_cons rfl ?_)) (fun k hk => by
          by_cases e : k = n + 2
          · subst e; simp only [Heap.upd_same]
          · simp only; rw [Heap.upd_ne _ _ e, Heap.upd_ne _ _ e, Heap.upd_ne _ _ (by omega)]) (Nat.le_refl _) (by omega)
    · have hie : i = xs.length := by omega
      subst hie
      rw [List.take_length] at hZ
      exact Go.Ab.Ends.mk ⟨0, Z⟩ hZ (Env.le_cons rfl (Env.le_cons rfl (Env.le_cons rfl (Env.le_nil _)))) (fun _ _ => rfl) (Nat.le_refl _) (Nat.le_refl _)
  rintro ⟨i, Z⟩ hZ
  simp only at hZ ⊢
  have z0 := hZ.x0; have z2 := hZ.x2
  have hvZ := threes_mono hv hvok hZ.old
  have hlz : ∀ K, lenB (some .slice) v K = K (.i64 xs.length) := lenB_threes hvZ
  have hll : (layS a 0 xs (layT ts 16384)).length = 16384 := by rw [layS_len, layT_len _ _ (Nat.le_refl _)]
  have hat : (baseS regs).toNat = a := by rw [ha]; rfl
  have hq : xs.length < 64 → (wrap64 ((a : Int) + (xs.length : Int))).tmod 16384 = ((a + xs.length : Nat) : Int) := fun hl => by
    rw [wrap_id _ (by omega) (by omega), Int.tmod_eq_emod_of_nonneg (by omega)]; omega
  refine awp_ev dr12 (by decide +kernel) ?_
  simp only [go_sem, z0, hlz]
  refine ⟨fun hl => ?_, fun hl => ?_⟩
  · have hl' : xs.length < 64 := by omega
    have l1 : a + xs.length < 16384 := by omega
    have l1' : ((a + xs.length : Nat) : Int) < 16384 := by omega
    simp only [go_sem, hq hl', l1, l1', z2, hll, List.length_map, List.length_set, ← List.map_set]
    refine ⟨by omega, Fin.keep (h _ _ (n + 2) (by omega) (hZ.put _).wf (hZ.put _).old (by omega) (by omega) ?_)⟩
    rw [Heap.upd_same]
    unfold buildS
    simp only [hat]
    rw [if_pos hl']
  · refine Fin.keep (h _ _ (n + 2) (by omega) hZ.wf hZ.old (by omega) (by omega) ?_)
    rw [z2]
    unfold buildS
    simp only [hat]
    rw [if_neg (by omega)]
end Go.Proofs.Joy
namespace Go.Proofs.Joy
open Go.Ab

set_option maxRecDepth 20000
def regsA : List (BitVec 8) := [0#8, 0#8, 0#8, 0#8, 0#8, 126#8, 0#8, 0#8, 0#8, 0#8, 0#8]
def zeroL : List (BitVec 8) := List.replicate 16384 0#8
theorem zeroL_len : zeroL.length = 16384 := List.length_replicate
def memA : List (BitVec 8) := (((zeroL.set 16128 255#8).set 16129 208#8).set 16256 5#8).set 0 128#8
theorem memA_get (k : Nat) : memA.getD k 0#8 = if k = 0 then 128#8 else if k = 16256 then 5#8 else if k = 16129 then 208#8 else if k = 16128 then 255#8 else 0#8 := by
  unfold memA
  simp only [getD_set8, List.length_set, zeroL_len]
  have h0 : zeroL.getD k 0#8 = 0#8 := getD_rep0 _ _
  rw [h0]
  by_cases h1 : k = 0
  · rw [if_pos (by omega), if_pos h1]
  by_cases h2 : k = 16256
  · rw [if_neg (by omega), if_pos (by omega), if_neg h1, if_pos h2]
  by_cases h3 : k = 16129
  · rw [if_neg (by omega), if_neg (by omega), if_pos (by omega), if_neg h1, if_neg h2, if_pos h3]
  by_cases h4 : k = 16128
  · rw [if_neg (by omega), if_neg (by omega), if_neg (by omega), if_pos (by omega), if_neg h1, if_neg h2, if_neg h3, if_pos h4]
  · rw [if_neg (by omega), if_neg (by omega), if_neg (by omega), if_neg (by omega), if_neg h1, if_neg h2, if_neg h3, if_neg h4]
theorem baseA : baseS regsA = 16128 := by decide
theorem yA (i : Nat) (h : i < 64) : yS memA regsA i = if i = 1 then 208#8 else if i = 0 then 255#8 else 0#8 := by
  unfold yS
  rw [baseA, show (16128 : Int) + (i : Int) = ((16128 + i : Nat) : Int) by omega, atS_nat _ _ (by omega), memA_get, if_neg (by omega), if_neg (by omega)]
  by_cases h1 : i = 1
  · subst h1; rfl
  · by_cases h0 : i = 0
    · subst h0; rfl
    · rw [if_neg (by omega), if_neg (by omega), if_neg h1, if_neg h0]
theorem hitsA : hitsS memA regsA 0 = [0] := by
  unfold hitsS
  rw [if_neg (by decide), endS_at (i := 1) (by decide) (by rw [yA 1 (by decide)]; rfl) (fun j hj => by rw [yA j (by omega), show j = 0 by omega]; decide)]
  unfold hitsTo
  have e : onS' memA regsA 0 0 = true := by unfold onS'; rw [yA 0 (by decide)]; decide
  rw [show List.range 1 = [0] from rfl, List.filter_cons, e]; rfl
theorem spritesA : (spritesS memA regsA 0).m = false ∧ (spritesS memA regsA 0).c.getD 5 0#8 = 17#8 ∧ (spritesS memA regsA 0).c.getD 6 0#8 = 0#8 ∧ (spritesS memA regsA 0).c.length = 256 := by
  have el : leftS memA regsA 0 = 5 := by
    unfold leftS
    rw [baseA, show (16128 : Int) + 128 + 2 * ((0 : Nat) : Int) = ((16256 : Nat) : Int) by decide, atS_nat _ _ (by decide), memA_get]; rfl
  have en : numS memA regsA 0 = 0 := by
    unfold numS
    rw [baseA, show (16128 : Int) + 128 + 2 * ((0 : Nat) : Int) + 1 = ((16257 : Nat) : Int) by decide, atS_nat _ _ (by decide), memA_get]; rfl
  have ed : downS memA regsA 0 0 = 0 := by unfold downS; rw [yA 0 (by decide)]; rfl
  have er : dotsL memA regsA 0 0 = [1#8, 0#8, 0#8, 0#8, 0#8, 0#8, 0#8, 0#8] := by
    unfold dotsL
    rw [en, ed]
    have : rowS memA (firstS (0 + Int.tdiv 0 8) (Int.tmod 0 8)) false = rowS [128#8] (firstS (0 + Int.tdiv 0 8) (Int.tmod 0 8)) false := rowS_congr (fun p hp => by
      rw [show firstS (0 + Int.tdiv 0 8) (Int.tmod 0 8) + (p : Int) = (p : Int) by rw [show firstS (0 + Int.tdiv 0 8) (Int.tmod 0 8) = 0 from by decide]; omega, atS_nat _ _ (by omega), atS_nat _ _ (by omega), memA_get]
      match p, hp with
      | 0, _ => rfl
      | 1, _ => rfl
      | 2, _ => rfl
      | 3, _ => rfl) false
    rw [this]
    decide
  have e : spritesS memA regsA 0 = laid 5 [1#8, 0#8, 0#8, 0#8, 0#8, 0#8, 0#8, 0#8] 1 row0 8 := by
    unfold spritesS
    rw [hitsA]
    show sprS memA regsA 0 0 row0 = _
    unfold sprS
    rw [sprTo_laid, el, er]
    rfl
  rw [e]
  exact ⟨by decide +kernel, by decide +kernel, by decide +kernel, laid_len _ _ _ _ _⟩

theorem yZ (i : Nat) (h : i < 64) : yS zeroL regsA i = 0#8 := by
  unfold yS
  rw [baseA, show (16128 : Int) + (i : Int) = ((16128 + i : Nat) : Int) by omega, atS_nat _ _ (by omega)]
  exact getD_rep0 _ _
theorem hitsZ1 : (hitsS zeroL regsA 1).length = 64 := by
  unfold hitsS
  rw [if_neg (by decide), endS_none (fun j hj => by rw [yZ j hj]; decide)]
  unfold hitsTo
  rw [List.filter_eq_self.2 (fun i hi => by unfold onS'; rw [yZ i (List.mem_range.1 hi)]; decide)]
  exact List.length_range
theorem hitsZ0 : hitsS zeroL regsA 0 = [] := by
  unfold hitsS
  rw [if_neg (by decide), endS_none (fun j hj => by rw [yZ j hj]; decide)]
  unfold hitsTo
  rw [List.filter_eq_nil_iff]
  intro i hi
  unfold onS'; rw [yZ i (List.mem_range.1 hi)]; decide
theorem hitsZ2 : hitsS zeroL regsA 192 = [] := by unfold hitsS; rw [if_pos (by decide)]
end Go.Proofs.Joy
namespace Go.Proofs.Joy
open Go.Ab Go.Proofs

set_option maxHeartbeats 1000000
set_option maxRecDepth 20000

theorem alive_ok (H : Heap) (n : Nat) (K : AV → Heap → Nat → Prop) (h : K (.bo true) H n) : ACalls Try.prog 9 [] H n K := by
  refine ACalls.of_awp Try.func9 rfl (by decide +kernel) (show 0 ≤ 53 by decide) (by simp) fun wf => ?_
  refine awp_step dr0 (by decide +kernel) ?_
  simp only [go_sem, Try.f9]
  refine awp_step dr0 (by decide +kernel) ?_
  simp only [go_sem]
  rw [rep_u8, show List.replicate 16384 0#8 = zeroL from rfl]
  have hz := zeroL_len
  refine awp_gen (fun X => X.wf (n + 1) ∧ X n = some ⟨zeroL.map .u8, 5, false⟩ ∧ ∀ k, k < n → X k = H k) ⟨Heap.wf_upd wf map_u8_ok, Heap.upd_same _ _ _, fun k hk => Heap.upd_ne _ _ (by omega)⟩ ?_
  rintro X ⟨xw, x0, xo⟩
  refine awp_step dr0 (by decide +kernel) ?_
  simp only [go_sem, x0, hz, List.length_map, List.length_set, ← List.map_set]
  refine awp_step dr0 (by decide +kernel) ?_
  simp only [go_sem, x0, hz, List.length_map, List.length_set, ← List.map_set]
  refine awp_step dr0 (by decide +kernel) ?_
  simp only [go_sem, x0, hz, List.length_map, List.length_set, ← List.map_set]
  refine awp_step dr0 (by decide +kernel) ?_
  simp only [go_sem, x0, hz, List.length_map, List.length_set, ← List.map_set]
  rw [show (((zeroL.set 16128 255#8).set 16129 208#8).set 16256 5#8).set 0 128#8 = memA from rfl]
  refine awp_gen (fun Y => Y.wf (n + 1) ∧ Y n = some ⟨memA.map .u8, 5, false⟩ ∧ ∀ k, k < n → Y k = H k) ⟨Heap.wf_set xw (by omega) map_u8_ok, Heap.upd_same _ _ _, fun k hk => by rw [Heap.upd_ne _ _ (by omega)]; exact xo k hk⟩ ?_
  rintro Y ⟨yw, y0, yo⟩
  have hmA : memA.length = 16384 := by simp [memA, hz]
  have hbY : bytesIn Y (.sl n 0 16384 16384) memA := .whole y0 hmA.symm (Nat.le_refl _)
  have hreg : ∀ (K : AV → Prop), K (.ag (regsA.map .u8)) → K (.ag [.u8 0#8, .u8 0#8, .u8 0#8, .u8 0#8, .u8 0#8, .u8 126#8, .u8 0#8, .u8 0#8, .u8 0#8, .u8 0#8, .u8 0#8]) := fun _ h => h
  refine awp_step dr0 (by decide +kernel) ?_
  simp only [go_sem]
  refine on_ok _ memA regsA rfl 0 (by decide) _ _ _ hbY ?_
  intro q H1 m hm w1 o1 hq
  rw [hitsA] at hq ⊢
  obtain ⟨hq1, hq2⟩ := hq (by simp)
  simp only [go_sem]
  refine awp_step dr0 (by decide +kernel) ?_
  simp only [go_sem]
  have hb1 : bytesIn H1 (.sl n 0 16384 16384) memA := hbY.mono (by simp [AV.ok]) o1
  refine line_ok _ memA regsA rfl 0 (by decide) _ _ _ hb1 ?_
  intro H2 m2 hm2 w2 o2
  obtain ⟨s1, s2, s3, s4⟩ := spritesA
  have hqm : q < m := (w1 _ _ hq2).1
  have hq3 : H2 q = some ⟨intsC ([0].take 8), 3, false⟩ := by rw [o2 q hqm]; exact hq2
  rw [hitsA, s1]
  generalize (spritesS memA regsA 0).c = c at s2 s3 s4 ⊢
  have l1 : (rowB c false false).cells.length = 258 := by unfold rowB; rw [List.length_append, List.length_map, s4]; rfl
  have l2 : (rowB (List.replicate 256 0#8) false false).cells.length = 258 := by unfold rowB; rw [List.length_append, List.length_map, List.length_replicate]; rfl
  have gc : ∀ k, k < 256 → (rowB c false false).cells.getD k .junk = .u8 (c.getD k 0#8) := fun k hk => by
    unfold rowB; rw [getD_app_l (by rw [List.length_map]; omega), getD_map_u8' (by omega)]
  have gm : (rowB c false false).cells.getD 257 .junk = .bo false := by
    unfold rowB; rw [getD_app_r (by rw [List.length_map, s4]; omega), List.length_map, s4]; rfl
  have hrp : List.replicate 256 (AV.u8 0#8) ++ [AV.bo false, AV.bo false] = (rowB (List.replicate 256 0#8) false false).cells := by unfold rowB; rw [List.map_replicate]
  have hV : intsV q ([0].take 8).length = .su q 0 1 1 := rfl
  have g0 : (intsC [0]).getD 0 .junk = .i64 0 := rfl
  have hV2 : intsV q 1 = .su q 0 1 1 := rfl
  have hl0 : (intsC [0]).length = 1 := rfl
  have h81 : decide (8 < [0].length) = false := by decide
  rw [h81]
  simp only [go_sem, hrp, l1, l2, decide_false]
  rw [splice_whole (by rw [l1, l2])]
  have hq4 : ∀ X, (H2.upd m2 X) q = some ⟨intsC [0], 3, false⟩ := fun X => by rw [Heap.upd_ne _ _ (by omega)]; exact hq3
  refine awp_ev dr0 (by decide +kernel) ?_
  simp only [go_sem, hV2, hq4, hl0, g0, gc, gm, s2, s3, l1, decide_false, Nat.reduceLT]
  refine Fin.back wf h (fun k hk => ?_) rfl
  rw [Heap.upd_ne _ _ (by omega), o2 k (by omega), o1 k (by omega), yo k hk]
end Go.Proofs.Joy
namespace Go.Proofs.Joy
open Go.Ab Go.Proofs

set_option maxHeartbeats 1000000
set_option maxRecDepth 20000

/-- What is known behind the first statements of a law about a picture: its parts lie at n, n + 1. -/
structure PicI (H : Heap) (n : Nat) (v w : AV) (regs : List (BitVec 8)) (m : Nat) (X : Heap) : Prop where
  wf : X.wf m
  le : n + 2 ≤ m
  x0 : X n = some ⟨[v, w], 31, false⟩
  x1 : X (n + 1) = some ⟨regs.map .u8, 26, false⟩
  old : ∀ k, k < n → X k = H k
theorem PicI.mono {H : Heap} {n : Nat} {v w : AV} {regs : List (BitVec 8)} {m : Nat} {X : Heap} (h : PicI H n v w regs m X) {m' : Nat} {Y : Heap} (hm : m ≤ m') (wf : Y.wf m') (ho : ∀ k, k < m → Y k = X k) : PicI H n v w regs m' Y :=
  have := h.le
  ⟨wf, by omega, by rw [ho n (by omega)]; exact h.x0, by rw [ho (n + 1) (by omega)]; exact h.x1, fun k hk => by rw [ho k (by omega)]; exact h.old k hk⟩
theorem threes_ok {H : Heap} {n : Nat} {v : AV} {xs : List B3} (wf : H.wf n) (hv : threesIn H v xs) : v.ok n = true := by
  rcases hv with ⟨rfl, rfl⟩ | ⟨b, c, el, ro, rfl, _, h1⟩ | ⟨b, el, ro, rfl, h1⟩
  · rfl
  · have := (wf b _ h1).1; simp [AV.ok, this]
  · have := (wf b _ h1).1; simp [AV.ok, this]
theorem bytes_ok {H : Heap} {n : Nat} {w : AV} {ts : List (BitVec 8)} (wf : H.wf n) (hw : bytesIn H w ts) : w.ok n = true := by
  rcases hw with ⟨rfl, rfl⟩ | ⟨su, b, o, c, blk, rfl, h0, h1, h2, h3⟩
  · rfl
  · exact vw_ok (wf b _ h1).1
theorem PicI.start {H : Heap} {n : Nat} {v w : AV} {xs : List B3} {ts : List (BitVec 8)} (wf : H.wf n) (hv : threesIn H v xs) (hw : bytesIn H w ts) (regs : List (BitVec 8)) :
    PicI H n v w regs (n + 2) ((H.upd n (some ⟨[v, w], 31, false⟩)).upd (n + 1) (some ⟨regs.map .u8, 26, false⟩)) :=
  ⟨Heap.wf_upd (Heap.wf_upd wf fun x hx => by
      simp only [List.mem_cons, List.not_mem_nil, or_false] at hx
      rcases hx with rfl | rfl
      · exact AV.ok_mono (by omega) _ (threes_ok wf hv)
      · exact AV.ok_mono (by omega) _ (bytes_ok wf hw)) map_u8_ok, Nat.le_refl _, by rw [Heap.upd_ne _ _ (by omega), Heap.upd_same], by rw [Heap.upd_same], fun k hk => by rw [Heap.upd_ne _ _ (by omega), Heap.upd_ne _ _ (by omega)]⟩

theorem lenB_intsE (q l : Nat) (K : AV → Prop) : lenB (some .slice) (intsE q l) K = K (.i64 l) := by
  unfold intsE; split
  · rename_i h; subst h; rfl
  · rfl

theorem on_walk (v w : AV) (xs : List B3) (ts regs : List (BitVec 8)) (hr : regs.length = 11) (line : Int) (hln : -9223372036854775808 ≤ line ∧ line ≤ 9223372036854775807) (H : Heap) (n : Nat) (K : AV → Heap → Nat → Prop) (hv : threesIn H v xs) (hw : bytesIn H w ts)
    (h : K (.bo true) H n) : ACalls Try.prog 4 [.ag [v, w], .ag (regs.map .u8), .i64 line] H n K := by
  refine ACalls.of_awp Try.func4 rfl (by decide +kernel) (show 3 ≤ 65 by decide) (by simp) fun wf => ?_
  have hvok := threes_ok wf hv
  have hwok := bytes_ok wf hw
  refine awp_step dr4 (by decide +kernel) ?_
  simp only [go_sem, Try.f4]
  refine awp_gen (PicI H n v w regs (n + 2)) (PicI.start wf hv hw regs) ?_
  intro X hX
  have x0 := hX.x0; have x1 := hX.x1
  refine awp_step dr4 (by decide +kernel) ?_
  simp only [go_sem]
  refine alive_ok _ _ _ ?_
  simp only [go_sem]
  refine awp_step dr4 (by decide +kernel) ?_
  simp only [go_sem, x0]
  have hvX := threes_mono hv hvok hX.old
  have hwX := hw.mono hwok hX.old
  refine great_ok v w xs ts _ _ _ hvX hwX ?_
  simp only [go_sem]
  refine ⟨fun _ => Fin.back wf h hX.old rfl, fun hg => ?_⟩
  have hxs : xs.length ≤ 64 := by
    unfold greatS at hg
    simp only [Bool.or_eq_false_iff, decide_eq_false_iff_not] at hg
    omega
  refine awp_step dr4 (by decide +kernel) ?_
  simp only [go_sem, x0, x1, hr, List.length_map, take_map_all hr]
  refine build_ok v w xs hxs ts regs hr _ _ _ hvX hwX ?_
  intro H1 m1 b1 hm1 w1 o1 hb1 hbm1 g1
  have hbs := buildS_len xs ts regs
  generalize buildS xs ts regs = bs at g1 hbs
  simp only [go_sem]
  have hX1 := hX.mono (show n + 2 ≤ m1 by omega) w1 o1
  have x1' := hX1.x1
  have hb : bytesIn H1 (.sl b1 0 16384 16384) bs := .whole g1 hbs.symm (Nat.le_refl _)
  refine awp_step dr4 (by decide +kernel) ?_
  simp only [go_sem, x1', hr, List.length_map, take_map_all hr]
  refine on_ok _ bs regs hr line hln _ _ _ hb ?_
  intro q2 H2 m2 hm2 w2 o2 hq2
  simp only [go_sem]
  have hX2 := hX1.mono hm2 w2 o2
  have x1'' := hX2.x1
  have hb2 : bytesIn H2 (.sl b1 0 16384 16384) bs := hb.mono (n := m1) (by simp [AV.ok, hbm1]) o2
  refine awp_step dr4 (by decide +kernel) ?_
  simp only [go_sem, x1'', hr, List.length_map, take_map_all hr]
  refine ref_on _ bs regs hr line hln _ _ _ hb2 ?_
  intro q3 H3 m3 hm3 w3 o3 qm3 hq3
  simp only [go_sem]
  have hX3 := hX2.mono hm3 w3 o3
  have x1''' := hX3.x1
  generalize hitsS bs regs line = L at hq2 hq3 ⊢
  have lv : ∀ K, lenB (some .slice) (intsV q2 (L.take 8).length) K = K (.i64 (L.take 8).length) := fun K => lenB_ints q2 _ K
  have le : ∀ K, lenB (some .slice) (intsE q3 L.length) K = K (.i64 L.length) := fun K => lenB_intsE q3 _ K
  refine awp_step dr4 (by decide +kernel) ?_
  simp only [go_sem, lv, le, x1''', hr, List.length_map, take_map_all hr]
  have hm : ((L.take 8).length : Int) = min (L.length : Int) 8 := by rw [List.length_take]; omega
  have hd : decide ((8 : Int) < (L.length : Int)) = decide (8 < L.length) := by rw [decide_eq_decide]; omega
  have hn : (!decide (8 < L.length) == decide (8 < L.length)) = false := by cases decide (8 < L.length) <;> rfl
  rw [hd]
  refine ⟨fun _ => ⟨fun _ => ?_, fun hx => by rw [hn] at hx; cases hx⟩, fun hx => by rw [hm, bne_self_eq_false] at hx; cases hx⟩
  refine height_ok regs hr _ _ _ ?_
  simp only [go_sem, x1''', hr, List.length_map, take_map_all hr]
  refine ref_height regs hr _ _ _ ?_
  simp only [go_sem, x1''', hr, List.length_map, take_map_all hr, lv]
  have hI : ∀ l, (intsC l).length = l.length := fun l => by simp [intsC]
  refine awp_seqF (S := Unit) (fun _ => []) (fun _ => H3) (fun _ => m3) (fun _ => True) (fun _ _ => ⟨w3, Env.okAt_nil _⟩) ?_ ?_
  · refine awp_step dr4 (by decide +kernel) ?_
    simp only [go_sem, lv]
    refine awp_block ?_
    have okv : (intsV q2 (L.take 8).length).ok m3 = true := intsV_ok fun hl => by
      have h1 := hq2 (fun hx => hl (by rw [hx]; rfl))
      have := (w2 _ _ h1.2).1
      omega
    refine awp_loopF (S := Nat) (fun j => [(8, intsV q2 (L.take 8).length), (10, intsE q3 L.length), (51, .i64 (L.take 8).length), (52, .i64 j)]) (fun _ => H3) (fun _ => m3) (fun j => j ≤ (L.take 8).length) (fun j => (L.take 8).length - j)
      (fun j _ => ⟨w3, Env.okAt_of2 (fun p hp => by
        simp only [List.mem_cons, List.not_mem_nil, or_false] at hp
        rcases hp with rfl | rfl | rfl | rfl
        · exact okv
        · exact intsE_ok qm3
        · rfl
        · rfl)⟩) ?_ 0 (Nat.zero_le _) (by repeat (first | exact Env.le_nil _ | refine Env.le_cons rfl ?_)) (fun _ _ => rfl) rfl
    intro j hj
    refine awp_step dr4 (by decide +kernel) ?_
    simp only [go_sem]
    refine awp_step dr4 (by decide +kernel) ?_
    simp only [go_sem]
    refine ⟨fun hlt => ?_, fun hlt => ?_⟩
    · have hlt' : j < (L.take 8).length := by omega
      have hltL : j < L.length := by rw [List.length_take] at hlt'; omega
      have hltL' : (j : Int) < (L.length : Int) := by omega
      have wj : wrap64 ((j : Int) + 1) = ((j + 1 : Nat) : Int) := by
        have : (L.take 8).length ≤ 8 := by rw [List.length_take]; omega
        rw [wrap_id _ (by omega) (by omega)]; omega
      have n8 : L.take 8 ≠ [] := fun hx => by rw [hx] at hlt'; simp at hlt'
      have nL : L ≠ [] := fun hx => n8 (by rw [hx]; rfl)
      obtain ⟨a1, a2⟩ := hq2 n8
      obtain ⟨b1, b2⟩ := hq3 nL
      have a3 : H3 q2 = some ⟨intsC (L.take 8), 3, false⟩ := by rw [o3 q2 (w2 _ _ a2).1]; exact a2
      have ev : intsV q2 (L.take 8).length = .su q2 0 (L.take 8).length 1 := by unfold intsV; rw [if_neg (by omega)]
      have ee : intsE q3 L.length = .su q3 0 L.length 1 := by unfold intsE; rw [if_neg (by omega)]
      have ga : (intsC (L.take 8)).getD j .junk = .i64 (L.getD j 0 : Nat) := by
        unfold intsC
        rw [List.getD_eq_getElem?_getD, List.getElem?_map, List.getElem?_take, if_pos (by rw [List.length_take] at hlt'; omega), List.getElem?_eq_getElem hltL, List.getD_eq_getElem?_getD, List.getElem?_eq_getElem hltL]; rfl
      have gb : (intsC L).getD j .junk = .i64 (L.getD j 0 : Nat) := by
        unfold intsC
        rw [List.getD_eq_getElem?_getD, List.getElem?_map, List.getElem?_eq_getElem hltL, List.getD_eq_getElem?_getD, List.getElem?_eq_getElem hltL]; rfl
      have bn : ((((L.getD j 0 : Nat) : Int) != ((L.getD j 0 : Nat) : Int))) = false := bne_self_eq_false _
      refine awp_ev dr4 (by decide +kernel) ?_
      simp only [go_sem, ev, ee, a3, b2, hlt, hlt', hltL, hltL', hI, ga, gb, bn]
      rw [wj]
      exact Ends.mk (j + 1) ⟨by omega, by omega⟩ (by repeat (first | exact Env.le_nil _ | refine Env.le_cons rfl ?_)) (fun _ _ => rfl) (Nat.le_refl _) (Nat.le_refl _)
    · exact Ends.mk () trivial (Env.le_nil _) (fun _ _ => rfl) (Nat.le_refl _) (Nat.le_refl _)
  rintro - -
  refine awp_ev dr4 (by decide +kernel) ?_
  simp only [go_sem]
  exact Fin.back wf h hX3.old rfl
end Go.Proofs.Joy
namespace Go.Proofs.Joy
open Go.Ab Go.Proofs

set_option maxHeartbeats 1000000
set_option maxRecDepth 20000

theorem set5 {regs : List (BitVec 8)} (hr : regs.length = 11) (x : BitVec 8) : (regs.map AV.u8).set 5 (.u8 x) = (regs.set 5 x).map .u8 := by rw [List.map_set]

structure CutS where
  j : Nat
  q : Nat
  m : Nat
  X : Heap
def cutV (q l : Nat) : AV := if l = 0 then .sn else .su q 0 l 3
theorem cutV_ok {q l n : Nat} (h : l ≠ 0 → q < n) : (cutV q l).ok n = true := by
  unfold cutV; split
  · rfl
  · rename_i hz; simp [AV.ok, h hz]
/-- While the list is cut: those taken over so far. -/
structure CutI (H : Heap) (n : Nat) (v w : AV) (regs : List (BitVec 8)) (xs : List B3) (t : CutS) : Prop where
  j : t.j ≤ xs.length
  go : ∀ i, i < t.j → goesB (xs.getD i d3) = true
  i : PicI H n v w regs t.m t.X
  le : n + 3 ≤ t.m
  c : t.X (n + 2) = some ⟨[cutV t.q t.j, w], 31, false⟩
  q : t.j ≠ 0 → n + 3 ≤ t.q ∧ t.q < t.m ∧ t.X t.q = some ⟨flat3 (xs.take t.j), 36, false⟩
theorem cut_whole {xs : List B3} {j : Nat} (hj : j ≤ xs.length) (h : ∀ i, i < j → goesB (xs.getD i d3) = true) (hs : j < xs.length → goesB (xs.getD j d3) = false) : xs.takeWhile goesB = xs.take j := by
  induction xs generalizing j with
  | nil => simp
  | cons s r ih =>
    rw [List.takeWhile_cons]
    cases j with
    | zero => rw [if_neg (by have := hs (by simp); simpa using this)]; rfl
    | succ j =>
      rw [if_pos (show goesB s = true from h 0 (by omega)), List.take_succ_cons, ih (j := j) (by simpa using hj) (fun i hi => h (i + 1) (by omega)) (fun hl => hs (by simpa using hl))]

theorem flat3_next {xs : List B3} {j : Nat} (h : j < xs.length) : flat3 (xs.take (j + 1)) = flat3 (xs.take j) ++ [.u8 (xs.getD j d3).1, .u8 (xs.getD j d3).2.1, .u8 (xs.getD j d3).2.2] := by
  have e : xs.take (j + 1) = xs.take j ++ [xs.getD j d3] := by
    rw [List.take_add_one, List.getElem?_eq_getElem h, List.getD_eq_getElem?_getD, List.getElem?_eq_getElem h]; rfl
  rw [e]; unfold flat3; rw [List.flatMap_append]; rfl
theorem flat3_oks (xs : List B3) (n : Nat) : ∀ x ∈ flat3 xs, x.ok n = true := by
  intro x hx
  unfold flat3 at hx
  rw [List.mem_flatMap] at hx
  obtain ⟨s, -, hs⟩ := hx
  simp only [List.mem_cons, List.not_mem_nil, or_false] at hs
  rcases hs with rfl | rfl | rfl <;> rfl
theorem three_ok (a b c : BitVec 8) (n : Nat) : ∀ x ∈ [AV.u8 a, AV.u8 b, AV.u8 c], x.ok n = true := by
  intro x hs
  simp only [List.mem_cons, List.not_mem_nil, or_false] at hs
  rcases hs with rfl | rfl | rfl <;> rfl
theorem bytes_part {H : Heap} {w : AV} {ts : List (BitVec 8)} (hw : bytesIn H w ts) : partOk w = true ∧ cellsOf w = [w] ∧ putCells [.sn, .sn] 1 w = [.sn, w] := by
  rcases hw with ⟨rfl, rfl⟩ | ⟨su, b, o, c, blk, rfl, h0, h1, h2, h3⟩
  · exact ⟨rfl, rfl, rfl⟩
  · cases su <;> exact ⟨rfl, rfl, rfl⟩

theorem tall_height (regs : List (BitVec 8)) (hr : regs.length = 11) : heightS (regs.set 1 (regs.getD 1 0#8 ||| 3#8)) = 32 := by
  unfold heightS
  have e : (regs.set 1 (regs.getD 1 0#8 ||| 3#8)).getD 1 0#8 = regs.getD 1 0#8 ||| 3#8 := by rw [getD_set8, if_pos (by omega)]
  rw [e]
  have key : ∀ r : BitVec 8, (if (r ||| 3#8) &&& 2#8 = 0#8 then (8 : Int) else 16) * (if (r ||| 3#8) &&& 1#8 = 0#8 then 1 else 2) = 32 := by decide +kernel
  exact key _
theorem tall_base (regs : List (BitVec 8)) (x : BitVec 8) : baseS (regs.set 1 x) = baseS regs := by
  unfold baseS
  rw [getD_set8, if_neg (by omega)]
theorem ends_walk (v w : AV) (xs : List B3) (ts regs0 : List (BitVec 8)) (hr0 : regs0.length = 11) (line : Int) (hln : -9223372036854775808 ≤ line ∧ line ≤ 9223372036854775807) (H : Heap) (n : Nat) (K : AV → Heap → Nat → Prop) (hv : threesIn H v xs) (hw : bytesIn H w ts)
    (h : K (.bo true) H n) : ACalls Try.prog 7 [.ag [v, w], .ag (regs0.map .u8), .i64 line] H n K := by
  refine ACalls.of_awp Try.func7 rfl (by decide +kernel) (show 3 ≤ 107 by decide) (by simp) fun wf => ?_
  have hvok := threes_ok wf hv
  have hwok := bytes_ok wf hw
  refine awp_step dr7 (by decide +kernel) ?_
  simp only [go_sem, Try.f7]
  refine awp_gen (PicI H n v w regs0 (n + 2)) (PicI.start wf hv hw regs0) ?_
  intro X hX
  have x0 := hX.x0; have x1 := hX.x1
  refine awp_step dr7 (by decide +kernel) ?_
  simp only [go_sem]
  refine alive_ok _ _ _ ?_
  simp only [go_sem]
  refine awp_step dr7 (by decide +kernel) ?_
  simp only [go_sem, x0]
  have hvX := threes_mono hv hvok hX.old
  have hwX := hw.mono hwok hX.old
  refine great_ok v w xs ts _ _ _ hvX hwX ?_
  have hlv := lenB_threes hvX
  simp only [go_sem, hlv, x0]
  refine ⟨fun _ => ⟨fun _ => Fin.back wf h hX.old rfl, fun h30 => ?_⟩, fun _ => Fin.back wf h hX.old rfl⟩
  have hx30 : xs.length ≤ 30 := by omega
  obtain ⟨regs, hrg⟩ : ∃ regs, regs = regs0.set 5 126#8 := ⟨_, rfl⟩
  have hr : regs.length = 11 := by rw [hrg, List.length_set, hr0]
  refine awp_step dr7 (by decide +kernel) ?_
  simp only [go_sem, x1, hr0, List.length_map, set5 hr0, ← hrg]
  obtain ⟨pw1, pw2, pw3⟩ := bytes_part hw
  refine awp_step dr7 (by decide +kernel) ?_
  simp only [go_sem, x0, pw1, pw2, pw3]
  refine awp_gen (fun Y => CutI H n v w regs xs ⟨0, 0, n + 3, Y⟩) ?_ ?_
  · refine ⟨Nat.zero_le _, fun i hi => absurd hi (Nat.not_lt_zero _), ⟨?_, by simp only; omega, ?_, ?_, ?_⟩, Nat.le_refl _, ?_, fun hn => absurd rfl hn⟩
    · exact Heap.wf_upd (Heap.wf_set hX.wf (by omega) map_u8_ok) fun x hx => by
        simp only [List.mem_cons, List.not_mem_nil, or_false] at hx
        rcases hx with rfl | rfl
        · rfl
        · exact AV.ok_mono (by omega) _ hwok
    · simp only; rw [Heap.upd_ne _ _ (by omega), Heap.upd_ne _ _ (by omega)]; exact x0
    · simp only; rw [Heap.upd_ne _ _ (by omega), Heap.upd_same]
    · intro k hk; simp only; rw [Heap.upd_ne _ _ (by omega), Heap.upd_ne _ _ (by omega)]; exact hX.old k hk
    · simp only; rw [Heap.upd_same]; rfl
  intro Y hY
  have hvY := threes_mono hv hvok hY.i.old
  have hlvY := lenB_threes hvY
  have y0 := hY.i.x0
  simp only at y0
  refine awp_seqF (S := CutS) (fun t => [(2, .i64 line), (3, .pt n 0), (4, .pt (n + 1) 0), (7, .pt (n + 2) 0)]) (fun t => t.X) (fun t => t.m) (fun t => CutI H n v w regs xs t ∧ (t.j < xs.length → goesB (xs.getD t.j d3) = false))
    (fun t ht => ⟨ht.1.i.wf, Env.okAt_of2 (by have := ht.1.le; simp [AV.ok]; omega)⟩) ?_ ?_
  · refine awp_step dr7 (by decide +kernel) ?_
    simp only [go_sem, y0, hlvY]
    refine awp_block ?_
    refine awp_loopF (S := CutS) (fun t => [(2, .i64 line), (3, .pt n 0), (4, .pt (n + 1) 0), (7, .pt (n + 2) 0), (34, v), (35, .i64 xs.length), (36, .i64 t.j)]) (fun t => t.X) (fun t => t.m) (CutI H n v w regs xs) (fun t => xs.length - t.j)
      (fun t ht => ⟨ht.i.wf, Env.okAt_of2 (by have := ht.le; simp [AV.ok, AV.ok_mono (show n ≤ t.m by omega) _ hvok]; omega)⟩) ?_ ⟨0, 0, n + 3, Y⟩ hY (by repeat (first | exact Env.le_nil _ | refine Env.le_cons rfl ?_)) (fun _ _ => rfl) rfl
    rintro ⟨j, q, m, Z⟩ hZ
    have hj := hZ.j; have zle := hZ.le; have zc := hZ.c; have zq := hZ.q; have zwf := hZ.i.wf
    have hvZ : threesIn Z v xs := threes_mono hv hvok hZ.i.old
    simp only at hj zle zc zq zwf ⊢
    refine awp_step dr7 (by decide +kernel) ?_
    simp only [go_sem]
    refine awp_step dr7 (by decide +kernel) ?_
    simp only [go_sem]
    refine ⟨fun hlt => ?_, fun hlt => ?_⟩
    · have hj' : j < xs.length := by omega
      have hf3 := flat3_at hj'
      have hfl := flat3_len xs
      have wj : wrap64 ((j : Int) + 1) = ((j + 1 : Nat) : Int) := by rw [wrap_id _ (by omega) (by omega)]; omega
      have hstop : goesB (xs.getD j d3) = false → ∀ e : Env, ∀ X, Env.le [(2, .i64 line), (3, .pt n 0), (4, .pt (n + 1) 0), (7, .pt (n + 2) 0)] e → Go.Ab.Ends (fun t : CutS => [(2, AV.i64 line), (3, AV.pt n 0), (4, AV.pt (n + 1) 0), (7, AV.pt (n + 2) 0)]) (fun t => t.X) (fun t => t.m)
          (fun t => CutI H n v w regs xs t ∧ (t.j < xs.length → goesB (xs.getD t.j d3) = false)) (n + 3) e (Z.upd m X) (m + 1) := fun hg e X he =>
        Go.Ab.Ends.mk ⟨j, q, m, Z⟩ ⟨hZ, fun _ => hg⟩ he (fun k hk => by simp only at hk ⊢; rw [Heap.upd_ne _ _ (by omega)]) zle (by simp only; omega)
      have hnext : goesB (xs.getD j d3) = true → ∀ (e : Env) (V : Heap), Env.le [(2, .i64 line), (3, .pt n 0), (4, .pt (n + 1) 0), (7, .pt (n + 2) 0), (34, v), (35, .i64 xs.length), (36, .i64 ((j + 1 : Nat) : Int))] e → V.wf (m + 3) →
          V (m + 2) = some ⟨flat3 (xs.take (j + 1)), 36, false⟩ → (∀ k, k < n + 2 → V k = Z k) → V (n + 2) = some ⟨[.su (m + 2) 0 (j + 1) 3, w], 31, false⟩ →
          Go.Ab.Ends (fun t : CutS => [(2, AV.i64 line), (3, AV.pt n 0), (4, AV.pt (n + 1) 0), (7, AV.pt (n + 2) 0), (34, v), (35, AV.i64 xs.length), (36, AV.i64 (t.j : Int))]) (fun t => t.X) (fun t => t.m)
          (fun s' => xs.length - s'.j < xs.length - j ∧ CutI H n v w regs xs s') m e V (m + 3) := fun hg e V he hV hq ho hc =>
        Go.Ab.Ends.mk ⟨j + 1, m + 2, m + 3, V⟩ ⟨by simp only; omega, ⟨by simp only; omega, fun i hi => by
            simp only at hi
            rcases Nat.lt_succ_iff_lt_or_eq.1 hi with hi | rfl
            · exact hZ.go i hi
            · exact hg, ⟨hV, by simp only; omega, by simp only; rw [ho _ (by omega)]; exact hZ.i.x0, by simp only; rw [ho _ (by omega)]; exact hZ.i.x1, fun k hk => by simp only; rw [ho _ (by omega)]; exact hZ.i.old k hk⟩,
            by simp only; omega, by simp only; rw [hc]; rfl, fun _ => ⟨by simp only; omega, by simp only; omega, hq⟩⟩⟩ he (fun _ _ => rfl) (by simp only; omega) (Nat.le_refl _)
      have hwZ : w.ok m = true := AV.ok_mono (by omega) _ hwok
      refine awp_ev dr7 (by decide +kernel) ?_
      rcases hvZ with ⟨rfl, rfl⟩ | ⟨b, c, el, ro, rfl, g0, g1⟩ | ⟨b, el, ro, rfl, g1⟩
      · simp at hj'
      all_goals
        have zc' : ∀ X, (Z.upd m X) (n + 2) = some ⟨[cutV q j, w], 31, false⟩ := fun X => by rw [Heap.upd_ne _ _ (by omega)]; exact zc
        have rp : ∀ x y z : AV, splice (repCells 1 [AV.u8 0#8, AV.u8 0#8, AV.u8 0#8]) 0 [x, y, z] = [x, y, z] := fun _ _ _ => rfl
        have rl : (repCells 1 [AV.u8 0#8, AV.u8 0#8, AV.u8 0#8]).length = 3 := rfl
        have zc3 : ∀ X Y V, (((Z.upd m X).upd (m + 1) Y).upd (m + 2) V) (n + 2) = some ⟨[cutV q j, w], 31, false⟩ := fun X Y V => by rw [Heap.upd_ne _ _ (by omega), Heap.upd_ne _ _ (by omega), Heap.upd_ne _ _ (by omega)]; exact zc
        simp only [go_sem, hlt, hj', g1, hf3, hfl, wj, zc', rp, rl]
        by_cases hz : j = 0
        · have ec : cutV q j = .sn := by unfold cutV; rw [if_pos hz]
          rw [ec] at zc3
          simp only [go_sem, ec, zc3]
          refine ⟨by omega, fun hg => hstop (by simpa [goesB] using hg) _ _ (by repeat (first | exact Env.le_nil _ | refine Env.le_cons rfl ?_)), fun hg => ?_⟩
          rw [wj]
          refine hnext (by simpa [goesB] using hg) _ _ (by repeat (first | exact Env.le_nil _ | refine Env.le_cons rfl ?_)) ?_ ?_ ?_ ?_
          · exact Heap.wf_set (Heap.wf_upd (Heap.wf_upd (Heap.wf_upd zwf (three_ok _ _ _ _)) (three_ok _ _ _ _)) (three_ok _ _ _ _)) (by omega) (fun x hx => by
              simp only [List.mem_cons, List.not_mem_nil, or_false] at hx
              rcases hx with rfl | rfl
              · simp [AV.ok]
              · exact AV.ok_mono (by omega) _ hwok)
          · rw [Heap.upd_ne _ _ (by omega), Heap.upd_same, flat3_next hj', hz]; rfl
          · intro k hk
            rw [Heap.upd_ne _ _ (by omega), Heap.upd_ne _ _ (by omega), Heap.upd_ne _ _ (by omega), Heap.upd_ne _ _ (by omega)]
          · rw [Heap.upd_same, hz]
        · obtain ⟨q1, q2, q3⟩ := zq hz
          have ec : cutV q j = .su q 0 j 3 := by unfold cutV; rw [if_neg hz]
          have q3' : ∀ X Y, ((Z.upd m X).upd (m + 1) Y) q = some ⟨flat3 (xs.take j), 36, false⟩ := fun X Y => by rw [Heap.upd_ne _ _ (by omega), Heap.upd_ne _ _ (by omega)]; exact q3
          have zc4 : ∀ X Y V, ((((Z.upd m X).upd (m + 1) Y).upd q none).upd (m + 2) V) (n + 2) = some ⟨[cutV q j, w], 31, false⟩ := fun X Y V => by rw [Heap.upd_ne _ _ (by omega), Heap.upd_ne _ _ (by omega), Heap.upd_ne _ _ (by omega), Heap.upd_ne _ _ (by omega)]; exact zc
          have htl : (xs.take j).length = j := by rw [List.length_take]; omega
          have hft : (flat3 (xs.take j)).take (j * 3) = flat3 (xs.take j) := List.take_of_length_le (by rw [flat3_len, htl]; exact Nat.le_refl _)
          rw [ec] at zc4
          simp only [go_sem, ec, q3', flat3_len, zc4, hft, htl]
          refine ⟨by omega, fun hg => hstop (by simpa [goesB] using hg) _ _ (by repeat (first | exact Env.le_nil _ | refine Env.le_cons rfl ?_)), fun hg => ⟨by omega, ?_⟩⟩
          rw [wj]
          refine hnext (by simpa [goesB] using hg) _ _ (by repeat (first | exact Env.le_nil _ | refine Env.le_cons rfl ?_)) ?_ ?_ ?_ ?_
          · exact Heap.wf_set (Heap.wf_upd (Heap.wf_upd_none (Heap.wf_upd (Heap.wf_upd zwf (three_ok _ _ _ _)) (three_ok _ _ _ _))) (by rw [← flat3_next hj']; exact flat3_oks _ _)) (by omega) (fun x hx => by
              simp only [List.mem_cons, List.not_mem_nil, or_false] at hx
              rcases hx with rfl | rfl
              · simp [AV.ok]
              · exact AV.ok_mono (by omega) _ hwok)
          · rw [Heap.upd_ne _ _ (by omega), Heap.upd_same, flat3_next hj']
          · intro k hk
            rw [Heap.upd_ne _ _ (by omega), Heap.upd_ne _ _ (by omega), Heap.upd_ne _ _ (by omega), Heap.upd_ne _ _ (by omega), Heap.upd_ne _ _ (by omega)]
          · rw [Heap.upd_same]
    · exact Ends.mk ⟨j, q, m, Z⟩ ⟨hZ, fun hl => by simp only at hl; omega⟩ (by repeat (first | exact Env.le_nil _ | refine Env.le_cons rfl ?_)) (fun _ _ => rfl) zle (Nat.le_refl _)
  rintro ⟨j, q, m, Z⟩ ⟨hZ, hstop⟩
  have hj := hZ.j; have zle := hZ.le; have zc := hZ.c; have zq := hZ.q; have hZi := hZ.i
  have zgo := hZ.go
  simp only at hj zle zc zq hZi hstop zgo ⊢
  have hys : xs.takeWhile goesB = xs.take j := cut_whole hj zgo hstop
  have htl : (xs.take j).length = j := by rw [List.length_take]; omega
  have hcv : threesIn Z (cutV q j) (xs.takeWhile goesB) := by
    rw [hys]
    unfold cutV
    split
    · rename_i hz; subst hz; exact .inl ⟨rfl, rfl⟩
    · rename_i hz
      obtain ⟨q1, q2, q3⟩ := zq hz
      exact .inr (.inr ⟨q, _, _, by rw [htl], q3⟩)
  have hvZ : threesIn Z v xs := threes_mono hv hvok hZi.old
  have hwZ := hw.mono hwok hZi.old
  have z0 := hZi.x0; have z1 := hZi.x1
  refine awp_step dr7 (by decide +kernel) ?_
  simp only [go_sem, z0, z1, zc, hr, List.length_map, take_map_all hr]
  refine build_ok v w xs (by omega) ts regs hr _ _ _ hvZ hwZ ?_
  intro H1 m1 b1 hm1 w1 o1 hb1 hbm1 g1
  have hX1 := hZi.mono hm1 w1 o1
  have x1' := hX1.x1; have x0' := hX1.x0
  have c1 : H1 (n + 2) = some ⟨[cutV q j, w], 31, false⟩ := by rw [o1 _ (by omega)]; exact zc
  have hcok : (cutV q j).ok m = true := threes_ok hZi.wf hcv
  simp only [go_sem, x0', x1', c1, hr, List.length_map, take_map_all hr]
  refine build_ok (cutV q j) w (xs.takeWhile goesB) (by rw [hys, htl]; omega) ts regs hr _ _ _ (threes_mono hcv hcok o1) (hwZ.mono (AV.ok_mono (by omega) _ hwok) o1) ?_
  intro H2 m2 b2 hm2 w2 o2 hb2 hbm2 g2
  have hX2 := hX1.mono hm2 w2 o2
  have x0'' := hX2.x0; have x1'' := hX2.x1
  have c2 : H2 (n + 2) = some ⟨[cutV q j, w], 31, false⟩ := by rw [o2 _ (by omega)]; exact c1
  have g1' : H2 b1 = some ⟨(buildS xs ts regs).map .u8, 5, false⟩ := by rw [o2 _ (by omega)]; exact g1
  simp only [go_sem, x0'', x1'', c2, hr, List.length_map, take_map_all hr]
  have hbs := buildS_len xs ts regs
  have hcs := buildS_len (xs.takeWhile goesB) ts regs
  have same := ends_same xs (by omega) ts regs line
  generalize buildS xs ts regs = bs at g1 g1' hbs same
  generalize buildS (xs.takeWhile goesB) ts regs = cs at g2 hcs same
  have hb : bytesIn H2 (.sl b1 0 16384 16384) bs := .whole g1' hbs.symm (Nat.le_refl _)
  have hc : bytesIn H2 (.sl b2 0 16384 16384) cs := .whole g2 hcs.symm (Nat.le_refl _)
  refine awp_step dr7 (by decide +kernel) ?_
  simp only [go_sem, x1'', hr, List.length_map, take_map_all hr]
  refine on_ok _ bs regs hr line hln _ _ _ hb ?_
  intro q3 H3 m3 hm3 w3 o3 hq3
  have hX3 := hX2.mono hm3 w3 o3
  have y1'' := hX3.x1
  simp only [go_sem]
  refine awp_step dr7 (by decide +kernel) ?_
  simp only [go_sem, y1'', hr, List.length_map, take_map_all hr]
  refine on_ok _ cs regs hr line hln _ _ _ (hc.mono (n := m2) (by simp [AV.ok, hbm2]) o3) ?_
  intro q4 H4 m4 hm4 w4 o4 hq4
  have hX4 := hX3.mono hm4 w4 o4
  have u1 := hX4.x1
  have l3 : ∀ K, lenB (some .slice) (intsV q3 ((hitsS bs regs line).take 8).length) K = K (.i64 ((hitsS bs regs line).take 8).length) := fun K => lenB_ints q3 _ K
  have l4 : ∀ K, lenB (some .slice) (intsV q4 ((hitsS cs regs line).take 8).length) K = K (.i64 ((hitsS cs regs line).take 8).length) := fun K => lenB_ints q4 _ K
  have e1 : ((hitsS cs regs line).take 8).length = ((hitsS bs regs line).take 8).length := by rw [List.length_take, List.length_take, same]
  simp only [go_sem]
  refine awp_step dr7 (by decide +kernel) ?_
  simp only [go_sem, l3, l4]
  rw [e1, same]
  have hn : (!decide (8 < (hitsS bs regs line).length) == decide (8 < (hitsS bs regs line).length)) = false := by cases decide (8 < (hitsS bs regs line).length) <;> rfl
  refine ⟨fun _ => ⟨fun hx => (by rw [hn] at hx; cases hx), fun _ => ?_⟩, fun hx => (by rw [bne_self_eq_false] at hx; cases hx)⟩
  obtain ⟨rt, hrt⟩ : ∃ rt, rt = regs.set 1 (regs.getD 1 0#8 ||| 3#8) := ⟨_, rfl⟩
  have hrl : rt.length = 11 := by rw [hrt, List.length_set, hr]
  have tall := ends_tall bs regs rt (by rw [hrt, tall_base]) (by rw [hrt, tall_height _ hr]; exact height_tall _) line
  have gr : (regs.map AV.u8).getD 1 .junk = .u8 (regs.getD 1 0#8) := getD_map_u8' (by omega)
  refine awp_step dr7 (by decide +kernel) ?_
  simp only [go_sem, u1, hr, List.length_map, take_map_all hr]
  rw [splice_whole (by simp [hr])]
  refine awp_gen (fun Y => Y.wf (m4 + 1) ∧ Y m4 = some ⟨regs.map .u8, 26, false⟩ ∧ ∀ k, k < m4 → Y k = H4 k) ⟨Heap.wf_upd hX4.wf map_u8_ok, Heap.upd_same _ _ _, fun k hk => Heap.upd_ne _ _ (by omega)⟩ ?_
  rintro Y5 ⟨w5, a5, o5⟩
  refine awp_step dr7 (by decide +kernel) ?_
  simp only [go_sem, a5, gr, hr, List.length_map, ← List.map_set, ← hrt]
  refine awp_gen (fun Y => Y.wf (m4 + 1) ∧ Y m4 = some ⟨rt.map .u8, 26, false⟩ ∧ ∀ k, k < m4 → Y k = H4 k) ⟨Heap.wf_set w5 (by omega) map_u8_ok, Heap.upd_same _ _ _, fun k hk => by rw [Heap.upd_ne _ _ (by omega)]; exact o5 k hk⟩ ?_
  rintro Y6 ⟨w6, a6, o6⟩
  have hb6 : bytesIn Y6 (.sl b1 0 16384 16384) bs := hb.mono (n := m2) (by simp [AV.ok]; omega) (fun k hk => by rw [o6 k (by omega), o4 k (by omega), o3 k hk])
  refine awp_step dr7 (by decide +kernel) ?_
  simp only [go_sem, a6, hrl, List.length_map, take_map_all hrl]
  refine on_ok _ bs rt hrl line hln _ _ _ hb6 ?_
  intro q7 H7 m7 hm7 w7 o7 hq7
  have l7 : ∀ K, lenB (some .slice) (intsV q7 ((hitsS bs rt line).take 8).length) K = K (.i64 ((hitsS bs rt line).take 8).length) := fun K => lenB_ints q7 _ K
  simp only [go_sem]
  refine awp_ev dr7 (by decide +kernel) ?_
  simp only [go_sem, l3, l7]
  have done : Fin n (.bo true) H7 m7 K := Fin.back wf h (fun k hk => by rw [o7 k (by omega), o6 k (by omega), hX4.old k hk]) rfl
  refine ⟨fun hx => absurd ?_ hx, fun _ => ⟨fun hx => ?_, fun _ => done⟩⟩
  · rw [List.length_take, List.length_take]; omega
  · simp only [Bool.not_eq_false', decide_eq_true_eq] at hx
    rw [show decide (8 < (hitsS bs rt line).length) = true by rw [decide_eq_true_eq]; omega]
    exact done
end Go.Proofs.Joy
namespace Go.Proofs.Joy
open Go.Ab Go.Proofs

set_option maxHeartbeats 1000000
set_option maxRecDepth 20000

structure MovS where
  j : Nat
  qa : Nat
  qb : Nat
  m : Nat
  X : Heap
/-- A picture made anew: a list of j threes that lies at q, or none. -/
structure ListI (n k : Nat) (w : AV) (m q : Nat) (l : List B3) (X : Heap) : Prop where
  c : X k = some ⟨[cutV q l.length, w], 31, false⟩
  q : l.length ≠ 0 → n + 4 ≤ q ∧ q < m ∧ X q = some ⟨flat3 l, 36, false⟩
theorem ListI.mono {n k : Nat} {w : AV} {m q : Nat} {l : List B3} {X : Heap} (h : ListI n k w m q l X) {m' : Nat} {Y : Heap} (hm : m ≤ m') (hk : Y k = X k) (hq : l.length ≠ 0 → Y q = X q) : ListI n k w m' q l Y :=
  ⟨by rw [hk]; exact h.c, fun hl => by obtain ⟨a, b, c⟩ := h.q hl; exact ⟨a, by omega, by rw [hq hl]; exact c⟩⟩
structure MovI (H : Heap) (n : Nat) (v w : AV) (regs : List (BitVec 8)) (la lb : List B3) (t : MovS) : Prop where
  i : PicI H n v w regs t.m t.X
  le : n + 4 ≤ t.m
  a : ListI n (n + 2) w t.m t.qa la t.X
  b : ListI n (n + 3) w t.m t.qb lb t.X
  ne : la.length ≠ 0 → lb.length ≠ 0 → t.qa ≠ t.qb

theorem MovI.mono {H : Heap} {n : Nat} {v w : AV} {regs : List (BitVec 8)} {la lb : List B3} {j qa qb m : Nat} {X : Heap} (h : MovI H n v w regs la lb ⟨j, qa, qb, m, X⟩) {m' : Nat} {Y : Heap} (hm : m ≤ m') (wf : Y.wf m') (ho : ∀ k, k < m → Y k = X k) :
    MovI H n v w regs la lb ⟨j, qa, qb, m', Y⟩ :=
  have le := h.le
  ⟨h.i.mono hm wf ho, by simp only at le ⊢; omega, h.a.mono hm (ho _ (by simp only at le; omega)) (fun hl => ho _ (h.a.q hl).2.1), h.b.mono hm (ho _ (by simp only at le; omega)) (fun hl => ho _ (h.b.q hl).2.1), h.ne⟩
theorem MovI.pushA {H : Heap} {n : Nat} {v w : AV} {regs : List (BitVec 8)} {la lb : List B3} {j qa qb m : Nat} {X : Heap} (h : MovI H n v w regs la lb ⟨j, qa, qb, m, X⟩) {s : B3} {V : Heap} (hwf : V.wf (m + 2))
    (hc : V (n + 2) = some ⟨[.su (m + 1) 0 (la.length + 1) 3, w], 31, false⟩) (hq : V (m + 1) = some ⟨flat3 (la ++ [s]), 36, false⟩) (ho : ∀ k, k < m → k ≠ n + 2 → (la.length ≠ 0 → k ≠ qa) → V k = X k) :
    MovI H n v w regs (la ++ [s]) lb ⟨j, m + 1, qb, m + 2, V⟩ :=
  have le := h.le
  have low : ∀ k, k < n + 2 → V k = X k := fun k hk => ho k (by simp only at le; omega) (by omega) (fun hl => by have := (h.a.q hl).1; simp only at this; omega)
  ⟨⟨hwf, by simp only at le ⊢; omega, by simp only; rw [low _ (by omega)]; exact h.i.x0, by simp only; rw [low _ (by omega)]; exact h.i.x1, fun k hk => by simp only; rw [low _ (by omega)]; exact h.i.old k hk⟩,
    by simp only at le ⊢; omega, ⟨by simp only; rw [hc]; simp [cutV], fun _ => ⟨by simp only at le ⊢; omega, by simp only; omega, hq⟩⟩,
    h.b.mono (by simp only; omega) (ho _ (by simp only at le; omega) (by omega) (fun hl => by have := (h.a.q hl).1; simp only at this; omega)) (fun hl => ho _ (h.b.q hl).2.1 (by have := (h.b.q hl).1; simp only at this ⊢; omega) (fun hla => (h.ne hla hl).symm)),
    fun _ hl => by have := (h.b.q hl).2.1; simp only at this ⊢; omega⟩
theorem MovI.pushB {H : Heap} {n : Nat} {v w : AV} {regs : List (BitVec 8)} {la lb : List B3} {j qa qb m : Nat} {X : Heap} (h : MovI H n v w regs la lb ⟨j, qa, qb, m, X⟩) {s : B3} {V : Heap} (hwf : V.wf (m + 2))
    (hc : V (n + 3) = some ⟨[.su (m + 1) 0 (lb.length + 1) 3, w], 31, false⟩) (hq : V (m + 1) = some ⟨flat3 (lb ++ [s]), 36, false⟩) (ho : ∀ k, k < m → k ≠ n + 3 → (lb.length ≠ 0 → k ≠ qb) → V k = X k) :
    MovI H n v w regs la (lb ++ [s]) ⟨j, qa, m + 1, m + 2, V⟩ :=
  have le := h.le
  have low : ∀ k, k < n + 3 → V k = X k := fun k hk => ho k (by simp only at le; omega) (by omega) (fun hl => by have := (h.b.q hl).1; simp only at this; omega)
  ⟨⟨hwf, by simp only at le ⊢; omega, by simp only; rw [low _ (by omega)]; exact h.i.x0, by simp only; rw [low _ (by omega)]; exact h.i.x1, fun k hk => by simp only; rw [low _ (by omega)]; exact h.i.old k hk⟩,
    by simp only at le ⊢; omega,
    h.a.mono (by simp only; omega) (low _ (by omega)) (fun hl => ho _ (h.a.q hl).2.1 (by have := (h.a.q hl).1; simp only at this ⊢; omega) (fun hlb => h.ne hl hlb)), ⟨by simp only; rw [hc]; simp [cutV], fun _ => ⟨by simp only at le ⊢; omega, by simp only; omega, hq⟩⟩,
    fun hl _ => by have := (h.a.q hl).2.1; simp only at this ⊢; omega⟩

theorem MovI.j {H : Heap} {n : Nat} {v w : AV} {regs : List (BitVec 8)} {la lb : List B3} {j qa qb m : Nat} {X : Heap} (h : MovI H n v w regs la lb ⟨j, qa, qb, m, X⟩) (j' : Nat) : MovI H n v w regs la lb ⟨j', qa, qb, m, X⟩ := ⟨h.i, h.le, h.a, h.b, h.ne⟩
theorem mod_a (x : BitVec 8) : x % 160#8 = BitVec.ofNat 8 (x.toNat % 160 + 0) := by
  apply BitVec.eq_of_toNat_eq; simp; omega
theorem mod_b (x nb : BitVec 8) (h : nb.toNat < 60) : x % 160#8 + nb = BitVec.ofNat 8 (x.toNat % 160 + nb.toNat) := by
  apply BitVec.eq_of_toNat_eq; simp
theorem map_next {α : Type} (f : B3 → α) {xs : List B3} {j : Nat} (h : j < xs.length) : (xs.take (j + 1)).map f = (xs.take j).map f ++ [f (xs.getD j d3)] := by
  have e : xs.take (j + 1) = xs.take j ++ [xs.getD j d3] := by
    rw [List.take_add_one, List.getElem?_eq_getElem h, List.getD_eq_getElem?_getD, List.getElem?_eq_getElem h]; rfl
  rw [e, List.map_append]; rfl
theorem flat3_app (a : List B3) (s : B3) : flat3 (a ++ [s]) = flat3 a ++ [.u8 s.1, .u8 s.2.1, .u8 s.2.2] := by
  unfold flat3; rw [List.flatMap_append]; rfl

theorem rowB_len {c : List (BitVec 8)} (hc : c.length = 256) (o m : Bool) : (rowB c o m).cells.length = 258 := by unfold rowB; rw [List.length_append, List.length_map, hc]; rfl
theorem rowB_dot {c : List (BitVec 8)} (hc : c.length = 256) (o m : Bool) {k : Nat} (hk : k < 256) : (rowB c o m).cells.getD k .junk = .u8 (c.getD k 0#8) := by
  unfold rowB; rw [getD_app_l (by rw [List.length_map]; omega), getD_map_u8' (by omega)]
theorem rowB_over {c : List (BitVec 8)} (hc : c.length = 256) (o m : Bool) : (rowB c o m).cells.getD 256 .junk = .bo o := by
  unfold rowB; rw [getD_app_r (by rw [List.length_map, hc]; omega), List.length_map, hc]; rfl
theorem rowB_two {c : List (BitVec 8)} (hc : c.length = 256) (o m : Bool) : (rowB c o m).cells.getD 257 .junk = .bo m := by
  unfold rowB; rw [getD_app_r (by rw [List.length_map, hc]; omega), List.length_map, hc]; rfl
theorem rowB_new (o m : Bool) {c : List (BitVec 8)} (hc : c.length = 256) : splice (List.replicate 256 (AV.u8 0#8) ++ [AV.bo false, AV.bo false]) 0 (rowB c o m).cells = (rowB c o m).cells :=
  splice_whole (by rw [rowB_len hc]; simp)

theorem moves_walk (v w : AV) (xs : List B3) (ts regs0 : List (BitVec 8)) (hr0 : regs0.length = 11) (by_ : BitVec 8) (H : Heap) (n : Nat) (K : AV → Heap → Nat → Prop) (hv : threesIn H v xs) (hw : bytesIn H w ts)
    (h : K (.bo true) H n) : ACalls Try.prog 5 [.ag [v, w], .ag (regs0.map .u8), .u8 by_] H n K := by
  refine ACalls.of_awp Try.func5 rfl (by decide +kernel) (show 3 ≤ 130 by decide) (by simp) fun wf => ?_
  have hvok := threes_ok wf hv
  have hwok := bytes_ok wf hw
  refine awp_step dr5 (by decide +kernel) ?_
  simp only [go_sem, Try.f5]
  refine awp_gen (PicI H n v w regs0 (n + 2)) (PicI.start wf hv hw regs0) ?_
  intro X hX
  have x0 := hX.x0; have x1 := hX.x1
  refine awp_step dr5 (by decide +kernel) ?_
  simp only [go_sem]
  refine alive_ok _ _ _ ?_
  simp only [go_sem]
  refine awp_step dr5 (by decide +kernel) ?_
  simp only [go_sem, x0]
  have hvX := threes_mono hv hvok hX.old
  have hwX := hw.mono hwok hX.old
  refine great_ok v w xs ts _ _ _ hvX hwX ?_
  have hlv := lenB_threes hvX
  simp only [go_sem, hlv, x0]
  refine ⟨fun _ => ⟨fun _ => Fin.back wf h hX.old rfl, fun h30 => ?_⟩, fun _ => Fin.back wf h hX.old rfl⟩
  have hx30 : xs.length ≤ 30 := by omega
  obtain ⟨regs, hrg⟩ : ∃ regs, regs = ((regs0.set 0 0#8).set 5 126#8).set 6 0#8 := ⟨_, rfl⟩
  have hr : regs.length = 11 := by rw [hrg, List.length_set, List.length_set, List.length_set, hr0]
  refine awp_step dr5 (by decide +kernel) ?_
  simp only [go_sem, x1, hr0, List.length_map, List.length_set, ← List.map_set]
  refine awp_step dr5 (by decide +kernel) ?_
  simp only [go_sem, x1, hr0, List.length_map, List.length_set, ← List.map_set]
  refine awp_step dr5 (by decide +kernel) ?_
  simp only [go_sem, x1, hr0, List.length_map, List.length_set, ← List.map_set, ← hrg]
  refine awp_gen (PicI H n v w regs (n + 2)) ⟨Heap.wf_set hX.wf (by omega) map_u8_ok, Nat.le_refl _, by rw [Heap.upd_ne _ _ (by omega)]; exact x0, Heap.upd_same _ _ _, fun k hk => by rw [Heap.upd_ne _ _ (by omega)]; exact hX.old k hk⟩ ?_
  intro X2 hX2
  have y0 := hX2.x0
  obtain ⟨pw1, pw2, pw3⟩ := bytes_part hw
  refine awp_step dr5 (by decide +kernel) ?_
  simp only [go_sem]
  obtain ⟨nb, hnb⟩ : ∃ nb, nb = by_ % 60#8 := ⟨_, rfl⟩
  have hn60 : nb.toNat < 60 := by rw [hnb, BitVec.toNat_umod]; exact Nat.mod_lt _ (by decide)
  rw [← hnb]
  refine awp_step dr5 (by decide +kernel) ?_
  simp only [go_sem, y0, pw1, pw2, pw3]
  refine awp_step dr5 (by decide +kernel) ?_
  simp only [go_sem, y0, pw1, pw2, pw3]
  refine awp_gen (fun Y => MovI H n v w regs [] [] ⟨0, 0, 0, n + 4, Y⟩) ?_ ?_
  · have ok2 : ∀ k, n ≤ k → ∀ x ∈ [AV.sn, w], x.ok k = true := fun k hk x hx => by
      simp only [List.mem_cons, List.not_mem_nil, or_false] at hx
      rcases hx with rfl | rfl
      · rfl
      · exact AV.ok_mono hk _ hwok
    exact ⟨hX2.mono (by simp only; omega) (Heap.wf_upd (Heap.wf_upd hX2.wf (ok2 _ (by omega))) (ok2 _ (by omega))) (fun k hk => by simp only; rw [Heap.upd_ne _ _ (by omega), Heap.upd_ne _ _ (by omega)]), Nat.le_refl _,
      ⟨by simp only; rw [Heap.upd_ne _ _ (by omega), Heap.upd_same]; rfl, fun hl => absurd rfl hl⟩, ⟨by simp only; rw [Heap.upd_same]; rfl, fun hl => absurd rfl hl⟩, fun hl => absurd rfl hl⟩
  intro Y hY
  have hvY : threesIn Y v xs := threes_mono hv hvok hY.i.old
  have hlvY := lenB_threes hvY
  have y0 := hY.i.x0
  simp only at y0
  refine awp_seqF (S := MovS) (fun t => [(3, .pt n 0), (4, .pt (n + 1) 0), (7, .u8 nb), (8, .pt (n + 2) 0), (9, .pt (n + 3) 0)]) (fun t => t.X) (fun t => t.m) (fun t => MovI H n v w regs (xs.map (modX 0)) (xs.map (modX nb.toNat)) t)
    (fun t ht => ⟨ht.i.wf, Env.okAt_of2 (by have := ht.le; simp [AV.ok]; omega)⟩) ?_ ?_
  · refine awp_step dr5 (by decide +kernel) ?_
    simp only [go_sem, y0, hlvY]
    refine awp_block ?_
    refine awp_loopF (S := MovS) (fun t => [(3, .pt n 0), (4, .pt (n + 1) 0), (7, .u8 nb), (8, .pt (n + 2) 0), (9, .pt (n + 3) 0), (37, v), (38, .i64 xs.length), (39, .i64 t.j)]) (fun t => t.X) (fun t => t.m)
      (fun t => t.j ≤ xs.length ∧ MovI H n v w regs ((xs.take t.j).map (modX 0)) ((xs.take t.j).map (modX nb.toNat)) t) (fun t => xs.length - t.j)
      (fun t ht => ⟨ht.2.i.wf, Env.okAt_of2 (by have := ht.2.le; simp [AV.ok, AV.ok_mono (show n ≤ t.m by omega) _ hvok]; omega)⟩) ?_ ⟨0, 0, 0, n + 4, Y⟩ ⟨Nat.zero_le _, hY⟩ (by repeat (first | exact Env.le_nil _ | refine Env.le_cons rfl ?_)) (fun _ _ => rfl) rfl
    rintro ⟨j, qa, qb, m, Z⟩ ⟨hj, hZ⟩
    have zle := hZ.le; have za := hZ.a; have zb := hZ.b; have zi := hZ.i; have zne := hZ.ne
    simp only at hj zle za zb zi zne ⊢
    have hvZ : threesIn Z v xs := threes_mono hv hvok zi.old
    have hla : ((xs.take j).map (modX 0)).length = j := by rw [List.length_map, List.length_take]; omega
    have hlb : ((xs.take j).map (modX nb.toNat)).length = j := by rw [List.length_map, List.length_take]; omega
    have zaq : j ≠ 0 → n + 4 ≤ qa ∧ qa < m ∧ True := fun hl => by have := za.q (by rw [hla]; exact hl); exact ⟨this.1, this.2.1, trivial⟩
    refine awp_step dr5 (by decide +kernel) ?_
    simp only [go_sem]
    refine awp_step dr5 (by decide +kernel) ?_
    simp only [go_sem]
    refine ⟨fun hlt => ?_, fun hlt => ?_⟩
    · have hj' : j < xs.length := by omega
      have hf3 := flat3_at hj'
      have hfl := flat3_len xs
      have wj : wrap64 ((j : Int) + 1) = ((j + 1 : Nat) : Int) := by rw [wrap_id _ (by omega) (by omega)]; omega
      refine awp_seq (awp_block ?_)
      have rp : ∀ x y z : AV, splice (repCells 1 [AV.u8 0#8, AV.u8 0#8, AV.u8 0#8]) 0 [x, y, z] = [x, y, z] := fun _ _ _ => rfl
      have rl : (repCells 1 [AV.u8 0#8, AV.u8 0#8, AV.u8 0#8]).length = 3 := rfl
      refine awp_step dr5 (by decide +kernel) ?_
      rcases hvZ with ⟨rfl, rfl⟩ | ⟨b, c, el, ro, rfl, g0, g1⟩ | ⟨b, el, ro, rfl, g1⟩
      · simp at hj'
      all_goals
        simp only [go_sem, hlt, hj', g1, hf3, hfl, wj]
        refine ⟨by omega, ?_⟩
        generalize hs : xs.getD j d3 = s
        refine awp_gen (fun V => V.wf (m + 1) ∧ V m = some ⟨[.u8 s.1, .u8 s.2.1, .u8 s.2.2], 36, false⟩ ∧ ∀ k, k < m → V k = Z k) ⟨Heap.wf_upd zi.wf (three_ok _ _ _ _), Heap.upd_same _ _ _, fun k hk => Heap.upd_ne _ _ (by omega)⟩ ?_
        rintro V ⟨vw1, vs, vo⟩
        have hV := hZ.mono (m' := m + 1) (by omega) vw1 vo
        have vc := hV.a.c; have vq := hV.a.q
        simp only [hla] at vc vq
        have vc' : V (n + 2) = some ⟨[rowV 3 qa j, w], 31, false⟩ := vc
        refine awp_step dr5 (by decide +kernel) ?_
        simp only [go_sem, vc', vs, rp, rl]
        refine app_row (cnt := 1) (l := j) (cells := flat3 ((xs.take j).map (modX 0))) (by decide) (Heap.upd_same _ _ _) ?_ (fun hl => ?_) (by rw [flat3_len, hla]) (by omega) ?_
        · rfl
        · obtain ⟨q1, q2, q3⟩ := vq hl
          rw [Heap.upd_ne _ _ (by omega)]; exact q3
        have e1 : [AV.u8 s.1, AV.u8 (s.2.1 % 160#8), AV.u8 s.2.2] = [AV.u8 (modX 0 s).1, AV.u8 (modX 0 s).2.1, AV.u8 (modX 0 s).2.2] := by unfold modX; rw [mod_a]
        rw [e1, ← flat3_app]
        generalize hV2 : rowH _ _ _ _ _ = V2
        have w2 : V2.wf (m + 3) := by rw [← hV2]; exact rowH_wf (Heap.wf_upd vw1 (three_ok _ _ _ _)) (flat3_oks _ _)
        have n2 : V2 (m + 2) = some ⟨flat3 ((xs.take j).map (modX 0) ++ [modX 0 s]), 36, false⟩ := by rw [← hV2]; exact rowH_new _ _ _ _ _
        have o2 : ∀ k, k < m + 1 → (j ≠ 0 → k ≠ qa) → V2 k = V k := fun k hk hq => by rw [← hV2, rowH_old (by omega) hq, Heap.upd_ne _ _ (by omega)]
        have qn : j ≠ 0 → n + 4 ≤ qa ∧ qa < m + 1 := fun hl => ⟨(vq hl).1, (vq hl).2.1⟩
        have c2 : V2 (n + 2) = some ⟨[rowV 3 qa j, w], 31, false⟩ := by rw [o2 _ (by omega) (fun hl => by have := qn hl; omega)]; exact vc'
        simp only [go_sem, c2]
        have hV3 := hV.pushA (s := modX 0 s) (V := V2.upd (n + 2) (some ⟨[.su (m + 2) 0 (j + 1) 3, w], 31, false⟩)) (Heap.wf_set w2 (by omega) (fun x hx => by
            simp only [List.mem_cons, List.not_mem_nil, or_false] at hx
            rcases hx with rfl | rfl
            · simp [AV.ok]
            · exact AV.ok_mono (by omega) _ hwok)) (by rw [Heap.upd_same, hla]) (by rw [Heap.upd_ne _ _ (by omega)]; exact n2) (fun k hk hk2 hq => by rw [Heap.upd_ne _ _ hk2, o2 k hk (fun hl => hq (by rw [hla]; exact hl))])
        have s3 : (V2.upd (n + 2) (some ⟨[.su (m + 2) 0 (j + 1) 3, w], 31, false⟩)) m = some ⟨[.u8 s.1, .u8 s.2.1, .u8 s.2.2], 36, false⟩ := by
          rw [Heap.upd_ne _ _ (by omega), o2 _ (by omega) (fun hl => by obtain ⟨_, q2, _⟩ := zaq hl; omega)]; exact vs
        generalize V2.upd (n + 2) _ = V3 at hV3 s3 ⊢
        have vc3 : V3 (n + 3) = some ⟨[rowV 3 qb j, w], 31, false⟩ := by have := hV3.b.c; simp only [hlb] at this; exact this
        have vq3 : j ≠ 0 → n + 4 ≤ qb ∧ qb < m + 3 ∧ V3 qb = some ⟨flat3 ((xs.take j).map (modX nb.toNat)), 36, false⟩ := fun hl => hV3.b.q (by rw [hlb]; exact hl)
        have w3 : V3.wf (m + 3) := hV3.i.wf
        refine awp_ev dr5 (by decide +kernel) ?_
        simp only [go_sem, vc3, s3, rp, rl]
        refine app_row (cnt := 1) (l := j) (cells := flat3 ((xs.take j).map (modX nb.toNat))) (by decide) (Heap.upd_same _ _ _) ?_ (fun hl => ?_) (by rw [flat3_len, hlb]) (by omega) ?_
        · rfl
        · obtain ⟨q1, q2, q3⟩ := vq3 hl
          rw [Heap.upd_ne _ _ (by omega)]; exact q3
        have e2 : [AV.u8 s.1, AV.u8 (s.2.1 % 160#8 + nb), AV.u8 s.2.2] = [AV.u8 (modX nb.toNat s).1, AV.u8 (modX nb.toNat s).2.1, AV.u8 (modX nb.toNat s).2.2] := by unfold modX; rw [mod_b _ _ hn60]
        rw [e2, ← flat3_app]
        generalize hV4 : rowH _ _ _ _ _ = V4
        have w4 : V4.wf (m + 5) := by rw [← hV4]; exact rowH_wf (Heap.wf_upd w3 (three_ok _ _ _ _)) (flat3_oks _ _)
        have n4 : V4 (m + 4) = some ⟨flat3 ((xs.take j).map (modX nb.toNat) ++ [modX nb.toNat s]), 36, false⟩ := by rw [← hV4]; exact rowH_new _ _ _ _ _
        have o4 : ∀ k, k < m + 3 → (j ≠ 0 → k ≠ qb) → V4 k = V3 k := fun k hk hq => by rw [← hV4, rowH_old (by omega) hq, Heap.upd_ne _ _ (by omega)]
        have c4 : V4 (n + 3) = some ⟨[rowV 3 qb j, w], 31, false⟩ := by rw [o4 _ (by omega) (fun hl => by have := (vq3 hl).1; omega)]; exact vc3
        simp only [go_sem, c4, wj]
        have hV5 := hV3.pushB (s := modX nb.toNat s) (V := V4.upd (n + 3) (some ⟨[.su (m + 4) 0 (j + 1) 3, w], 31, false⟩)) (Heap.wf_set w4 (by omega) (fun x hx => by
            simp only [List.mem_cons, List.not_mem_nil, or_false] at hx
            rcases hx with rfl | rfl
            · simp [AV.ok]
            · exact AV.ok_mono (by omega) _ hwok)) (by rw [Heap.upd_same, hlb]) (by rw [Heap.upd_ne _ _ (by omega)]; exact n4) (fun k hk hk2 hq => by rw [Heap.upd_ne _ _ hk2, o4 k hk (fun hl => hq (by rw [hlb]; exact hl))])
        generalize V4.upd (n + 3) _ = V5 at hV5 ⊢
        refine awp_ev dr5 (by decide +kernel) ?_
        simp only [go_sem, wj]
        rw [← hs, ← map_next _ hj', ← map_next _ hj'] at hV5
        exact Ends.mk ⟨j + 1, m + 2, m + 4, m + 5, V5⟩ ⟨by simp only; omega, by simp only; omega, hV5.j _⟩ (by repeat (first | exact Env.le_nil _ | refine Env.le_cons rfl ?_)) (fun _ _ => rfl) (by simp only; omega) (Nat.le_refl _)
    · have hje : j = xs.length := by omega
      subst hje
      rw [List.take_length] at hZ
      exact Ends.mk ⟨xs.length, qa, qb, m, Z⟩ hZ (by repeat (first | exact Env.le_nil _ | refine Env.le_cons rfl ?_)) (fun _ _ => rfl) (by simp only; omega) (Nat.le_refl _)
  rintro ⟨j, qa, qb, m, Z⟩ hZ
  have zle := hZ.le; have za := hZ.a; have zb := hZ.b; have zi := hZ.i; have zne := hZ.ne
  simp only at zle za zb zi zne ⊢
  have gb5 : regs.getD 5 0#8 = 126#8 := by rw [hrg]; simp [getD_set8, hr0]
  have gb6 : regs.getD 6 0#8 &&& 4#8 = 0#8 := by rw [hrg]; simp [getD_set8, hr0]
  have gb0 : regs.getD 0 0#8 &&& 8#8 = 0#8 := by rw [hrg]; simp [getD_set8, hr0]
  have hsh := moves_shift hn60 xs (by omega) ts gb0 ⟨gb5, gb6⟩ (line := 40) (by decide)
  have ho1 := moves_over 0 xs (by omega) ts regs 40
  have ho2 := moves_over nb.toNat xs (by omega) ts regs 40
  have la1 : (xs.map (modX 0)).length ≤ 64 := by rw [List.length_map]; omega
  have lb1 : (xs.map (modX nb.toNat)).length ≤ 64 := by rw [List.length_map]; omega
  have hwZ := hw.mono hwok zi.old
  have z0 := zi.x0; have z1 := zi.x1; have ac := za.c; have bc := zb.c
  have hta : threesIn Z (cutV qa (xs.map (modX 0)).length) (xs.map (modX 0)) := by
    unfold cutV
    split
    · rename_i hz; exact .inl ⟨rfl, List.eq_nil_of_length_eq_zero hz⟩
    · rename_i hz; exact .inr (.inr ⟨qa, _, _, rfl, (za.q hz).2.2⟩)
  have htb : threesIn Z (cutV qb (xs.map (modX nb.toNat)).length) (xs.map (modX nb.toNat)) := by
    unfold cutV
    split
    · rename_i hz; exact .inl ⟨rfl, List.eq_nil_of_length_eq_zero hz⟩
    · rename_i hz; exact .inr (.inr ⟨qb, _, _, rfl, (zb.q hz).2.2⟩)
  have oka := threes_ok zi.wf hta
  have okb := threes_ok zi.wf htb
  refine awp_step dr5 (by decide +kernel) ?_
  simp only [go_sem, z0, z1, ac, bc, hr, List.length_map, take_map_all hr]
  rw [List.length_map] at hta htb oka okb
  refine build_ok _ w _ la1 ts regs hr _ _ _ hta hwZ ?_
  intro H1 m1 b1 hm1 w1 o1 hb1 hbm1 g1
  have i1 := zi.mono hm1 w1 o1
  have z1' := i1.x1
  have bc1 : H1 (n + 3) = some ⟨[cutV qb xs.length, w], 31, false⟩ := by rw [o1 _ (by omega), bc, List.length_map]
  simp only [go_sem, z1', bc1, hr, List.length_map, take_map_all hr]
  have hbs := buildS_len (xs.map (modX 0)) ts regs
  have hcs := buildS_len (xs.map (modX nb.toNat)) ts regs
  have hb : bytesIn H1 (.sl b1 0 16384 16384) (buildS (xs.map (modX 0)) ts regs) := .whole g1 hbs.symm (Nat.le_refl _)
  refine line_ok _ _ regs hr 40 (by decide) _ _ _ hb ?_
  intro H2 m2 hm2 w2 o2
  have i2 := i1.mono hm2 w2 o2
  have z1'' := i2.x1
  have bc2 : H2 (n + 3) = some ⟨[cutV qb xs.length, w], 31, false⟩ := by rw [o2 _ (by omega), bc1]
  simp only [go_sem, z1'', bc2, hr, List.length_map, take_map_all hr]
  refine build_ok _ w _ lb1 ts regs hr _ _ _ (threes_mono htb okb (fun k hk => by rw [o2 _ (by omega), o1 _ hk])) (hw.mono hwok i2.old) ?_
  intro H3 m3 b3 hm3 w3 o3 hb3 hbm3 g3
  have i3 := i2.mono hm3 w3 o3
  have y1 := i3.x1
  simp only [go_sem, y1, hr, List.length_map, take_map_all hr]
  have hc : bytesIn H3 (.sl b3 0 16384 16384) (buildS (xs.map (modX nb.toNat)) ts regs) := .whole g3 hcs.symm (Nat.le_refl _)
  refine line_ok _ _ regs hr 40 (by decide) _ _ _ hc ?_
  intro H4 m4 hm4 w4 o4
  have i4 := i3.mono hm4 w4 o4
  have u1 := i4.x1
  have u2 : H4 (n + 2) = some ⟨[cutV qa xs.length, w], 31, false⟩ := by rw [o4 _ (by omega), o3 _ (by omega), o2 _ (by omega), o1 _ (by omega), ac, List.length_map]
  have u3 : H4 (n + 3) = some ⟨[cutV qb xs.length, w], 31, false⟩ := by rw [o4 _ (by omega), o3 _ (by omega), bc2]
  have k1 : n + 1 < m4 := by omega
  have k2 : n + 2 < m4 := by omega
  have k3 : n + 3 < m4 := by omega
  have k4 : n + 1 < m4 + 1 := by omega
  have k5 : n + 2 < m4 + 1 := by omega
  have k6 : n + 3 < m4 + 1 := by omega
  simp only [go_sem, u1, u2, u3, hr, List.length_map, take_map_all hr, k1, k2, k3, k4, k5, k6]
  rw [ho1, ho2]
  generalize spritesS (buildS (xs.map (modX 0)) ts regs) regs 40 = ra at hsh ⊢
  generalize spritesS (buildS (xs.map (modX nb.toNat)) ts regs) regs 40 = rb at hsh ⊢
  generalize decide (8 < (seenB regs 40 xs).length) = ov
  have la := rowB_len hsh.l ov ra.m
  have lb := rowB_len hsh.l' ov rb.m
  have dots : ∀ k, k < 256 → (rowB ra.c ov ra.m).cells.getD k .junk = .u8 (ra.c.getD k 0#8) := fun k hk => rowB_dot hsh.l _ _ hk
  have dotb : ∀ k, k < 256 → (rowB rb.c ov rb.m).cells.getD k .junk = .u8 (rb.c.getD k 0#8) := fun k hk => rowB_dot hsh.l' _ _ hk
  rw [rowB_new _ _ hsh.l, rowB_new _ _ hsh.l']
  refine ⟨la, by simp, lb, by simp, ?_⟩
  refine awp_gen (fun V => V.wf (m4 + 2) ∧ V m4 = some (rowB ra.c ov ra.m) ∧ V (m4 + 1) = some (rowB rb.c ov rb.m) ∧ ∀ k, k < n → V k = H k) ?_ ?_
  · have z : ∀ k, ∀ x ∈ (List.replicate 256 (AV.u8 0#8) ++ [AV.bo false, AV.bo false]), x.ok k = true := fun k x hx => by
      simp only [List.mem_append, List.mem_replicate, List.mem_cons, List.not_mem_nil, or_false] at hx
      rcases hx with ⟨-, rfl⟩ | rfl | rfl <;> rfl
    refine ⟨Heap.wf_set (Heap.wf_set (Heap.wf_upd (Heap.wf_upd i4.wf (z _)) (z _)) (by omega) (rowB_ok _ _ _ _)) (by omega) (rowB_ok _ _ _ _), ?_, ?_, fun k hk => ?_⟩
    · rw [Heap.upd_ne _ _ (by omega), Heap.upd_same]; rfl
    · rw [Heap.upd_same]; rfl
    · rw [Heap.upd_ne _ _ (by omega), Heap.upd_ne _ _ (by omega), Heap.upd_ne _ _ (by omega), Heap.upd_ne _ _ (by omega), i4.old k hk]
  rintro V ⟨vw1, va, vb, vo⟩
  have va' : V m4 = some ⟨(rowB ra.c ov ra.m).cells, 39, false⟩ := va
  have vb' : V (m4 + 1) = some ⟨(rowB rb.c ov rb.m).cells, 39, false⟩ := vb
  refine awp_seqF (S := Unit) (fun _ => [(12, .pt m4 0), (13, .pt (m4 + 1) 0)]) (fun _ => V) (fun _ => m4 + 2) (fun _ => True) (fun _ _ => ⟨vw1, Env.okAt_of2 (by simp [AV.ok])⟩) ?_ ?_
  · refine awp_step dr5 (by decide +kernel) ?_
    simp only [go_sem]
    refine awp_block ?_
    refine awp_loopF (S := Nat) (fun j => [(7, .u8 nb), (12, .pt m4 0), (13, .pt (m4 + 1) 0), (14, .i64 j)]) (fun _ => V) (fun _ => m4 + 2) (fun j => j ≤ 256) (fun j => 256 - j)
      (fun j _ => ⟨vw1, Env.okAt_of2 (by simp [AV.ok])⟩) ?_ 0 (Nat.zero_le _) (by repeat (first | exact Env.le_nil _ | refine Env.le_cons rfl ?_)) (fun _ _ => rfl) rfl
    intro j hj
    refine awp_step dr5 (by decide +kernel) ?_
    simp only [go_sem]
    refine ⟨fun hlt => ?_, fun hlt => ?_⟩
    · have hj' : j < 256 := by omega
      have wj : wrap64 ((j : Int) + 1) = ((j + 1 : Nat) : Int) := by rw [wrap_id _ (by omega) (by omega)]; omega
      have wn : wrap64 ((j : Int) + (nb.toNat : Int)) = ((j + nb.toNat : Nat) : Int) := by rw [wrap_id _ (by omega) (by omega)]; omega
      have e3 : (nb.setWidth 64).toNat = nb.toNat := by simp; omega
      have hj258 : j < 258 := by omega
      have hjI : (j : Int) < 256 := by omega
      have go : ∀ e : Env, Env.le [(7, .u8 nb), (12, .pt m4 0), (13, .pt (m4 + 1) 0), (14, .i64 ((j + 1 : Nat) : Int))] e → Go.Ab.Ends (fun j : Nat => [(7, AV.u8 nb), (12, AV.pt m4 0), (13, AV.pt (m4 + 1) 0), (14, AV.i64 (j : Int))]) (fun _ => V) (fun _ => m4 + 2) (fun s' => 256 - s' < 256 - j ∧ s' ≤ 256) (m4 + 2) e V (m4 + 2) := fun e he =>
        Go.Ab.Ends.mk (j + 1) ⟨by omega, by omega⟩ he (fun _ _ => rfl) (Nat.le_refl _) (Nat.le_refl _)
      have hz : (j : Int) < (nb.toNat : Int) → (rb.c.getD j 0#8 != 0#8) = true → False := fun h1 h2 => by
        rw [hsh.z j (by omega)] at h2; simp at h2
      refine awp_ev dr5 (by decide +kernel) ?_
      by_cases hs : j + nb.toNat < 256
      · have hsI : ((j + nb.toNat : Nat) : Int) < 256 := by omega
        have hs2 : j + nb.toNat < 258 := by omega
        have gs := dotb _ hs
        rw [hsh.c j hs] at gs
        have bn : (ra.c.getD j 0#8 != ra.c.getD j 0#8) = false := bne_self_eq_false _
        simp only [go_sem, va', vb', la, lb, dots j hj', dotb j hj', hj', hj258, hjI, wj, wn, hs, hsI, hs2, gs, bn]
        exact ⟨fun h1 => ⟨fun _ => go _ (by repeat (first | exact Env.le_nil _ | refine Env.le_cons rfl ?_)), fun h2 => (hz h1 h2).elim⟩, fun _ => go _ (by repeat (first | exact Env.le_nil _ | refine Env.le_cons rfl ?_))⟩
      · have hsI : ¬ ((j + nb.toNat : Nat) : Int) < 256 := by omega
        simp only [go_sem, va', vb', la, lb, dots j hj', dotb j hj', hj', hj258, hjI, wj, wn, hs, hsI]
        exact ⟨fun h1 => ⟨fun _ => go _ (by repeat (first | exact Env.le_nil _ | refine Env.le_cons rfl ?_)), fun h2 => (hz h1 h2).elim⟩, fun _ => go _ (by repeat (first | exact Env.le_nil _ | refine Env.le_cons rfl ?_))⟩
    · exact Ends.mk () trivial (by repeat (first | exact Env.le_nil _ | refine Env.le_cons rfl ?_)) (fun _ _ => rfl) (Nat.le_refl _) (Nat.le_refl _)
  rintro - -
  refine awp_ev dr5 (by decide +kernel) ?_
  simp only [go_sem, va', vb', la, lb, rowB_over hsh.l, rowB_over hsh.l', rowB_two hsh.l, rowB_two hsh.l', hsh.m, Nat.reduceLT]
  rw [rowB_len hsh.l']
  exact ⟨by decide, by decide, Fin.back wf h vo rfl⟩
end Go.Proofs.Joy
