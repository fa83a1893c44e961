/- Parts of the proof: contracts of the seat's functions. -/
import Derived.Test.YtglkkfobkncbbaaJoyW1
import Derived.Test.YtglkkfobkncbbaaProg
import Derived.KernelRfl
import Derived.Test.YtglkkfobkncbbaaJoyW2
namespace Go.Proofs.Joy
open Go.Ab Go.Proofs
@[go_sem] theorem F.ty5 : tyA Try.prog 5 = some (false, 1) := by kernel_rfl
@[go_sem] theorem F.ty4 : tyA Try.prog 4 = some (false, 1) := by kernel_rfl
@[go_sem] theorem F.ty23 : tyA Try.prog 23 = some (true, 5) := by kernel_rfl
@[go_sem] theorem F.fld23_4 : fldT Try.prog 23 4 = some (4, false, 1) := by kernel_rfl
@[go_sem] theorem F.fld23_3 : fldT Try.prog 23 3 = some (3, false, 1) := by kernel_rfl
@[go_sem] theorem F.fld23_0 : fldT Try.prog 23 0 = some (0, false, 1) := by kernel_rfl
@[go_sem] theorem F.fld23_2 : fldT Try.prog 23 2 = some (2, false, 1) := by kernel_rfl
@[go_sem] theorem F.fld23_1 : fldT Try.prog 23 1 = some (1, false, 1) := by kernel_rfl
@[go_sem] theorem F.ix35 : ixT Try.prog 35 = some (none, false, 1) := by kernel_rfl
@[go_sem] theorem F.ix31 : ixT Try.prog 31 = some (some 3, false, 1) := by kernel_rfl
@[go_sem] theorem F.zero23 : zeroT Try.prog 23 = some ([.u8 0#8, .bo false, .bo false, .bo false, .bo false]) := by kernel_rfl
@[go_sem] theorem F.eq23 : eqT Try.prog 23 = some ([.int .u8, .bool, .bool, .bool, .bool]) := by kernel_rfl
@[go_sem] theorem F.kind23 : kindT Try.prog 23 = none := by kernel_rfl
@[go_sem] theorem F.kind4 : kindT Try.prog 4 = some .bool := by kernel_rfl
@[go_sem] theorem F.kind5 : kindT Try.prog 5 = none := by kernel_rfl
@[go_sem] theorem F.kind3 : kindT Try.prog 3 = none := by kernel_rfl
@[go_sem] theorem F.conv5_3 : convT Try.prog 5 3 = some (.int .i64) := by kernel_rfl
@[go_sem] theorem F.len35 : lenT Try.prog 35 = some .slice := by kernel_rfl
@[go_sem] theorem F.bld23 : bldT Try.prog 23 = true := by kernel_rfl
@[go_sem] theorem F.pl23_1 : plT Try.prog 23 1 = some (1, 1) := by kernel_rfl
@[go_sem] theorem F.pl23_2 : plT Try.prog 23 2 = some (2, 1) := by kernel_rfl
@[go_sem] theorem F.pl23_3 : plT Try.prog 23 3 = some (3, 1) := by kernel_rfl
@[go_sem] theorem F.pl23_0 : plT Try.prog 23 0 = some (0, 1) := by kernel_rfl
/-- joystick/joysticklaw15.EventWaits -/
@[go_sem] def dr3 : Nat → Draw
  | 1 => ⟨[0, 1, 3, 3, 3, 31, 3, 3, 3, 511, 1023, 2047, 4095], [(0, []), (1, []), (2, []), (3, []), (4, []), (6, []), (7, []), (8, []), (5, [6]), (9, []), (10, []), (11, []), (12, [])], []⟩
  | _ => {}
/-- joystick/joysticklaw15.EventRuns -/
@[go_sem] def dr7 : Nat → Draw
  | 27 => ⟨[0, 0, 3, 7, 15, 15, 15, 79, 255, 15, 15, 15, 2063, 8191, 16383, 32767], [(0, []), (1, []), (2, []), (3, []), (4, []), (5, []), (6, []), (7, []), (9, []), (10, []), (11, []), (12, []), (8, [9]), (13, []), (14, []), (15, [])], []⟩
  | _ => {}
/-- joystick/event.Status -/
@[go_sem] def dr12 : Nat → Draw
  | 1 => ⟨[0, 1, 3, 7, 0, 16, 55, 127, 0, 256, 887, 2047, 4095], [(0, []), (1, []), (4, []), (5, []), (8, []), (9, []), (2, [5, 9]), (3, []), (6, [9]), (7, []), (10, []), (11, []), (12, [])], []⟩
  | 2 => ⟨[0, 0, 2, 6, 1, 31], [(0, []), (1, []), (2, []), (3, []), (4, []), (5, [])], []⟩
  | _ => {}
def dr0 : Nat → Draw := fun _ => {}
end Go.Proofs.Joy
namespace Go.Proofs.Joy
open Go.Ab Go.Proofs

set_option maxHeartbeats 1000000
set_option maxRecDepth 20000

theorem bit_ok (x : BitVec 8) (y : Bool) (H : Heap) (n : Nat) (K : AV → Heap → Nat → Prop) (h : K (.u8 (if y then x else 0)) H n) : ACalls Try.prog 18 [.u8 x, .bo y] H n K := by
  refine ACalls.of_ev dr0 Try.func18 rfl (by decide +kernel) (by decide +kernel) (show 2 ≤ 7 by decide) (by simp) fun wf => ?_
  simp only [go_sem, Try.f18]
  refine ⟨fun h1 => ?_, fun h1 => ?_⟩
  · exact Fin.keep (by simpa [h1] using h)
  · exact Fin.keep (by simpa [h1] using h)

structure E where
  c : BitVec 8
  l : Bool
  f : Bool
  o : Bool
  k : Bool
  deriving DecidableEq
def startS (e : E) (line : Int) (rel : BitVec 8) : E :=
  if line < 0 ∨ 262 ≤ line then e else if 192 < line then { e with c := rel } else
  { e with c := if e.c = 0 then rel else e.c - 1, l := e.l || e.c == 0, f := e.f || line == 192 }

theorem start_ok (c : BitVec 8) (l f o k : Bool) (line : Int) (rel : BitVec 8) (H : Heap) (n : Nat) (K : AV → Heap → Nat → Prop)
    (h : K (.ag [.u8 (startS ⟨c, l, f, o, k⟩ line rel).c, .bo (startS ⟨c, l, f, o, k⟩ line rel).l, .bo (startS ⟨c, l, f, o, k⟩ line rel).f, .bo (startS ⟨c, l, f, o, k⟩ line rel).o, .bo (startS ⟨c, l, f, o, k⟩ line rel).k]) H n) :
    ACalls Try.prog 11 [.ag [.u8 c, .bo l, .bo f, .bo o, .bo k], .i64 line, .u8 rel] H n K := by
  refine ACalls.of_ev dr0 Try.func11 rfl (by decide +kernel) (by decide +kernel) (show 3 ≤ 40 by decide) (by simp) fun wf => ?_
  simp only [go_sem, Try.f11]
  repeat' first | apply And.intro | intro _
  all_goals
    refine Fin.back wf ?_ (fun i hi => by simp only [go_sem, hi]) (by simp [AV.ok, AV.oks, AV.one])
    simp_all [startS]

def bitS (x : BitVec 8) (y : Bool) : BitVec 8 := if y then x else 0
theorem status_ok (c : BitVec 8) (l f o k : Bool) (H : Heap) (n : Nat) (K : AV → Heap → Nat → Prop)
    (h : K (.tu [.u8 (31 ||| bitS 128 f ||| bitS 64 o ||| bitS 32 k), .ag [.u8 c, .bo false, .bo false, .bo false, .bo false]]) H n) :
    ACalls Try.prog 12 [.ag [.u8 c, .bo l, .bo f, .bo o, .bo k]] H n K := by
  refine ACalls.of_ev dr12 Try.func12 rfl (by decide +kernel) (by decide +kernel) (show 1 ≤ 21 by decide) (by simp) fun wf => ?_
  simp only [go_sem, Try.f12]
  refine bit_ok _ _ _ _ _ ?_
  simp only [go_sem]
  refine bit_ok _ _ _ _ _ ?_
  simp only [go_sem]
  refine bit_ok _ _ _ _ _ ?_
  simp only [go_sem]
  refine Fin.back wf ?_ (fun i hi => by simp only [go_sem, hi]) (by simp [AV.ok, AV.oks, AV.one])
  simp_all [bitS]
end Go.Proofs.Joy
namespace Go.Proofs.Joy
open Go.Ab Go.Proofs

set_option maxHeartbeats 1000000
set_option maxRecDepth 20000

def asksS (e : E) (zero one : BitVec 8) : Bool := e.f && (one &&& 32 != 0) || e.l && (zero &&& 16 != 0)
theorem asks_ok (c : BitVec 8) (l f o k : Bool) (zero one : BitVec 8) (H : Heap) (n : Nat) (K : AV → Heap → Nat → Prop)
    (h : K (.bo (asksS ⟨c, l, f, o, k⟩ zero one)) H n) : ACalls Try.prog 13 [.ag [.u8 c, .bo l, .bo f, .bo o, .bo k], .u8 zero, .u8 one] H n K := by
  refine ACalls.of_ev dr0 Try.func13 rfl (by decide +kernel) (by decide +kernel) (show 3 ≤ 23 by decide) (by simp) fun wf => ?_
  simp only [go_sem, Try.f13]
  repeat' first | apply And.intro | intro _
  all_goals
    refine Fin.back wf ?_ (fun i hi => by simp only [go_sem, hi]) (by simp [AV.ok, AV.oks, AV.one])
    simp_all [asksS]

theorem drawn_ok (c : BitVec 8) (l f o k a b : Bool) (H : Heap) (n : Nat) (K : AV → Heap → Nat → Prop)
    (h : K (.ag [.u8 c, .bo l, .bo f, .bo (o || a), .bo (k || b)]) H n) : ACalls Try.prog 14 [.ag [.u8 c, .bo l, .bo f, .bo o, .bo k], .bo a, .bo b] H n K := by
  refine ACalls.of_ev dr0 Try.func14 rfl (by decide +kernel) (by decide +kernel) (show 3 ≤ 20 by decide) (by simp) fun wf => ?_
  simp only [go_sem, Try.f14]
  repeat' first | apply And.intro | intro _
  all_goals
    refine Fin.back wf ?_ (fun i hi => by simp only [go_sem, hi]) (by simp [AV.ok, AV.oks, AV.one])
    simp_all

def waitS (e : E) (line : Int) (rel : BitVec 8) : Int :=
  if line < 0 ∨ 262 ≤ line ∨ (e.l = true ∧ e.f = true) then 0 else
  let frame := (192 - line + 262) % 262 + 1
  let first := if line ≤ 192 ∧ (e.c.toNat : Int) ≤ 192 - line then (e.c.toNat : Int) + 1 else if rel.toNat ≤ 192 then 262 - line + rel.toNat + 1 else 0
  if e.f then first else if e.l = true ∨ first = 0 then frame else min first frame

theorem wrap_id (x : Int) (h0 : -9223372036854775808 ≤ x) (h1 : x ≤ 9223372036854775807) : wrap64 x = x := wrap64_small x h0 h1

theorem wait_ok (c : BitVec 8) (l f o k : Bool) (line : Int) (rel : BitVec 8) (H : Heap) (n : Nat) (K : AV → Heap → Nat → Prop)
    (h : K (.i64 (waitS ⟨c, l, f, o, k⟩ line rel)) H n) : ACalls Try.prog 9 [.ag [.u8 c, .bo l, .bo f, .bo o, .bo k], .i64 line, .u8 rel] H n K := by
  refine ACalls.of_awp Try.func9 rfl (by decide +kernel) (show 3 ≤ 68 by decide) (by simp) fun wf => ?_
  have hc := c.isLt
  have hr := rel.isLt
  refine awp_step dr0 (by decide +kernel) ?_
  simp only [go_sem, Try.f9]
  refine awp_cut dr0 (fun e H' n' => (e = [(1, .i64 line), (2, .u8 rel), (3, .pt n 0)] ∧ H' = H.upd n (some ⟨[.u8 c, .bo l, .bo f, .bo o, .bo k], 23, false⟩) ∧ n' = n + 1) ∧ ¬ line < 0 ∧ ¬ 262 ≤ line ∧ ¬ (l = true ∧ f = true)) (by decide +kernel) ?_ ?_
  · simp only [go_sem]
    repeat' first | apply And.intro | intro _
    all_goals first
      | exact Fin.back wf (by simpa [waitS, *] using h) (fun i hi => by simp only [go_sem, hi]) rfl
      | exact ⟨_, _, Env.le_cons rfl (Env.le_cons rfl (Env.le_cons rfl (Env.le_nil _))), Heap.le.refl _, ⟨rfl, rfl⟩, by assumption, by assumption, by simp_all⟩
  rintro e H' n' ⟨⟨rfl, rfl, rfl⟩, h1, h2, h3⟩
  refine awp_step dr0 (by decide +kernel) ?_
  simp only [go_sem]
  rw [wrap_id (192 - line) (by omega) (by omega), wrap_id (192 - line + 262) (by omega) (by omega), Int.tmod_eq_emod_of_nonneg (by omega), wrap_id _ (by omega) (by omega)]
  refine awp_step dr0 (by decide +kernel) ?_
  simp only [go_sem]
  refine awp_cut dr0 (fun e H' n' => (e = [(3, .pt n 0), (7, .i64 ((192 - line + 262) % 262 + 1)), (8, .i64 (if line ≤ 192 ∧ (c.toNat : Int) ≤ 192 - line then (c.toNat : Int) + 1 else if rel.toNat ≤ 192 then 262 - line + rel.toNat + 1 else 0))] ∧ H' = H.upd n (some ⟨[.u8 c, .bo l, .bo f, .bo o, .bo k], 23, false⟩) ∧ n' = n + 1)) (by decide +kernel) ?_ ?_
  · simp only [go_sem]
    have w1 : wrap64 (192 - line) = 192 - line := wrap_id _ (by omega) (by omega)
    have w2 : wrap64 (262 - line) = 262 - line := wrap_id _ (by omega) (by omega)
    have w3 : wrap64 (262 - line + rel.toNat) = 262 - line + rel.toNat := wrap_id _ (by omega) (by omega)
    have w4 : wrap64 (262 - line + rel.toNat + 1) = 262 - line + rel.toNat + 1 := wrap_id _ (by omega) (by omega)
    have w5 : wrap64 ((c.toNat : Int) + 1) = c.toNat + 1 := wrap_id _ (by omega) (by omega)
    simp only [w1, w2, w3, w4, w5]
    repeat' first | apply And.intro | intro _
    all_goals
      refine ⟨_, _, Env.le_cons rfl (Env.le_cons rfl (Env.le_cons ?_ (Env.le_nil _))), Heap.le.refl _, rfl, rfl⟩
      simp_all [Env.get]
      try omega
  rintro e H' n' ⟨rfl, rfl, rfl⟩
  refine ev_sound (T := dr0) _ _ _ _ _ (by decide +kernel) ?_
  simp only [go_sem]
  repeat' first | apply And.intro | intro _
  all_goals
    refine Fin.back wf ?_ (fun i hi => by simp only [go_sem, hi]) rfl
    have h2' : line < 262 := by omega
    simp_all [waitS]
end Go.Proofs.Joy
namespace Go.Proofs.Joy
open Go.Ab Go.Proofs

set_option maxHeartbeats 4000000
set_option maxRecDepth 20000

theorem alive_ok (H : Heap) (n : Nat) (K : AV → Heap → Nat → Prop) (h : K (.bo true) H n) : ACalls Try.prog 8 [] H n K := by
  refine ACalls.of_ev dr0 Try.func8 rfl (by decide +kernel) (by decide +kernel) (show 0 ≤ 32 by decide) (by simp) fun wf => ?_
  simp only [go_sem, Try.f8]
  refine start_ok _ _ _ _ _ _ _ _ _ _ ?_
  simp [go_sem, startS]
  refine status_ok _ _ _ _ _ _ _ _ ?_
  simp [go_sem, bitS]
  refine wait_ok _ _ _ _ _ _ _ _ _ _ ?_
  simp [go_sem, waitS]
  exact Fin.back wf h (fun i hi => by simp only [go_sem, hi]) rfl

theorem names_ok (H : Heap) (n : Nat) (K : AV → Heap → Nat → Prop) (h : K (.bo true) H n) : ACalls Try.prog 6 [] H n K := by
  refine ACalls.of_ev dr0 Try.func6 rfl (by decide +kernel) (by decide +kernel) (show 0 ≤ 65 by decide) (by simp) fun wf => ?_
  simp only [go_sem, Try.f6]
  refine start_ok _ _ _ _ _ _ _ _ _ _ ?_
  simp [go_sem, startS]
  refine start_ok _ _ _ _ _ _ _ _ _ _ ?_
  simp [go_sem, startS]
  refine start_ok _ _ _ _ _ _ _ _ _ _ ?_
  simp [go_sem, startS]
  refine drawn_ok _ _ _ _ _ _ _ _ _ _ ?_
  simp [go_sem]
  refine alive_ok _ _ _ ?_
  simp [go_sem]
  refine asks_ok _ _ _ _ _ _ _ _ _ _ ?_
  simp [go_sem, asksS]
  refine asks_ok _ _ _ _ _ _ _ _ _ _ ?_
  simp [go_sem, asksS]
  refine asks_ok _ _ _ _ _ _ _ _ _ _ ?_
  simp [go_sem, asksS]
  refine wait_ok _ _ _ _ _ _ _ _ _ _ ?_
  simp [go_sem, waitS]
  refine wait_ok _ _ _ _ _ _ _ _ _ _ ?_
  simp [go_sem, waitS]
  refine wait_ok _ _ _ _ _ _ _ _ _ _ ?_
  simp [go_sem, waitS]
  exact Fin.back wf h (fun i hi => by simp only [go_sem, hi]) rfl
end Go.Proofs.Joy
namespace Go.Proofs.Joy
open Go.Ab Go.Proofs

set_option maxHeartbeats 1000000
set_option maxRecDepth 20000

theorem rstart_ok (c : BitVec 8) (l f o k : Bool) (line : Int) (rel : BitVec 8) (H : Heap) (n : Nat) (K : AV → Heap → Nat → Prop)
    (h : K (.ag [.u8 (startS ⟨c, l, f, o, k⟩ line rel).c, .bo (startS ⟨c, l, f, o, k⟩ line rel).l, .bo (startS ⟨c, l, f, o, k⟩ line rel).f, .bo (startS ⟨c, l, f, o, k⟩ line rel).o, .bo (startS ⟨c, l, f, o, k⟩ line rel).k]) H n) :
    ACalls Try.prog 16 [.ag [.u8 c, .bo l, .bo f, .bo o, .bo k], .i64 line, .u8 rel] H n K := by
  refine ACalls.of_ev dr0 Try.func16 rfl (by decide +kernel) (by decide +kernel) (show 3 ≤ 33 by decide) (by simp) fun wf => ?_
  simp only [go_sem, Try.f16]
  repeat' first | apply And.intro | intro _
  all_goals
    refine Fin.back wf ?_ (fun i hi => by simp only [go_sem, hi]) (by simp [AV.ok, AV.oks, AV.one])
    by_cases hq : 262 ≤ line <;> first | (exfalso; omega) | simp_all [startS]

theorem bit_of (x : BitVec 8) : (x / 32 % 2 == 1) = (x &&& 32 != 0) ∧ (x / 16 % 2 == 1) = (x &&& 16 != 0) := by
  have : ∀ n : Fin 256, ((BitVec.ofFin (w := 8) n) / 32 % 2 == 1) = ((BitVec.ofFin (w := 8) n) &&& 32 != 0) ∧ ((BitVec.ofFin (w := 8) n) / 16 % 2 == 1) = ((BitVec.ofFin (w := 8) n) &&& 16 != 0) := by decide +kernel
  exact this x.toFin

theorem rasks_ok (c : BitVec 8) (l f o k : Bool) (zero one : BitVec 8) (H : Heap) (n : Nat) (K : AV → Heap → Nat → Prop)
    (h : K (.bo (asksS ⟨c, l, f, o, k⟩ zero one)) H n) : ACalls Try.prog 17 [.ag [.u8 c, .bo l, .bo f, .bo o, .bo k], .u8 zero, .u8 one] H n K := by
  refine ACalls.of_ev dr0 Try.func17 rfl (by decide +kernel) (by decide +kernel) (show 3 ≤ 23 by decide) (by simp) fun wf => ?_
  simp only [asksS] at h
  rw [← (bit_of one).1, ← (bit_of zero).2] at h
  simp only [go_sem, Try.f17]
  repeat' first | apply And.intro | intro _
  all_goals
    refine Fin.back wf ?_ (fun i hi => by simp only [go_sem, hi]) (by simp [AV.ok, AV.oks, AV.one])
    simp_all

theorem rstatus_ok (c : BitVec 8) (l f o k : Bool) (H : Heap) (n : Nat) (K : AV → Heap → Nat → Prop)
    (h : K (.u8 (31 ||| bitS 128 f ||| bitS 64 o ||| bitS 32 k)) H n) :
    ACalls Try.prog 15 [.ag [.u8 c, .bo l, .bo f, .bo o, .bo k]] H n K := by
  refine ACalls.of_ev dr0 Try.func15 rfl (by decide +kernel) (by decide +kernel) (show 1 ≤ 17 by decide) (by simp) fun wf => ?_
  simp only [go_sem, Try.f15]
  repeat' first | apply And.intro | intro _
  all_goals
    refine Fin.back wf ?_ (fun i hi => by simp only [go_sem, hi]) (by simp [AV.ok, AV.oks, AV.one])
    simp_all [bitS]
end Go.Proofs.Joy
namespace Go.Proofs.Joy
open Go.Ab Go.Proofs

set_option maxHeartbeats 1000000
set_option maxRecDepth 20000

def rwS : Nat → Int → E → Int → BitVec 8 → Int
  | 0, _, _, _, _ => 0
  | k + 1, n, e, line, rel => if (startS e line rel).l != e.l || (startS e line rel).f != e.f then n else rwS k (n + 1) (startS e line rel) ((line + 1) % 262) rel
def refWaitS (e : E) (line : Int) (rel : BitVec 8) : Int := if line < 0 ∨ 262 ≤ line ∨ (e.l = true ∧ e.f = true) then 0 else rwS 786 1 e line rel

theorem rwait_ok (c : BitVec 8) (l f o k : Bool) (line : Int) (rel : BitVec 8) (H : Heap) (n : Nat) (K : AV → Heap → Nat → Prop)
    (h : K (.i64 (refWaitS ⟨c, l, f, o, k⟩ line rel)) H n) : ACalls Try.prog 10 [.ag [.u8 c, .bo l, .bo f, .bo o, .bo k], .i64 line, .u8 rel] H n K := by
  refine ACalls.of_awp Try.func10 rfl (by decide +kernel) (show 3 ≤ 48 by decide) (by simp) fun wf => ?_
  refine awp_step dr0 (by decide +kernel) ?_
  simp only [go_sem, Try.f10]
  refine awp_cut dr0 (fun e H' n' => (e = [(1, .i64 line), (2, .u8 rel), (3, .pt n 0)] ∧ H' = H.upd n (some ⟨[.u8 c, .bo l, .bo f, .bo o, .bo k], 23, false⟩) ∧ n' = n + 1) ∧ ¬ line < 0 ∧ ¬ 262 ≤ line ∧ ¬ (l = true ∧ f = true)) (by decide +kernel) ?_ ?_
  · simp only [go_sem]
    repeat' first | apply And.intro | intro _
    all_goals first
      | exact Fin.back wf (by by_cases hq : 262 ≤ line <;> first | (exfalso; omega) | simpa [refWaitS, *] using h) (fun i hi => by simp only [go_sem, hi]) rfl
      | exact ⟨_, _, Env.le_cons rfl (Env.le_cons rfl (Env.le_cons rfl (Env.le_nil _))), Heap.le.refl _, ⟨rfl, rfl⟩, by assumption, by omega, by simp_all⟩
  rintro e H' n' ⟨⟨rfl, rfl, rfl⟩, h1, h2, h3⟩
  have hres : refWaitS ⟨c, l, f, o, k⟩ line rel = rwS 786 1 ⟨c, l, f, o, k⟩ line rel := by simp only [refWaitS]; rw [if_neg]; rintro (q | q | q) <;> first | omega | exact h3 q
  rw [hres] at h
  have h' : K (.i64 (rwS 786 (787 - ((786 : Nat) : Int)) ⟨c, l, f, o, k⟩ line rel)) H n := by
    have e : (787 - ((786 : Nat) : Int)) = 1 := by decide
    rw [e]; exact h
  refine awp_seq (awp_step dr0 (by decide +kernel) ?_)
  simp only [go_sem]
  refine awp_block ?_
  refine awp_loop2 (T := dr0) (S := Nat) (fun s env H' n' => ∃ (c : BitVec 8) (l f o k : Bool) (line : Int), 0 ≤ line ∧ line < 262 ∧ s ≤ 786 ∧ env = [(1, .i64 line), (2, .u8 rel), (3, .pt n 0), (7, .i64 (787 - s))] ∧ H' = H.upd n (some ⟨[.u8 c, .bo l, .bo f, .bo o, .bo k], 23, false⟩) ∧ n' = n + 1 ∧
    K (.i64 (rwS s (787 - s) ⟨c, l, f, o, k⟩ line rel)) H n) id (by decide +kernel) ?_ 786 ⟨_, _, Env.le_cons rfl (Env.le_cons rfl (Env.le_cons rfl (Env.le_cons rfl (Env.le_nil _)))), Heap.le.refl _, c, l, f, o, k, line, by omega, by omega, Nat.le_refl _, rfl, rfl, rfl, h'⟩
  rintro s env H' n' ⟨c, l, f, o, k, line, hl0, hl1, hs, rfl, rfl, rfl, hk⟩
  simp only [go_sem]
  refine ⟨fun hc => ?_, fun hc => ?_⟩
  · obtain ⟨q, rfl⟩ : ∃ q, s = q + 1 := ⟨s - 1, by omega⟩
    refine rstart_ok _ _ _ _ _ _ _ _ _ _ ?_
    simp only [go_sem]
    simp only [rwS] at hk
    generalize startS ⟨c, l, f, o, k⟩ line rel = x at hk ⊢
    have e1 : wrap64 (line + 1) = line + 1 := wrap_id _ (by omega) (by omega)
    have e2 : wrap64 (787 - ((q + 1 : Nat) : Int) + 1) = 787 - (q : Int) := by rw [wrap_id _ (by omega) (by omega)]; omega
    have e3 : (line + 1).tmod 262 = (line + 1) % 262 := Int.tmod_eq_emod_of_nonneg (by omega)
    have e4 : 787 - ((q + 1 : Nat) : Int) + 1 = 787 - (q : Int) := by omega
    rw [e4] at hk
    simp only [e1, e2, e3]
    refine ⟨fun hb => ⟨fun hb2 => ?_, fun hb2 => ?_⟩, fun hb => ?_⟩
    · refine Fin.back wf ?_ (fun i hi => by simp only [go_sem, hi]) rfl
      simp_all
    · have hk' : K (.i64 (rwS q (787 - (q : Int)) x ((line + 1) % 262) rel)) H n := by simp_all
      refine ⟨q, by simp, [(1, .i64 ((line + 1) % 262)), (2, .u8 rel), (3, .pt n 0), (7, .i64 (787 - (q : Int)))], _, n + 1, Env.le_cons rfl (Env.le_cons rfl (Env.le_cons rfl (Env.le_cons rfl (Env.le_nil _)))), Heap.le_on (H := H.upd n (some ⟨[.u8 x.c, .bo x.l, .bo x.f, .bo x.o, .bo x.k], 23, false⟩)) (n := n + 1) (Heap.wf_upd wf (by simp [AV.ok])) (fun i hi => ?_), by omega, .inr ⟨by omega, Heap.wf_upd wf (by simp [AV.ok]), ?_⟩,
        x.c, x.l, x.f, x.o, x.k, (line + 1) % 262, by omega, by omega, by omega, rfl, rfl, rfl, hk'⟩
      · rcases Nat.lt_succ_iff_lt_or_eq.1 hi with hi | rfl
        · simp only [go_sem, hi]
        · simp only [go_sem]
      · exact Env.okAt_cons rfl (Env.okAt_cons rfl (Env.okAt_cons (by simp [AV.ok]) (Env.okAt_cons rfl (Env.okAt_nil _))))
    · refine Fin.back wf ?_ (fun i hi => by simp only [go_sem, hi]) rfl
      simp_all
  · have : s = 0 := by omega
    subst this
    refine ev_sound (T := dr0) _ _ _ _ _ (by decide +kernel) ?_
    simp only [go_sem]
    exact Fin.back wf hk (fun i hi => by simp only [go_sem, hi]) rfl
end Go.Proofs.Joy
namespace Go.Proofs.Joy
open Go.Ab Go.Proofs

set_option maxHeartbeats 1000000
set_option maxRecDepth 20000

theorem waits_walk (c : BitVec 8) (l f o k : Bool) (line : Int) (rel : BitVec 8) (H : Heap) (n : Nat) (K : AV → Heap → Nat → Prop)
    (h : K (.bo (waitS ⟨c, l, f, o, k⟩ line rel == refWaitS ⟨c, l, f, o, k⟩ line rel)) H n) : ACalls Try.prog 3 [.ag [.u8 c, .bo l, .bo f, .bo o, .bo k], .i64 line, .u8 rel] H n K := by
  refine ACalls.of_ev dr3 Try.func3 rfl (by decide +kernel) (by decide +kernel) (show 3 ≤ 19 by decide) (by simp) fun wf => ?_
  simp only [go_sem, Try.f3]
  refine alive_ok _ _ _ ?_
  simp only [go_sem]
  refine wait_ok _ _ _ _ _ _ _ _ _ _ ?_
  simp only [go_sem]
  refine rwait_ok _ _ _ _ _ _ _ _ _ _ ?_
  simp only [go_sem]
  exact Fin.back wf h (fun i hi => by simp only [go_sem, hi]) rfl
end Go.Proofs.Joy
namespace Go.Proofs.Joy

theorem pred_toNat {c : BitVec 8} (h : c ≠ 0#8) : (c - 1#8).toNat = c.toNat - 1 ∧ 1 ≤ c.toNat := by
  have h0 : c.toNat ≠ 0 := fun e => h (BitVec.eq_of_toNat_eq (by simpa using e))
  have := c.isLt
  constructor
  · rw [BitVec.toNat_sub]; simp; omega
  · omega

def tl (c r line : Int) : Int := if line ≤ 192 ∧ c ≤ 192 - line then c + 1 else if r ≤ 192 then 263 - line + r else 0
def tf (line : Int) : Int := if line ≤ 192 then 193 - line else 455 - line

theorem waitS_eq (c : BitVec 8) (l f o q : Bool) (line : Int) (rel : BitVec 8) (h0 : 0 ≤ line) (h1 : line < 262) (hb : ¬ (l = true ∧ f = true)) :
    waitS ⟨c, l, f, o, q⟩ line rel = if f then tl c.toNat rel.toNat line else if l = true ∨ tl c.toNat rel.toNat line = 0 then tf line else min (tl c.toNat rel.toNat line) (tf line) := by
  have n0 : ¬ line < 0 := by omega
  have n1 : ¬ 262 ≤ line := by omega
  have e : (192 - line + 262) % 262 + 1 = tf line := by unfold tf; split <;> omega
  have e2 : (if line ≤ 192 ∧ (c.toNat : Int) ≤ 192 - line then (c.toNat : Int) + 1 else if rel.toNat ≤ 192 then 262 - line + rel.toNat + 1 else 0) = tl c.toNat rel.toNat line := by
    unfold tl; (repeat' split) <;> omega
  simp only [waitS, e, e2]
  rw [if_neg (by simp only [n0, n1, false_or]; exact hb)]

theorem tl_vis0 (r line : Int) (h : line ≤ 192) (h0 : 0 ≤ line) : tl 0 r line = 1 := by unfold tl; (repeat' split) <;> omega
theorem tl_vis (c r line : Int) (h : line ≤ 192) (h0 : 0 ≤ line) (hc : 1 ≤ c) (hr : 0 ≤ r) : tl c r line ≠ 1 ∧ tl (c - 1) r (line + 1) = if tl c r line = 0 then 0 else tl c r line - 1 := by
  unfold tl; (repeat' split) <;> omega
theorem tl_hid (c r line : Int) (h : 192 < line) (h0 : line < 262) (hr : 0 ≤ r) : tl c r line ≠ 1 ∧ tl r r ((line + 1) % 262) = if tl c r line = 0 then 0 else tl c r line - 1 := by
  unfold tl; (repeat' split) <;> omega
theorem tl_nonneg (c r line : Int) (h0 : 0 ≤ line) (h : line < 262) (hc : 0 ≤ c) (hr : 0 ≤ r) : 0 ≤ tl c r line ∧ tl c r line ≤ 600 := by
  unfold tl; (repeat' split) <;> omega
theorem tf_at : tf 192 = 1 := by decide
theorem tf_else (line : Int) (h0 : 0 ≤ line) (h : line < 262) (hn : line ≠ 192) : tf line ≠ 1 ∧ tf ((line + 1) % 262) = tf line - 1 := by
  unfold tf; (repeat' split) <;> omega
theorem tf_pos (line : Int) (h0 : 0 ≤ line) (h : line < 262) : 1 ≤ tf line ∧ tf line ≤ 262 := by
  unfold tf; split <;> omega
end Go.Proofs.Joy
namespace Go.Proofs.Joy
set_option maxHeartbeats 1000000

theorem stepW (c : BitVec 8) (l f o q : Bool) (line : Int) (rel : BitVec 8) (h0 : 0 ≤ line) (h1 : line < 262) (hb : ¬ (l = true ∧ f = true)) :
    if (startS ⟨c, l, f, o, q⟩ line rel).l != l || (startS ⟨c, l, f, o, q⟩ line rel).f != f then waitS ⟨c, l, f, o, q⟩ line rel = 1
    else ∃ c', startS ⟨c, l, f, o, q⟩ line rel = ⟨c', l, f, o, q⟩ ∧ waitS ⟨c, l, f, o, q⟩ line rel ≠ 1 ∧ waitS ⟨c', l, f, o, q⟩ ((line + 1) % 262) rel = if waitS ⟨c, l, f, o, q⟩ line rel = 0 then 0 else waitS ⟨c, l, f, o, q⟩ line rel - 1 := by
  have n0 : ¬ line < 0 := by omega
  have n1 : ¬ 262 ≤ line := by omega
  have hr : (0 : Int) ≤ rel.toNat := by omega
  have hc : (0 : Int) ≤ c.toNat := by omega
  have g1 := tl_nonneg c.toNat rel.toNat line h0 h1 hc hr
  have g2 := tf_pos line h0 h1
  by_cases a1 : 192 < line
  · have e1 : startS ⟨c, l, f, o, q⟩ line rel = ⟨rel, l, f, o, q⟩ := by simp [startS, n0, n1, a1]
    rw [e1]
    simp only [bne_self_eq_false, Bool.or_self, Bool.false_eq_true, if_false]
    refine ⟨rel, rfl, ?_⟩
    rw [waitS_eq c l f o q line rel h0 h1 hb, waitS_eq rel l f o q _ rel (by omega) (by omega) hb]
    have t1 := tl_hid c.toNat rel.toNat line a1 h1 hr
    have t2 := tf_else line h0 h1 (by omega)
    have g3 := tf_pos ((line + 1) % 262) (by omega) (by omega)
    rw [t1.2, t2.2]
    cases l <;> cases f <;> simp only [Bool.false_eq_true, if_false, if_true, false_or, true_or] at * <;> (repeat' split) <;> first | omega | exact ⟨t1.1, trivial⟩
  · have m1 : (line + 1) % 262 = line + 1 := by omega
    by_cases a3 : c = 0#8
    · subst a3
      have t1 := tl_vis0 rel.toNat line (by omega) h0
      by_cases a2 : line = 192
      · subst a2
        have e1 : startS ⟨0#8, l, f, o, q⟩ 192 rel = ⟨rel, true, true, o, q⟩ := by simp [startS]
        rw [e1, waitS_eq 0#8 l f o q 192 rel h0 h1 hb]
        simp only [BitVec.toNat_ofNat, Nat.reduceMod, Int.cast_ofNat_Int, tf_at] at *
        rw [show ((0 : Nat) : Int) = 0 from rfl] at *
        rw [t1]
        cases l <;> cases f <;> simp_all
      · have e1 : startS ⟨0#8, l, f, o, q⟩ line rel = ⟨rel, true, f, o, q⟩ := by simp [startS, n0, n1, a1, a2]
        rw [e1, waitS_eq 0#8 l f o q line rel h0 h1 hb]
        have t2 := tf_else line h0 h1 a2
        cases l
        · simp only [BitVec.toNat_ofNat, Nat.reduceMod] at *
          rw [show ((0 : Nat) : Int) = 0 from rfl, t1]
          have : min 1 (tf line) = 1 := by omega
          simp [this]
        · cases f
          · simp only [bne_self_eq_false, Bool.or_self, Bool.false_eq_true, if_false]
            refine ⟨rel, rfl, ?_⟩
            rw [waitS_eq rel true false o q _ rel (by omega) (by omega) (by simp)]
            simp only [Bool.false_eq_true, if_false, true_or, if_true]
            rw [t2.2]
            split <;> omega
          · simp at hb
    · obtain ⟨p1, p2⟩ := pred_toNat a3
      have p3 : ((c - 1#8).toNat : Int) = (c.toNat : Int) - 1 := by omega
      have t1 := tl_vis c.toNat rel.toNat line (by omega) h0 (by omega) hr
      by_cases a2 : line = 192
      · subst a2
        have e1 : startS ⟨c, l, f, o, q⟩ 192 rel = ⟨c - 1#8, l, true, o, q⟩ := by simp [startS, a3]
        rw [e1, waitS_eq c l f o q 192 rel h0 h1 hb]
        cases f
        · have : tl c.toNat rel.toNat 192 ≠ 0 → 1 ≤ tl c.toNat rel.toNat 192 := by omega
          simp only [tf_at]
          cases l <;> simp <;> intro hh <;> omega
        · cases l
          · simp only [bne_self_eq_false, Bool.or_self, Bool.false_eq_true, if_false]
            refine ⟨c - 1#8, rfl, ?_⟩
            rw [waitS_eq (c - 1#8) false true o q _ rel (by omega) (by omega) (by simp), p3, m1]
            simp only [if_true]
            exact t1
          · simp at hb
      · have e1 : startS ⟨c, l, f, o, q⟩ line rel = ⟨c - 1#8, l, f, o, q⟩ := by simp [startS, n0, n1, a1, a2, a3]
        rw [e1]
        simp only [bne_self_eq_false, Bool.or_self, Bool.false_eq_true, if_false]
        refine ⟨c - 1#8, rfl, ?_⟩
        have t2 := tf_else line h0 h1 a2
        have g3 := tf_pos ((line + 1) % 262) (by omega) (by omega)
        rw [waitS_eq c l f o q line rel h0 h1 hb, waitS_eq (c - 1#8) l f o q _ rel (by omega) (by omega) hb, p3, t2.2, m1, t1.2]
        rw [m1] at g3
        cases l <;> cases f <;> simp only [Bool.false_eq_true, if_false, if_true, false_or, true_or] at * <;> (repeat' split) <;> first | omega | exact ⟨t1.1, trivial⟩

theorem rw_eq (rel : BitVec 8) : ∀ (k : Nat) (n : Int) (c : BitVec 8) (l f o q : Bool) (line : Int), 0 ≤ line → line < 262 → ¬ (l = true ∧ f = true) →
    rwS k n ⟨c, l, f, o, q⟩ line rel = if 1 ≤ waitS ⟨c, l, f, o, q⟩ line rel ∧ waitS ⟨c, l, f, o, q⟩ line rel ≤ k then n + waitS ⟨c, l, f, o, q⟩ line rel - 1 else 0 := by
  intro k
  induction k with
  | zero => intro n c l f o q line h0 h1 hb; rw [if_neg (by omega)]; rfl
  | succ k ih =>
    intro n c l f o q line h0 h1 hb
    have hs := stepW c l f o q line rel h0 h1 hb
    simp only [rwS]
    split
    · rename_i he
      rw [if_pos he] at hs
      rw [hs, if_pos (by omega)]; omega
    · rename_i he
      rw [if_neg he] at hs
      obtain ⟨c', hx, hne, hw⟩ := hs
      rw [hx, ih (n + 1) c' l f o q _ (by omega) (by omega) hb, hw]
      (repeat' split) <;> omega

theorem waits_law (c : BitVec 8) (l f o q : Bool) (line : Int) (rel : BitVec 8) : waitS ⟨c, l, f, o, q⟩ line rel = refWaitS ⟨c, l, f, o, q⟩ line rel := by
  unfold refWaitS
  split
  · rename_i h; unfold waitS; rw [if_pos h]
  · rename_i h
    have h0 : 0 ≤ line := by omega
    have h1 : line < 262 := by omega
    have hb : ¬ (l = true ∧ f = true) := fun e => h (.inr (.inr e))
    rw [rw_eq rel 786 1 c l f o q line h0 h1 hb]
    have g1 := tl_nonneg c.toNat rel.toNat line h0 h1 (by omega) (by omega)
    have g2 := tf_pos line h0 h1
    rw [waitS_eq c l f o q line rel h0 h1 hb]
    (repeat' split) <;> omega
end Go.Proofs.Joy
namespace Go.Proofs.Joy
open Go.Ab
theorem fits_E {l : List AV} (h : fits [.int .u8, .bool, .bool, .bool, .bool] l = true) : ∃ c a b d e, l = [.u8 c, .bo a, .bo b, .bo d, .bo e] := by
  match l, h with
  | [.u8 c, .bo a, .bo b, .bo d, .bo e], _ => exact ⟨c, a, b, d, e, rfl⟩
end Go.Proofs.Joy
namespace Go.Proofs.Joy
open Go.Ab Go.Proofs

set_option maxHeartbeats 1000000
set_option maxRecDepth 20000

structure PS where
  k : Nat
  line : Int
  c : BitVec 8

theorem wait_range (c : BitVec 8) (l f o q : Bool) (line : Int) (rel : BitVec 8) (h0 : 0 ≤ line) (h1 : line < 262) : 0 ≤ waitS ⟨c, l, f, o, q⟩ line rel ∧ waitS ⟨c, l, f, o, q⟩ line rel ≤ 600 := by
  by_cases hb : l = true ∧ f = true
  · have : waitS ⟨c, l, f, o, q⟩ line rel = 0 := by unfold waitS; rw [if_pos (by simp [hb])]
    omega
  · rw [waitS_eq c l f o q line rel h0 h1 hb]
    have g1 := tl_nonneg c.toNat rel.toNat line h0 h1 (by omega) (by omega)
    have g2 := tf_pos line h0 h1
    (repeat' split) <;> omega

theorem predicts_walk (c0 : BitVec 8) (l f o q : Bool) (line0 : Int) (r0 r1 r2 : BitVec 8) (H : Heap) (n : Nat) (K : AV → Heap → Nat → Prop) (h : K (.bo true) H n) :
    ACalls Try.prog 5 [.ag [.u8 c0, .bo l, .bo f, .bo o, .bo q], .i64 line0, .ag [.u8 r0, .u8 r1, .u8 r2]] H n K := by
  refine ACalls.of_awp Try.func5 rfl (by decide +kernel) (show 3 ≤ 79 by decide) (by simp) fun wf => ?_
  have fin : ∀ (e : Env) (G : Heap) (n' : Nat), (∀ i, i < n → G i = H i) → Fin n (.bo true) G n' K := fun e G n' hd => Fin.back wf h hd rfl
  refine awp_step dr0 (by decide +kernel) ?_
  simp only [go_sem, Try.f5]
  refine awp_step dr0 (by decide +kernel) ?_
  simp only [go_sem]
  refine alive_ok _ _ _ ?_
  simp only [go_sem]
  refine awp_seqF (S := Unit) (fun _ => [(1, .i64 line0), (3, .pt n 0), (5, .pt (n + 1) 0)]) (fun _ => (H.upd n (some ⟨[.u8 c0, .bo l, .bo f, .bo o, .bo q], 23, false⟩)).upd (n + 1) (some ⟨[.u8 r0, .u8 r1, .u8 r2], 31, false⟩)) (fun _ => n + 2)
    (fun _ => 0 ≤ line0 ∧ line0 < 262) (fun _ _ => ⟨Heap.wf_upd (Heap.wf_upd wf (by simp [AV.ok])) (by simp [AV.ok]), Env.okAt_of (by simp [AV.ok])⟩) ?_ ?_
  · refine ev_sound (T := dr0) _ _ _ _ _ (by decide +kernel) ?_
    simp only [go_sem]
    repeat' first | apply And.intro | intro _
    all_goals first
      | exact fin [] _ _ (fun i hi => by simp only [go_sem, hi])
      | exact Ends.mk () ⟨by omega, by omega⟩ (Env.le_cons rfl (Env.le_cons rfl (Env.le_cons rfl (Env.le_nil _)))) (fun _ _ => rfl) (by omega) (by omega)
  rintro - ⟨hl0, hl1⟩
  refine awp_step dr0 (by decide +kernel) ?_
  simp only [go_sem]
  refine wait_ok _ _ _ _ _ _ _ _ _ _ ?_
  simp only [go_sem]
  refine awp_step dr0 (by decide +kernel) ?_
  simp only [go_sem]
  refine asks_ok _ _ _ _ _ _ _ _ _ _ ?_
  simp only [go_sem]
  refine awp_step dr0 (by decide +kernel) ?_
  simp only [go_sem]
  have hw := wait_range c0 l f o q line0 r2 hl0 hl1
  generalize hn0 : waitS ⟨c0, l, f, o, q⟩ line0 r2 = n0 at hw ⊢
  have hasked : ∀ c, asksS ⟨c, l, f, o, q⟩ r0 r1 = asksS ⟨c0, l, f, o, q⟩ r0 r1 := fun c => rfl
  generalize hak : asksS ⟨c0, l, f, o, q⟩ r0 r1 = asked at hasked ⊢
  refine awp_loopF (S := PS) (fun s => [(1, .i64 s.line), (3, .pt n 0), (5, .pt (n + 1) 0), (7, .i64 n0), (8, .bo asked), (9, .i64 s.k)])
    (fun s => (H.upd n (some ⟨[.u8 s.c, .bo l, .bo f, .bo o, .bo q], 23, false⟩)).upd (n + 1) (some ⟨[.u8 r0, .u8 r1, .u8 r2], 31, false⟩)) (fun _ => n + 2)
    (fun s => 1 ≤ s.k ∧ s.k ≤ 801 ∧ 0 ≤ s.line ∧ s.line < 262 ∧ ((n0 = 0 ∧ l = true ∧ f = true) ∨ (¬ (l = true ∧ f = true) ∧ waitS ⟨s.c, l, f, o, q⟩ s.line r2 = (if n0 = 0 then 0 else n0 - s.k + 1) ∧ (n0 = 0 ∨ (s.k : Int) ≤ n0))))
    (fun s => 801 - s.k) (fun s _ => ⟨Heap.wf_upd (Heap.wf_upd wf (by simp [AV.ok])) (by simp [AV.ok]), Env.okAt_of (by simp [AV.ok])⟩) ?_
    ⟨1, line0, c0⟩ ⟨Nat.le_refl _, by simp only; omega, hl0, hl1, ?_⟩ (Env.le_cons rfl (Env.le_cons rfl (Env.le_cons rfl (Env.le_cons rfl (Env.le_cons rfl (Env.le_cons rfl (Env.le_nil _))))))) (fun _ _ => rfl) rfl
  · rintro ⟨k, line, c⟩ ⟨hk1, hk2, hl0, hl1, hcase⟩
    simp only at hk1 hk2 hl0 hl1 hcase ⊢
    refine awp_ev dr0 (by decide +kernel) ?_
    simp only [go_sem]
    refine ⟨fun hk => ?_, fun hk => ?_⟩
    · refine start_ok _ _ _ _ _ _ _ _ _ _ ?_
      have e1 : wrap64 (line + 1) = line + 1 := wrap_id _ (by omega) (by omega)
      have e2 : wrap64 ((k : Int) + 1) = ((k + 1 : Nat) : Int) := by rw [wrap_id _ (by omega) (by omega)]; omega
      have e3 : (line + 1).tmod 262 = (line + 1) % 262 := Int.tmod_eq_emod_of_nonneg (by omega)
      have hcs : ((startS ⟨c, l, f, o, q⟩ line r2).l != l || (startS ⟨c, l, f, o, q⟩ line r2).f != f) = true ∧ (k : Int) = n0 ∨
          ∃ c', startS ⟨c, l, f, o, q⟩ line r2 = ⟨c', l, f, o, q⟩ ∧ (k : Int) ≠ n0 ∧ ((n0 = 0 ∧ l = true ∧ f = true) ∨ (¬ (l = true ∧ f = true) ∧ waitS ⟨c', l, f, o, q⟩ ((line + 1) % 262) r2 = (if n0 = 0 then 0 else n0 - (k + 1 : Nat) + 1) ∧ (n0 = 0 ∨ ((k + 1 : Nat) : Int) ≤ n0))) := by
        rcases hcase with ⟨q1, q2, q3⟩ | ⟨q1, q2, q3⟩
        · refine .inr ⟨(startS ⟨c, l, f, o, q⟩ line r2).c, ?_, by omega, .inl ⟨q1, q2, q3⟩⟩
          subst q2 q3
          simp only [startS]
          split
          · rfl
          · split <;> simp
        · have hs := stepW c l f o q line r2 hl0 hl1 q1
          split at hs
          · rename_i hf
            refine .inl ⟨hf, ?_⟩
            rw [hs] at q2
            split at q2 <;> omega
          · obtain ⟨c', h1, h2, h3⟩ := hs
            refine .inr ⟨c', h1, ?_, .inr ⟨q1, ?_, ?_⟩⟩
            · intro e; rw [q2] at h2; split at h2 <;> omega
            · rw [h3, q2]; (repeat' split) <;> omega
            · rcases q3 with q3 | q3
              · exact .inl q3
              · rw [q2] at h2; split at h2 <;> omega
      rcases hcs with ⟨hf, hkn⟩ | ⟨c', hst, hkn, hnext⟩
      · generalize startS ⟨c, l, f, o, q⟩ line r2 = x at hf ⊢
        have k1 : ((k : Int) == n0) = true := by simp [hkn]
        have k2 : ¬ (k : Int) < n0 := by omega
        cases hxl : (x.l == l) <;> cases hxf : (x.f == f) <;> simp only [bne, hxl, hxf] at hf <;> first | (simp at hf; done) | skip
        all_goals
          simp only [go_sem, hxl, hxf, k1, k2, beq_self_eq_true, false_implies, true_implies, and_true, true_and, not_false_eq_true]
          exact fin [] _ _ (fun i hi => by simp only [go_sem, hi])
      · rw [hst]
        have k1 : ((k : Int) == n0) = false := by simp [hkn]
        simp only [go_sem, e1, e2, e3, k1, beq_self_eq_true, false_implies, true_implies, and_true, true_and]
        refine ⟨fun hlt => ?_, fun hlt => ?_⟩
        · refine asks_ok _ _ _ _ _ _ _ _ _ _ ?_
          rw [hasked c']
          simp only [go_sem, e1, e2, e3, beq_self_eq_true, false_implies, true_implies, and_true, true_and]
          refine Ends.mk ⟨k + 1, (line + 1) % 262, c'⟩ ⟨by simp only; omega, by simp only; omega, by simp only; omega, by simp only; omega, by simp only; omega, hnext⟩ (Env.le_cons rfl (Env.le_cons rfl (Env.le_cons rfl (Env.le_cons rfl (Env.le_cons rfl (Env.le_cons rfl (Env.le_nil _))))))) ?_ (by omega) (by omega)
          intro i hi
          obtain hi | rfl | rfl : i < n ∨ i = n ∨ i = n + 1 := by omega
          all_goals simp only [go_sem, *]
        · refine Ends.mk ⟨k + 1, (line + 1) % 262, c'⟩ ⟨by simp only; omega, by simp only; omega, by simp only; omega, by simp only; omega, by simp only; omega, hnext⟩ (Env.le_cons rfl (Env.le_cons rfl (Env.le_cons rfl (Env.le_cons rfl (Env.le_cons rfl (Env.le_cons rfl (Env.le_nil _))))))) ?_ (by omega) (by omega)
          intro i hi
          obtain hi | rfl | rfl : i < n ∨ i = n ∨ i = n + 1 := by omega
          all_goals simp only [go_sem, *]
    · have hk' : k = 801 := by omega
      subst hk'
      have z : (n0 == 0) = true := by
        rcases hcase with ⟨q1, _⟩ | ⟨_, _, q3⟩
        · simp [q1]
        · have : n0 = 0 := by omega
          simp [this]
      refine awp_ev dr0 (by decide +kernel) ?_
      simp only [go_sem, z]
      exact fin [] _ _ (fun i hi => by simp only [go_sem, hi])
  · by_cases hb : l = true ∧ f = true
    · refine .inl ⟨?_, hb⟩
      rw [← hn0]; unfold waitS; rw [if_pos (by simp [hb])]
    · refine .inr ⟨hb, ?_, ?_⟩
      · simp only; rw [hn0]; split <;> omega
      · simp only; omega
end Go.Proofs.Joy
namespace Go.Proofs.Joy
open Go.Ab Go.Proofs

set_option maxHeartbeats 2000000
set_option maxRecDepth 20000

structure CS where
  line : Nat
  c : BitVec 8
  lines : Int
  pics : Int
structure CF where
  f : Nat

def q193 (r : BitVec 8) : Int := ((193 / (r.toNat + 1) : Nat) : Int)

/-- One line: the counter, and what it told. -/
theorem count_step (r : BitVec 8) (L : Nat) (hL : L < 262) (c : BitVec 8) (hc : c.toNat = if L ≤ 193 then r.toNat - L % (r.toNat + 1) else r.toNat) :
    ∃ c' : BitVec 8, startS ⟨c, false, false, false, false⟩ (L : Int) r = ⟨c', decide (min L 193 / (r.toNat + 1) ≠ min (L + 1) 193 / (r.toNat + 1)), decide (L = 192), false, false⟩ ∧
      c'.toNat = (if L + 1 ≤ 193 then r.toNat - (L + 1) % (r.toNat + 1) else r.toNat) ∧ min (L + 1) 193 / (r.toNat + 1) = min L 193 / (r.toNat + 1) + (if min L 193 / (r.toNat + 1) ≠ min (L + 1) 193 / (r.toNat + 1) then 1 else 0) := by
  have hr := r.isLt
  have n0 : ¬ (L : Int) < 0 := by omega
  have n1 : ¬ (262 : Int) ≤ L := by omega
  by_cases h : 192 < L
  · have m1 : min L 193 = 193 := by omega
    have m2 : min (L + 1) 193 = 193 := by omega
    refine ⟨r, ?_, by rw [if_neg (by omega)], by rw [m1, m2]; simp⟩
    have h2 : (192 : Int) < L := by omega
    have h3 : ¬ L = 192 := by omega
    simp [startS, n0, n1, h2, m1, m2, h3]
  · have m1 : min L 193 = L := by omega
    have m2 : min (L + 1) 193 = L + 1 := by omega
    have h2 : ¬ (192 : Int) < L := by omega
    rw [if_pos (by omega)] at hc
    have hml : L % (r.toNat + 1) < r.toNat + 1 := Nat.mod_lt _ (Nat.succ_pos _)
    have hsd : (L + 1) / (r.toNat + 1) = L / (r.toNat + 1) + if (r.toNat + 1) ∣ L + 1 then 1 else 0 := Nat.succ_div
    have hsm := Nat.succ_mod_succ_eq_zero_iff (a := L) (b := r.toNat)
    rw [m1, m2]
    have e192 : ((L : Int) == 192) = decide (L = 192) := by
      rw [Bool.eq_iff_iff]; simp; omega
    by_cases hz : L % (r.toNat + 1) = r.toNat
    · have hcz : c = 0#8 := BitVec.eq_of_toNat_eq (by simp; omega)
      have hdv : (r.toNat + 1) ∣ L + 1 := Nat.dvd_of_mod_eq_zero (hsm.2 hz)
      rw [if_pos hdv] at hsd
      have hne : L / (r.toNat + 1) ≠ (L + 1) / (r.toNat + 1) := by omega
      refine ⟨r, ?_, ?_, by rw [if_pos hne]; exact hsd⟩
      · subst hcz; simp [startS, n0, n1, h2, hne, e192]
      · rw [if_pos (by omega), hsm.2 hz]; rfl
    · have hcz : c ≠ 0#8 := fun e => by rw [e] at hc; simp at hc; omega
      have hcz' : (c == 0#8) = false := by simp [hcz]
      have hdv : ¬ (r.toNat + 1) ∣ L + 1 := fun e => hz (hsm.1 (Nat.mod_eq_zero_of_dvd e))
      rw [if_neg hdv] at hsd
      have hne : ¬ (L / (r.toNat + 1) ≠ (L + 1) / (r.toNat + 1)) := by omega
      refine ⟨c - 1#8, ?_, ?_, by rw [if_neg hne]; omega⟩
      · simp [startS, n0, n1, h2, hne, e192, hcz]
      · rw [if_pos (by omega), (pred_toNat hcz).1, hc]
        have h5 := Nat.div_add_mod L (r.toNat + 1)
        have h6 := Nat.div_add_mod (L + 1) (r.toNat + 1)
        have h7 : (L + 1) / (r.toNat + 1) = L / (r.toNat + 1) := by omega
        rw [h7] at h6
        omega

theorem status_frame (b : Bool) : ((31#8 ||| bitS 128#8 b ||| bitS 64#8 false ||| bitS 32#8 false : BitVec 8) &&& 128#8 != 0#8) = b := by cases b <;> decide

theorem counts_walk (r : BitVec 8) (frames : Int) (H : Heap) (n : Nat) (K : AV → Heap → Nat → Prop) (h : K (.bo true) H n) :
    ACalls Try.prog 4 [.u8 r, .i64 frames] H n K := by
  refine ACalls.of_awp Try.func4 rfl (by decide +kernel) (show 2 ≤ 63 by decide) (by simp) fun wf => ?_
  have fin : ∀ (G : Heap) (n' : Nat), (∀ i, i < n → G i = H i) → Fin n (.bo true) G n' K := fun G n' hd => Fin.back wf h hd rfl
  have hr := r.isLt
  have hq : 193 / (r.toNat + 1) ≤ 193 := Nat.div_le_self _ _
  refine awp_step dr0 (by decide +kernel) ?_
  simp only [go_sem, Try.f4]
  refine awp_step dr0 (by decide +kernel) ?_
  simp only [go_sem]
  refine alive_ok _ _ _ ?_
  simp only [go_sem]
  refine awp_seqF (S := Unit) (fun _ => [(0, .u8 r), (1, .i64 frames)]) (fun _ => H) (fun _ => n) (fun _ => 1 ≤ frames ∧ frames ≤ 6) (fun _ _ => ⟨wf, Env.okAt_of (by simp [AV.ok])⟩) ?_ ?_
  · refine awp_ev dr0 (by decide +kernel) ?_
    simp only [go_sem]
    repeat' first | apply And.intro | intro _
    all_goals first
      | exact fin _ _ (fun i hi => rfl)
      | exact Ends.mk () ⟨by omega, by omega⟩ (Env.le_cons rfl (Env.le_cons rfl (Env.le_nil _))) (fun _ _ => rfl) (by omega) (by omega)
  rintro - ⟨hf0, hf1⟩
  refine awp_step dr0 (by decide +kernel) ?_
  simp only [go_sem]
  refine awp_step dr0 (by decide +kernel) ?_
  simp only [go_sem]
  refine awp_seq ?_
  refine awp_step dr0 (by decide +kernel) ?_
  simp only [go_sem]
  refine awp_block ?_
  refine awp_loopF (S := CF) (fun s => [(0, .u8 r), (1, .i64 frames), (5, .pt n 0), (6, .i64 (s.f * q193 r)), (7, .i64 s.f), (8, .i64 s.f)]) (fun _ => H.upd n (some ⟨[.u8 r, .bo false, .bo false, .bo false, .bo false], 23, false⟩)) (fun _ => n + 1)
    (fun s => (s.f : Int) ≤ frames) (fun s => 6 - s.f) (fun s _ => ⟨Heap.wf_upd wf (by simp [AV.ok]), Env.okAt_of (by simp [AV.ok])⟩) ?_ ⟨0⟩ (by simp only; omega)
    (Env.le_cons rfl (Env.le_cons rfl (Env.le_cons rfl (Env.le_cons (by simp [q193, Env.get]) (Env.le_cons rfl (Env.le_cons rfl (Env.le_nil _))))))) (fun _ _ => rfl) rfl
  · rintro ⟨f⟩ hf
    simp only at hf ⊢
    have hq' : 0 ≤ (f : Int) * q193 r ∧ (f : Int) * q193 r ≤ 6 * 193 := by
      unfold q193
      have : f * (193 / (r.toNat + 1)) ≤ 6 * 193 := Nat.mul_le_mul (by omega) hq
      omega
    refine awp_step dr0 (by decide +kernel) ?_
    simp only [go_sem]
    refine ⟨fun hlt => ?_, fun hlt => ?_⟩
    · refine awp_seq (awp_block ?_)
      refine awp_step dr0 (by decide +kernel) ?_
      simp only [go_sem]
      refine awp_block ?_
      refine awp_loopF (S := CS) (fun s => [(0, .u8 r), (1, .i64 frames), (5, .pt n 0), (6, .i64 s.lines), (7, .i64 s.pics), (8, .i64 f), (9, .i64 s.line)]) (fun s => H.upd n (some ⟨[.u8 s.c, .bo false, .bo false, .bo false, .bo false], 23, false⟩)) (fun _ => n + 1)
        (fun s => s.line ≤ 262 ∧ s.c.toNat = (if s.line ≤ 193 then r.toNat - s.line % (r.toNat + 1) else r.toNat) ∧ s.lines = f * q193 r + (min s.line 193 / (r.toNat + 1) : Nat) ∧ s.pics = f + (if s.line ≤ 192 then 0 else 1)) (fun s => 262 - s.line) (fun s _ => ⟨Heap.wf_upd wf (by simp [AV.ok]), Env.okAt_of (by simp [AV.ok])⟩) ?_ ⟨0, r, f * q193 r, f⟩ (by simp)
        (Env.le_cons rfl (Env.le_cons rfl (Env.le_cons rfl (Env.le_cons rfl (Env.le_cons rfl (Env.le_cons rfl (Env.le_cons rfl (Env.le_nil _)))))))) (fun _ _ => rfl) rfl
      · rintro ⟨L, c, lines, pics⟩ ⟨hL, hc, hlines, hpics⟩
        simp only at hL hc hlines hpics ⊢
        have hdl : min L 193 / (r.toNat + 1) ≤ 193 := Nat.le_trans (Nat.div_le_self _ _) (by omega)
        refine awp_ev dr0 (by decide +kernel) ?_
        simp only [go_sem]
        refine ⟨fun hlt2 => ?_, fun hlt2 => ?_⟩
        · refine start_ok _ _ _ _ _ _ _ _ _ _ ?_
          obtain ⟨c', e1, e2, e3⟩ := count_step r L (by omega) c hc
          have hinv : ∀ lines' pics' : Int, lines' = lines + (if decide (min L 193 / (r.toNat + 1) ≠ min (L + 1) 193 / (r.toNat + 1)) = true then 1 else 0) → pics' = pics + (if decide (L = 192) = true then 1 else 0) →
              lines' = f * q193 r + ((min (L + 1) 193 / (r.toNat + 1) : Nat) : Int) ∧ pics' = f + (if L + 1 ≤ 192 then 0 else 1) := by
            intro lines' pics' h1 h2
            refine ⟨?_, ?_⟩
            · rw [h1, hlines, e3]; simp only [decide_eq_true_eq]; split <;> simp <;> omega
            · rw [h2, hpics]; simp only [decide_eq_true_eq]; (repeat' split) <;> omega
          generalize min L 193 / (r.toNat + 1) = Q at *
          generalize hQ' : min (L + 1) 193 / (r.toNat + 1) = Q' at *
          generalize (f : Int) * q193 r = fq at *
          have w1 : wrap64 (lines + 1) = lines + 1 := wrap_id _ (by omega) (by omega)
          have w2 : wrap64 (pics + 1) = pics + 1 := wrap_id _ (by split at hpics <;> omega) (by split at hpics <;> omega)
          have w3 : wrap64 ((L : Int) + 1) = ((L + 1 : Nat) : Int) := by rw [wrap_id _ (by omega) (by omega)]; omega
          rw [e1]
          generalize decide (Q ≠ Q') = ev at *
          have sf := status_frame (decide (L = 192))
          generalize decide (L = 192) = pv at *
          simp only [go_sem, w1, w2, w3]
          refine ⟨fun he => ?_, fun he => ?_⟩
          all_goals
            subst he
            refine status_ok _ _ _ _ _ _ _ _ ?_
            simp only [go_sem, w1, w2, w3, sf]
            refine ⟨fun h192 => ?_, fun h192 => ?_⟩
            all_goals
              subst h192
              have hp := hinv _ _ rfl rfl
              simp only [if_true, Bool.false_eq_true, if_false, Int.add_zero] at hp
              refine Ends.mk ⟨L + 1, c', _, _⟩ ⟨by simp only; omega, by simp only; omega, e2, by simp only; rw [hQ']; exact hp.1, hp.2⟩ (Env.le_cons rfl (Env.le_cons rfl (Env.le_cons rfl (Env.le_cons rfl (Env.le_cons rfl (Env.le_cons rfl (Env.le_cons rfl (Env.le_nil _)))))))) ?_ (by omega) (by omega)
              intro i hi
              obtain hi | rfl : i < n ∨ i = n := by omega
              all_goals simp only [go_sem, *]
        · have hL2 : L = 262 := by omega
          subst hL2
          have w4 : wrap64 ((f : Int) + 1) = ((f + 1 : Nat) : Int) := by rw [wrap_id _ (by omega) (by omega)]; omega
          refine awp_ev dr0 (by decide +kernel) ?_
          simp only [go_sem, w4]
          simp only [show min 262 193 = 193 from rfl] at hlines
          simp only [show ¬ (262 ≤ 193) by omega, show ¬ (262 ≤ 192) by omega, if_false] at hc hpics
          have hcr : c = r := BitVec.eq_of_toNat_eq hc
          subst hcr
          have hl2 : lines = ((f + 1 : Nat) : Int) * q193 c := by rw [hlines]; unfold q193; rw [Int.natCast_add, Int.add_mul]; simp
          refine Ends.mk ⟨f + 1⟩ ⟨by simp only; omega, by simp only; omega⟩ (Env.le_cons rfl (Env.le_cons rfl (Env.le_cons rfl (Env.le_cons ?_ (Env.le_cons ?_ (Env.le_cons rfl (Env.le_nil _))))))) ?_ (by omega) (by omega)
          · simp only [go_sem, ← hl2]
          · simp only [go_sem]; rw [hpics]; rfl
          · intro i hi
            obtain hi | rfl : i < n ∨ i = n := by omega
            all_goals simp only [go_sem, *]
    · have hff : (f : Int) = frames := by omega
      have w5 : wrap64 ((r.toNat : Int) + 1) = ((r.toNat + 1 : Nat) : Int) := by rw [wrap_id _ (by omega) (by omega)]; omega
      have w6 : wrap64 (Int.tdiv 193 ((r.toNat + 1 : Nat) : Int)) = q193 r := by
        have : Int.tdiv 193 ((r.toNat + 1 : Nat) : Int) = ((193 / (r.toNat + 1) : Nat) : Int) := rfl
        rw [this]; unfold q193
        generalize 193 / (r.toNat + 1) = q at hq ⊢
        exact wrap_id _ (by omega) (by omega)
      have w7 : wrap64 (frames * q193 r) = frames * q193 r := by rw [← hff]; exact wrap_id _ (by omega) (by omega)
      refine awp_ev dr0 (by decide +kernel) ?_
      simp only [go_sem, w5, w6, w7, hff, beq_self_eq_true, true_implies, false_implies, and_true, true_and]
      exact ⟨by omega, fin _ _ (fun i hi => by simp only [go_sem, hi])⟩
end Go.Proofs.Joy
namespace Go.Proofs.Joy
open Go.Ab Go.Proofs

set_option maxHeartbeats 2000000
set_option maxRecDepth 20000

structure RS where
  i : Nat
  line : Int
  rel : BitVec 8
  e : E

def E.cells (e : E) : List AV := [.u8 e.c, .bo e.l, .bo e.f, .bo e.o, .bo e.k]

theorem getD_map_u8 {bs : List (BitVec 8)} {i : Nat} (h : i < bs.length) : (bs.map AV.u8).getD i .junk = .u8 (bs.getD i 0) := by
  simp [List.getD_eq_getElem?_getD, h]

theorem runs_walk (e0 : E) (line0 : Int) (z : Bool) (b cap el : Nat) (bs : List (BitVec 8)) (H : Heap) (n : Nat) (K : AV → Heap → Nat → Prop) (hb : z = false ∨ 0 < bs.length → H b = some ⟨bs.map .u8, el, true⟩) (hmax : bs.length ≤ maxLen) (h : K (.bo true) H n) :
    ACalls Try.prog 7 [.ag e0.cells, .i64 line0, slz z b bs.length cap] H n K := by
  refine ACalls.of_awp Try.func7 rfl (by decide +kernel) (show 3 ≤ 116 by decide) (by simp [slz_ne]) fun wf => ?_
  unfold maxLen at hmax
  have fin : ∀ (G : Heap) (n' : Nat), (∀ i, i < n → G i = H i) → Fin n (.bo true) G n' K := fun G n' hd => Fin.back wf h hd rfl
  have hsok : ∀ k, n ≤ k → (slz z b bs.length cap).ok k = true := fun k hk => by
    have hbn : z = false ∨ 0 < bs.length → b < n := fun q => (wf b _ (hb q)).1
    exact slz_ok' (fun q => by have := hbn (.inr q); omega) z cap (fun q => by have := hbn (.inl q); omega)
  refine awp_step dr7 (by decide +kernel) ?_
  simp only [go_sem, Try.f7, E.cells]
  refine awp_step dr7 (by decide +kernel) ?_
  simp only [go_sem]
  refine alive_ok _ _ _ ?_
  simp only [go_sem]
  refine awp_seqF (S := Unit) (fun _ => [(1, .i64 line0), (2, slz z b bs.length cap), (3, .pt n 0)]) (fun _ => H.upd n (some ⟨e0.cells, 23, false⟩)) (fun _ => n + 1)
    (fun _ => -5 ≤ line0 ∧ line0 ≤ 300 ∧ bs.length ≤ 600) (fun _ _ => ⟨Heap.wf_upd wf (by simp [AV.ok, E.cells]), Env.okAt_of (by simp [AV.ok, hsok])⟩) ?_ ?_
  · refine awp_ev dr0 (by decide +kernel) ?_
    simp only [go_sem]
    repeat' first | apply And.intro | intro _
    all_goals first
      | exact fin _ _ (fun i hi => by simp only [go_sem, hi])
      | exact Ends.mk () ⟨by omega, by omega, by omega⟩ (Env.le_cons rfl (Env.le_cons rfl (Env.le_cons rfl (Env.le_nil _)))) (fun _ _ => rfl) (by omega) (by omega)
  rintro - ⟨hl0, hl1, hlen⟩
  refine awp_step dr7 (by decide +kernel) ?_
  simp only [go_sem, E.cells]
  refine awp_step dr7 (by decide +kernel) ?_
  simp only [go_sem]
  refine awp_seq ?_
  refine awp_step dr7 (by decide +kernel) ?_
  simp only [go_sem]
  refine awp_block ?_
  refine awp_loopF (S := RS) (fun s => [(1, .i64 s.line), (3, .pt n 0), (7, .pt (n + 1) 0), (8, .u8 s.rel), (27, slz z b bs.length cap), (28, .i64 bs.length), (29, .i64 s.i)])
    (fun s => (H.upd n (some ⟨s.e.cells, 23, false⟩)).upd (n + 1) (some ⟨s.e.cells, 23, false⟩)) (fun _ => n + 2)
    (fun s => s.i ≤ bs.length ∧ -5 ≤ s.line ∧ s.line ≤ 1000 + s.i) (fun s => bs.length - s.i) (fun s _ => ⟨Heap.wf_upd (Heap.wf_upd wf (by simp [AV.ok, E.cells])) (by simp [AV.ok, E.cells]), Env.okAt_of (by simp [AV.ok, hsok])⟩) ?_
    ⟨0, line0, 0#8, e0⟩ ⟨by simp only; omega, by simp only; omega, by simp only; omega⟩ (Env.le_cons rfl (Env.le_cons rfl (Env.le_cons rfl (Env.le_cons rfl (Env.le_cons rfl (Env.le_cons rfl (Env.le_cons rfl (Env.le_nil _)))))))) (fun _ _ => rfl) rfl
  · rintro ⟨i, line, rel, c, l, f, o, q⟩ ⟨hi, hn1, hn2⟩
    simp only [E.cells] at hi hn1 hn2 ⊢
    refine awp_step dr0 (by decide +kernel) ?_
    simp only [go_sem]
    refine awp_step dr0 (by decide +kernel) ?_
    simp only [go_sem]
    refine ⟨fun hlt => ?_, fun hlt => ?_⟩
    · have hlt' : i < bs.length := by omega
      have hz : slz z b bs.length cap = .sl b 0 bs.length cap := slz_pos (by omega)
      have hHb := hb (.inr (by omega))
      have hbn := (wf b _ hHb).1
      have hg := getD_map_u8 hlt'
      have hsok' : ∀ k, n ≤ k → (AV.sl b 0 bs.length cap).ok k = true := fun k hk => by rw [← hz]; exact hsok k hk
      generalize bs.getD i 0 = a at hg
      refine awp_seq (awp_block ?_)
      refine awp_step dr0 (by decide +kernel) ?_
      simp only [go_sem, hz, hHb, hbn, List.length_map, hg]
      refine ⟨hlt, hlt', ?_⟩
      refine awp_seqF (S := BitVec 8) (fun rel => [(1, .i64 line), (3, .pt n 0), (7, .pt (n + 1) 0), (8, .u8 rel), (10, .u8 a), (27, .sl b 0 bs.length cap), (28, .i64 bs.length), (29, .i64 i)])
        (fun _ => (H.upd n (some ⟨[.u8 c, .bo l, .bo f, .bo o, .bo q], 23, false⟩)).upd (n + 1) (some ⟨[.u8 c, .bo l, .bo f, .bo o, .bo q], 23, false⟩)) (fun _ => n + 2) (fun _ => True)
        (fun s _ => ⟨Heap.wf_upd (Heap.wf_upd wf (by simp [AV.ok])) (by simp [AV.ok]), Env.okAt_of (by simp [AV.ok]; omega)⟩) ?_ ?_
      · refine awp_ev dr0 (by decide +kernel) ?_
        simp only [go_sem]
        repeat' first | apply And.intro | intro _
        all_goals first
          | exact Ends.mk _ trivial (Env.le_cons rfl (Env.le_cons rfl (Env.le_cons rfl (Env.le_cons rfl (Env.le_cons rfl (Env.le_cons rfl (Env.le_cons rfl (Env.le_cons rfl (Env.le_nil _))))))))) (fun _ _ => rfl) (by omega) (by omega)
          | (intro e; cases e)
          | trivial
      rintro rel' -
      refine awp_seqF (S := E) (fun _ => [(1, .i64 line), (3, .pt n 0), (7, .pt (n + 1) 0), (8, .u8 rel'), (10, .u8 a), (27, .sl b 0 bs.length cap), (28, .i64 bs.length), (29, .i64 i)])
        (fun e => (H.upd n (some ⟨[.u8 e.c, .bo e.l, .bo e.f, .bo e.o, .bo e.k], 23, false⟩)).upd (n + 1) (some ⟨[.u8 e.c, .bo e.l, .bo e.f, .bo e.o, .bo e.k], 23, false⟩)) (fun _ => n + 2) (fun _ => True)
        (fun s _ => ⟨Heap.wf_upd (Heap.wf_upd wf (by simp [AV.ok])) (by simp [AV.ok]), Env.okAt_of (by simp [AV.ok]; omega)⟩) ?_ ?_
      · refine awp_ev dr0 (by decide +kernel) ?_
        simp only [go_sem]
        refine ⟨fun _ => ?_, fun _ => ?_⟩
        · refine status_ok _ _ _ _ _ _ _ _ ?_
          simp only [go_sem]
          refine rstatus_ok _ _ _ _ _ _ _ _ ?_
          simp only [go_sem]
          refine Ends.mk ⟨c, false, false, false, false⟩ trivial (Env.le_cons rfl (Env.le_cons rfl (Env.le_cons rfl (Env.le_cons rfl (Env.le_cons rfl (Env.le_cons rfl (Env.le_cons rfl (Env.le_cons rfl (Env.le_nil _))))))))) ?_ (by omega) (by omega)
          intro i hi
          obtain hi | rfl | rfl : i < n ∨ i = n ∨ i = n + 1 := by omega
          all_goals simp only [go_sem, *]
        · exact Ends.mk ⟨c, l, f, o, q⟩ trivial (Env.le_cons rfl (Env.le_cons rfl (Env.le_cons rfl (Env.le_cons rfl (Env.le_cons rfl (Env.le_cons rfl (Env.le_cons rfl (Env.le_cons rfl (Env.le_nil _))))))))) (fun _ _ => rfl) (by omega) (by omega)
      rintro ⟨c, l, f, o, q⟩ -
      simp only
      refine awp_seqF (S := E) (fun _ => [(1, .i64 line), (3, .pt n 0), (7, .pt (n + 1) 0), (8, .u8 rel'), (10, .u8 a), (27, .sl b 0 bs.length cap), (28, .i64 bs.length), (29, .i64 i)])
        (fun e => (H.upd n (some ⟨[.u8 e.c, .bo e.l, .bo e.f, .bo e.o, .bo e.k], 23, false⟩)).upd (n + 1) (some ⟨[.u8 e.c, .bo e.l, .bo e.f, .bo e.o, .bo e.k], 23, false⟩)) (fun _ => n + 2) (fun _ => True)
        (fun s _ => ⟨Heap.wf_upd (Heap.wf_upd wf (by simp [AV.ok])) (by simp [AV.ok]), Env.okAt_of (by simp [AV.ok]; omega)⟩) ?_ ?_
      · refine awp_ev dr0 (by decide +kernel) ?_
        simp only [go_sem]
        refine ⟨fun _ => ?_, fun _ => ?_⟩
        · obtain ⟨o', ho⟩ : ∃ o', o' = (o || (a % 2#8 == 0#8)) := ⟨_, rfl⟩
          obtain ⟨q', hq⟩ : ∃ q', q' = (q || (a % 3#8 == 0#8)) := ⟨_, rfl⟩
          cases o <;> cases q
          all_goals
            simp only [Bool.true_or, Bool.false_or] at ho hq
            refine drawn_ok _ _ _ _ _ _ _ _ _ _ ?_
            simp only [go_sem]
            refine Ends.mk (E.mk c l f o' q') trivial (Env.le_cons rfl (Env.le_cons rfl (Env.le_cons rfl (Env.le_cons rfl (Env.le_cons rfl (Env.le_cons rfl (Env.le_cons rfl (Env.le_cons rfl (Env.le_nil _))))))))) (fun i hi => ?_) (by omega) (by omega)
            obtain hi | rfl | rfl : i < n ∨ i = n ∨ i = n + 1 := by omega
            all_goals simp only [go_sem, hi, ho, hq]
        · exact Ends.mk ⟨c, l, f, o, q⟩ trivial (Env.le_cons rfl (Env.le_cons rfl (Env.le_cons rfl (Env.le_cons rfl (Env.le_cons rfl (Env.le_cons rfl (Env.le_cons rfl (Env.le_cons rfl (Env.le_nil _))))))))) (fun _ _ => rfl) (by omega) (by omega)
      rintro ⟨c, l, f, o, q⟩ -
      simp only
      refine awp_ev dr7 (by decide +kernel) ?_
      simp only [go_sem]
      refine start_ok _ _ _ _ _ _ _ _ _ _ ?_
      simp only [go_sem]
      refine rstart_ok _ _ _ _ _ _ _ _ _ _ ?_
      generalize startS ⟨c, l, f, o, q⟩ line rel' = x
      have e1 : wrap64 (line + 1) = line + 1 := wrap_id _ (by omega) (by omega)
      have e2 : wrap64 ((i : Int) + 1) = ((i + 1 : Nat) : Int) := by rw [wrap_id _ (by omega) (by omega)]; omega
      simp only [go_sem, e1, e2]
      refine ⟨fun _ => ?_, fun _ => ?_⟩
      all_goals
        refine asks_ok _ _ _ _ _ _ _ _ _ _ ?_
        simp only [go_sem]
        refine rasks_ok _ _ _ _ _ _ _ _ _ _ ?_
        simp only [go_sem, e2]
        refine awp_ev dr0 (by decide +kernel) ?_
        simp only [go_sem, e2]
        refine Ends.mk ⟨i + 1, _, rel', x⟩ ⟨by simp only; omega, by simp only; omega, by simp only; omega, by simp only; omega⟩ (Env.le_cons rfl (Env.le_cons rfl (Env.le_cons rfl (Env.le_cons rfl (Env.le_cons rfl (Env.le_cons rfl (Env.le_cons rfl (Env.le_nil _)))))))) ?_ (by omega) (by omega)
        intro i hi
        obtain hi | rfl | rfl : i < n ∨ i = n ∨ i = n + 1 := by omega
        all_goals simp only [go_sem, E.cells, *]
    · refine awp_ev dr0 (by decide +kernel) ?_
      simp only [go_sem]
      exact fin _ _ (fun i hi => by simp only [go_sem, hi])
end Go.Proofs.Joy
namespace Go.Proofs.Joy
open Go.Ab Go.Proofs

theorem FitsR_E {l : List AV} (h : FitsR [.int .u8, .bool, .bool, .bool, .bool] l) : ∃ c a b d e, l = [.u8 c, .bo a, .bo b, .bo d, .bo e] := by
  match l, h.1 with
  | [.u8 c, .bo a, .bo b, .bo d, .bo e], _ => exact ⟨c, a, b, d, e, rfl⟩
theorem FitsR_b3 {l : List AV} (h : FitsR [.int .u8, .int .u8, .int .u8] l) : ∃ a b c, l = [.u8 a, .u8 b, .u8 c] := by
  match l, h.1 with
  | [.u8 a, .u8 b, .u8 c], _ => exact ⟨a, b, c, rfl⟩

def shE : AK := .ag ([.int .u8, .bool, .bool, .bool, .bool].map .k)
def shI : AK := .one (.k (.int .i64))
def shB : AK := .one (.k (.int .u8))
def shBytes : AK := .one (.s 5 [.int .u8])

theorem waits_all (H : Heap) (n : Nat) (L : List AV) (_ : RO H) (_ : H.wf n) (_ : ∀ x ∈ L, x.ok n = true) (hf : fitAs H [shE, shI, shB] L) : ACalls Try.prog 3 L H n fun v _ _ => v = .bo true := by
  match L, hf with
  | [a, b, c], ⟨h1, h2, h3, _⟩ =>
    obtain ⟨l, rfl, hl⟩ := fitA_flat h1
    obtain ⟨x1, x2, x3, x4, x5, rfl⟩ := FitsR_E hl
    obtain ⟨line, rfl, _⟩ := fitA_int h2
    obtain ⟨r, rfl⟩ := fitA_u8 h3
    refine waits_walk _ _ _ _ _ _ _ _ _ _ ?_
    rw [waits_law]; simp

theorem predicts_all (H : Heap) (n : Nat) (L : List AV) (_ : RO H) (_ : H.wf n) (_ : ∀ x ∈ L, x.ok n = true) (hf : fitAs H [shE, shI, .ag ([.int .u8, .int .u8, .int .u8].map .k)] L) : ACalls Try.prog 5 L H n fun v _ _ => v = .bo true := by
  match L, hf with
  | [a, b, c], ⟨h1, h2, h3, _⟩ =>
    obtain ⟨l, rfl, hl⟩ := fitA_flat h1
    obtain ⟨x1, x2, x3, x4, x5, rfl⟩ := FitsR_E hl
    obtain ⟨line, rfl, _⟩ := fitA_int h2
    obtain ⟨l3, rfl, hl3⟩ := fitA_flat h3
    obtain ⟨r0, r1, r2, rfl⟩ := FitsR_b3 hl3
    exact predicts_walk _ _ _ _ _ _ _ _ _ _ _ _ rfl

theorem counts_all (H : Heap) (n : Nat) (L : List AV) (_ : RO H) (_ : H.wf n) (_ : ∀ x ∈ L, x.ok n = true) (hf : fitAs H [shB, shI] L) : ACalls Try.prog 4 L H n fun v _ _ => v = .bo true := by
  match L, hf with
  | [a, b], ⟨h1, h2, _⟩ =>
    obtain ⟨r, rfl⟩ := fitA_u8 h1
    obtain ⟨x, rfl, _⟩ := fitA_int h2
    exact counts_walk _ _ _ _ _ rfl

theorem runs_all (H : Heap) (n : Nat) (L : List AV) (_ : RO H) (_ : H.wf n) (_ : ∀ x ∈ L, x.ok n = true) (hf : fitAs H [shE, shI, shBytes] L) : ACalls Try.prog 7 L H n fun v _ _ => v = .bo true := by
  match L, hf with
  | [a, b, c], ⟨h1, h2, h3, _⟩ =>
    obtain ⟨l, rfl, hl⟩ := fitA_flat h1
    obtain ⟨x1, x2, x3, x4, x5, rfl⟩ := FitsR_E hl
    obtain ⟨line, rfl, _⟩ := fitA_int h2
    obtain ⟨z, bb, cap, bs, el, rfl, hb, hm⟩ := fitL_bytes (el := 5) h3
    exact runs_walk ⟨x1, x2, x3, x4, x5⟩ _ _ _ _ _ _ _ _ _ hb hm rfl
end Go.Proofs.Joy
