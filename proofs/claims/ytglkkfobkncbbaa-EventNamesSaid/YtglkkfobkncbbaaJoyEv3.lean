import Derived.Test.YtglkkfobkncbbaaJoyEv2
namespace Go.Proofs.Joy
open Go.Ab Go.Proofs

set_option maxHeartbeats 1000000
set_option maxRecDepth 20000

def asksS (e : E) (zero one : BitVec 8) : Bool := e.f && (one &&& 32 != 0) || e.l && (zero &&& 16 != 0)
theorem asks_ok (c : BitVec 8) (l f o k : Bool) (zero one : BitVec 8) (H : Heap) (n : Nat) (K : AV → Heap → Nat → Prop)
    (h : K (.bo (asksS ⟨c, l, f, o, k⟩ zero one)) H n) : ACalls Try.prog 13 [.ag [.u8 c, .bo l, .bo f, .bo o, .bo k], .u8 zero, .u8 one] H n K := by
  refine ACalls.of_ev dr0 Try.func13 rfl (by decide +kernel) (by decide +kernel) (show 3 ≤ 23 by decide) (by simp) fun wf => ?_
  simp only [go_sem, Try.f13]
  repeat' first | apply And.intro | intro _
  all_goals
    refine Fin.back wf ?_ (fun i hi => by simp only [go_sem, hi]) (by simp [AV.ok, AV.oks, AV.one])
    simp_all [asksS]

theorem drawn_ok (c : BitVec 8) (l f o k a b : Bool) (H : Heap) (n : Nat) (K : AV → Heap → Nat → Prop)
    (h : K (.ag [.u8 c, .bo l, .bo f, .bo (o || a), .bo (k || b)]) H n) : ACalls Try.prog 14 [.ag [.u8 c, .bo l, .bo f, .bo o, .bo k], .bo a, .bo b] H n K := by
  refine ACalls.of_ev dr0 Try.func14 rfl (by decide +kernel) (by decide +kernel) (show 3 ≤ 20 by decide) (by simp) fun wf => ?_
  simp only [go_sem, Try.f14]
  repeat' first | apply And.intro | intro _
  all_goals
    refine Fin.back wf ?_ (fun i hi => by simp only [go_sem, hi]) (by simp [AV.ok, AV.oks, AV.one])
    simp_all

def waitS (e : E) (line : Int) (rel : BitVec 8) : Int :=
  if line < 0 ∨ 262 ≤ line ∨ (e.l = true ∧ e.f = true) then 0 else
  let frame := (192 - line + 262) % 262 + 1
  let first := if line ≤ 192 ∧ (e.c.toNat : Int) ≤ 192 - line then (e.c.toNat : Int) + 1 else if rel.toNat ≤ 192 then 262 - line + rel.toNat + 1 else 0
  if e.f then first else if e.l = true ∨ first = 0 then frame else min first frame

theorem wrap_id (x : Int) (h0 : -9223372036854775808 ≤ x) (h1 : x ≤ 9223372036854775807) : wrap64 x = x := wrap64_small x h0 h1

theorem wait_ok (c : BitVec 8) (l f o k : Bool) (line : Int) (rel : BitVec 8) (H : Heap) (n : Nat) (K : AV → Heap → Nat → Prop)
    (h : K (.i64 (waitS ⟨c, l, f, o, k⟩ line rel)) H n) : ACalls Try.prog 9 [.ag [.u8 c, .bo l, .bo f, .bo o, .bo k], .i64 line, .u8 rel] H n K := by
  refine ACalls.of_awp Try.func9 rfl (by decide +kernel) (show 3 ≤ 68 by decide) (by simp) fun wf => ?_
  have hc := c.isLt
  have hr := rel.isLt
  refine awp_step dr0 (by decide +kernel) ?_
  simp only [go_sem, Try.f9]
  refine awp_cut dr0 (fun e H' n' => (e = [(1, .i64 line), (2, .u8 rel), (3, .pt n 0)] ∧ H' = H.upd n (some ⟨[.u8 c, .bo l, .bo f, .bo o, .bo k], 23, false⟩) ∧ n' = n + 1) ∧ ¬ line < 0 ∧ ¬ 262 ≤ line ∧ ¬ (l = true ∧ f = true)) (by decide +kernel) ?_ ?_
  · simp only [go_sem]
    repeat' first | apply And.intro | intro _
    all_goals first
      | exact Fin.back wf (by simpa [waitS, *] using h) (fun i hi => by simp only [go_sem, hi]) rfl
      | exact ⟨_, _, Env.le_cons rfl (Env.le_cons rfl (Env.le_cons rfl (Env.le_nil _))), Heap.le.refl _, ⟨rfl, rfl⟩, by assumption, by assumption, by simp_all⟩
  rintro e H' n' ⟨⟨rfl, rfl, rfl⟩, h1, h2, h3⟩
  refine awp_step dr0 (by decide +kernel) ?_
  simp only [go_sem]
  rw [wrap_id (192 - line) (by omega) (by omega), wrap_id (192 - line + 262) (by omega) (by omega), Int.tmod_eq_emod_of_nonneg (by omega), wrap_id _ (by omega) (by omega)]
  refine ⟨by decide, ?_⟩
  refine awp_step dr0 (by decide +kernel) ?_
  simp only [go_sem]
  refine awp_cut dr0 (fun e H' n' => (e = [(3, .pt n 0), (7, .i64 ((192 - line + 262) % 262 + 1)), (8, .i64 (if line ≤ 192 ∧ (c.toNat : Int) ≤ 192 - line then (c.toNat : Int) + 1 else if rel.toNat ≤ 192 then 262 - line + rel.toNat + 1 else 0))] ∧ H' = H.upd n (some ⟨[.u8 c, .bo l, .bo f, .bo o, .bo k], 23, false⟩) ∧ n' = n + 1)) (by decide +kernel) ?_ ?_
  · simp only [go_sem]
    have w1 : wrap64 (192 - line) = 192 - line := wrap_id _ (by omega) (by omega)
    have w2 : wrap64 (262 - line) = 262 - line := wrap_id _ (by omega) (by omega)
    have w3 : wrap64 (262 - line + rel.toNat) = 262 - line + rel.toNat := wrap_id _ (by omega) (by omega)
    have w4 : wrap64 (262 - line + rel.toNat + 1) = 262 - line + rel.toNat + 1 := wrap_id _ (by omega) (by omega)
    have w5 : wrap64 ((c.toNat : Int) + 1) = c.toNat + 1 := wrap_id _ (by omega) (by omega)
    simp only [w1, w2, w3, w4, w5]
    repeat' first | apply And.intro | intro _
    all_goals
      refine ⟨_, _, Env.le_cons rfl (Env.le_cons rfl (Env.le_cons ?_ (Env.le_nil _))), Heap.le.refl _, rfl, rfl⟩
      simp_all [Env.get]
      try omega
  rintro e H' n' ⟨rfl, rfl, rfl⟩
  refine ev_sound (T := dr0) _ _ _ _ _ (by decide +kernel) ?_
  simp only [go_sem]
  repeat' first | apply And.intro | intro _
  all_goals
    refine Fin.back wf ?_ (fun i hi => by simp only [go_sem, hi]) rfl
    have h2' : line < 262 := by omega
    simp_all [waitS]
end Go.Proofs.Joy
