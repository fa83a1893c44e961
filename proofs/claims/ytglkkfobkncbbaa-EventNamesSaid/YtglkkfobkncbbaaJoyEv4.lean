import Derived.Test.YtglkkfobkncbbaaJoyEv3
namespace Go.Proofs.Joy
open Go.Ab Go.Proofs

set_option maxHeartbeats 4000000
set_option maxRecDepth 20000

theorem alive_ok (H : Heap) (n : Nat) (K : AV → Heap → Nat → Prop) (h : K (.bo true) H n) : ACalls Try.prog 8 [] H n K := by
  refine ACalls.of_ev dr0 Try.func8 rfl (by decide +kernel) (by decide +kernel) (show 0 ≤ 32 by decide) (by simp) fun wf => ?_
  simp only [go_sem, Try.f8]
  refine start_ok _ _ _ _ _ _ _ _ _ _ ?_
  simp [go_sem, startS]
  refine status_ok _ _ _ _ _ _ _ _ ?_
  simp [go_sem, bitS]
  refine wait_ok _ _ _ _ _ _ _ _ _ _ ?_
  simp [go_sem, waitS]
  exact Fin.back wf h (fun i hi => by simp only [go_sem, hi]) rfl

theorem names_ok (H : Heap) (n : Nat) (K : AV → Heap → Nat → Prop) (h : K (.bo true) H n) : ACalls Try.prog 6 [] H n K := by
  refine ACalls.of_ev dr0 Try.func6 rfl (by decide +kernel) (by decide +kernel) (show 0 ≤ 65 by decide) (by simp) fun wf => ?_
  simp only [go_sem, Try.f6]
  refine start_ok _ _ _ _ _ _ _ _ _ _ ?_
  simp [go_sem, startS]
  refine start_ok _ _ _ _ _ _ _ _ _ _ ?_
  simp [go_sem, startS]
  refine start_ok _ _ _ _ _ _ _ _ _ _ ?_
  simp [go_sem, startS]
  refine drawn_ok _ _ _ _ _ _ _ _ _ _ ?_
  simp [go_sem]
  refine alive_ok _ _ _ ?_
  simp [go_sem]
  refine asks_ok _ _ _ _ _ _ _ _ _ _ ?_
  simp [go_sem, asksS]
  refine asks_ok _ _ _ _ _ _ _ _ _ _ ?_
  simp [go_sem, asksS]
  refine asks_ok _ _ _ _ _ _ _ _ _ _ ?_
  simp [go_sem, asksS]
  refine wait_ok _ _ _ _ _ _ _ _ _ _ ?_
  simp [go_sem, waitS]
  refine wait_ok _ _ _ _ _ _ _ _ _ _ ?_
  simp [go_sem, waitS]
  refine wait_ok _ _ _ _ _ _ _ _ _ _ ?_
  simp [go_sem, waitS]
  exact Fin.back wf h (fun i hi => by simp only [go_sem, hi]) rfl
end Go.Proofs.Joy
