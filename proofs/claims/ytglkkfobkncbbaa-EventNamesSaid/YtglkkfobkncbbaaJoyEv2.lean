import Derived.Test.YtglkkfobkncbbaaJoyEvFacts
namespace Go.Proofs.Joy
open Go.Ab Go.Proofs

set_option maxHeartbeats 1000000
set_option maxRecDepth 20000

theorem bit_ok (x : BitVec 8) (y : Bool) (H : Heap) (n : Nat) (K : AV → Heap → Nat → Prop) (h : K (.u8 (if y then x else 0)) H n) : ACalls Try.prog 18 [.u8 x, .bo y] H n K := by
  refine ACalls.of_ev dr0 Try.func18 rfl (by decide +kernel) (by decide +kernel) (show 2 ≤ 7 by decide) (by simp) fun wf => ?_
  simp only [go_sem, Try.f18]
  refine ⟨fun h1 => ?_, fun h1 => ?_⟩
  · exact Fin.keep (by simpa [h1] using h)
  · exact Fin.keep (by simpa [h1] using h)

structure E where
  c : BitVec 8
  l : Bool
  f : Bool
  o : Bool
  k : Bool
  deriving DecidableEq
def startS (e : E) (line : Int) (rel : BitVec 8) : E :=
  if line < 0 ∨ 262 ≤ line then e else if 192 < line then { e with c := rel } else
  { e with c := if e.c = 0 then rel else e.c - 1, l := e.l || e.c == 0, f := e.f || line == 192 }

theorem start_ok (c : BitVec 8) (l f o k : Bool) (line : Int) (rel : BitVec 8) (H : Heap) (n : Nat) (K : AV → Heap → Nat → Prop)
    (h : K (.ag [.u8 (startS ⟨c, l, f, o, k⟩ line rel).c, .bo (startS ⟨c, l, f, o, k⟩ line rel).l, .bo (startS ⟨c, l, f, o, k⟩ line rel).f, .bo (startS ⟨c, l, f, o, k⟩ line rel).o, .bo (startS ⟨c, l, f, o, k⟩ line rel).k]) H n) :
    ACalls Try.prog 11 [.ag [.u8 c, .bo l, .bo f, .bo o, .bo k], .i64 line, .u8 rel] H n K := by
  refine ACalls.of_ev dr0 Try.func11 rfl (by decide +kernel) (by decide +kernel) (show 3 ≤ 40 by decide) (by simp) fun wf => ?_
  simp only [go_sem, Try.f11]
  repeat' first | apply And.intro | intro _
  all_goals
    refine Fin.back wf ?_ (fun i hi => by simp only [go_sem, hi]) (by simp [AV.ok, AV.oks, AV.one])
    simp_all [startS]

def bitS (x : BitVec 8) (y : Bool) : BitVec 8 := if y then x else 0
theorem status_ok (c : BitVec 8) (l f o k : Bool) (H : Heap) (n : Nat) (K : AV → Heap → Nat → Prop)
    (h : K (.tu [.u8 (31 ||| bitS 128 f ||| bitS 64 o ||| bitS 32 k), .ag [.u8 c, .bo false, .bo false, .bo false, .bo false]]) H n) :
    ACalls Try.prog 12 [.ag [.u8 c, .bo l, .bo f, .bo o, .bo k]] H n K := by
  refine ACalls.of_ev dr12 Try.func12 rfl (by decide +kernel) (by decide +kernel) (show 1 ≤ 21 by decide) (by simp) fun wf => ?_
  simp only [go_sem, Try.f12]
  refine bit_ok _ _ _ _ _ ?_
  simp only [go_sem]
  refine bit_ok _ _ _ _ _ ?_
  simp only [go_sem]
  refine bit_ok _ _ _ _ _ ?_
  simp only [go_sem]
  refine Fin.back wf ?_ (fun i hi => by simp only [go_sem, hi]) (by simp [AV.ok, AV.oks, AV.one])
  simp_all [bitS]
end Go.Proofs.Joy
