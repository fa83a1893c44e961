/- Parts of the proof: contracts of the seat's functions. -/
import Derived.Test.YtkeboecppefiiaaGreatJoyX5
import Derived.Test.YtkeboecppefiiaaGreatJoyX4
import Derived.Test.YtkeboecppefiiaaGreatJoyW3
set_option linter.unusedSimpArgs false
set_option linter.unusedVariables false
namespace Go.Proofs.Joy
open Go.Ab Go.Proofs

set_option maxHeartbeats 1000000
set_option maxRecDepth 20000

structure L20S where
  i : Nat
def nowR (d : List (BitVec 8)) : Nat → Nat
  | 0 => 0
  | j + 1 => 256 * nowR d j + (d.getD (65587 + (3 - j)) 0#8).toNat
theorem nowR_le (d : List (BitVec 8)) : ∀ j, nowR d j < 256 ^ j
  | 0 => by simp [nowR]
  | j + 1 => by
    have := nowR_le d j
    have h := (d.getD (65587 + (3 - j)) 0#8).isLt
    simp only [nowR, Nat.pow_succ]; omega
theorem nowR_four (d : List (BitVec 8)) : nowR d 4 = nowD d := by
  simp only [nowR, nowD, word4, Nat.reduceSub, Nat.reduceAdd]; omega
theorem bits_of : ∀ k : BitVec 8, ¬ 15#8 < k → (k % 2#8 == 1#8) = decide (0#8 < k &&& 1#8) ∧ (k / 2#8 % 2#8 == 1#8) = decide (0#8 < k &&& 2#8) ∧ (k / 4#8 % 2#8 == 1#8) = decide (0#8 < k &&& 4#8) ∧ (k / 8#8 == 1#8) = decide (0#8 < k &&& 8#8) := by decide +kernel

theorem r20_load (v : AV) (d : List (BitVec 8)) (H : Heap) (n : Nat) (K : AV → Heap → Nat → Prop) (hv : bytesIn H v d) (hm : d.length ≤ 4294967296)
    (h1 : vdpFits d = true → ∀ H' m (x : VQ), x.ok → (∀ i, x.own i → n ≤ i ∧ i < m) → n ≤ m → H'.wf m → rvH H' x (pportOf (d.take 16433)) (vdpOf d) → (∀ i, i < n → H' i = H i) → K (.tu [.pt x.b 0, .i64 0]) H' m)
    (h2 : vdpFits d = false → K (.tu [.pn, .i64 201]) H n) : ACalls Tryz.prog 18 [v] H n K := by
  refine ACalls.of_awp Tryz.func18 rfl (by decide +kernel) (show 1 ≤ 90 by decide) (by simp [hv.ne]) fun wf => ?_
  have hlb : ∀ K, lenB (some .slice) v K = K (.i64 d.length) := lenB_bytes hv
  refine awp_step dr0 (by decide +kernel) ?_
  simp only [go_sem, Tryz.f18]
  by_cases hlen : d.length = 65591
  rotate_left
  · have hne : ((d.length : Int) != 65591) = true := by rw [bne_iff_ne]; omega
    have hf : vdpFits d = false := by unfold vdpFits; simp [hlen]
    refine awp_step dr0 (by decide +kernel) ?_
    simp only [go_sem, hlb, hne]
    exact Fin.back wf (h2 hf) (fun _ _ => rfl) rfl
  have hne : ((d.length : Int) != 65591) = false := by rw [hlen]; rfl
  refine awp_step dr0 (by decide +kernel) ?_
  simp only [go_sem, hlb, hne]
  rcases hv with ⟨rfl, rfl⟩ | ⟨su, b2, o, c, blk, rfl, g0, g1, g2, g3⟩
  · simp at hlen
  have hb2 := (wf b2 _ g1).1
  have hix : ixT Tryz.prog 33 = some (none, false, 1) := by simp only [go_sem]
  have pf : vdpFits d = (!(((d.drop 16433).take 49152).any fun c => decide (63#8 < c)) && !decide (15#8 < d.getD 65586 0#8) && decide (nowD d < 59736) && portFits (d.take 16433)) := by
    unfold vdpFits; simp [hlen]
  have bad : ∀ (H1 : Heap) (n1 : Nat), vdpFits d = false → (∀ i, i < n → H1 i = H i) → Fin n (.tu [.pn, .i64 201]) H1 n1 K := fun H1 n1 hf hh => Fin.back wf (h2 hf) hh rfl
  refine awp_step dr0 (by decide +kernel) ?_
  simp only [go_sem]
  refine slB_vw hix g1 (by omega) g0 0 16433 rfl (by omega) (by omega) ?_
  simp only [go_sem]
  have hcutP : bytesIn H (vw su b2 (o + 0) 16433 (c - 0)) (d.take 16433) :=
    bytesIn.cut (su := su) (H := H) (b := b2) g1 rfl g0 g2 g3 (lo := 0) (hi := 16433) (by omega) (by omega)
  refine r13_load _ (d.take 16433) _ _ _ hcutP (by simp; omega) ?_
  by_cases hF : portFits (d.take 16433) = true
  rotate_left
  · have hF' : portFits (d.take 16433) = false := by simpa using hF
    rw [hF']
    simp only [Bool.false_eq_true, if_false]
    simp only [go_sem]
    refine awp_ev dr0 (by decide +kernel) ?_
    simp only [go_sem]
    exact bad _ _ (by rw [pf, hF', Bool.and_false]) (fun _ _ => rfl)
  rw [hF, if_pos rfl]
  rw [hF, Bool.and_true] at pf
  simp only [go_sem]
  have hq : (⟨n + 3, n, n + 1, n + 2⟩ : RQ).ok := ⟨by simp, by simp, by simp, by simp, by simp, by simp⟩
  generalize hp : pportOf (d.take 16433) = p at h1 ⊢
  refine awp_gen (fun X => X.wf (n + 4) ∧ refH X ⟨n + 3, n, n + 1, n + 2⟩ p ∧ ∀ i, i < n → X i = H i) ⟨refPut_wf (Heap.wf_mono wf (show n ≤ n + 4 by omega)) (by simp) (by simp) (by simp) (by simp) _, refPut_h _ hq _, fun i hi => refPut_ne _ _ _ (by simp only; omega) (by simp only; omega) (by simp only; omega) (by simp only; omega)⟩ ?_
  rintro X ⟨xw, hX, xo⟩
  have x2 : X b2 = some blk := by rw [xo b2 hb2]; exact g1
  refine awp_step dr0 (by decide +kernel) ?_
  simp only [go_sem]
  refine awp_step dr0 (by decide +kernel) ?_
  simp only [go_sem, x2]
  refine slB_vw hix (by rw [Heap.upd_ne _ _ (by omega)]; exact x2) (by omega) g0 16433 65585 rfl (by omega) (by omega) ?_
  have hcutA : ∀ V, bytesIn (X.upd (n + 4) V) (vw su b2 (o + 16433) (65585 - 16433) (c - 16433)) ((d.drop 16433).take 49152) := fun V => bytesIn.cut (by rw [Heap.upd_ne _ _ (by omega)]; exact x2) rfl g0 g2 g3 (lo := 16433) (hi := 65585) (by omega) (by omega)
  have hm2 : ((d.drop 16433).take 49152).length = 49152 := by simp; omega
  simp only [Nat.reduceSub] at hcutA ⊢
  simp only [go_sem, srcK_bytes (hcutA _), appX_bytes (hcutA none), hm2]
  generalize hsc : (d.drop 16433).take 49152 = scr at hm2 pf
  have hx : (⟨n + 6, ⟨n + 3, n, n + 1, n + 2⟩, n + 5, true⟩ : VQ).ok := ⟨hq, by simp, by simp, by simp, by simp, by simp, by simp, by simp, by simp, by simp⟩
  refine ⟨Nat.zero_le _, ?_⟩
  refine awp_gen (fun Y => Y.wf (n + 7) ∧ rvH Y ⟨n + 6, ⟨n + 3, n, n + 1, n + 2⟩, n + 5, true⟩ p ⟨⟨0#8, false, false, false, false⟩, 0, scr⟩ ∧ ∀ i, i < n → Y i = H i) ?_ ?_
  · refine ⟨Heap.wf_upd (Heap.wf_upd (Heap.wf_upd xw (by simp [repCells])) map_u8_ok) (rvB_ok (x := ⟨n + 6, ⟨n + 3, n, n + 1, n + 2⟩, n + 5, true⟩) (by simp only; omega) (by simp only; omega) ⟨⟨0#8, false, false, false, false⟩, 0, scr⟩), ⟨Heap.upd_same _ _ _, ((hX.out (by simp only; omega) (by simp only; omega) (by simp only; omega) (by simp only; omega) _).out (by simp only; omega) (by simp only; omega) (by simp only; omega) (by simp only; omega) _).out (by simp only; omega) (by simp only; omega) (by simp only; omega) (by simp only; omega) _, by simp only; rw [Heap.upd_ne _ _ (by omega), Heap.upd_same]; rfl⟩, fun i hi => ?_⟩
    rw [Heap.upd_ne _ _ (by omega), Heap.upd_ne _ _ (by omega), Heap.upd_ne _ _ (by omega)]; exact xo i hi
  rintro Y ⟨yw, hY, yo⟩
  have y2 : Y b2 = some blk := by rw [yo b2 hb2]; exact g1
  have yb : Y (n + 6) = some (rvB ⟨n + 6, ⟨n + 3, n, n + 1, n + 2⟩, n + 5, true⟩ ⟨⟨0#8, false, false, false, false⟩, 0, scr⟩) := hY.b
  have ys : Y (n + 5) = some (byB scr) := hY.s
  refine awp_seqF (S := L20S) (fun _ => [(0, vw su b2 o d.length c), (6, .pt (n + 6) 0)]) (fun _ => Y) (fun _ => n + 7) (fun _ => scr.any (fun c => decide (63#8 < c)) = false)
    (fun _ _ => ⟨yw, Env.okAt_of2 (by simp [AV.ok, vw_ok (show b2 < n + 7 by omega)])⟩) ?_ ?_
  · refine awp_step dr0 (by decide +kernel) ?_
    simp only [go_sem, yb, rvB]
    refine awp_block ?_
    refine awp_loopF (S := L20S) (fun s => [(0, vw su b2 o d.length c), (6, .pt (n + 6) 0), (33, .su (n + 5) 0 49152 1), (34, .i64 49152), (35, .i64 s.i)]) (fun _ => Y) (fun _ => n + 7) (fun s => s.i ≤ 49152 ∧ (scr.take s.i).any (fun c => decide (63#8 < c)) = false) (fun s => 49152 - s.i)
      (fun s _ => ⟨yw, Env.okAt_of2 (by simp [AV.ok, vw_ok (show b2 < n + 7 by omega)])⟩) ?_ ⟨0⟩ ⟨Nat.zero_le _, by simp⟩ (by repeat (first | exact Env.le_nil _ | refine Env.le_cons rfl ?_)) (fun _ _ => rfl) rfl
    rintro ⟨i⟩ ⟨hi, hno⟩
    simp only at hi hno ⊢
    refine awp_step dr0 (by decide +kernel) ?_
    simp only [go_sem]
    refine awp_step dr0 (by decide +kernel) ?_
    simp only [go_sem]
    refine ⟨fun hlt => ?_, fun hlt => ?_⟩
    · have hlt' : i < 49152 := by omega
      have w1 : wrap64 ((i : Int) + 1) = ((i + 1 : Nat) : Int) := by rw [wrap_id _ (by omega) (by omega)]; omega
      have hg : (scr.map AV.u8).getD i .junk = .u8 (scr.getD i 0#8) := getD_map_u8' (by rw [hm2]; exact hlt')
      have hget : scr.take (i + 1) = scr.take i ++ [scr.getD i 0#8] := by
        rw [List.take_succ_eq_append_getElem (by rw [hm2]; exact hlt'), List.getD_eq_getElem?_getD, List.getElem?_eq_getElem (by rw [hm2]; exact hlt')]; rfl
      refine awp_ev dr0 (by decide +kernel) ?_
      simp only [go_sem, ys, byB, List.length_map, hm2, hlt, hlt', hg, w1]
      refine ⟨fun a => ?_, fun a => ?_⟩
      · refine bad _ _ ?_ yo
        rw [pf]
        have : scr.any (fun c => decide (63#8 < c)) = true := List.any_eq_true.2 ⟨scr.getD i 0#8, by rw [List.getD_eq_getElem?_getD, List.getElem?_eq_getElem (by rw [hm2]; exact hlt')]; exact List.getElem_mem _, decide_eq_true a⟩
        rw [this]; rfl
      · exact Ends.mk (⟨i + 1⟩ : L20S) ⟨by simp only; omega, by simp only; omega, by simp only [hget, List.any_append, hno]; simpa using a⟩ (by repeat (first | exact Env.le_nil _ | refine Env.le_cons rfl ?_)) (fun _ _ => rfl) (Nat.le_refl _) (Nat.le_refl _)
    · have hie : i = 49152 := by omega
      subst hie
      rw [List.take_of_length_le (by rw [hm2]; exact Nat.le_refl _)] at hno
      exact Ends.mk (⟨0⟩ : L20S) hno (by repeat (first | exact Env.le_nil _ | refine Env.le_cons rfl ?_)) (fun _ _ => rfl) (Nat.le_refl _) (Nat.le_refl _)
  rintro - hany
  rw [hany] at pf
  have at6 : ∀ i, i < 6 → o + (65585 + i) < blk.cells.length ∧ blk.cells.getD (o + (65585 + i)) .junk = .u8 (d.getD (65585 + i) 0#8) := fun i hi => cells_at g2 g3 (by omega)
  obtain ⟨q0, e0⟩ := at6 0 (by omega)
  obtain ⟨q1, e1⟩ := at6 1 (by omega)
  simp only [Nat.reduceAdd, Nat.add_zero] at q0 q1 e0 e1
  have ld1 : (65586 : Nat) < d.length := by omega
  have ld0 : (65585 : Nat) < d.length := by omega
  have li1 : (65586 : Int) < ((d.length : Nat) : Int) := by omega
  have li0 : (65585 : Int) < ((d.length : Nat) : Int) := by omega
  refine awp_step dr0 (by decide +kernel) ?_
  simp only [go_sem, y2, q1, e1, ld1, li1]
  refine awp_step dr0 (by decide +kernel) ?_
  simp only [go_sem]
  have hn4 : ∀ j, j ≤ 4 → nowR d j < 4294967296 := fun j hj => Nat.lt_of_lt_of_le (nowR_le d j) (Nat.pow_le_pow_right (by decide) hj)
  refine awp_seqF (S := L20S) (fun _ => [(0, vw su b2 o d.length c), (6, .pt (n + 6) 0), (9, .u8 (d.getD 65586 0#8)), (10, .i64 (nowR d 4))]) (fun _ => Y) (fun _ => n + 7) (fun _ => True)
    (fun _ _ => ⟨yw, Env.okAt_of2 (by simp [AV.ok, vw_ok (show b2 < n + 7 by omega)])⟩) ?_ ?_
  · refine awp_step dr0 (by decide +kernel) ?_
    simp only [go_sem]
    refine awp_block ?_
    refine awp_loopF (S := L20S) (fun s => [(0, vw su b2 o d.length c), (6, .pt (n + 6) 0), (9, .u8 (d.getD 65586 0#8)), (10, .i64 (nowR d s.i)), (11, .i64 (3 - (s.i : Int)))]) (fun _ => Y) (fun _ => n + 7) (fun s => s.i ≤ 4) (fun s => 4 - s.i)
      (fun s _ => ⟨yw, Env.okAt_of2 (by simp [AV.ok, vw_ok (show b2 < n + 7 by omega)])⟩) ?_ ⟨0⟩ (Nat.zero_le _) (by repeat (first | exact Env.le_nil _ | refine Env.le_cons rfl ?_)) (fun _ _ => rfl) rfl
    rintro ⟨i⟩ hi
    simp only at hi ⊢
    refine awp_step dr0 (by decide +kernel) ?_
    simp only [go_sem]
    refine ⟨fun hge => ?_, fun hge => ?_⟩
    · have hlt' : i < 4 := by omega
      have hb := hn4 i (by omega)
      have hb1 := hn4 (i + 1) (by omega)
      obtain ⟨q2, e2⟩ := cells_at g2 g3 (show 65587 + (3 - i) < d.length by omega)
      have w1 : wrap64 (65587 + (3 - (i : Int))) = ((65587 + (3 - i) : Nat) : Int) := by rw [wrap_id _ (by omega) (by omega)]; omega
      have w2 : wrap64 (wrap64 (256 * (nowR d i : Int)) + ((d.getD (65587 + (3 - i)) 0#8).toNat : Int)) = ((nowR d (i + 1) : Nat) : Int) := by
        have e : nowR d (i + 1) = 256 * nowR d i + (d.getD (65587 + (3 - i)) 0#8).toNat := rfl
        rw [wrap_id (256 * _) (by omega) (by omega), wrap_id _ (by omega) (by omega)]; omega
      have w3 : wrap64 (3 - (i : Int) - 1) = 3 - ((i + 1 : Nat) : Int) := by rw [wrap_id _ (by omega) (by omega)]; omega
      have hl : 65587 + (3 - i) < d.length := by omega
      refine awp_ev dr0 (by decide +kernel) ?_
      simp only [go_sem, w1, y2, q2, e2, hl, w2, w3]
      refine ⟨by omega, ?_⟩
      exact Ends.mk (⟨i + 1⟩ : L20S) ⟨by simp only; omega, by simp only; omega⟩ (by repeat (first | exact Env.le_nil _ | refine Env.le_cons rfl ?_)) (fun _ _ => rfl) (Nat.le_refl _) (Nat.le_refl _)
    · have hie : i = 4 := by omega
      subst hie
      exact Ends.mk (⟨0⟩ : L20S) trivial (by repeat (first | exact Env.le_nil _ | refine Env.le_cons rfl ?_)) (fun _ _ => rfl) (Nat.le_refl _) (Nat.le_refl _)
  rintro - -
  rw [nowR_four]
  refine awp_step dr0 (by decide +kernel) ?_
  simp only [go_sem]
  refine ⟨fun a1 => ⟨fun a2 => ?_, fun a2 => ?_⟩, fun a1 => ?_⟩
  · exact bad _ _ (by rw [pf, decide_eq_false (show ¬ nowD d < 59736 by omega), Bool.and_false]) yo
  · have hfit : vdpFits d = true := by rw [pf, decide_eq_false a1, decide_eq_true (show nowD d < 59736 by omega)]; rfl
    obtain ⟨b1, b2', b3, b4⟩ := bits_of _ a1
    refine awp_ev dr0 (by decide +kernel) ?_
    simp only [go_sem, y2, q0, e0, ld0, li0, yb, rvB, b1, b2', b3, b4]
    refine Fin.keep (h1 hfit (Y.upd (n + 6) (some (rvB ⟨n + 6, ⟨n + 3, n, n + 1, n + 2⟩, n + 5, true⟩ (vdpOf d)))) (n + 7) ⟨n + 6, ⟨n + 3, n, n + 1, n + 2⟩, n + 5, true⟩ hx (fun i hi => by simp only [VQ.own] at hi; omega) (by omega) (Heap.wf_set yw (by omega) (rvB_ok (by simp only; omega) (by simp only; omega) _)) (hY.setb hx (vdpOf d) hsc) (fun i hi => by rw [Heap.upd_ne _ _ (by omega)]; exact yo i hi))
  · exact bad _ _ (by rw [pf, decide_eq_true a1]; rfl) yo
end Go.Proofs.Joy
namespace Go.Proofs.Joy
open Go.Ab Go.Proofs

set_option maxHeartbeats 1000000
set_option maxRecDepth 20000

theorem Fin.pput {n0 : Nat} {v : AV} {H H0 : Heap} {n b : Nat} {blk : Blk} {K : AV → Heap → Nat → Prop} (wf : H0.wf n0) (hb : b < n0) (hc : ∀ v ∈ blk.cells, v.ok n0 = true) (h : K v (H0.upd b (some blk)) n0)
    (hd : ∀ i, i < n0 → H i = (H0.upd b (some blk)) i) (hv : v.ok n0 = true) : Fin n0 v H n K := Fin.back (Heap.wf_set wf hb hc) h hd hv

theorem psplice_all {α : Type} {l vs : List α} (h : vs.length = l.length) : splice l 0 vs = vs := by
  simp [splice, h]

def portB (p : PortS) : Blk := ⟨p.cells, 89, false⟩

theorem port_on (b : Nat) (p : PortS) (hp : p.lens) (H : Heap) (n : Nat) (K : AV → Heap → Nat → Prop) (hb : H b = some (portB p)) (h : K (.tu []) (H.upd b (some (portB (onS p)))) n) :
    ACalls Tryz.prog 75 [.pt b 0] H n K := by
  refine ACalls.of_ev dr0 Tryz.func75 rfl (by decide +kernel) (by decide +kernel) (show 1 ≤ 13 by decide) (by simp) fun wf => ?_
  simp only [go_sem, Tryz.f75]
  simp only [go_sem, hb, portB, hp]
  exact Fin.pput wf (wf b _ hb).1 (PortS.cells_ok _ _) h (fun _ _ => rfl) rfl

theorem port_fill (b : Nat) (p : PortS) (hp : p.lens) (ha : p.addr.toNat < 16384) (H : Heap) (n : Nat) (K : AV → Heap → Nat → Prop) (hb : H b = some (portB p)) (h : K (.tu []) (H.upd b (some (portB (fillS p)))) n) :
    ACalls Tryz.prog 76 [.pt b 0] H n K := by
  refine ACalls.of_ev dr76 Tryz.func76 rfl (by decide +kernel) (by decide +kernel) (show 1 ≤ 18 by decide) (by simp) fun wf => ?_
  simp only [go_sem, Tryz.f76]
  have hg := PortS.get_vram hp ha
  have ha' : p.addr.toNat < 16432 := by omega
  have ha2 : (p.addr.toNat : Int) < 16384 := by omega
  simp only [go_sem, hb, portB, hp, hg, ha', ha2, hp.vram, hp.cram, hp.regs]
  refine port_on b { p with buf := p.vram.getD p.addr.toNat 0#8 } ⟨hp.vram, hp.cram, hp.regs⟩ _ _ _ (by simp only [go_sem, portB]) ?_
  simp only [go_sem, hb, portB]
  exact Fin.pput wf (wf b _ hb).1 (PortS.cells_ok _ _) h (fun _ _ => rfl) rfl

theorem port_forget (b : Nat) (p : PortS) (hp : p.lens) (H : Heap) (n : Nat) (K : AV → Heap → Nat → Prop) (hb : H b = some (portB p)) (h : K (.tu []) (H.upd b (some (portB (forgetS p)))) n) :
    ACalls Tryz.prog 44 [.pt b 0] H n K := by
  refine ACalls.of_ev dr0 Tryz.func44 rfl (by decide +kernel) (by decide +kernel) (show 1 ≤ 6 by decide) (by simp) fun wf => ?_
  simp only [go_sem, Tryz.f44]
  simp only [go_sem, hb, portB, hp]
  exact Fin.pput wf (wf b _ hb).1 (PortS.cells_ok _ _) h (fun _ _ => rfl) rfl

theorem port_control (b : Nat) (p : PortS) (hp : p.lens) (v : BitVec 8) (H : Heap) (n : Nat) (K : AV → Heap → Nat → Prop) (hb : H b = some (portB p)) (h : K (.tu []) (H.upd b (some (portB (controlS p v)))) n) :
    ACalls Tryz.prog 43 [.pt b 0, .u8 v] H n K := by
  refine ACalls.of_ev dr43 Tryz.func43 rfl (by decide +kernel) (by decide +kernel) (show 2 ≤ 85 by decide) (by simp) fun wf => ?_
  have hbn := (wf b _ hb).1
  cases hs : p.sec
  · simp only [go_sem, Tryz.f43, hb, portB, hp, hs, hp.vram, hp.cram, hp.regs]
    refine Fin.pput wf hbn (PortS.cells_ok _ _) h (fun _ _ => ?_) rfl
    simp only [controlS, hs, portB, if_true]
  · simp only [go_sem, Tryz.f43, hb, portB, hp, hs, hp.vram, hp.cram, hp.regs]
    have e1 := second_addr_lt v p.low
    refine ⟨fun h1 => ?_, fun h1 => ⟨fun h2 => ⟨fun h3 => ?_, fun h3 => ?_⟩, fun h2 => ?_⟩⟩
    all_goals simp only [beq_iff_eq, beq_eq_false_iff_ne, ne_eq] at h1
    · refine port_fill b { p with sec := false, code := v >>> 6, addr := (v &&& 63#8).setWidth 16 <<< 8 ||| p.low.setWidth 16 } ⟨hp.vram, hp.cram, hp.regs⟩ e1 _ _ _ (by simp only [go_sem, portB]) ?_
      simp only [go_sem, hb, portB]
      refine Fin.pput wf hbn (PortS.cells_ok _ _) h (fun _ _ => ?_) rfl
      simp only [controlS, hs, portB, Bool.true_eq_false, if_false]
      rw [if_pos h1]
    · simp only [beq_iff_eq] at h2
      have h3' : (v &&& 15#8).toNat < 11 := by omega
      refine ⟨h3, by omega, ?_⟩
      rw [PortS.set_regs (by exact ⟨hp.vram, hp.cram, hp.regs⟩) h3']
      refine Fin.pput wf hbn (PortS.cells_ok _ _) h (fun _ _ => ?_) rfl
      simp only [controlS, hs, portB, Bool.true_eq_false, if_false]
      rw [if_neg h1, if_pos h2, if_pos h3']
    · simp only [beq_iff_eq] at h2
      have h3' : ¬ (v &&& 15#8).toNat < 11 := by omega
      refine Fin.pput wf hbn (PortS.cells_ok _ _) h (fun _ _ => ?_) rfl
      simp only [controlS, hs, portB, Bool.true_eq_false, if_false]
      rw [if_neg h1, if_pos h2, if_neg h3']
    · simp only [beq_eq_false_iff_ne, ne_eq] at h2
      refine Fin.pput wf hbn (PortS.cells_ok _ _) h (fun _ _ => ?_) rfl
      simp only [controlS, hs, portB, Bool.true_eq_false, if_false]
      rw [if_neg h1, if_neg h2]

theorem port_write (b : Nat) (p : PortS) (hp : p.lens) (ha : p.addr.toNat < 16384) (v : BitVec 8) (H : Heap) (n : Nat) (K : AV → Heap → Nat → Prop) (hb : H b = some (portB p)) (h : K (.tu []) (H.upd b (some (portB (writeS p v)))) n) :
    ACalls Tryz.prog 40 [.pt b 0, .u8 v] H n K := by
  refine ACalls.of_ev dr40 Tryz.func40 rfl (by decide +kernel) (by decide +kernel) (show 2 ≤ 41 by decide) (by simp) fun wf => ?_
  simp only [go_sem, Tryz.f40]
  have hbn := (wf b _ hb).1
  refine port_forget b p hp _ _ _ (by simp only [go_sem, hb]) ?_
  simp only [go_sem, hb, portB, forgetS, hp.vram, hp.cram, hp.regs]
  have hm : (p.addr % 32#16).toNat < 32 := by rw [BitVec.toNat_umod]; exact Nat.mod_lt _ (by decide)
  refine ⟨fun h1 => ⟨by omega, by omega, ?_⟩, fun h1 => ⟨by omega, by omega, ?_⟩⟩
  · simp only [beq_iff_eq] at h1
    rw [PortS.set_cram (by exact ⟨hp.vram, hp.cram, hp.regs⟩) hm]
    simp only [go_sem, hp.vram, hp.cram, hp.regs]
    refine port_on b { p with sec := false, cram := p.cram.set (p.addr % 32#16).toNat (v &&& 63#8), buf := v } ⟨hp.vram, by simp [hp.cram], hp.regs⟩ _ _ _ (by simp only [go_sem, portB]) ?_
    simp only [go_sem, hb, portB]
    refine Fin.pput wf hbn (PortS.cells_ok _ _) h (fun _ _ => ?_) rfl
    simp only [writeS, portB]
    rw [if_pos h1]
  · simp only [beq_eq_false_iff_ne, ne_eq] at h1
    rw [PortS.set_vram (by exact ⟨hp.vram, hp.cram, hp.regs⟩) ha]
    simp only [go_sem, hp.vram, hp.cram, hp.regs]
    refine port_on b { p with sec := false, vram := p.vram.set p.addr.toNat v, buf := v } ⟨by simp [hp.vram], hp.cram, hp.regs⟩ _ _ _ (by simp only [go_sem, portB]) ?_
    simp only [go_sem, hb, portB]
    refine Fin.pput wf hbn (PortS.cells_ok _ _) h (fun _ _ => ?_) rfl
    simp only [writeS, portB]
    rw [if_neg h1]

theorem port_reg (b : Nat) (p : PortS) (hp : p.lens) (i : Int) (H : Heap) (n : Nat) (K : AV → Heap → Nat → Prop) (hb : H b = some (portB p)) (h : K (.u8 (if 0 ≤ i ∧ i < 11 then p.regs.getD i.toNat 0#8 else 0#8)) H n) :
    ACalls Tryz.prog 57 [.pt b 0, .i64 i] H n K := by
  refine ACalls.of_ev dr0 Tryz.func57 rfl (by decide +kernel) (by decide +kernel) (show 2 ≤ 17 by decide) (by simp) fun wf => ?_
  simp only [go_sem, Tryz.f57]
  have hbn := (wf b _ hb).1
  simp only [go_sem, hb, portB, hp, hp.vram, hp.cram, hp.regs]
  refine ⟨fun h1 => ⟨fun h2 => ?_, fun h2 => ⟨by omega, by omega, by omega, ?_⟩⟩, fun h1 => ?_⟩
  · rw [if_neg (by omega)] at h; exact Fin.back wf h (fun _ _ => rfl) rfl
  · rw [if_pos (by omega)] at h
    rw [PortS.get_regs hp (by omega)]
    exact ⟨by simp, Fin.back wf h (fun _ _ => rfl) rfl⟩
  · rw [if_neg (by omega)] at h; exact Fin.back wf h (fun _ _ => rfl) rfl

theorem port_regs (b : Nat) (p : PortS) (hp : p.lens) (H : Heap) (n : Nat) (K : AV → Heap → Nat → Prop) (hb : H b = some (portB p)) (h : K (.ag (p.regs.map .u8)) H n) :
    ACalls Tryz.prog 68 [.pt b 0] H n K := by
  refine ACalls.of_ev dr0 Tryz.func68 rfl (by decide +kernel) (by decide +kernel) (show 1 ≤ 7 by decide) (by simp) fun wf => ?_
  simp only [go_sem, Tryz.f68]
  have hbn := (wf b _ hb).1
  simp only [go_sem, hbn, hb, portB, hp, hp.regs, List.length_map]
  rw [psplice_all (by simp [hp.regs])]
  refine ⟨by simp [hp.regs], ?_⟩
  rw [List.take_of_length_le (by simp [hp.regs])]
  exact Fin.back wf h (fun i hi => by simp only [go_sem, hi]) (by rw [AV.ok, AV.oks_eq]; simp [AV.ok, AV.one])

theorem port_new (H : Heap) (n : Nat) (K : AV → Heap → Nat → Prop) (h : K (.pt n 0) (H.upd n (some (portB newS))) (n + 1)) :
    ACalls Tryz.prog 33 [] H n K := by
  refine ACalls.of_ev dr0 Tryz.func33 rfl (by decide +kernel) (by decide +kernel) (show 0 ≤ 3 by decide) (by simp) fun wf => ?_
  simp only [go_sem, Tryz.f33]
  have e : newS.cells = List.replicate 16427 (AV.u8 0#8) ++ [AV.u16 0#16, AV.u8 0#8, AV.u8 0#8, AV.u8 0#8, AV.bo false] := by
    unfold PortS.cells PortS.kc newS
    simp only [List.map_replicate, ← List.append_assoc, List.replicate_append_replicate]
  rw [← e]
  exact Fin.keep h
end Go.Proofs.Joy
namespace Go.Proofs.Joy
open Go.Ab Go.Proofs

set_option maxHeartbeats 1000000
set_option maxRecDepth 20000

theorem port_clone (v : AV) (bs : List (BitVec 8)) (H : Heap) (n : Nat) (K : AV → Heap → Nat → Prop) (hv : bytesIn H v bs) (hl : 0 < bs.length) (hm : bs.length ≤ 4294967296)
    (h : K (.su n 0 bs.length 1) (H.upd n (some ⟨bs.map .u8, 5, false⟩)) (n + 1)) : ACalls Tryz.prog 64 [v] H n K := by
  rcases hv with ⟨_, rfl⟩ | ⟨su, b, o, c, blk, rfl, h0, h1, h2, h3⟩
  · simp at hl
  cases su
  · simp only [go_sem]
    refine ACalls.of_ev dr0 Tryz.func64 rfl (by decide +kernel) (by decide +kernel) (show 1 ≤ 8 by decide) (by simp) fun wf => ?_
    simp only [go_sem, Tryz.f64]
    have hbn := (wf b _ h1).1
    have hp : ¬ bs.length ≤ 0 := by omega
    simp only [go_sem, h1, h2, h3, hbn, hp, hl, List.length_map]
    refine ⟨Nat.zero_le _, hm, ?_⟩
    exact Fin.one (n + 1) wf h (by omega) (by simp only [go_sem]) (fun i hi => by simp only [go_sem, hi]) map_u8_ok (by simp [AV.ren]) (by simp [AV.ok])
  · simp only [go_sem]
    refine ACalls.of_ev dr0 Tryz.func64 rfl (by decide +kernel) (by decide +kernel) (show 1 ≤ 8 by decide) (by simp) fun wf => ?_
    simp only [go_sem, Tryz.f64]
    have hbn := (wf b _ h1).1
    have hp : ¬ bs.length ≤ 0 := by omega
    simp only [go_sem, h1, h2, h3, hbn, hp, hl, List.length_map]
    refine ⟨Nat.zero_le _, hm, ?_⟩
    exact Fin.one (n + 1) wf h (by omega) (by simp only [go_sem]) (fun i hi => by simp only [go_sem, hi]) map_u8_ok (by simp [AV.ren]) (by simp [AV.ok])

theorem port_vram (b : Nat) (p : PortS) (hp : p.lens) (H : Heap) (n : Nat) (K : AV → Heap → Nat → Prop) (hb : H b = some (portB p)) (h : K (.su n 0 16384 1) (H.upd n (some ⟨p.vram.map .u8, 5, false⟩)) (n + 1)) :
    ACalls Tryz.prog 66 [.pt b 0] H n K := by
  refine ACalls.of_ev dr0 Tryz.func66 rfl (by decide +kernel) (by decide +kernel) (show 1 ≤ 8 by decide) (by simp) fun wf => ?_
  simp only [go_sem, Tryz.f66]
  have hbn := (wf b _ hb).1
  refine port_clone _ p.vram _ _ _ (.sl (blk := portB p) (by simp only [go_sem, hb]) hp.vram.symm (Nat.le_refl _) (by simp only [portB, hp.vram, List.drop_zero, PortS.get_allvram hp]) (by simp only [portB, PortS.len hp, hp.vram]; omega)) (by rw [hp.vram]; omega) (by rw [hp.vram]; omega) ?_
  simp only [go_sem, hp.vram]
  exact Fin.keep h

theorem port_cram (b : Nat) (p : PortS) (hp : p.lens) (H : Heap) (n : Nat) (K : AV → Heap → Nat → Prop) (hb : H b = some (portB p)) (h : K (.su n 0 32 1) (H.upd n (some ⟨p.cram.map .u8, 5, false⟩)) (n + 1)) :
    ACalls Tryz.prog 67 [.pt b 0] H n K := by
  refine ACalls.of_ev dr0 Tryz.func67 rfl (by decide +kernel) (by decide +kernel) (show 1 ≤ 8 by decide) (by simp) fun wf => ?_
  simp only [go_sem, Tryz.f67]
  have hbn := (wf b _ hb).1
  refine port_clone _ p.cram _ _ _ (.sl (blk := portB p) (by simp only [go_sem, hb]) hp.cram.symm (Nat.le_refl _) (by simp only [portB, hp.cram, PortS.get_allcram hp]) (by simp only [portB, PortS.len hp, hp.cram]; omega)) (by rw [hp.cram]; omega) (by rw [hp.cram]; omega) ?_
  simp only [go_sem, hp.cram]
  exact Fin.keep h

theorem port_grow (size : Nat) (H : Heap) (n : Nat) (K : AV → Heap → Nat → Prop) (hl : 0 < size) (hm : size ≤ 4294967296)
    (h : K (.su n 0 0 1) (H.upd n (some ⟨(List.replicate size 0#8).map .u8, 5, false⟩)) (n + 1)) : ACalls Tryz.prog 80 [.sn, .i64 size] H n K := by
  refine ACalls.of_ev dr0 Tryz.func80 rfl (by decide +kernel) (by decide +kernel) (show 2 ≤ 27 by decide) (by simp) fun wf => ?_
  simp only [go_sem, Tryz.f80]
  have w1 : wrap64 ((size : Int) - 0) = size := by rw [wrap_id _ (by omega) (by omega)]; omega
  have hl' : (0 : Int) < size := by omega
  have hm' : (size : Int) ≤ 4294967296 := by omega
  refine ⟨fun h => absurd h (by omega), fun _ => ?_⟩
  simp only [go_sem, w1, hl', hm']
  rw [rep_u8]
  exact ⟨Nat.zero_le _, Fin.keep h⟩

structure pCC where
  i : Nat
structure pCQ where
  i : Nat
  q : Nat

theorem pwf_none {H : Heap} {n i : Nat} (wf : H.wf n) (hi : n ≤ i) : H i = none := by
  cases h : H i with
  | none => rfl
  | some b => have := (wf i b h).1; omega

theorem port_concat (bx cap : Nat) (ro : Bool) (el : TypeId) (vs : List AV) (bss : List (List (BitVec 8))) (H : Heap) (n : Nat) (K : AV → Heap → Nat → Prop) (hx : H bx = some ⟨vs, el, ro⟩) (hlen : vs.length = bss.length)
    (hv : ∀ i, i < vs.length → bytesIn H (vs.getD i .junk) (bss.getD i [])) (hpos : 0 < bss.flatten.length) (hmax : bss.flatten.length ≤ 4294967296) (hk : bss.length ≤ 1000)
    (h : K (.su n 0 bss.flatten.length 1) (H.upd n (some ⟨bss.flatten.map .u8, 5, false⟩)) (n + 1)) : ACalls Tryz.prog 61 [.sl bx 0 vs.length cap] H n K := by
  refine ACalls.of_awp Tryz.func61 rfl (by decide +kernel) (show 1 ≤ 36 by decide) (by simp) fun wf => ?_
  have hbn := (wf bx _ hx).1
  have hvok : ∀ i, i < vs.length → (vs.getD i .junk).ok n = true := fun i hi => by
    rw [List.getD_eq_getElem?_getD, List.getElem?_eq_getElem hi]
    exact (wf bx _ hx).2 _ (List.getElem_mem hi)
  have hsum : ∀ i, ((bss.take (i + 1)).flatten).length = ((bss.take i).flatten).length + (bss.getD i []).length := fun i => by
    rcases Nat.lt_or_ge i bss.length with hi | hi
    · rw [List.take_succ_eq_append_getElem hi, List.flatten_append, List.length_append, List.getD_eq_getElem?_getD, List.getElem?_eq_getElem hi]
      simp
    · rw [List.take_of_length_le (by omega), List.take_of_length_le hi]
      simp [List.getD_eq_getElem?_getD, hi]
  have hle : ∀ i, ((bss.take i).flatten).length ≤ bss.flatten.length := fun i => by
    have : bss.flatten = (bss.take i).flatten ++ (bss.drop i).flatten := by rw [← List.flatten_append, List.take_append_drop]
    rw [this]; simp
  refine awp_step dr0 (by decide +kernel) ?_
  simp only [go_sem, Tryz.f61]
  refine awp_step dr0 (by decide +kernel) ?_
  simp only [go_sem]
  refine awp_seq (awp_step dr0 (by decide +kernel) ?_)
  simp only [go_sem]
  refine awp_block ?_
  refine awp_loopF (S := pCC) (fun s => [(0, .sl bx 0 vs.length cap), (3, .i64 ((bss.take s.i).flatten.length : Nat)), (9, .sl bx 0 vs.length cap), (10, .i64 vs.length), (11, .i64 s.i)]) (fun _ => H) (fun _ => n) (fun s => s.i ≤ vs.length) (fun s => vs.length - s.i)
    (fun s _ => ⟨wf, Env.okAt_of2 (by simp [AV.ok, hbn])⟩) ?_ ⟨0⟩ (Nat.zero_le _) (Env.le_cons rfl (Env.le_cons rfl (Env.le_cons rfl (Env.le_cons rfl (Env.le_cons rfl (Env.le_nil _)))))) (fun _ _ => rfl) rfl
  · rintro ⟨i⟩ hi
    simp only at hi ⊢
    refine awp_step dr0 (by decide +kernel) ?_
    simp only [go_sem]
    refine awp_step dr0 (by decide +kernel) ?_
    simp only [go_sem]
    refine ⟨fun hlt => ?_, fun hlt => ?_⟩
    · have hlt' : i < vs.length := by omega
      have hvi := hv i hlt'
      have hs := hsum i
      have hl1 := hle (i + 1)
      have w1 : wrap64 (((bss.take i).flatten.length : Nat) + ((bss.getD i []).length : Nat) : Int) = ((bss.take (i + 1)).flatten.length : Nat) := by rw [wrap_id _ (by omega) (by omega), hs]; omega
      have w2 : wrap64 ((i : Int) + 1) = ((i + 1 : Nat) : Int) := by rw [wrap_id _ (by omega) (by omega)]; omega
      have hn0 : ¬ (((bss.take (i + 1)).flatten.length : Nat) : Int) < 0 := by omega
      refine awp_ev dr0 (by decide +kernel) ?_
      simp only [go_sem, hx, hlt, hlt', lenB_bytes hvi, w1, w2, hn0, false_implies, true_and]
      refine Ends.mk ⟨i + 1⟩ ⟨by simp only; omega, by simp only; omega⟩ (Env.le_cons rfl (Env.le_cons rfl (Env.le_cons rfl (Env.le_cons rfl (Env.le_cons rfl (Env.le_nil _)))))) (fun _ _ => rfl) (Nat.le_refl _) (Nat.le_refl _)
    · have hie : i = bss.length := by omega
      subst hie
      rw [List.take_length]
      refine awp_step dr0 (by decide +kernel) ?_
      simp only [go_sem]
      refine port_grow _ _ _ _ hpos hmax ?_
      simp only [go_sem]
      refine awp_seq (awp_step dr0 (by decide +kernel) ?_)
      simp only [go_sem]
      refine awp_block ?_
      refine awp_loopF (S := pCQ) (fun s => [(6, .su s.q 0 ((bss.take s.i).flatten.length) 1), (25, .sl bx 0 vs.length cap), (26, .i64 vs.length), (27, .i64 s.i)])
        (fun s => H.upd s.q (some ⟨(if s.i = 0 then List.replicate bss.flatten.length 0#8 else (bss.take s.i).flatten).map .u8, 5, false⟩)) (fun s => s.q + 1) (fun s => s.i ≤ vs.length ∧ n ≤ s.q) (fun s => vs.length - s.i)
        (fun s hs => ⟨Heap.wf_upd (Heap.wf_mono wf hs.2) map_u8_ok, Env.okAt_of2 (by simp [AV.ok]; omega)⟩) ?_ ⟨0, n⟩ ⟨Nat.zero_le _, Nat.le_refl _⟩ (Env.le_cons rfl (Env.le_cons rfl (Env.le_cons rfl (Env.le_cons rfl (Env.le_nil _))))) (fun _ _ => rfl) rfl
      · rintro ⟨i, q⟩ ⟨hi, hq⟩
        simp only at hi hq ⊢
        refine awp_step dr0 (by decide +kernel) ?_
        simp only [go_sem]
        refine awp_step dr0 (by decide +kernel) ?_
        simp only [go_sem]
        refine ⟨fun hlt => ?_, fun hlt => ?_⟩
        · have hlt' : i < vs.length := by omega
          have hbq : bx < q := by omega
          have hvi := hv i hlt'
          have hvi2 : bytesIn (H.upd q (some ⟨(if i = 0 then List.replicate bss.flatten.length 0#8 else (bss.take i).flatten).map .u8, 5, false⟩)) (vs.getD i .junk) (bss.getD i []) := hvi.mono (hvok i hlt') (fun k hk => Heap.upd_ne _ _ (by omega))
          have hs := hsum i
          have hl0 := hle i
          have hl1 := hle (i + 1)
          have w2 : wrap64 ((i : Int) + 1) = ((i + 1 : Nat) : Int) := by rw [wrap_id _ (by omega) (by omega)]; omega
          refine awp_ev dr0 (by decide +kernel) ?_
          simp only [go_sem, hx, hbq, hlt, hlt', appX_bytes hvi2, srcK_bytes hvi2, w2, true_and]
          refine ⟨?_, by omega, ?_⟩
          · rw [List.length_map]; split
            · rw [List.length_replicate]; exact hl0
            · exact Nat.le_refl _
          have hcells : List.take (bss.take i).flatten.length (List.map AV.u8 (if i = 0 then List.replicate bss.flatten.length 0#8 else (bss.take i).flatten)) ++ List.map AV.u8 (bss.getD i []) = ((bss.take (i + 1)).flatten).map AV.u8 := by
            have e1 : (bss.take (i + 1)).flatten = (bss.take i).flatten ++ bss.getD i [] := by
              rw [List.take_succ_eq_append_getElem (by omega), List.flatten_append, List.getD_eq_getElem?_getD, List.getElem?_eq_getElem (by omega)]; simp
            rw [e1, List.map_append]
            congr 1
            split
            · rename_i h0; subst h0; simp
            · rw [List.take_of_length_le (by rw [List.length_map]; exact Nat.le_refl _)]
          rw [hcells, ← hs]
          refine Ends.mk ⟨i + 1, q + 1⟩ ⟨by simp only; omega, by simp only; omega, by simp only; omega⟩ (Env.le_cons rfl (Env.le_cons rfl (Env.le_cons rfl (Env.le_cons rfl (Env.le_nil _))))) ?_ (by simp only; omega) (Nat.le_refl _)
          intro k hk
          simp only [Nat.add_eq_zero_iff, Nat.succ_ne_self, and_false, if_false]
          obtain hk | rfl | rfl : k < q ∨ k = q ∨ k = q + 1 := by simp only at hk; omega
          · simp only [go_sem, hk]
          · simp only [go_sem]; rw [pwf_none wf hq]
          · simp only [go_sem]
        · have hie2 : i = bss.length := by omega
          subst hie2
          have hb0 : bss.length ≠ 0 := by rintro h0; rw [List.length_eq_zero_iff.1 h0] at hpos; simp at hpos
          rw [List.take_length, if_neg hb0]
          refine awp_ev dr0 (by decide +kernel) ?_
          simp only [go_sem]
          exact Fin.one q wf h hq (by simp only [go_sem]) (fun k hk => by rw [Heap.upd_ne _ _ (by omega)]) map_u8_ok (by simp [AV.ren]) (by simp [AV.ok])
end Go.Proofs.Joy
namespace Go.Proofs.Joy
open Go.Ab Go.Proofs

set_option maxHeartbeats 1000000
set_option maxRecDepth 20000

def idxS (p : BitVec 8 → Bool) (bs : List (BitVec 8)) : Int := match bs.findIdx? p with
  | some i => i
  | none => -1
theorem idxS_nonneg (p : BitVec 8 → Bool) (bs : List (BitVec 8)) : decide (0 ≤ idxS p bs) = bs.any p := by
  unfold idxS
  cases h : bs.findIdx? p with
  | none =>
    rw [List.findIdx?_eq_none_iff] at h
    symm; simpa [List.any_eq_false] using h
  | some i =>
    have : (bs.findIdx? p).isSome = true := by rw [h]; rfl
    rw [List.findIdx?_isSome] at this
    rw [this]; simp

theorem port_index (v : AV) (bs : List (BitVec 8)) (f : Nat) (p : BitVec 8 → Bool) (H : Heap) (n : Nat) (K : AV → Heap → Nat → Prop) (hv : bytesIn H v bs) (hm : bs.length ≤ 4294967296)
    (hf : ∀ (x : BitVec 8) (H : Heap) (n : Nat) (K : AV → Heap → Nat → Prop), K (.bo (p x)) H n → ACalls Tryz.prog f [.u8 x] H n K) (h : K (.i64 (idxS p bs)) H n) : ACalls Tryz.prog 78 [v, .fn f []] H n K := by
  refine ACalls.of_awp Tryz.func78 rfl (by decide +kernel) (show 2 ≤ 19 by decide) (by simp [hv.ne]) fun wf => ?_
  have hlen := lenB_bytes hv
  have hvok : v.ok n = true := by
    rcases hv with ⟨rfl, rfl⟩ | ⟨su, b, o, c, blk, rfl, h0, h1, h2, h3⟩
    · rfl
    · exact vw_ok (wf b _ h1).1
  have hlb : ∀ K, lenB (some .slice) v K = K (.i64 bs.length) := lenB_bytes hv
  refine awp_step dr0 (by decide +kernel) ?_
  simp only [go_sem, Tryz.f78]
  refine awp_seq (awp_step dr0 (by decide +kernel) ?_)
  simp only [go_sem, hlb]
  refine awp_block ?_
  refine awp_loopF (S := pCC) (fun s => [(0, v), (1, .fn f []), (7, .i64 bs.length), (8, .i64 s.i)]) (fun _ => H) (fun _ => n) (fun s => s.i ≤ bs.length ∧ (bs.take s.i).any p = false) (fun s => bs.length - s.i)
    (fun s _ => ⟨wf, Env.okAt_of2 (by simp [AV.ok, AV.oks, hvok])⟩) ?_ ⟨0⟩ ⟨Nat.zero_le _, by simp⟩ (Env.le_cons rfl (Env.le_cons rfl (Env.le_cons rfl (Env.le_cons rfl (Env.le_nil _))))) (fun _ _ => rfl) rfl
  rintro ⟨i⟩ ⟨hi, hno⟩
  simp only at hi hno ⊢
  refine awp_step dr0 (by decide +kernel) ?_
  simp only [go_sem]
  refine awp_step dr0 (by decide +kernel) ?_
  simp only [go_sem]
  refine ⟨fun hlt => ?_, fun hlt => ?_⟩
  · have hlt' : i < bs.length := by omega
    have w2 : wrap64 ((i : Int) + 1) = ((i + 1 : Nat) : Int) := by rw [wrap_id _ (by omega) (by omega)]; omega
    have hget : bs.take (i + 1) = bs.take i ++ [bs.getD i 0#8] := by
      rw [List.take_succ_eq_append_getElem hlt', List.getD_eq_getElem?_getD, List.getElem?_eq_getElem hlt']; rfl
    refine awp_ev dr0 (by decide +kernel) ?_
    simp only [go_sem]
    rcases hv with ⟨rfl, rfl⟩ | ⟨su, b, o, c, blk, rfl, h0, h1, h2, h3⟩
    · simp at hlt'
    refine ixB_vw hlt' ?_
    obtain ⟨q1, q2⟩ := cells_at h2 h3 hlt'
    simp only [go_sem, h1, q1, q2, true_and]
    refine hf _ _ _ _ ?_
    simp only [go_sem]
    refine ⟨fun hp => ?_, fun hp => ?_⟩
    · refine Fin.back wf ?_ (fun _ _ => rfl) rfl
      have : idxS p bs = i := by
        unfold idxS
        have : bs.findIdx? p = some i := by
          rw [List.findIdx?_eq_some_iff_getElem]
          refine ⟨hlt', by simpa [List.getD_eq_getElem?_getD, hlt'] using hp, fun j hj => ?_⟩
          rw [List.any_eq_false] at hno
          exact hno _ (List.mem_take_iff_getElem.2 ⟨j, by omega, rfl⟩)
        rw [this]
      rw [this] at h
      exact h
    · simp only [w2]
      exact Ends.mk ⟨i + 1⟩ ⟨by simp only; omega, by simp only; omega, by simp only [hget, List.any_append, hno]; simpa using hp⟩ (Env.le_cons rfl (Env.le_cons rfl (Env.le_cons rfl (Env.le_cons rfl (Env.le_nil _))))) (fun _ _ => rfl) (Nat.le_refl _) (Nat.le_refl _)
  · have hie : i = bs.length := by omega
    subst hie
    rw [List.take_length] at hno
    refine awp_ev dr0 (by decide +kernel) ?_
    simp only [go_sem]
    refine Fin.back wf ?_ (fun _ _ => rfl) rfl
    have : idxS p bs = -1 := by
      unfold idxS
      have : bs.findIdx? p = none := by rw [List.findIdx?_eq_none_iff]; simpa [List.any_eq_false] using hno
      rw [this]
    rw [this] at h
    exact h

theorem port_contains (v : AV) (bs : List (BitVec 8)) (f : Nat) (p : BitVec 8 → Bool) (H : Heap) (n : Nat) (K : AV → Heap → Nat → Prop) (hv : bytesIn H v bs) (hm : bs.length ≤ 4294967296)
    (hf : ∀ (x : BitVec 8) (H : Heap) (n : Nat) (K : AV → Heap → Nat → Prop), K (.bo (p x)) H n → ACalls Tryz.prog f [.u8 x] H n K) (h : K (.bo (bs.any p)) H n) : ACalls Tryz.prog 50 [v, .fn f []] H n K := by
  refine ACalls.of_ev dr0 Tryz.func50 rfl (by decide +kernel) (by decide +kernel) (show 2 ≤ 9 by decide) (by simp [hv.ne]) fun wf => ?_
  simp only [go_sem, Tryz.f50]
  refine port_index v bs f p _ _ _ hv hm hf ?_
  simp only [go_sem, idxS_nonneg]
  exact Fin.back wf h (fun _ _ => rfl) rfl

theorem port_load1 (x : BitVec 8) (H : Heap) (n : Nat) (K : AV → Heap → Nat → Prop) (h : K (.bo (decide (63#8 < x))) H n) : ACalls Tryz.prog 79 [.u8 x] H n K := by
  refine ACalls.of_ev dr0 Tryz.func79 rfl (by decide +kernel) (by decide +kernel) (show 1 ≤ 5 by decide) (by simp) fun wf => ?_
  simp only [go_sem, Tryz.f79]
  exact Fin.back wf h (fun _ _ => rfl) rfl

theorem port_load (b : Nat) (p : PortS) (hp : p.lens) (v : AV) (d : List (BitVec 8)) (H : Heap) (n : Nat) (K : AV → Heap → Nat → Prop) (hb : H b = some (portB p)) (hv0 : bytesIn (H.upd b none) v d) (hm : d.length ≤ 4294967296)
    (h : K (.i64 (if portFits d then 0 else 131)) (if portFits d then H.upd b (some (portB (pportOf d))) else H) n) : ACalls Tryz.prog 52 [.pt b 0, v] H n K := by
  refine ACalls.of_awp Tryz.func52 rfl (by decide +kernel) (show 2 ≤ 82 by decide) (by simp [hv0.ne]) fun wf => ?_
  have hbn := (wf b _ hb).1
  have hlb : ∀ K, lenB (some .slice) v K = K (.i64 d.length) := lenB_bytes hv0
  refine awp_step dr52 (by decide +kernel) ?_
  simp only [go_sem, Tryz.f52]
  by_cases hlen : d.length = 16433
  rotate_left
  · have hne : ((d.length : Int) != 16433) = true := by rw [bne_iff_ne]; omega
    have hf : portFits d = false := by unfold portFits; simp [hlen]
    rw [hf] at h
    refine awp_step dr52 (by decide +kernel) ?_
    simp only [go_sem, hlb, hne]
    exact Fin.back wf h (fun _ _ => rfl) rfl
  have hne : ((d.length : Int) != 16433) = false := by rw [hlen]; rfl
  refine awp_step dr52 (by decide +kernel) ?_
  simp only [go_sem, hlb, hne]
  rcases hv0 with ⟨rfl, rfl⟩ | ⟨su, b2, o, c, blk, rfl, h0, h1, h2, h3⟩
  · simp at hlen
  have hne2 : b2 ≠ b := by
    rintro rfl
    rw [Heap.upd_same] at h1
    cases h1
  rw [Heap.upd_ne _ _ hne2] at h1
  refine awp_step dr52 (by decide +kernel) ?_
  simp only [go_sem]
  have hix : ixT Tryz.prog 33 = some (none, false, 1) := by simp only [go_sem]
  refine slB_vw hix h1 (by omega) h0 16384 16416 rfl (by omega) (by omega) ?_
  simp only [go_sem]
  refine awp_step dr52 (by decide +kernel) ?_
  simp only [go_sem]
  refine slB_vw hix h1 (by omega) h0 16427 16433 (by rw [hlen]) (by omega) (by omega) ?_
  simp only [go_sem]
  refine awp_step dr52 (by decide +kernel) ?_
  simp only [go_sem]
  have hcut : bytesIn H (vw su b2 (o + 16384) 32 (c - 16384)) ((d.drop 16384).take 32) := bytesIn.cut h1 rfl h0 h2 h3 (lo := 16384) (hi := 16416) (by omega) (by omega)
  refine port_contains _ _ _ (fun x => decide (63#8 < x)) _ _ _ hcut (by simp; omega) (fun x H n K h => port_load1 x H n K h) ?_
  simp only [go_sem]
  have at6 : ∀ i, i < 6 → o + (16427 + i) < blk.cells.length ∧ blk.cells.getD (o + (16427 + i)) .junk = .u8 (d.getD (16427 + i) 0#8) := fun i hi => cells_at h2 h3 (by omega)
  obtain ⟨g0, e0⟩ := at6 0 (by omega)
  obtain ⟨g1, e1⟩ := at6 1 (by omega)
  obtain ⟨g2, e2⟩ := at6 2 (by omega)
  obtain ⟨g3, e3⟩ := at6 3 (by omega)
  obtain ⟨g4, e4⟩ := at6 4 (by omega)
  obtain ⟨g5, e5⟩ := at6 5 (by omega)
  simp only [Nat.reduceAdd, Nat.add_zero] at g0 g1 g2 g3 g4 g5 e0 e1 e2 e3 e4 e5
  refine awp_seqF (S := Unit) (fun _ => [(0, .pt b 0), (1, vw su b2 o d.length c), (5, vw su b2 (o + 16384) 32 (c - 16384)), (6, vw su b2 (o + 16427) 6 (c - 16427))]) (fun _ => H) (fun _ => n) (fun _ => portFits d = true)
    (fun _ _ => ⟨wf, Env.okAt_of2 (by simp [AV.ok, hbn, vw_ok (wf b2 _ h1).1])⟩) ?_ ?_
  · refine awp_ev dr0 (by decide +kernel) ?_
    simp only [go_sem, h1, g1, g2, g4, e1, e2, e4]
    have pf : portFits d = (!(((d.drop 16384).take 32).any fun x => decide (63#8 < x)) && !decide (63#8 < d.getD 16428 0#8) && !decide (3#8 < d.getD 16429 0#8) && !decide (1#8 < d.getD 16431 0#8)) := by
      unfold portFits; simp [hlen]
    have bad : portFits d = false → Fin n (.i64 131) H n K := fun hf => by
      rw [hf] at h; exact Fin.back wf h (fun _ _ => rfl) rfl
    refine ⟨fun a1 => ⟨fun a2 => ⟨fun a3 => ⟨fun a4 => ?_, fun a4 => ?_⟩, fun a3 => ?_⟩, fun a2 => ?_⟩, fun a1 => ?_⟩
    · exact bad (by rw [pf]; simp only [a4, decide_true, Bool.not_true, Bool.and_false, Bool.false_and])
    · exact Ends.mk () (by rw [pf]; simp only [a1, a2, a3, a4]; rfl) (Env.le_cons rfl (Env.le_cons rfl (Env.le_cons rfl (Env.le_cons rfl (Env.le_nil _))))) (fun _ _ => rfl) (Nat.le_refl _) (Nat.le_refl _)
    · exact bad (by rw [pf]; simp only [a3, decide_true, Bool.not_true, Bool.and_false, Bool.false_and])
    · exact bad (by rw [pf]; simp only [a2, decide_true, Bool.not_true, Bool.and_false, Bool.false_and])
    · exact bad (by rw [pf, a1]; rfl)
  rintro - hfits
  rw [hfits] at h
  simp only [if_true] at h
  have hbv : bytesIn H (vw su b2 o d.length c) d := .vw h1 rfl h0 h2 h3
  have hm1 : min d.length 16384 = 16384 := by omega
  refine awp_step dr52 (by decide +kernel) ?_
  simp only [go_sem, hb, portB, hp, srcK_bytes hbv, hm1]
  rw [← List.map_take, PortS.splice_vram (xs := d.take 16384) hp (by simp; omega)]
  have hp1 : ({ p with vram := d.take 16384 } : PortS).lens := ⟨by simp; omega, hp.cram, hp.regs⟩
  have hcutA : ∀ X : Option Blk, bytesIn (H.upd b X) (vw su b2 (o + 16384) 32 (c - 16384)) ((d.drop 16384).take 32) := fun X => bytesIn.cut (by rw [Heap.upd_ne _ _ hne2]; exact h1) rfl h0 h2 h3 (lo := 16384) (hi := 16416) (by omega) (by omega)
  have hm2 : ((d.drop 16384).take 32).length = 32 := by simp; omega
  have hdropA : ∀ X : Option Blk, bytesIn (H.upd b X) (vw su b2 (o + 16416) 17 (c - 16416)) ((d.drop 16416).take 17) := fun X => bytesIn.cut (by rw [Heap.upd_ne _ _ hne2]; exact h1) rfl h0 h2 h3 (lo := 16416) (hi := 16433) (by omega) (by omega)
  have hm3 : ((d.drop 16416).take 17).length = 17 := by simp; omega
  refine awp_step dr52 (by decide +kernel) ?_
  simp only [go_sem, hb, portB, hp1, srcK_bytes (hcutA _), hm2, Nat.min_self]
  rw [PortS.splice_cram hp1 hm2]
  have hp2 : ({ p with vram := d.take 16384, cram := (d.drop 16384).take 32 } : PortS).lens := ⟨by simp; omega, hm2, hp.regs⟩
  refine awp_seq (awp_tree td52_10 tr52_10 (by decide +kernel) (by decide +kernel) ?_)
  simp only [go_sem, hb, portB, hp2, hm3]
  refine slB_vw hix (by rw [Heap.upd_ne _ _ hne2]; exact h1) (by omega) h0 16416 16433 (by simp only [hlen]) (by omega) (by omega) ?_
  simp only [go_sem, srcK_bytes (hdropA _), hm3, hp2]
  rw [← List.map_take, PortS.splice_regs hp2 (xs := ((d.drop 16416).take 17).take 11) (by simp; omega), List.take_take]
  simp only [Nat.min_eq_left (show 11 ≤ 17 by decide)]
  have hup : ∀ X : Option Blk, (H.upd b X) b2 = some blk := fun X => by rw [Heap.upd_ne _ _ hne2]; exact h1
  have hp3 : ({ p with vram := d.take 16384, cram := (d.drop 16384).take 32, regs := (d.drop 16416).take 11 } : PortS).lens := ⟨by simp; omega, hm2, by simp; omega⟩
  refine awp_step dr52 (by decide +kernel) ?_
  simp only [go_sem, hb, portB, hp3, hup, g0, g1, g2, g3, g4, g5, e0, e1, e2, e3, e4, e5]
  rw [PortS.splice_kept hp3]
  refine awp_ev dr0 (by decide +kernel) ?_
  simp only [go_sem]
  exact Fin.pput wf hbn (PortS.cells_ok _ _) h (fun _ _ => rfl) rfl
end Go.Proofs.Joy
namespace Go.Proofs.Joy
open Go.Ab Go.Proofs

set_option maxHeartbeats 1000000
set_option maxRecDepth 20000

theorem port_dump (b : Nat) (p : PortS) (hp : p.lens) (H : Heap) (n : Nat) (K : AV → Heap → Nat → Prop) (hb : H b = some (portB p))
    (h : K (.su n 0 16433 1) (H.upd n (some ⟨(dumpL p).map .u8, 5, false⟩)) (n + 1)) : ACalls Tryz.prog 62 [.pt b 0] H n K := by
  refine ACalls.of_awp Tryz.func62 rfl (by decide +kernel) (show 1 ≤ 54 by decide) (by simp) fun wf => ?_
  have hbn := (wf b _ hb).1
  refine awp_step dr62 (by decide +kernel) ?_
  simp only [go_sem, Tryz.f62]
  refine awp_step dr62 (by decide +kernel) ?_
  simp only [go_sem]
  refine awp_step dr62 (by decide +kernel) ?_
  simp only [go_sem, hb, portB, hp]
  have hl1 : (p.vram ++ (p.cram ++ p.regs)).length = 16427 := by simp [hp.vram, hp.cram, hp.regs]
  have key : ∀ (H' : Heap) (n' : Nat) (el : TypeId) (c : Nat) (ro : Bool) (K : AV → Heap → Nat → Prop) (bx : Nat), n ≤ n' → (∀ i, i < n → H' i = H i) → H' bx = some ⟨[.sl b 0 16384 16384, .sl b 16384 32 32, .sl b 16416 11 11], el, ro⟩ →
      K (.su n' 0 16427 1) (H'.upd n' (some ⟨(p.vram ++ (p.cram ++ p.regs)).map .u8, 5, false⟩)) (n' + 1) → ACalls Tryz.prog 61 [.sl bx 0 3 c] H' n' K := by
    intro H' n' el c ro K bx hn hag hbx hk
    have e : [p.vram, p.cram, p.regs].flatten = p.vram ++ (p.cram ++ p.regs) := by simp
    have hb' : H' b = some (portB p) := by rw [hag b hbn]; exact hb
    refine port_concat bx c ro el _ [p.vram, p.cram, p.regs] H' n' K hbx rfl ?_ (by rw [e, hl1]; decide) (by rw [e, hl1]; decide) (by simp) (by rw [e, hl1]; exact hk)
    intro i hi
    obtain rfl | rfl | rfl : i = 0 ∨ i = 1 ∨ i = 2 := by simp at hi; omega
    · show bytesIn H' (.sl b 0 16384 16384) p.vram
      exact .sl (blk := portB p) hb' hp.vram.symm (Nat.le_refl _) (by simp only [portB, hp.vram, List.drop_zero, PortS.get_allvram hp]) (by simp only [portB, PortS.len hp, hp.vram]; omega)
    · show bytesIn H' (.sl b 16384 32 32) p.cram
      exact .sl (blk := portB p) hb' hp.cram.symm (Nat.le_refl _) (by simp only [portB, hp.cram, PortS.get_allcram hp]) (by simp only [portB, PortS.len hp, hp.cram]; omega)
    · show bytesIn H' (.sl b 16416 11 11) p.regs
      exact .sl (blk := portB p) hb' hp.regs.symm (Nat.le_refl _) (by simp only [portB, hp.regs, PortS.get_allregs hp]) (by simp only [portB, PortS.len hp, hp.regs]; omega)
  have hc : ∀ s, (if p.sec then 1#8 else 0#8) = s → List.take 16427 (List.map AV.u8 (p.vram ++ (p.cram ++ p.regs))) ++ [AV.u8 (BitVec.setWidth 8 p.addr), AV.u8 (BitVec.setWidth 8 (p.addr >>> 8)), AV.u8 p.code, AV.u8 p.low, AV.u8 s, AV.u8 p.buf] = (dumpL p).map .u8 := by
    rintro s rfl
    rw [List.take_of_length_le (by rw [List.length_map, hl1]; exact Nat.le_refl _)]
    simp only [dumpL, List.map_append, List.map_cons, List.map_nil, List.append_assoc]
  cases hs : p.sec
  · refine ⟨nofun, fun _ => ?_⟩
    refine awp_seq (awp_tree td62_4 tr62_4 (by decide +kernel) (by decide +kernel) ?_)
    simp only [go_sem, hb, portB, hp, hbn]
    refine ⟨⟨?_, ?_⟩, ?_⟩
    all_goals
      refine key _ _ 33 3 false _ _ (by omega) (fun i hi => by simp only [go_sem, hi]) (by simp only [go_sem]) ?_
      simp only [go_sem, hb, portB, hp, hbn]
      refine ⟨by rw [List.length_map, hl1]; exact Nat.le_refl _, ?_⟩
      rw [hc _ (by rw [hs]; rfl)]
      refine awp_ev dr0 (by decide +kernel) ?_
      simp only [go_sem]
      exact Fin.one (n + 3) wf h (by omega) (by simp only [go_sem]) (fun i hi => by simp only [go_sem, hi]) map_u8_ok (by simp [AV.ren]) (by simp [AV.ok])
  · refine ⟨fun _ => ?_, nofun⟩
    refine awp_seq (awp_tree td62_4 tr62_4 (by decide +kernel) (by decide +kernel) ?_)
    simp only [go_sem, hb, portB, hp, hbn]
    refine ⟨⟨?_, ?_⟩, ?_⟩
    all_goals
      refine key _ _ 33 3 false _ _ (by omega) (fun i hi => by simp only [go_sem, hi]) (by simp only [go_sem]) ?_
      simp only [go_sem, hb, portB, hp, hbn]
      refine ⟨by rw [List.length_map, hl1]; exact Nat.le_refl _, ?_⟩
      rw [hc _ (by rw [hs]; rfl)]
      refine awp_ev dr0 (by decide +kernel) ?_
      simp only [go_sem]
      exact Fin.one (n + 3) wf h (by omega) (by simp only [go_sem]) (fun i hi => by simp only [go_sem, hi]) map_u8_ok (by simp [AV.ren]) (by simp [AV.ok])
end Go.Proofs.Joy
namespace Go.Proofs.Joy
open Go.Ab Go.Proofs

set_option maxHeartbeats 1000000
set_option maxRecDepth 20000

theorem dots_within (t : Int) (H : Heap) (n : Nat) (K : AV → Heap → Nat → Prop) (h : K (.i64 (t % 59736)) H n) : ACalls Tryz.prog 74 [.i64 t] H n K := by
  refine ACalls.of_ev dr0 Tryz.func74 rfl (by decide +kernel) (by decide +kernel) (show 1 ≤ 10 by decide) (by simp) fun wf => ?_
  simp only [go_sem, Tryz.f74]
  have e := tmod_pos t 59736 (by decide)
  have h1 := Int.emod_nonneg t (show (59736 : Int) ≠ 0 by decide)
  have h2 := Int.emod_lt_of_pos t (show (0 : Int) < 59736 by decide)
  refine ⟨fun a1 => ?_, fun a1 => ?_⟩
  · rw [if_pos a1] at e
    rw [e, wrap_id _ (by omega) (by omega)]
    exact Fin.back wf h (fun _ _ => rfl) rfl
  · rw [if_neg a1] at e
    rw [e]
    exact Fin.back wf h (fun _ _ => rfl) rfl
theorem dots_line (t : Int) (H : Heap) (n : Nat) (K : AV → Heap → Nat → Prop) (h : K (.i64 (lineS t)) H n) : ACalls Tryz.prog 38 [.i64 t] H n K := by
  refine ACalls.of_ev dr0 Tryz.func38 rfl (by decide +kernel) (by decide +kernel) (show 1 ≤ 6 by decide) (by simp) fun wf => ?_
  simp only [go_sem, Tryz.f38]
  refine dots_within _ _ _ _ ?_
  have e : wrap64 ((t % 59736).tdiv 228) = lineS t := by unfold lineS; rw [Int.tdiv_eq_ediv_of_nonneg (by omega), wrap_id _ (by omega) (by omega)]
  simp only [go_sem, e]
  exact Fin.back wf h (fun _ _ => rfl) rfl
theorem dots_next (t : Int) (H : Heap) (n : Nat) (K : AV → Heap → Nat → Prop) (h : K (.i64 (nextS t)) H n) : ACalls Tryz.prog 37 [.i64 t] H n K := by
  refine ACalls.of_ev dr0 Tryz.func37 rfl (by decide +kernel) (by decide +kernel) (show 1 ≤ 7 by decide) (by simp) fun wf => ?_
  simp only [go_sem, Tryz.f37]
  refine dots_within _ _ _ _ ?_
  have e : wrap64 (228 - (t % 59736).tmod 228) = nextS t := by unfold nextS; rw [Int.tmod_eq_emod_of_nonneg (by omega), wrap_id _ (by omega) (by omega)]
  simp only [go_sem, e]
  exact Fin.back wf h (fun _ _ => rfl) rfl
theorem dots_dot (t : Int) (H : Heap) (n : Nat) (K : AV → Heap → Nat → Prop) (h : K (.i64 (dotC t)) H n) : ACalls Tryz.prog 55 [.i64 t] H n K := by
  refine ACalls.of_ev dr0 Tryz.func55 rfl (by decide +kernel) (by decide +kernel) (show 1 ≤ 8 by decide) (by simp) fun wf => ?_
  simp only [go_sem, Tryz.f55]
  refine dots_within _ _ _ _ ?_
  have e : wrap64 ((wrap64 ((t % 59736).tmod 228 * 3)).tdiv 2) = dotC t := by
    unfold dotC
    rw [Int.tmod_eq_emod_of_nonneg (by omega), wrap_id (_ * 3) (by omega) (by omega), Int.tdiv_eq_ediv_of_nonneg (by omega), wrap_id _ (by omega) (by omega)]
  simp only [go_sem, e]
  exact Fin.back wf h (fun _ _ => rfl) rfl
theorem dots_v (x : Int) (H : Heap) (n : Nat) (K : AV → Heap → Nat → Prop) (h : K (.u8 (vS x)) H n) : ACalls Tryz.prog 53 [.i64 x] H n K := by
  refine ACalls.of_ev dr0 Tryz.func53 rfl (by decide +kernel) (by decide +kernel) (show 1 ≤ 18 by decide) (by simp) fun wf => ?_
  simp only [go_sem, Tryz.f53]
  unfold vS at h
  by_cases h1 : x < 0
  · rw [if_pos (.inl h1)] at h
    simp only [go_sem, h1]
    exact Fin.back wf h (fun _ _ => rfl) rfl
  by_cases h2 : 262 ≤ x
  · rw [if_pos (.inr h2)] at h
    simp only [go_sem, h1, h2]
    exact Fin.back wf h (fun _ _ => rfl) rfl
  rw [if_neg (by omega)] at h
  have e : wrap64 (x - 6) = x - 6 := wrap_id _ (by omega) (by omega)
  by_cases h3 : 218 < x
  · rw [if_pos h3] at h
    simp only [go_sem, h1, h2, h3, e]
    exact Fin.back wf h (fun _ _ => rfl) rfl
  · rw [if_neg h3] at h
    simp only [go_sem, h1, h2, h3, e]
    exact Fin.back wf h (fun _ _ => rfl) rfl
theorem dots_h (x : Int) (H : Heap) (n : Nat) (K : AV → Heap → Nat → Prop) (h : K (.u8 (hS x)) H n) : ACalls Tryz.prog 54 [.i64 x] H n K := by
  refine ACalls.of_ev dr0 Tryz.func54 rfl (by decide +kernel) (by decide +kernel) (show 1 ≤ 21 by decide) (by simp) fun wf => ?_
  simp only [go_sem, Tryz.f54]
  unfold hS at h
  by_cases h1 : x < 0
  · rw [if_pos (.inl h1)] at h
    simp only [go_sem, h1]
    exact Fin.back wf h (fun _ _ => rfl) rfl
  by_cases h2 : 342 ≤ x
  · rw [if_pos (.inr h2)] at h
    simp only [go_sem, h1, h2]
    exact Fin.back wf h (fun _ _ => rfl) rfl
  rw [if_neg (by omega)] at h
  have e0 : wrap64 (x.tdiv 2) = x / 2 := by rw [Int.tdiv_eq_ediv_of_nonneg (by omega), wrap_id _ (by omega) (by omega)]
  have e : wrap64 (x / 2 + 85) = x / 2 + 85 := wrap_id _ (by omega) (by omega)
  by_cases h3 : 148 ≤ x / 2
  · rw [if_pos h3] at h
    simp only [go_sem, h1, h2, e0, h3, e]
    exact Fin.back wf h (fun _ _ => rfl) rfl
  · rw [if_neg h3] at h
    simp only [go_sem, h1, h2, e0, h3, e]
    exact Fin.back wf h (fun _ _ => rfl) rfl
end Go.Proofs.Joy
namespace Go.Proofs.Joy
open Go.Ab Go.Proofs

set_option maxHeartbeats 1000000
set_option maxRecDepth 20000

def eC (e : E) : List AV := [.u8 e.c, .bo e.l, .bo e.f, .bo e.o, .bo e.k]
def vdpB (q : Nat) (v : VdpS) : Blk := ⟨.pt q 0 :: .u8 v.e.c :: .bo v.e.l :: .bo v.e.f :: .bo v.e.o :: .bo v.e.k :: .i64 v.now :: v.scr.map .u8, 61, false⟩
theorem vdpB_ok {q n : Nat} (h : q < n) (v : VdpS) : ∀ y ∈ (vdpB q v).cells, y.ok n = true := by
  intro y hy
  simp only [vdpB, List.mem_cons, List.mem_map] at hy
  rcases hy with rfl | rfl | rfl | rfl | rfl | rfl | rfl | ⟨x, -, rfl⟩ <;> simp [AV.ok, h]
structure VdS where
  X : Heap
  m : Nat

theorem begin_ok (b q : Nat) (p : PortS) (hp : p.lens) (v : VdpS) (hs : v.scr.length = 49152) (line : Int) (hl : 0 ≤ line ∧ line < 262) (H : Heap) (n : Nat) (K : AV → Heap → Nat → Prop) (hb : H b = some (vdpB q v)) (hq : H q = some (portB p)) (hbq : b ≠ q)
    (h : K (.tu []) (H.upd b (some (vdpB q (beginV p v line)))) n) : ACalls Tryz.prog 34 [.pt b 0, .i64 line] H n K := by
  refine ACalls.of_awp Tryz.func34 rfl (by decide +kernel) (show 2 ≤ 59 by decide) (by simp) fun wf => ?_
  have hbn := (wf b _ hb).1
  have hqn := (wf q _ hq).1
  have hb' : H b = some ⟨.pt q 0 :: .u8 v.e.c :: .bo v.e.l :: .bo v.e.f :: .bo v.e.o :: .bo v.e.k :: .i64 v.now :: v.scr.map .u8, 61, false⟩ := hb
  have hlen : (v.scr.map AV.u8).length = 49152 := by rw [List.length_map, hs]
  have hdl : (drawV p v line).scr.length = 49152 := by
    unfold drawV; split
    · unfold rowAt; rw [splice_len' _ _ _ (by rw [lineC_len]; omega)]; exact hs
    · exact hs
  have he : (drawV p v line).e = ⟨(drawV p v line).e.c, (drawV p v line).e.l, (drawV p v line).e.f, (drawV p v line).e.o, (drawV p v line).e.k⟩ := rfl
  simp only [Tryz.f34]
  refine awp_seqF (S := VdS) (fun _ => [(0, .pt b 0), (1, .i64 line)]) (fun t => t.X) (fun t => t.m) (fun t => t.X.wf t.m ∧ n ≤ t.m ∧ t.X b = some (vdpB q (drawV p v line)) ∧ t.X q = some (portB p) ∧ ∀ i, i < n → i ≠ b → t.X i = H i)
    (fun t ht => ⟨ht.1, Env.okAt_of2 (by simp [AV.ok]; omega)⟩) ?_ ?_
  · refine awp_ev dr34 (by decide +kernel) ?_
    by_cases h192 : ¬ line < 192
    · have e0 : drawV p v line = v := if_neg h192
      simp only [go_sem, h192]
      exact Ends.mk (⟨H, n⟩ : VdS) ⟨wf, Nat.le_refl _, by rw [e0]; exact hb, hq, fun _ _ _ => rfl⟩ (by repeat (first | exact Env.le_nil _ | refine Env.le_cons rfl ?_)) (fun _ _ => rfl) (Nat.le_refl _) (Nat.le_refl _)
    replace h192 := Decidable.not_not.1 h192
    simp only [go_sem, h192, hb', List.length_cons, hlen]
    refine port_vram q p hp _ _ _ hq ?_
    simp only [go_sem, hb', hbn, hqn, List.length_cons, hlen]
    refine port_cram q p hp _ _ _ (by rw [Heap.upd_ne _ _ (by omega)]; exact hq) ?_
    simp only [go_sem, hb', hbn, hqn, List.length_cons, hlen]
    refine port_regs q p hp _ _ _ (by rw [Heap.upd_ne _ _ (by omega), Heap.upd_ne _ _ (by omega)]; exact hq) ?_
    simp only [go_sem, hb', hbn, hqn, List.length_cons, hlen]
    refine draw_ok _ _ p.vram p.cram p.regs hp.regs line (by omega) _ _ _ (.wholeU (by rw [Heap.upd_ne _ _ (by omega)]; exact Heap.upd_same _ _ _) hp.vram.symm) (.wholeU (Heap.upd_same _ _ _) hp.cram.symm) ?_
    have gL : ∃ L, L = (lineC p.vram p.cram p.regs line).map AV.u8 ++ [AV.bo (lineO p.vram p.regs line), AV.bo (lineM p.vram p.regs line)] ∧ L.length = 258 ∧ L.take 256 = (lineC p.vram p.cram p.regs line).map AV.u8 ∧ L.getD 256 .junk = .bo (lineO p.vram p.regs line) ∧ L.getD 257 .junk = .bo (lineM p.vram p.regs line) ∧ (∀ k, ∀ y ∈ L, y.ok k = true) := by
      refine ⟨_, rfl, ?_, ?_, ?_, ?_, fun k => picB_ok (lineC p.vram p.cram p.regs line) _ _ k⟩
      · rw [List.length_append, List.length_map, lineC_len]; rfl
      · rw [List.take_append_of_le_length (by rw [List.length_map, lineC_len]; exact Nat.le_refl _), List.take_of_length_le (by rw [List.length_map, lineC_len]; exact Nat.le_refl _)]
      · rw [getD_app_r (by rw [List.length_map, lineC_len]; exact Nat.le_refl _), List.length_map, lineC_len]; rfl
      · rw [getD_app_r (by rw [List.length_map, lineC_len]; omega), List.length_map, lineC_len]; rfl
    obtain ⟨L, eL, ll, tL, oL, mL, kL⟩ := gL
    rw [← eL]
    clear eL
    have l3 : (List.replicate 256 (AV.u8 0#8) ++ [AV.bo false, AV.bo false]).length = 258 := by simp
    have es : splice (List.replicate 256 (AV.u8 0#8) ++ [AV.bo false, AV.bo false]) 0 L = L := by simp [splice, ll]
    obtain ⟨k, rfl⟩ := Int.eq_ofNat_of_zero_le hl.1
    have hk : k < 192 := by omega
    have wk : wrap64 ((k : Int) * 256) = ((k * 256 : Nat) : Int) := by rw [wrap_id _ (by omega) (by omega)]; omega
    have ne : (49152 = k * 256) = False := eq_false (by omega)
    have mn : min 256 (49152 - k * 256) = 256 := by omega
    have lc : (lineC p.vram p.cram p.regs k).length = 256 := lineC_len _ _ _ _
    have tk : ((lineC p.vram p.cram p.regs k).map AV.u8).take 256 = (lineC p.vram p.cram p.regs k).map AV.u8 := List.take_of_length_le (by rw [List.length_map, lc]; exact Nat.le_refl _)
    have sl : (splice v.scr (k * 256) (lineC p.vram p.cram p.regs k)).length = 49152 := by rw [splice_len' _ _ _ (by rw [lc]; omega), hs]
    have slm : ((splice v.scr (k * 256) (lineC p.vram p.cram p.regs k)).map AV.u8).length = 49152 := by rw [List.length_map, sl]
    have ne' : ¬ ((49152 : Int) = ((k * 256 : Nat) : Int)) := by omega
    have i0 : (0 : Int) ≤ ((k * 256 : Nat) : Int) := by omega
    have i1 : ((k * 256 : Nat) : Int) ≤ 49152 := by omega
    simp only [go_sem, hb', hbn, hqn, List.length_cons, hlen, ll, l3, es, wk, ne, ne', mn, tL, tk, oL, mL, splice7, splice_map8, slm, i0, i1, if_false]
    refine ⟨by omega, ?_⟩
    refine ev_drawn _ _ _ _ _ _ _ _ _ _ ?_
    simp only [go_sem, hb', hbn, hqn, List.length_cons, hlen, ll, slm, oL, mL]
    have eD : drawV p v (k : Int) = ⟨⟨v.e.c, v.e.l, v.e.f, v.e.o || lineO p.vram p.regs k, v.e.k || lineM p.vram p.regs k⟩, v.now, splice v.scr (k * 256) (lineC p.vram p.cram p.regs k)⟩ := by
      unfold drawV; rw [if_pos h192]; unfold rowAt; rw [Int.toNat_natCast]
    have key : ∀ B, B = vdpB q (drawV p v (k : Int)) → ∀ e, Env.le [(0, .pt b 0), (1, .i64 k)] e → Go.Ab.Ends (fun _ : VdS => [(0, .pt b 0), (1, .i64 k)]) (fun t => t.X) (fun t => t.m) (fun t => t.X.wf t.m ∧ n ≤ t.m ∧ t.X b = some (vdpB q (drawV p v k)) ∧ t.X q = some (portB p) ∧ ∀ i, i < n → i ≠ b → t.X i = H i) n e
        ((((H.upd n (some ⟨p.vram.map AV.u8, 5, false⟩)).upd (n + 1) (some ⟨p.cram.map AV.u8, 5, false⟩)).upd (n + 2) (some ⟨L, 92, false⟩)).upd b (some B)) (n + 3) := fun B hB e he => by
      subst hB
      exact Go.Ab.Ends.mk (⟨(((H.upd n (some ⟨p.vram.map AV.u8, 5, false⟩)).upd (n + 1) (some ⟨p.cram.map AV.u8, 5, false⟩)).upd (n + 2) (some ⟨L, 92, false⟩)).upd b (some (vdpB q (drawV p v (k : Int)))), n + 3⟩ : VdS)
        ⟨Heap.wf_set (Heap.wf_upd (Heap.wf_upd (Heap.wf_upd wf map_u8_ok) map_u8_ok) (kL _)) (show b < n + 3 by omega) (vdpB_ok (show q < n + 3 by omega) _), by simp only; omega, Heap.upd_same _ _ _,
          by simp only; rw [Heap.upd_ne _ _ (fun e => hbq e.symm), Heap.upd_ne _ _ (by omega), Heap.upd_ne _ _ (by omega), Heap.upd_ne _ _ (by omega)]; exact hq,
          fun i hi hib => by simp only; rw [Heap.upd_ne _ _ hib, Heap.upd_ne _ _ (by omega), Heap.upd_ne _ _ (by omega), Heap.upd_ne _ _ (by omega)]⟩ he (fun _ _ => rfl) (by simp only; omega) (Nat.le_refl _)
    refine key _ (by rw [eD]; rfl) _ ?_
    exact (by repeat (first | exact Env.le_nil _ | refine Env.le_cons rfl ?_))
  rintro ⟨X, m⟩ ⟨xw, hnm, xb, xq, xo⟩
  simp only at xw hnm xb xq xo ⊢
  unfold beginV at h
  generalize drawV p v line = w at h xb hdl
  have xb' : X b = some ⟨.pt q 0 :: .u8 w.e.c :: .bo w.e.l :: .bo w.e.f :: .bo w.e.o :: .bo w.e.k :: .i64 w.now :: w.scr.map .u8, 61, false⟩ := xb
  have hlen2 : (w.scr.map AV.u8).length = 49152 := by rw [List.length_map, hdl]
  refine awp_ev dr34 (by decide +kernel) ?_
  simp only [go_sem, xb', List.length_cons, hlen2]
  refine port_reg q p hp _ _ _ _ xq ?_
  simp only [go_sem, xb', List.length_cons, hlen2]
  refine ev_start _ _ _ _ _ _ _ _ _ _ ?_
  simp only [go_sem, xb', List.length_cons, hlen2]
  refine Fin.putb (blk := vdpB q ⟨startS w.e line (p.regs.getD 10 0#8), w.now, w.scr⟩) wf hbn (vdpB_ok hqn _) h (fun i hi => ?_) rfl
  by_cases hib : i = b
  · subst hib; rw [Heap.upd_same, Heap.upd_same]; rfl
  · rw [Heap.upd_ne _ _ hib, Heap.upd_ne _ _ hib]; exact xo i hi hib
end Go.Proofs.Joy
namespace Go.Proofs.Joy
open Go.Ab Go.Proofs

set_option maxHeartbeats 1000000
set_option maxRecDepth 20000

structure ToS where
  v : VdpS
  f : Nat

theorem to_ok (b q : Nat) (p : PortS) (hp : p.lens) (v : VdpS) (hs : v.scr.length = 49152) (hnw : 0 ≤ v.now ∧ v.now ≤ 4000000000000000000) (t : Int) (ht : -4000000000000000000 ≤ t ∧ t ≤ 4000000000000000000) (H : Heap) (n : Nat) (K : AV → Heap → Nat → Prop) (hb : H b = some (vdpB q v)) (hq : H q = some (portB p)) (hbq : b ≠ q)
    (h : K (.tu []) (H.upd b (some (vdpB q (toV p t (t - v.now).toNat v)))) n) : ACalls Tryz.prog 7 [.pt b 0, .i64 t] H n K := by
  refine ACalls.of_awp Tryz.func7 rfl (by decide +kernel) (show 2 ≤ 43 by decide) (by simp) fun wf => ?_
  have hbn := (wf b _ hb).1
  have hqn := (wf q _ hq).1
  simp only [Tryz.f7]
  have upq : ∀ V, (H.upd b V) q = some (portB p) := fun V => by rw [Heap.upd_ne _ _ (fun e => hbq e.symm)]; exact hq
  refine awp_block ?_
  refine awp_loopF (S := ToS) (fun _ => [(0, .pt b 0), (1, .i64 t)]) (fun s => H.upd b (some (vdpB q s.v))) (fun _ => n) (fun s => s.v.scr.length = 49152 ∧ 0 ≤ s.v.now ∧ s.v.now ≤ 4000000000000000228 ∧ (t - s.v.now).toNat ≤ s.f ∧ toV p t s.f s.v = toV p t (t - v.now).toNat v) (fun s => s.f)
    (fun s _ => ⟨Heap.wf_set wf hbn (vdpB_ok hqn _), Env.okAt_of2 (by simp [AV.ok, hbn])⟩) ?_ (⟨v, (t - v.now).toNat⟩ : ToS) ⟨hs, hnw.1, by simp only; omega, Nat.le_refl _, rfl⟩ (by repeat (first | exact Env.le_nil _ | refine Env.le_cons rfl ?_)) (fun k _ => by
      by_cases e : k = b
      · subst e; rw [hb]; simp only [Heap.upd_same]
      · simp only [Heap.upd_ne _ _ e]) rfl
  rintro ⟨w, f⟩ ⟨h1, h2, h3, h4, h5⟩
  simp only at h1 h2 h3 h4 h5 ⊢
  have wb : (H.upd b (some (vdpB q w))) b = some ⟨.pt q 0 :: .u8 w.e.c :: .bo w.e.l :: .bo w.e.f :: .bo w.e.o :: .bo w.e.k :: .i64 w.now :: w.scr.map .u8, 61, false⟩ := Heap.upd_same _ _ _
  have hlen : (w.scr.map AV.u8).length = 49152 := by rw [List.length_map, h1]
  refine awp_step dr0 (by decide +kernel) ?_
  simp only [go_sem, wb, List.length_cons, hlen]
  have hn := nextS_le w.now
  have fin : f = 0 ∨ ¬ w.now < t → K (.tu []) (H.upd b (some (vdpB q w))) n := fun c => by
    have : toV p t f w = w := by
      cases f with
      | zero => rfl
      | succ f => rw [toV_succ, if_neg (by omega)]
    rw [← h5, this] at h; exact h
  have finb : ∀ w' : VdpS, K (.tu []) (H.upd b (some (vdpB q w'))) n → Fin n (.tu []) (H.upd b (some (vdpB q w'))) n K := fun w' hk => Fin.putb wf hbn (vdpB_ok hqn _) hk (fun _ _ => rfl) rfl
  refine ⟨fun c1 => ?_, fun c1 => finb w (fin (.inr c1))⟩
  have wn := upq (some (vdpB q w))
  refine awp_block ?_
  refine awp_step dr0 (by decide +kernel) ?_
  simp only [go_sem, wb, List.length_cons, hlen]
  refine dots_next _ _ _ _ ?_
  have w1 : wrap64 (t - w.now) = t - w.now := wrap_id _ (by omega) (by omega)
  have w2 : wrap64 (w.now + nextS w.now) = w.now + nextS w.now := wrap_id _ (by omega) (by omega)
  simp only [go_sem]
  refine awp_ev dr0 (by decide +kernel) ?_
  simp only [go_sem, wb, List.length_cons, hlen, w1, w2]
  obtain ⟨g, rfl⟩ : ∃ g, f = g + 1 := ⟨f - 1, by omega⟩
  rw [toV_succ, if_pos c1] at h5
  refine ⟨fun c2 => ?_, fun c2 => ?_⟩
  · rw [if_pos c2] at h5
    rw [← h5] at h
    exact finb ⟨w.e, t, w.scr⟩ h
  · rw [if_neg c2] at h5
    refine dots_line _ _ _ _ ?_
    simp only [go_sem]
    have ll := lineS_le (w.now + nextS w.now)
    refine begin_ok b q p hp ⟨w.e, w.now + nextS w.now, w.scr⟩ h1 _ ll _ _ _ (Heap.upd_same _ _ _) (upq _) hbq ?_
    simp only [go_sem]
    exact Ends.mk (⟨beginV p ⟨w.e, w.now + nextS w.now, w.scr⟩ (lineS (w.now + nextS w.now)), g⟩ : ToS) ⟨by simp only; omega, beginV_len p ⟨w.e, w.now + nextS w.now, w.scr⟩ h1 ll.1, by simp only [beginV_now]; omega, by simp only [beginV_now]; omega, by simp only [beginV_now]; omega, h5⟩ (by repeat (first | exact Env.le_nil _ | refine Env.le_cons rfl ?_)) (fun k _ => rfl) (Nat.le_refl _) (Nat.le_refl _)
end Go.Proofs.Joy
namespace Go.Proofs.Joy
open Go.Ab Go.Proofs

set_option maxHeartbeats 1000000
set_option maxRecDepth 20000

theorem vdp_now (b q : Nat) (v : VdpS) (hs : v.scr.length = 49152) (H : Heap) (n : Nat) (K : AV → Heap → Nat → Prop) (hb : H b = some (vdpB q v)) (h : K (.i64 v.now) H n) : ACalls Tryz.prog 22 [.pt b 0] H n K := by
  refine ACalls.of_awp Tryz.func22 rfl (by decide +kernel) (show 1 ≤ 7 by decide) (by simp) fun wf => ?_
  have hb' : H b = some ⟨.pt q 0 :: .u8 v.e.c :: .bo v.e.l :: .bo v.e.f :: .bo v.e.o :: .bo v.e.k :: .i64 v.now :: v.scr.map .u8, 61, false⟩ := hb
  have hlen : (v.scr.map AV.u8).length = 49152 := by rw [List.length_map, hs]
  refine awp_ev dr0 (by decide +kernel) ?_
  simp only [go_sem, Tryz.f22, hb', List.length_cons, hlen]
  exact Fin.back wf h (fun _ _ => rfl) rfl
theorem vdp_tell (b q : Nat) (p : PortS) (hp : p.lens) (v : VdpS) (hs : v.scr.length = 49152) (x : BitVec 8) (H : Heap) (n : Nat) (K : AV → Heap → Nat → Prop) (hb : H b = some (vdpB q v)) (hq : H q = some (portB p))
    (h : K (.tu []) (H.upd q (some (portB (controlS p x)))) n) : ACalls Tryz.prog 13 [.pt b 0, .u8 x] H n K := by
  refine ACalls.of_awp Tryz.func13 rfl (by decide +kernel) (show 2 ≤ 10 by decide) (by simp) fun wf => ?_
  have hb' : H b = some ⟨.pt q 0 :: .u8 v.e.c :: .bo v.e.l :: .bo v.e.f :: .bo v.e.o :: .bo v.e.k :: .i64 v.now :: v.scr.map .u8, 61, false⟩ := hb
  have hlen : (v.scr.map AV.u8).length = 49152 := by rw [List.length_map, hs]
  refine awp_ev dr0 (by decide +kernel) ?_
  simp only [go_sem, Tryz.f13, hb', List.length_cons, hlen]
  refine port_control q p hp x _ _ _ hq ?_
  simp only [go_sem]
  exact Fin.keep h
theorem vdp_data (b q : Nat) (p : PortS) (hp : p.lens) (ha : p.addr.toNat < 16384) (v : VdpS) (hs : v.scr.length = 49152) (x : BitVec 8) (H : Heap) (n : Nat) (K : AV → Heap → Nat → Prop) (hb : H b = some (vdpB q v)) (hq : H q = some (portB p))
    (h : K (.tu []) (H.upd q (some (portB (writeS p x)))) n) : ACalls Tryz.prog 9 [.pt b 0, .u8 x] H n K := by
  refine ACalls.of_awp Tryz.func9 rfl (by decide +kernel) (show 2 ≤ 10 by decide) (by simp) fun wf => ?_
  have hb' : H b = some ⟨.pt q 0 :: .u8 v.e.c :: .bo v.e.l :: .bo v.e.f :: .bo v.e.o :: .bo v.e.k :: .i64 v.now :: v.scr.map .u8, 61, false⟩ := hb
  have hlen : (v.scr.map AV.u8).length = 49152 := by rw [List.length_map, hs]
  refine awp_ev dr0 (by decide +kernel) ?_
  simp only [go_sem, Tryz.f9, hb', List.length_cons, hlen]
  refine port_write q p hp ha x _ _ _ hq ?_
  simp only [go_sem]
  exact Fin.keep h
theorem vdp_counters (b q : Nat) (v : VdpS) (hs : v.scr.length = 49152) (H : Heap) (n : Nat) (K : AV → Heap → Nat → Prop) (hb : H b = some (vdpB q v)) (h : K (.tu [.u8 (vS (lineS v.now)), .u8 (hS (dotC v.now))]) H n) : ACalls Tryz.prog 21 [.pt b 0] H n K := by
  refine ACalls.of_awp Tryz.func21 rfl (by decide +kernel) (show 1 ≤ 16 by decide) (by simp) fun wf => ?_
  have hb' : H b = some ⟨.pt q 0 :: .u8 v.e.c :: .bo v.e.l :: .bo v.e.f :: .bo v.e.o :: .bo v.e.k :: .i64 v.now :: v.scr.map .u8, 61, false⟩ := hb
  have hlen : (v.scr.map AV.u8).length = 49152 := by rw [List.length_map, hs]
  refine awp_ev dr21 (by decide +kernel) ?_
  simp only [go_sem, Tryz.f21, hb', List.length_cons, hlen]
  refine dots_line _ _ _ _ ?_
  simp only [go_sem, hb', List.length_cons, hlen]
  refine dots_v _ _ _ _ ?_
  simp only [go_sem, hb', List.length_cons, hlen]
  refine dots_dot _ _ _ _ ?_
  simp only [go_sem, hb', List.length_cons, hlen]
  refine dots_h _ _ _ _ ?_
  simp only [go_sem, hb', List.length_cons, hlen]
  exact Fin.back wf h (fun _ _ => rfl) rfl
theorem vdp_asks (b q : Nat) (p : PortS) (hp : p.lens) (v : VdpS) (hs : v.scr.length = 49152) (H : Heap) (n : Nat) (K : AV → Heap → Nat → Prop) (hb : H b = some (vdpB q v)) (hq : H q = some (portB p))
    (h : K (.bo (asksS v.e (p.regs.getD 0 0#8) (p.regs.getD 1 0#8))) H n) : ACalls Tryz.prog 23 [.pt b 0] H n K := by
  refine ACalls.of_awp Tryz.func23 rfl (by decide +kernel) (show 1 ≤ 18 by decide) (by simp) fun wf => ?_
  have hb' : H b = some ⟨.pt q 0 :: .u8 v.e.c :: .bo v.e.l :: .bo v.e.f :: .bo v.e.o :: .bo v.e.k :: .i64 v.now :: v.scr.map .u8, 61, false⟩ := hb
  have hlen : (v.scr.map AV.u8).length = 49152 := by rw [List.length_map, hs]
  refine awp_ev dr23 (by decide +kernel) ?_
  simp only [go_sem, Tryz.f23, hb', List.length_cons, hlen]
  refine port_reg q p hp _ _ _ _ hq ?_
  simp only [go_sem, hb', List.length_cons, hlen]
  refine port_reg q p hp _ _ _ _ hq ?_
  simp only [go_sem, hb', List.length_cons, hlen]
  refine ev_asks _ _ _ _ _ _ _ _ _ _ ?_
  simp only [go_sem, hb', List.length_cons, hlen]
  exact Fin.back wf h (fun _ _ => rfl) rfl
end Go.Proofs.Joy
namespace Go.Proofs.Joy
open Go.Ab Go.Proofs

set_option maxHeartbeats 1000000
set_option maxRecDepth 20000

theorem vdp_wait (b q : Nat) (p : PortS) (hp : p.lens) (v : VdpS) (hs : v.scr.length = 49152) (H : Heap) (n : Nat) (K : AV → Heap → Nat → Prop) (hb : H b = some (vdpB q v)) (hq : H q = some (portB p))
    (h : K (.i64 (waitV p v)) H n) : ACalls Tryz.prog 25 [.pt b 0] H n K := by
  refine ACalls.of_awp Tryz.func25 rfl (by decide +kernel) (show 1 ≤ 34 by decide) (by simp) fun wf => ?_
  have hb' : H b = some ⟨.pt q 0 :: .u8 v.e.c :: .bo v.e.l :: .bo v.e.f :: .bo v.e.o :: .bo v.e.k :: .i64 v.now :: v.scr.map .u8, 61, false⟩ := hb
  have hlen : (v.scr.map AV.u8).length = 49152 := by rw [List.length_map, hs]
  have hl := lineS_le v.now
  have hn := nextS_le v.now
  have w1 : (wrap64 (lineS v.now + 1)).tmod 262 = (lineS v.now + 1) % 262 := by rw [wrap_id _ (by omega) (by omega), Int.tmod_eq_emod_of_nonneg (by omega)]
  have hw := waitS_le ⟨v.e.c, v.e.l, v.e.f, v.e.o, v.e.k⟩ ((lineS v.now + 1) % 262) (p.regs.getD 10 0#8)
  unfold waitV at h
  rw [show v.e = ⟨v.e.c, v.e.l, v.e.f, v.e.o, v.e.k⟩ from rfl] at h
  refine awp_ev dr25 (by decide +kernel) ?_
  simp only [go_sem, Tryz.f25, hb', List.length_cons, hlen]
  refine dots_line _ _ _ _ ?_
  simp only [go_sem, hb', List.length_cons, hlen, w1]
  refine port_reg q p hp _ _ _ _ hq ?_
  simp only [go_sem, hb', List.length_cons, hlen]
  refine ev_wait _ _ _ _ _ _ _ _ _ _ ?_
  simp only [go_sem, hb', List.length_cons, hlen]
  generalize waitS ⟨v.e.c, v.e.l, v.e.f, v.e.o, v.e.k⟩ ((lineS v.now + 1) % 262) (p.regs.getD 10 0#8) = wv at hw h ⊢
  have w2 : wrap64 (nextS v.now + wrap64 (wrap64 (wv - 1) * 228)) = nextS v.now + (wv - 1) * 228 := by
    rw [wrap_id (wv - 1) (by omega) (by omega), wrap_id (_ * 228) (by omega) (by omega), wrap_id _ (by omega) (by omega)]
  refine ⟨fun a => ?_, fun a => ?_⟩
  · rw [if_pos (by simpa using a)] at h
    exact Fin.back wf h (fun _ _ => rfl) rfl
  · rw [if_neg (by simpa using a)] at h
    refine dots_next _ _ _ _ ?_
    simp only [go_sem, w2]
    exact Fin.back wf h (fun _ _ => rfl) rfl

theorem vdp_screen (b q : Nat) (v : VdpS) (hs : v.scr.length = 49152) (H : Heap) (n : Nat) (K : AV → Heap → Nat → Prop) (hb : H b = some (vdpB q v))
    (h : K (.su n 0 49152 1) (H.upd n (some ⟨v.scr.map .u8, 5, false⟩)) (n + 1)) : ACalls Tryz.prog 32 [.pt b 0] H n K := by
  refine ACalls.of_awp Tryz.func32 rfl (by decide +kernel) (show 1 ≤ 8 by decide) (by simp) fun wf => ?_
  have hb' : H b = some ⟨.pt q 0 :: .u8 v.e.c :: .bo v.e.l :: .bo v.e.f :: .bo v.e.o :: .bo v.e.k :: .i64 v.now :: v.scr.map .u8, 61, false⟩ := hb
  have hlen : (v.scr.map AV.u8).length = 49152 := by rw [List.length_map, hs]
  refine awp_ev dr0 (by decide +kernel) ?_
  simp only [go_sem, Tryz.f32, hb', List.length_cons, hlen]
  refine port_clone _ v.scr _ _ _ (.inr ⟨false, b, 7, 49152, _, by rw [hs]; rfl, by omega, hb', ?_, ?_⟩) (by omega) (by omega) ?_
  · show ((v.scr.map AV.u8)).take v.scr.length = _
    rw [List.take_of_length_le (by rw [List.length_map]; exact Nat.le_refl _)]
  · simp only [List.length_cons, List.length_map]; omega
  · rw [hs]
    simp only [go_sem]
    exact Fin.keep h
end Go.Proofs.Joy
namespace Go.Proofs.Joy
open Go.Ab Go.Proofs

set_option maxHeartbeats 1000000
set_option maxRecDepth 20000

theorem vdp_status (b q : Nat) (p : PortS) (hp : p.lens) (v : VdpS) (hs : v.scr.length = 49152) (H : Heap) (n : Nat) (K : AV → Heap → Nat → Prop) (hb : H b = some (vdpB q v)) (hq : H q = some (portB p)) (hbq : b ≠ q)
    (h : K (.u8 (31 ||| evBit 128 v.e.f ||| evBit 64 v.e.o ||| evBit 32 v.e.k)) ((H.upd q (some (portB (forgetS p)))).upd b (some (vdpB q ⟨clearE v.e, v.now, v.scr⟩))) n) : ACalls Tryz.prog 15 [.pt b 0] H n K := by
  refine ACalls.of_awp Tryz.func15 rfl (by decide +kernel) (show 1 ≤ 23 by decide) (by simp) fun wf => ?_
  have hb' : H b = some ⟨.pt q 0 :: .u8 v.e.c :: .bo v.e.l :: .bo v.e.f :: .bo v.e.o :: .bo v.e.k :: .i64 v.now :: v.scr.map .u8, 61, false⟩ := hb
  have hlen : (v.scr.map AV.u8).length = 49152 := by rw [List.length_map, hs]
  have hbu : ∀ V, (H.upd q V) b = some ⟨.pt q 0 :: .u8 v.e.c :: .bo v.e.l :: .bo v.e.f :: .bo v.e.o :: .bo v.e.k :: .i64 v.now :: v.scr.map .u8, 61, false⟩ := fun V => by rw [Heap.upd_ne _ _ hbq]; exact hb'
  refine awp_ev dr0 (by decide +kernel) ?_
  simp only [go_sem, Tryz.f15, hb', List.length_cons, hlen]
  refine port_forget q p hp _ _ _ hq ?_
  simp only [go_sem, hbu, List.length_cons, hlen]
  refine ev_status _ _ _ _ _ _ _ _ ?_
  have hbn := (wf b _ hb).1
  have hqn := (wf q _ hq).1
  simp only [go_sem, hbu, hbn, List.length_cons, hlen]
  refine Fin.back (Heap.wf_set (Heap.wf_set wf hqn (blk := portB (forgetS p)) (PortS.cells_ok _ _)) hbn (blk := vdpB q ⟨clearE v.e, v.now, v.scr⟩) (vdpB_ok hqn _)) h (fun i hi => ?_) rfl
  by_cases e : i = b
  · subst e; rw [Heap.upd_same, Heap.upd_same]; rfl
  · rw [Heap.upd_ne _ _ e, Heap.upd_ne _ _ e, Heap.upd_ne _ _ (by omega)]
end Go.Proofs.Joy
namespace Go.Proofs.Joy
open Go.Ab Go.Proofs

set_option maxHeartbeats 1000000
set_option maxRecDepth 20000

theorem vdp_new (H : Heap) (n : Nat) (K : AV → Heap → Nat → Prop)
    (h : ∀ H' , H' n = some (portB newS) → H' (n + 1) = some (vdpB n (beginV newS vdp0 0)) → H'.wf (n + 2) → (∀ i, i < n → H' i = H i) → K (.pt (n + 1) 0) H' (n + 2)) : ACalls Tryz.prog 5 [] H n K := by
  refine ACalls.of_awp Tryz.func5 rfl (by decide +kernel) (show 0 ≤ 8 by decide) (by simp) fun wf => ?_
  refine awp_step dr0 (by decide +kernel) ?_
  simp only [go_sem, Tryz.f5]
  refine awp_step dr0 (by decide +kernel) ?_
  simp only [go_sem]
  refine port_new _ _ _ ?_
  simp only [go_sem]
  have er : List.replicate 49152 (AV.u8 0#8) = (List.replicate 49152 0#8).map AV.u8 := List.map_replicate.symm
  rw [er]
  have hs0 : vdp0.scr.length = 49152 := List.length_replicate
  refine awp_gen (fun X => X.wf (n + 2) ∧ X n = some (portB newS) ∧ X (n + 1) = some (vdpB n vdp0) ∧ ∀ i, i < n → X i = H i) ?_ ?_
  · refine ⟨Heap.wf_upd (Heap.wf_upd wf (blk := portB newS) (PortS.cells_ok _ _)) (blk := vdpB n vdp0) (vdpB_ok (by omega) vdp0), by rw [Heap.upd_ne _ _ (by omega), Heap.upd_same], by rw [Heap.upd_same]; rfl, fun i hi => by rw [Heap.upd_ne _ _ (by omega), Heap.upd_ne _ _ (by omega)]⟩
  rintro X ⟨xw, x0, x1, xo⟩
  generalize vdp0 = v0 at h hs0 x1
  have hlen : (v0.scr.map AV.u8).length = 49152 := by rw [List.length_map, hs0]
  refine awp_step dr0 (by decide +kernel) ?_
  simp only [go_sem]
  refine begin_ok (n + 1) n newS newS_ok.lens v0 hs0 0 (by decide) _ _ _ x1 x0 (by omega) ?_
  simp only [go_sem]
  refine awp_ev dr0 (by decide +kernel) ?_
  simp only [go_sem]
  exact Fin.keep (h _ (by rw [Heap.upd_ne _ _ (by omega)]; exact x0) (Heap.upd_same _ _ _) (Heap.wf_set xw (by omega) (vdpB_ok (by omega) _)) (fun i hi => by rw [Heap.upd_ne _ _ (by omega)]; exact xo i hi))
end Go.Proofs.Joy
namespace Go.Proofs.Joy
open Go.Ab Go.Proofs

set_option maxHeartbeats 1000000
set_option maxRecDepth 20000

theorem vdp_alive (H : Heap) (n : Nat) (K : AV → Heap → Nat → Prop) (h : K (.bo true) H n) : ACalls Tryz.prog 4 [] H n K := by
  refine ACalls.of_awp Tryz.func4 rfl (by decide +kernel) (show 0 ≤ 36 by decide) (by simp) fun wf => ?_
  refine awp_step dr0 (by decide +kernel) ?_
  simp only [go_sem, Tryz.f4]
  refine awp_step dr0 (by decide +kernel) ?_
  simp only [go_sem]
  refine vdp_new _ _ _ ?_
  intro X x0 x1 xw xo
  simp only [go_sem]
  have hs0 : (beginV newS vdp0 0).scr.length = 49152 := beginV_len _ _ List.length_replicate (by decide)
  have hn0 : (beginV newS vdp0 0).now = 0 := beginV_now _ _ _
  have he0 : (beginV newS vdp0 0).e = startS ⟨0#8, false, false, false, false⟩ 0 0#8 := begin_e _ _
  generalize beginV newS vdp0 0 = v0 at x1 hs0 hn0 he0
  refine awp_step dr0 (by decide +kernel) ?_
  simp only [go_sem]
  refine awp_step dr0 (by decide +kernel) ?_
  simp only [go_sem]
  refine to_ok (n + 1) n newS newS_ok.lens v0 hs0 (by rw [hn0]; decide) 228 (by decide) _ _ _ x1 x0 (by omega) ?_
  rw [alive_run v0 hn0]
  have hs1 : (beginV newS ⟨v0.e, 228, v0.scr⟩ 1).scr.length = 49152 := beginV_len newS ⟨v0.e, 228, v0.scr⟩ (line := 1) hs0 (by decide)
  have hn1 : (beginV newS ⟨v0.e, 228, v0.scr⟩ 1).now = 228 := beginV_now _ _ _
  have he1 : (beginV newS ⟨v0.e, 228, v0.scr⟩ 1).e = startS (startS ⟨0#8, false, false, false, false⟩ 0 0#8) 1 0#8 := by rw [begin_e, he0]
  generalize beginV newS ⟨v0.e, 228, v0.scr⟩ 1 = v1 at hs1 hn1 he1
  refine awp_gen (fun Y => Y n = some (portB newS) ∧ Y (n + 1) = some (vdpB n v1) ∧ ∀ i, i < n → Y i = H i) ⟨by rw [Heap.upd_ne _ _ (by omega)]; exact x0, Heap.upd_same _ _ _, fun i hi => by rw [Heap.upd_ne _ _ (by omega)]; exact xo i hi⟩ ?_
  rintro Y ⟨y0, y1, yo⟩
  refine awp_step dr0 (by decide +kernel) ?_
  simp only [go_sem]
  refine vdp_counters (n + 1) n v1 hs1 _ _ _ y1 ?_
  rw [hn1, show vS (lineS 228) = 1#8 by decide, show hS (dotC 228) = 0#8 by decide]
  simp only [go_sem]
  refine awp_ev dr0 (by decide +kernel) ?_
  simp only [go_sem]
  refine vdp_now (n + 1) n v1 hs1 _ _ _ y1 ?_
  rw [hn1]
  simp only [go_sem]
  refine vdp_screen (n + 1) n v1 hs1 _ _ _ y1 ?_
  simp only [go_sem]
  refine vdp_status (n + 1) n newS newS_ok.lens v1 hs1 _ _ _ (by rw [Heap.upd_ne _ _ (by omega)]; exact y1) (by rw [Heap.upd_ne _ _ (by omega)]; exact y0) (by omega) ?_
  rw [he1, show (31 ||| evBit 128 (startS (startS ⟨0#8, false, false, false, false⟩ 0 0#8) 1 0#8).f ||| evBit 64 (startS (startS ⟨0#8, false, false, false, false⟩ 0 0#8) 1 0#8).o ||| evBit 32 (startS (startS ⟨0#8, false, false, false, false⟩ 0 0#8) 1 0#8).k : BitVec 8) = 31#8 by decide]
  simp only [go_sem]
  exact Fin.back wf h (fun k hk => by rw [Heap.upd_ne _ _ (by omega), Heap.upd_ne _ _ (by omega), Heap.upd_ne _ _ (by omega)]; exact yo k hk) rfl
end Go.Proofs.Joy
namespace Go.Proofs.Joy
open Go.Ab Go.Proofs

set_option maxHeartbeats 1000000
set_option maxRecDepth 20000

theorem vdp_bit (x : BitVec 8) (y : Bool) (H : Heap) (n : Nat) (K : AV → Heap → Nat → Prop) (h : K (.u8 (evBit x y)) H n) : ACalls Tryz.prog 63 [.u8 x, .bo y] H n K := by
  refine ACalls.of_ev dr0 Tryz.func63 rfl (by decide +kernel) (by decide +kernel) (show 2 ≤ 7 by decide) (by simp) fun wf => ?_
  simp only [go_sem, Tryz.f63]
  refine ⟨fun h1 => ?_, fun h1 => ?_⟩
  · exact Fin.keep (by simpa [evBit, h1] using h)
  · exact Fin.keep (by simpa [evBit, h1] using h)

theorem vdp_dump (b q : Nat) (p : PortS) (hp : p.lens) (v : VdpS) (hs : v.scr.length = 49152) (hnw : 0 ≤ v.now) (H : Heap) (n : Nat) (K : AV → Heap → Nat → Prop) (hb : H b = some (vdpB q v)) (hq : H q = some (portB p))
    (h : K (.su n 0 65591 1) (H.upd n (some ⟨(dumpV p v).map .u8, 5, false⟩)) (n + 1)) : ACalls Tryz.prog 31 [.pt b 0] H n K := by
  refine ACalls.of_awp Tryz.func31 rfl (by decide +kernel) (show 1 ≤ 58 by decide) (by simp) fun wf => ?_
  have hbn := (wf b _ hb).1
  have hqn := (wf q _ hq).1
  have hb' : H b = some ⟨.pt q 0 :: .u8 v.e.c :: .bo v.e.l :: .bo v.e.f :: .bo v.e.o :: .bo v.e.k :: .i64 v.now :: v.scr.map .u8, 61, false⟩ := hb
  have hlen : (v.scr.map AV.u8).length = 49152 := by rw [List.length_map, hs]
  refine awp_step dr31 (by decide +kernel) ?_
  simp only [go_sem, Tryz.f31]
  refine awp_step dr31 (by decide +kernel) ?_
  simp only [go_sem, hb', List.length_cons, hlen]
  refine awp_step dr31 (by decide +kernel) ?_
  simp only [go_sem, hb', hbn, List.length_cons, hlen]
  refine port_dump q p hp _ _ _ (by rw [Heap.upd_ne _ _ (by omega)]; exact hq) ?_
  simp only [go_sem, hb', hbn, List.length_cons, hlen]
  refine vdp_bit _ _ _ _ _ ?_
  simp only [go_sem, hb', hbn, List.length_cons, hlen]
  refine vdp_bit _ _ _ _ _ ?_
  simp only [go_sem, hb', hbn, List.length_cons, hlen]
  refine vdp_bit _ _ _ _ _ ?_
  simp only [go_sem, hb', hbn, List.length_cons, hlen]
  refine vdp_bit _ _ _ _ _ ?_
  simp only [go_sem, hb', hbn, List.length_cons, hlen]
  have hfl : [dumpL p, v.scr, [v.e.c, bitsE v.e]].flatten = dumpL p ++ (v.scr ++ [v.e.c, bitsE v.e]) := by simp
  have hfn : (dumpL p ++ (v.scr ++ [v.e.c, bitsE v.e])).length = 65587 := by simp [dumpL_len hp, hs]
  refine port_concat (n + 3) 3 false 33 [.su (n + 1) 0 16433 1, .sl b 7 49152 49152, .sl (n + 2) 0 2 2] [dumpL p, v.scr, [v.e.c, bitsE v.e]] _ _ _ (Heap.upd_same _ _ _) rfl ?_ (by rw [hfl, hfn]; decide) (by rw [hfl, hfn]; decide) (by simp) ?_
  · intro i hi
    obtain rfl | rfl | rfl : i = 0 ∨ i = 1 ∨ i = 2 := by simp at hi; omega
    · exact bytesIn.wholeU (el := 5) (ro := false) (b := n + 1) (bs := dumpL p) (by repeat (first | rw [Heap.upd_same] | rw [Heap.upd_ne _ _ (by omega)])) (dumpL_len hp).symm
    · refine bytesIn.sl (b := b) (o := 7) (bs := v.scr) (by rw [Heap.upd_ne _ _ (by omega), Heap.upd_ne _ _ (by omega), Heap.upd_ne _ _ (by omega), Heap.upd_ne _ _ (by omega)]; exact hb') hs.symm (Nat.le_refl _) ?_ ?_
      · show ((v.scr.map AV.u8)).take v.scr.length = _
        rw [List.take_of_length_le (by rw [List.length_map]; exact Nat.le_refl _)]
      · simp only [List.length_cons, List.length_map]; omega
    · exact bytesIn.whole (el := 5) (ro := false) (b := n + 2) (bs := [v.e.c, bitsE v.e]) (by rw [Heap.upd_ne _ _ (by omega), Heap.upd_same]; rfl) rfl (Nat.le_refl _)
  rw [hfl, hfn]
  simp only [go_sem, hb', hbn, List.length_cons, hlen]
  refine awp_step dr31 (by decide +kernel) ?_
  simp only [go_sem, hb', hbn, List.length_cons, hlen]
  refine awp_ev dr0 (by decide +kernel) ?_
  simp only [go_sem]
  refine ⟨by rw [List.length_map, hfn]; exact Nat.le_refl _, ?_⟩
  have hcells : List.take 65587 (List.map AV.u8 (dumpL p ++ (v.scr ++ [v.e.c, bitsE v.e]))) ++ [AV.u8 (BitVec.ofInt 8 (v.now.tmod 59736)), AV.u8 (BitVec.ofInt 8 (v.now.tmod 59736 / 2 ^ 8)), AV.u8 (BitVec.ofInt 8 (v.now.tmod 59736 / 2 ^ 16)), AV.u8 (BitVec.ofInt 8 (v.now.tmod 59736 / 2 ^ 24))] = (dumpV p v).map .u8 := by
    rw [List.take_of_length_le (by rw [List.length_map, hfn]; exact Nat.le_refl _), Int.tmod_eq_emod_of_nonneg hnw]
    simp only [dumpV, tailV, List.map_append, List.map_cons, List.map_nil, List.append_assoc, List.cons_append, List.nil_append]
    rfl
  rw [hcells]
  exact Fin.one (n + 6) wf h (by omega) (Heap.upd_same _ _ _) (fun i hi => by repeat (rw [Heap.upd_ne _ _ (by omega)])) map_u8_ok (by simp [AV.ren]) (by simp [AV.ok])
end Go.Proofs.Joy
namespace Go.Proofs.Joy
open Go.Ab Go.Proofs

set_option maxHeartbeats 1000000
set_option maxRecDepth 20000

theorem vdp_load1 (x : BitVec 8) (H : Heap) (n : Nat) (K : AV → Heap → Nat → Prop) (h : K (.bo (decide (63#8 < x))) H n) : ACalls Tryz.prog 51 [.u8 x] H n K := by
  refine ACalls.of_ev dr0 Tryz.func51 rfl (by decide +kernel) (by decide +kernel) (show 1 ≤ 5 by decide) (by simp) fun wf => ?_
  simp only [go_sem, Tryz.f51]
  exact Fin.back wf h (fun _ _ => rfl) rfl

theorem vdp_load (b q : Nat) (p : PortS) (hp : p.lens) (v : VdpS) (hs : v.scr.length = 49152) (x : AV) (d : List (BitVec 8)) (H : Heap) (n : Nat) (K : AV → Heap → Nat → Prop) (hb : H b = some (vdpB q v)) (hq : H q = some (portB p)) (hbq : b ≠ q) (hv0 : bytesIn ((H.upd b none).upd q none) x d) (hm : d.length ≤ 4294967296)
    (h : K (.i64 (if vdpFits d then 0 else 201)) (if vdpFits d then (H.upd q (some (portB (pportOf (d.take 16433))))).upd b (some (vdpB q (vdpOf d))) else H) n) : ACalls Tryz.prog 19 [.pt b 0, x] H n K := by
  refine ACalls.of_awp Tryz.func19 rfl (by decide +kernel) (show 2 ≤ 100 by decide) (by simp [hv0.ne]) fun wf => ?_
  have hbn := (wf b _ hb).1
  have hqn := (wf q _ hq).1
  have hlb : ∀ K, lenB (some .slice) x K = K (.i64 d.length) := lenB_bytes hv0
  have hb' : H b = some ⟨.pt q 0 :: .u8 v.e.c :: .bo v.e.l :: .bo v.e.f :: .bo v.e.o :: .bo v.e.k :: .i64 v.now :: v.scr.map .u8, 61, false⟩ := hb
  have hlenv : (v.scr.map AV.u8).length = 49152 := by rw [List.length_map, hs]
  refine awp_step dr19 (by decide +kernel) ?_
  simp only [go_sem, Tryz.f19]
  by_cases hlen : d.length = 65591
  rotate_left
  · have hne : ((d.length : Int) != 65591) = true := by rw [bne_iff_ne]; omega
    have hf : vdpFits d = false := by unfold vdpFits; simp [hlen]
    rw [hf] at h
    refine awp_step dr19 (by decide +kernel) ?_
    simp only [go_sem, hlb, hne]
    exact Fin.back wf h (fun _ _ => rfl) rfl
  have hne : ((d.length : Int) != 65591) = false := by rw [hlen]; rfl
  refine awp_step dr19 (by decide +kernel) ?_
  simp only [go_sem, hlb, hne]
  rcases hv0 with ⟨rfl, rfl⟩ | ⟨su, b2, o, c, blk, rfl, h0, h1, h2, h3⟩
  · simp at hlen
  have hneq : b2 ≠ q := by
    rintro rfl
    rw [Heap.upd_same] at h1
    cases h1
  rw [Heap.upd_ne _ _ hneq] at h1
  have hneb : b2 ≠ b := by
    rintro rfl
    rw [Heap.upd_same] at h1
    cases h1
  rw [Heap.upd_ne _ _ hneb] at h1
  have hix : ixT Tryz.prog 33 = some (none, false, 1) := by simp only [go_sem]
  have w6 : wrap64 ((d.length : Int) - 6) = ((65585 : Nat) : Int) := by rw [hlen]; rfl
  have hb2n := (wf b2 _ h1).1
  have eD : ((d.length : Nat) : Int) = 65591 := by rw [hlen]; rfl
  refine awp_seqF (S := Unit) (fun _ => [(0, .pt b 0), (1, vw su b2 o d.length c), (5, vw su b2 (o + 16433) 49152 (c - 16433)), (6, vw su b2 (o + 65585) 6 (c - 65585))]) (fun _ => H) (fun _ => n) (fun _ => True)
    (fun _ _ => ⟨wf, Env.okAt_of2 (by simp [AV.ok, hbn, vw_ok hb2n])⟩) ?_ ?_
  · refine awp_tree td19_3 tr19_3 (by decide +kernel) (by decide +kernel) ?_
    simp only [go_sem, lenB_vw, w6]
    refine ⟨?_, ?_⟩
    · refine slB_vw hix h1 (by omega) h0 16433 65585 rfl (by omega) (by omega) ?_
      simp only [go_sem]
      refine slB_vw hix h1 (by omega) h0 65585 65591 (by rw [hlen]) (by omega) (by omega) ?_
      simp only [go_sem]
      exact Ends.mk () trivial (by repeat (first | exact Env.le_nil _ | refine Env.le_cons rfl ?_)) (fun _ _ => rfl) (Nat.le_refl _) (Nat.le_refl _)
    · refine slB_vw hix h1 (by omega) h0 65585 65591 (by rw [hlen]) (by omega) (by omega) ?_
      simp only [go_sem]
      refine slB_vw hix h1 (by omega) h0 16433 65585 rfl (by omega) (by omega) ?_
      simp only [go_sem]
      exact Ends.mk () trivial (by repeat (first | exact Env.le_nil _ | refine Env.le_cons rfl ?_)) (fun _ _ => rfl) (Nat.le_refl _) (Nat.le_refl _)
  rintro - -
  have at6 : ∀ i, i < 6 → o + (65585 + i) < blk.cells.length ∧ blk.cells.getD (o + (65585 + i)) .junk = .u8 (d.getD (65585 + i) 0#8) := fun i hi => cells_at h2 h3 (by omega)
  obtain ⟨g0, e0⟩ := at6 0 (by omega)
  obtain ⟨g1, e1⟩ := at6 1 (by omega)
  obtain ⟨g2, e2⟩ := at6 2 (by omega)
  obtain ⟨g3, e3⟩ := at6 3 (by omega)
  obtain ⟨g4, e4⟩ := at6 4 (by omega)
  obtain ⟨g5, e5⟩ := at6 5 (by omega)
  simp only [Nat.reduceAdd, Nat.add_zero] at g0 g1 g2 g3 g4 g5 e0 e1 e2 e3 e4 e5
  refine awp_step dr19 (by decide +kernel) ?_
  simp only [go_sem, h1, g0, g1, g2, g3, g4, g5, e0, e1, e2, e3, e4, e5]
  refine awp_step dr19 (by decide +kernel) ?_
  simp only [go_sem]
  have hcut : bytesIn H (vw su b2 (o + 16433) 49152 (c - 16433)) ((d.drop 16433).take 49152) := bytesIn.cut h1 rfl h0 h2 h3 (lo := 16433) (hi := 65585) (by omega) (by omega)
  refine port_contains _ _ _ (fun x => decide (63#8 < x)) _ _ _ hcut (by simp; omega) (fun x H n K h => vdp_load1 x H n K h) ?_
  simp only [go_sem]
  have hW := word4_bv (d.getD 65587 0#8) (d.getD 65588 0#8) (d.getD 65589 0#8) (d.getD 65590 0#8)
  generalize ((((d.getD 65587 0#8).setWidth 32 ||| (d.getD 65588 0#8).setWidth 32 <<< 8) ||| (d.getD 65589 0#8).setWidth 32 <<< 16) ||| (d.getD 65590 0#8).setWidth 32 <<< 24 : BitVec 32) = W at hW ⊢
  change W.toNat = nowD d at hW
  have pf : vdpFits d = (!(((d.drop 16433).take 49152).any fun c => decide (63#8 < c)) && !decide (15#8 < d.getD 65586 0#8) && decide (nowD d < 59736) && portFits (d.take 16433)) := by
    unfold vdpFits; simp [hlen]
  generalize hA : (((d.drop 16433).take 49152).any fun c => decide (63#8 < c)) = A at pf ⊢
  have bad : vdpFits d = false → K (.i64 201) H n := fun hf => by
    rw [hf] at h; exact h
  refine awp_step dr19 (by decide +kernel) ?_
  simp only [go_sem, h1, g1, e1]
  have hWi : (59736#32 ≤ W) ↔ ¬ nowD d < 59736 := by rw [BitVec.le_def, hW]; simp
  refine ⟨fun a1 => ⟨fun a2 => ⟨fun a3 => ?_, fun a3 => ?_⟩, fun a2 => ?_⟩, fun a1 => ?_⟩
  · exact Fin.back wf (bad (by rw [pf, decide_eq_false (hWi.1 a3)]; simp)) (fun _ _ => rfl) rfl
  rotate_left
  · exact Fin.back wf (bad (by rw [pf, decide_eq_true a2]; simp)) (fun _ _ => rfl) rfl
  · exact Fin.back wf (bad (by rw [pf, a1]; rfl)) (fun _ _ => rfl) rfl
  have a3' : nowD d < 59736 := by rw [hWi] at a3; exact Decidable.not_not.1 a3
  replace pf : vdpFits d = portFits (d.take 16433) := by rw [pf, a1, decide_eq_false a2, decide_eq_true a3']; rfl
  rw [pf] at h bad
  refine awp_seq (awp_seq (awp_tree td19_8 tr19_8 (by decide +kernel) (by decide +kernel) ?_))
  simp only [go_sem, hb', List.length_cons, hlenv]
  refine slB_vw hix h1 (by omega) h0 0 16433 rfl (by omega) (by omega) ?_
  simp only [go_sem, hb', List.length_cons, hlenv]
  have hcutP : bytesIn (H.upd q none) (vw su b2 (o + 0) 16433 (c - 0)) (d.take 16433) :=
    bytesIn.cut (su := su) (H := H.upd q none) (b := b2) (by rw [Heap.upd_ne _ _ hneq]; exact h1) rfl h0 h2 h3 (lo := 0) (hi := 16433) (by omega) (by omega)
  refine port_load q p hp _ (d.take 16433) _ _ _ hq hcutP (by simp; omega) ?_
  by_cases hF : portFits (d.take 16433) = true
  rotate_left
  · have hF' : portFits (d.take 16433) = false := by simpa using hF
    rw [hF'] at bad ⊢
    simp only [go_sem, Bool.false_eq_true, if_false]
    refine awp_ev dr0 (by decide +kernel) ?_
    simp only [go_sem]
    exact Fin.back wf (bad rfl) (fun _ _ => rfl) rfl
  rw [hF] at h ⊢
  simp only [go_sem, if_true]
  refine awp_ev dr0 (by decide +kernel) ?_
  simp only [go_sem]
  simp only [if_true] at h
  have hup : ∀ X : Option Blk, (H.upd q X) b2 = some blk := fun X => by rw [Heap.upd_ne _ _ hneq]; exact h1
  have hubq : ∀ X : Option Blk, (H.upd q X) b = some ⟨.pt q 0 :: .u8 v.e.c :: .bo v.e.l :: .bo v.e.f :: .bo v.e.o :: .bo v.e.k :: .i64 v.now :: v.scr.map .u8, 61, false⟩ := fun X => by rw [Heap.upd_ne _ _ hbq]; exact hb'
  have hm2 : ((d.drop 16433).take 49152).length = 49152 := by simp; omega
  have hcutA : ∀ X : Option Blk, bytesIn (H.upd q X) (vw su b2 (o + 16433) 49152 (c - 16433)) ((d.drop 16433).take 49152) := fun X => bytesIn.cut (hup X) rfl h0 h2 h3 (lo := 16433) (hi := 65585) (by omega) (by omega)
  refine awp_step dr19 (by decide +kernel) ?_
  simp only [go_sem, hubq, List.length_cons, hlenv, srcK_bytes (hcutA _), hm2, Nat.min_self]
  have espl : splice (List.map AV.u8 v.scr) 0 (List.map AV.u8 ((d.drop 16433).take 49152)) = List.map AV.u8 ((d.drop 16433).take 49152) := splice_whole (by rw [List.length_map, List.length_map, hm2, hs])
  rw [espl]
  have hup2 : ∀ X Y : Option Blk, ((H.upd q X).upd b Y) b2 = some blk := fun X Y => by rw [Heap.upd_ne _ _ hneb]; exact hup X
  have hlen3 : (List.map AV.u8 ((d.drop 16433).take 49152)).length = 49152 := by rw [List.length_map, hm2]
  refine awp_step dr19 (by decide +kernel) ?_
  simp only [go_sem, hup2, g0, g1, e0, e1, List.length_cons, hlen3]
  refine awp_step dr19 (by decide +kernel) ?_
  simp only [go_sem, List.length_cons, hlen3]
  refine awp_ev dr0 (by decide +kernel) ?_
  simp only [go_sem]
  refine Fin.back (Heap.wf_set (Heap.wf_set wf hqn (blk := portB (pportOf (d.take 16433))) (PortS.cells_ok _ _)) hbn (blk := vdpB q (vdpOf d)) (vdpB_ok hqn _)) h (fun i hi => ?_) rfl
  by_cases e : i = b
  · subst e; rw [Heap.upd_same, Heap.upd_same, hW]; rfl
  · rw [Heap.upd_ne _ _ e, Heap.upd_ne _ _ e]
end Go.Proofs.Joy
namespace Go.Proofs.Joy
open Go.Ab Go.Proofs

set_option maxHeartbeats 1000000
set_option maxRecDepth 20000

theorem port_read (b : Nat) (p : PortS) (hp : p.lens) (ha : p.addr.toNat < 16384) (H : Heap) (n : Nat) (K : AV → Heap → Nat → Prop) (hb : H b = some (portB p)) (h : K (.u8 p.buf) (H.upd b (some (portB (readS p)))) n) :
    ACalls Tryz.prog 42 [.pt b 0] H n K := by
  refine ACalls.of_ev dr0 Tryz.func42 rfl (by decide +kernel) (by decide +kernel) (show 1 ≤ 14 by decide) (by simp) fun wf => ?_
  simp only [go_sem, Tryz.f42]
  have hbn := (wf b _ hb).1
  refine port_forget b p hp _ _ _ (by simp only [go_sem, hb]) ?_
  simp only [go_sem, hb, portB, forgetS, hp.vram, hp.cram, hp.regs]
  refine port_fill b { p with sec := false } ⟨hp.vram, hp.cram, hp.regs⟩ ha _ _ _ (by simp only [go_sem, portB]) ?_
  simp only [go_sem, hb, portB]
  exact Fin.pput wf hbn (PortS.cells_ok _ _) h (fun _ _ => rfl) rfl

end Go.Proofs.Joy
namespace Go.Proofs.Joy
open Go.Ab Go.Proofs

set_option maxHeartbeats 1000000
set_option maxRecDepth 20000

theorem vdp_take (b q : Nat) (p : PortS) (hp : p.lens) (ha : p.addr.toNat < 16384) (v : VdpS) (hs : v.scr.length = 49152) (H : Heap) (n : Nat) (K : AV → Heap → Nat → Prop) (hb : H b = some (vdpB q v)) (hq : H q = some (portB p))
    (h : K (.u8 p.buf) (H.upd q (some (portB (readS p)))) n) : ACalls Tryz.prog 11 [.pt b 0] H n K := by
  refine ACalls.of_awp Tryz.func11 rfl (by decide +kernel) (show 1 ≤ 8 by decide) (by simp) fun wf => ?_
  have hb' : H b = some ⟨.pt q 0 :: .u8 v.e.c :: .bo v.e.l :: .bo v.e.f :: .bo v.e.o :: .bo v.e.k :: .i64 v.now :: v.scr.map .u8, 61, false⟩ := hb
  have hlen : (v.scr.map AV.u8).length = 49152 := by rw [List.length_map, hs]
  refine awp_ev dr0 (by decide +kernel) ?_
  simp only [go_sem, Tryz.f11, hb', List.length_cons, hlen]
  refine port_read q p hp ha _ _ _ hq ?_
  simp only [go_sem]
  exact Fin.keep h
end Go.Proofs.Joy
namespace Go.Proofs.Joy
open Go.Ab Go.Proofs

theorem vdp_to (b q : Nat) (p : PortS) (hp : p.lens) (v : VdpS) (hs : v.scr.length = 49152) (hnw : 0 ≤ v.now ∧ v.now ≤ 4000000000000000000) (t : Int) (ht : -4000000000000000000 ≤ t ∧ t ≤ 4000000000000000000) (H : Heap) (n : Nat) (K : AV → Heap → Nat → Prop) (hb : H b = some (vdpB q v)) (hq : H q = some (portB p)) (hbq : b ≠ q)
    (h : K (.tu []) (H.upd b (some (vdpB q (goV p t v)))) n) : ACalls Tryz.prog 7 [.pt b 0, .i64 t] H n K := to_ok b q p hp v hs hnw t ht H n K hb hq hbq h

end Go.Proofs.Joy
namespace Go.Proofs.Joy
open Go.Ab Go.Proofs

set_option maxHeartbeats 1000000
set_option maxRecDepth 20000

/-- Something done. -/
structure VAct where
  kind : Int
  n : Int
  v : Int
def encV (a : VAct) : List AV := [.i64 a.kind, .i64 a.n, .i64 a.v]
theorem encV_len (a : VAct) : (encV a).length = 3 := rfl

/-- Both chips stand alike. -/
structure RunI (H : Heap) (n : Nat) (b : Int) (X : Heap) (m : Nat) (x : VQ) (p : PortS) (v : VdpS) : Prop where
  wf : X.wf m
  lt : n + 2 ≤ m
  pb : X (n + 1) = some (vdpB n v)
  pq : X n = some (portB p)
  ref : rvH X x p v
  ok : x.ok
  own : ∀ i, x.own i → n + 2 ≤ i
  old : ∀ i, i < n → X i = H i
  good : p.good
  len : v.scr.length = 49152
  scr : scrOk v.scr
  n0 : 0 ≤ v.now
  n1 : v.now ≤ b
theorem RunI.no {H : Heap} {n : Nat} {b : Int} {X : Heap} {m : Nat} {x : VQ} {p : PortS} {v : VdpS} (h : RunI H n b X m x p v) {i : Nat} (hi : i < n + 2) : ¬ x.own i := fun e => by have := h.own i e; omega
theorem RunI.lower {H : Heap} {n : Nat} {b b' : Int} {X : Heap} {m : Nat} {x : VQ} {p : PortS} {v : VdpS} (h : RunI H n b X m x p v) (hb : b ≤ b') : RunI H n b' X m x p v := { h with n1 := Int.le_trans h.n1 hb }
/-- Something new stands beside. -/
theorem RunI.mono {H : Heap} {n : Nat} {b : Int} {X Y : Heap} {m m' : Nat} {x : VQ} {p : PortS} {v : VdpS} (h : RunI H n b X m x p v) (hm : m ≤ m') (hw : Y.wf m') (he : ∀ i, i < m → Y i = X i) : RunI H n b Y m' x p v :=
  have hl := h.lt
  { wf := hw, lt := by omega, pb := by rw [he _ (by omega)]; exact h.pb, pq := by rw [he _ (by omega)]; exact h.pq, ref := h.ref.mono h.wf he, ok := h.ok, own := h.own, old := fun i hi => by rw [he i (by omega)]; exact h.old i hi, good := h.good, len := h.len, scr := h.scr, n0 := h.n0, n1 := h.n1 }
theorem rvH.out {H : Heap} {x : VQ} {p : PortS} {v : VdpS} (h : rvH H x p v) {i : Nat} (hi : ¬ x.own i) (V : Option Blk) : rvH (H.upd i V) x p v := by
  have e0 : i ≠ x.b := fun e => hi (.inl e)
  have e1 : i ≠ x.s := fun e => hi (.inr (.inl e))
  have e2 : i ≠ x.q.b := fun e => hi (.inr (.inr (.inl e)))
  have e3 : i ≠ x.q.v := fun e => hi (.inr (.inr (.inr (.inl e))))
  have e4 : i ≠ x.q.c := fun e => hi (.inr (.inr (.inr (.inr (.inl e)))))
  have e5 : i ≠ x.q.r := fun e => hi (.inr (.inr (.inr (.inr (.inr e)))))
  exact ⟨by rw [Heap.upd_ne _ _ e0.symm]; exact h.b, h.q.out e2 e3 e4 e5 V, by rw [Heap.upd_ne _ _ e1.symm]; exact h.s⟩
theorem rvH.port {H : Heap} {x : VQ} {p : PortS} {v : VdpS} (hx : x.ok) (h : rvH H x p v) (p' : PortS) : rvH (refPut H x.q p') x p' v :=
  ⟨by rw [refPut_ne _ _ _ hx.b0 hx.b1 hx.b2 hx.b3]; exact h.b, refPut_h _ hx.q _, by rw [refPut_ne _ _ _ hx.s0 hx.s1 hx.s2 hx.s3]; exact h.s⟩
theorem refPut_out {H : Heap} {x : VQ} {p : PortS} {i : Nat} (hi : ¬ x.own i) : refPut H x.q p i = H i :=
  refPut_ne _ _ _ (fun e => hi (.inr (.inr (.inl e)))) (fun e => hi (.inr (.inr (.inr (.inl e))))) (fun e => hi (.inr (.inr (.inr (.inr (.inl e)))))) (fun e => hi (.inr (.inr (.inr (.inr (.inr e))))))
theorem RunI.qm {H : Heap} {n : Nat} {b : Int} {X : Heap} {m : Nat} {x : VQ} {p : PortS} {v : VdpS} (h : RunI H n b X m x p v) : x.b < m ∧ x.s < m ∧ x.q.b < m ∧ x.q.v < m ∧ x.q.c < m ∧ x.q.r < m :=
  ⟨(h.wf _ _ h.ref.b).1, (h.wf _ _ h.ref.s).1, (h.wf _ _ h.ref.q.b).1, (h.wf _ _ h.ref.q.v).1, (h.wf _ _ h.ref.q.c).1, (h.wf _ _ h.ref.q.r).1⟩
/-- Both ports are told alike. -/
theorem RunI.told {H : Heap} {n : Nat} {b : Int} {X : Heap} {m : Nat} {x : VQ} {p : PortS} {v : VdpS} (h : RunI H n b X m x p v) {p' : PortS} (hg : p'.good) : RunI H n b (refPut (X.upd n (some (portB p'))) x.q p') m x p' v :=
  have hl := h.lt
  have hq := h.qm
  { wf := refPut_wf (Heap.wf_set h.wf (by omega) (PortS.cells_ok _ _)) hq.2.2.1 hq.2.2.2.1 hq.2.2.2.2.1 hq.2.2.2.2.2 _, lt := hl, pb := by rw [refPut_out (h.no (by omega)), Heap.upd_ne _ _ (by omega)]; exact h.pb, pq := by rw [refPut_out (h.no (by omega)), Heap.upd_same],
    ref := (h.ref.out (h.no (by omega)) _).port h.ok p', ok := h.ok, own := h.own, old := fun i hi => by rw [refPut_out (h.no (by omega)), Heap.upd_ne _ _ (by omega)]; exact h.old i hi, good := hg, len := h.len, scr := h.scr, n0 := h.n0, n1 := h.n1 }
/-- Both go on alike. -/
theorem RunI.gone {H : Heap} {n : Nat} {b b' : Int} {X Y : Heap} {m m' : Nat} {x : VQ} {p p' : PortS} {v v' : VdpS} (h : RunI H n b X m x p v) (hm : m ≤ m') (hw : Y.wf m') (hr : rvH Y x p' v') (hb : Y (n + 1) = some (vdpB n v')) (hq : Y n = some (portB p')) (ho : ∀ i, i < n → Y i = X i) (hg : p'.good) (hs : v'.scr.length = 49152) (hk : scrOk v'.scr) (h0 : 0 ≤ v'.now) (h1 : v'.now ≤ b') : RunI H n b' Y m' x p' v' :=
  have hl := h.lt
  { wf := hw, lt := by omega, pb := hb, pq := hq, ref := hr, ok := h.ok, own := h.own, old := fun i hi => by rw [ho i hi]; exact h.old i hi, good := hg, len := hs, scr := hk, n0 := h0, n1 := h1 }
structure RunS where
  i : Nat
  X : Heap
  m : Nat
  x : VQ
  p : PortS
  v : VdpS
  b : Int
end Go.Proofs.Joy
namespace Go.Proofs.Joy
open Go.Ab Go.Proofs

set_option maxHeartbeats 2000000
set_option maxRecDepth 20000

theorem vacts_at {acts : List VAct} {i : Nat} (hi : i < acts.length) : ((acts.flatMap encV).drop (i * 3)).take 3 = encV acts[i] ∧ i * 3 + 3 ≤ (acts.flatMap encV).length := by
  refine ⟨flatMap_slice encV_len (List.getElem?_eq_getElem hi), ?_⟩
  rw [flatMap_length encV_len]; omega

theorem runs_walk (a0 : AV) (acts : List VAct) (H : Heap) (n : Nat) (K : AV → Heap → Nat → Prop) (hb : (a0 = .sn ∧ acts = []) ∨ ∃ b c el, a0 = .sl b 0 acts.length c ∧ acts.length ≤ c ∧ H b = some ⟨acts.flatMap encV, el, true⟩)
    (h : K (.bo true) H n) : ACalls Tryz.prog 3 [a0] H n K := by
  have hne : a0 ≠ .junk := by rcases hb with ⟨rfl, -⟩ | ⟨_, _, _, rfl, -⟩ <;> simp
  have hlb : ∀ K, lenB (some .slice) a0 K = K (.i64 acts.length) := by rcases hb with ⟨rfl, rfl⟩ | ⟨_, _, _, rfl, -⟩ <;> exact fun _ => rfl
  refine ACalls.of_awp Tryz.func3 rfl (by decide +kernel) (show 1 ≤ 225 by decide) (by simp [hne]) fun wf => ?_
  have hok : a0.ok n = true := by rcases hb with ⟨rfl, -⟩ | ⟨b, c, el, rfl, -, hb⟩; rfl; simpa [AV.ok] using (wf b _ hb).1
  refine awp_step dr3 (by decide +kernel) ?_
  simp only [go_sem, Tryz.f3]
  refine awp_step dr3 (by decide +kernel) ?_
  simp only [go_sem]
  refine vdp_alive _ _ _ ?_
  simp only [go_sem]
  refine awp_step dr3 (by decide +kernel) ?_
  simp only [go_sem, hlb]
  refine ⟨fun a => Fin.back wf h (fun _ _ => rfl) rfl, fun hlen => ?_⟩
  refine awp_step dr3 (by decide +kernel) ?_
  simp only [go_sem]
  refine vdp_new _ _ _ ?_
  intro X0 x0 x1 xw xo
  simp only [go_sem]
  have hs0 : (beginV newS vdp0 0).scr.length = 49152 := beginV_len _ _ List.length_replicate (by decide)
  have hn0 : (beginV newS vdp0 0).now = 0 := beginV_now _ _ _
  have hk0 : scrOk (beginV newS vdp0 0).scr := drawV_ok newS vdp0 0 scrOk_rep
  refine r20_new _ _ _ ?_
  intro Y0 m0 rx rxo rxw hm0 yw hY yo
  simp only [go_sem]
  generalize beginV newS vdp0 0 = v0 at x1 hs0 hn0 hk0 hY
  have I0 : RunI H n 100000 Y0 m0 rx newS v0 :=
    { wf := yw, lt := hm0, pb := by rw [yo _ (by omega)]; exact x1, pq := by rw [yo _ (by omega)]; exact x0, ref := hY, ok := rxo, own := fun i hi => (rxw i hi).1, old := fun i hi => by rw [yo _ (by omega)]; exact xo i hi, good := newS_good, len := hs0, scr := hk0, n0 := by omega, n1 := by omega }
  refine awp_step dr3 (by decide +kernel) ?_
  simp only [go_sem]
  have okm : ∀ m, n + 2 ≤ m → a0.ok m = true := fun m hm => AV.ok_mono (by omega) _ hok
  refine awp_seqF (S := RunS) (fun s => [(3, .pt (n + 1) 0), (4, .pt s.x.b 0)]) (fun s => s.X) (fun s => s.m) (fun s => RunI H n 1000000 s.X s.m s.x s.p s.v ∧ m0 ≤ s.m)
    (fun s hI => ⟨hI.1.wf, Env.okAt_of2 (by have := hI.1.lt; have := hI.1.qm; simp [AV.ok]; omega)⟩) ?_ ?_
  · refine awp_step dr3 (by decide +kernel) ?_
    simp only [go_sem, hlb]
    refine awp_block ?_
    refine awp_loopF (S := RunS) (fun s => [(3, .pt (n + 1) 0), (4, .pt s.x.b 0), (5, .i64 s.b), (22, a0), (23, .i64 acts.length), (24, .i64 s.i)]) (fun s => s.X) (fun s => s.m) (fun s => s.i ≤ acts.length ∧ RunI H n (100000 + 3000 * (s.i : Int)) s.X s.m s.x s.p s.v ∧ 0 ≤ s.b ∧ s.b ≤ 30 ∧ m0 ≤ s.m) (fun s => acts.length - s.i)
      (fun s hI => ⟨hI.2.1.wf, Env.okAt_of2 (by have := hI.2.1.lt; have := hI.2.1.qm; simp [AV.ok, okm _ hI.2.1.lt]; omega)⟩) ?_ (⟨0, Y0, m0, rx, newS, v0, 30⟩ : RunS) ⟨Nat.zero_le _, I0.lower (by simp only; omega), by simp only; omega, by simp only; omega, Nat.le_refl _⟩ (by repeat (first | exact Env.le_nil _ | refine Env.le_cons rfl ?_)) (fun _ _ => rfl) rfl
    rintro ⟨i, X, m, x, p, v, bud⟩ ⟨hi, I, hb0, hb1, hmm⟩
    simp only at hi I hb0 hb1 hmm ⊢
    refine awp_step dr0 (by decide +kernel) ?_
    simp only [go_sem]
    refine awp_step dr0 (by decide +kernel) ?_
    simp only [go_sem]
    refine ⟨fun hlt => ?_, fun hlt => ?_⟩
    · have hlt' : i < acts.length := by omega
      rcases hb with ⟨rfl, rfl⟩ | ⟨ba, ca, el, rfl, hca, hba⟩
      · simp at hlt'
      have hban := (wf ba _ hba).1
      obtain ⟨hv1, hv2⟩ := vacts_at hlt'
      have hXa : X ba = some ⟨acts.flatMap encV, el, true⟩ := by rw [I.old ba hban]; exact hba
      refine awp_seq (awp_block ?_)
      refine awp_step dr0 (by decide +kernel) ?_
      simp only [go_sem, hXa, hlt, hlt', hv1, hv2]
      refine ⟨by simp [encV_len], ?_⟩
      have ha : ∃ k a b, acts[i] = ⟨k, a, b⟩ := ⟨_, _, _, rfl⟩
      obtain ⟨k, ga, gb, ea⟩ := ha
      simp only [ea, encV]
      have A0 : RunI H n (100000 + 3000 * (i : Int)) (X.upd m (some ⟨[.i64 k, .i64 ga, .i64 gb], 29, false⟩)) (m + 1) x p v := I.mono (Nat.le_succ _) (Heap.wf_upd I.wf (by simp [AV.ok])) (fun j hj => by rw [Heap.upd_ne _ _ (by omega)])
      have xa : (X.upd m (some ⟨[.i64 k, .i64 ga, .i64 gb], 29, false⟩)) m = some ⟨[.i64 k, .i64 ga, .i64 gb], 29, false⟩ := Heap.upd_same _ _ _
      have hmq := I.qm
      have hml := I.lt
      refine awp_gen (fun X1 => RunI H n (100000 + 3000 * (i : Int)) X1 (m + 1) x p v ∧ X1 m = some ⟨[.i64 k, .i64 ga, .i64 gb], 29, false⟩) ⟨A0, xa⟩ ?_
      clear A0 xa
      rintro X1 ⟨A0, xa⟩
      refine awp_seqF (S := RunS) (fun s => [(3, .pt (n + 1) 0), (4, .pt s.x.b 0), (5, .i64 s.b), (22, .sl ba 0 acts.length ca), (23, .i64 acts.length), (24, .i64 i)]) (fun s => s.X) (fun s => s.m) (fun s => RunI H n (100000 + 3000 * ((i + 1 : Nat) : Int)) s.X s.m s.x s.p s.v ∧ 0 ≤ s.b ∧ s.b ≤ 30 ∧ m + 1 ≤ s.m)
        (fun s hI => ⟨hI.1.wf, Env.okAt_of2 (by have := hI.1.lt; have := hI.1.qm; simp [AV.ok]; omega)⟩) ?_ ?_
      · have hpb := A0.pb
        have hpq := A0.pq
        have hrb := A0.ref.b
        have hgl := A0.good.ok.lens
        have hn0 := A0.n0
        have hn1 := A0.n1
        have hlen := A0.len
        refine awp_ev dr3 (by decide +kernel) ?_
        by_cases k0 : k = 0
        · subst k0
          have hd : 0 ≤ max 0 (min ga 3000) ∧ max 0 (min ga 3000) ≤ 3000 := by omega
          generalize hdd : max 0 (min ga 3000) = d at hd
          have w1 : wrap64 (v.now + d) = v.now + d := wrap_id _ (by omega) (by omega)
          have w0 : wrap64 ((v.now.tmod 59736).tdiv 228) = lineS v.now := by
            unfold lineS; rw [Int.tmod_eq_emod_of_nonneg hn0, Int.tdiv_eq_ediv_of_nonneg (by omega), wrap_id _ (by omega) (by omega)]
          have w2 : wrap64 (d.tdiv 228) = d / 228 := by rw [Int.tdiv_eq_ediv_of_nonneg (by omega), wrap_id _ (by omega) (by omega)]
          have w3 : wrap64 (bud - d / 228) = bud - d / 228 := wrap_id _ (by omega) (by omega)
          have ub : ∀ V, (X1.upd (n + 1) V) x.b = some (rvB x v) := fun V => by rw [Heap.upd_ne _ _ (fun e => A0.no (show n + 1 < n + 2 by omega) (.inl e.symm))]; exact hrb
          have hgn : (goV p (v.now + d) v).now = v.now + d := goV_now p _ v (by omega)
          have hgl2 := goV_len p (v.now + d) v hlen
          have hgk := goV_ok p (v.now + d) v A0.scr
          simp only [go_sem, xa, hrb, rvB, hdd, w0, w1, w2, w3]
          have done : Fin n (.bo true) X1 (m + 1) K := Fin.back wf h A0.old rfl
          refine ⟨fun c1 => ⟨fun c2 => done, fun c2 => ?_⟩, fun c1 => ⟨fun c2 => done, fun c2 => ?_⟩⟩
          all_goals
            refine vdp_to (n + 1) n p hgl v hlen ⟨hn0, by omega⟩ _ (by omega) _ _ _ hpb hpq (by omega) ?_
            simp only [go_sem, ub, rvB, w1]
            refine r20_to x A0.ok p hgl v hlen ⟨hn0, by omega⟩ _ (by omega) _ _ _ (A0.ref.out (A0.no (by omega)) _) ?_
            intro Y m' hm' yw hY yo
            simp only [go_sem]
            have J : RunI H n (100000 + 3000 * ((i + 1 : Nat) : Int)) Y m' x p (goV p (v.now + d) v) := A0.gone hm' yw hY (by rw [yo _ (by omega) (A0.no (by omega)), Heap.upd_same]) (by rw [yo _ (by omega) (A0.no (by omega)), Heap.upd_ne _ _ (by omega)]; exact hpq) (fun j hj => by rw [yo _ (by omega) (A0.no (by omega)), Heap.upd_ne _ _ (by omega)]) A0.good hgl2 hgk (by omega) (by omega)
            first
              | exact Ends.mk (⟨i, Y, m', x, p, goV p (v.now + d) v, bud - d / 228⟩ : RunS) ⟨J, by simp only; omega, by simp only; omega, hm'⟩ (by repeat (first | exact Env.le_nil _ | refine Env.le_cons rfl ?_)) (fun _ _ => rfl) (by simp only; omega) (Nat.le_refl _)
              | exact Ends.mk (⟨i, Y, m', x, p, goV p (v.now + d) v, bud⟩ : RunS) ⟨J, by simp only; omega, by simp only; omega, hm'⟩ (by repeat (first | exact Env.le_nil _ | refine Env.le_cons rfl ?_)) (fun _ _ => rfl) (by simp only; omega) (Nat.le_refl _)
        by_cases k1 : k = 1
        · subst k1
          have ub : ∀ V, (X1.upd n V) x.b = some (rvB x v) := fun V => by rw [Heap.upd_ne _ _ (fun e => A0.no (show n < n + 2 by omega) (.inl e.symm))]; exact hrb
          have ua : ∀ V, (X1.upd n V) m = some ⟨[.i64 1, .i64 ga, .i64 gb], 29, false⟩ := fun V => by rw [Heap.upd_ne _ _ (by omega)]; exact xa
          simp only [go_sem, xa]
          refine vdp_data (n + 1) n p hgl A0.good.ok.addr v hlen _ _ _ _ hpb hpq ?_
          simp only [go_sem, ua, ub, rvB]
          refine r13_write x.q A0.ok.q p A0.good.ok _ _ _ _ (A0.ref.out (A0.no (by omega)) _).q ?_
          simp only [go_sem]
          exact Ends.mk (⟨i, _, m + 1, x, writeS p (BitVec.ofInt 8 gb), v, bud⟩ : RunS) ⟨(A0.told (A0.good.write _)).lower (by omega), by simp only; omega, by simp only; omega, Nat.le_refl _⟩ (by repeat (first | exact Env.le_nil _ | refine Env.le_cons rfl ?_)) (fun _ _ => rfl) (Nat.le_refl _) (Nat.le_refl _)
        by_cases k2 : k = 2
        · subst k2
          have ub : ∀ V, (X1.upd n V) x.b = some (rvB x v) := fun V => by rw [Heap.upd_ne _ _ (fun e => A0.no (show n < n + 2 by omega) (.inl e.symm))]; exact hrb
          simp only [go_sem, xa, hrb, rvB]
          refine vdp_take (n + 1) n p hgl A0.good.ok.addr v hlen _ _ _ hpb hpq ?_
          simp only [go_sem, ub, rvB]
          refine r13_read x.q A0.ok.q p A0.good.ok _ _ _ (A0.ref.out (A0.no (by omega)) _).q ?_
          simp only [go_sem]
          exact Ends.mk (⟨i, _, m + 1, x, readS p, v, bud⟩ : RunS) ⟨(A0.told A0.good.read).lower (by omega), by simp only; omega, by simp only; omega, Nat.le_refl _⟩ (by repeat (first | exact Env.le_nil _ | refine Env.le_cons rfl ?_)) (fun _ _ => rfl) (Nat.le_refl _) (Nat.le_refl _)
        by_cases k3 : k = 3
        · subst k3
          have ub : ∀ V, (X1.upd n V) x.b = some (rvB x v) := fun V => by rw [Heap.upd_ne _ _ (fun e => A0.no (show n < n + 2 by omega) (.inl e.symm))]; exact hrb
          have ua : ∀ V, (X1.upd n V) m = some ⟨[.i64 3, .i64 ga, .i64 gb], 29, false⟩ := fun V => by rw [Heap.upd_ne _ _ (by omega)]; exact xa
          simp only [go_sem, xa]
          refine vdp_tell (n + 1) n p hgl v hlen _ _ _ _ hpb hpq ?_
          simp only [go_sem, ua, ub, rvB]
          refine r13_control x.q A0.ok.q p A0.good.ok _ _ _ _ (A0.ref.out (A0.no (by omega)) _).q ?_
          simp only [go_sem]
          exact Ends.mk (⟨i, _, m + 1, x, controlS p (BitVec.ofInt 8 gb), v, bud⟩ : RunS) ⟨(A0.told (A0.good.control _)).lower (by omega), by simp only; omega, by simp only; omega, Nat.le_refl _⟩ (by repeat (first | exact Env.le_nil _ | refine Env.le_cons rfl ?_)) (fun _ _ => rfl) (Nat.le_refl _) (Nat.le_refl _)
        by_cases k4 : k = 4
        · subst k4
          simp only [go_sem, xa]
          refine vdp_status (n + 1) n p hgl v hlen _ _ _ hpb hpq (by omega) ?_
          simp only [go_sem]
          refine r20_status x A0.ok p hgl v _ _ _ ((A0.ref.out (A0.no (by omega)) _).out (A0.no (by omega)) _) ?_
          intro Y m' hm' yw hY yo
          simp only [go_sem]
          have J : RunI H n (100000 + 3000 * ((i + 1 : Nat) : Int)) Y m' x (forgetS p) ⟨clearE v.e, v.now, v.scr⟩ := A0.gone hm' yw hY (by rw [yo _ (by omega) (A0.no (by omega)), Heap.upd_same]) (by rw [yo _ (by omega) (A0.no (by omega)), Heap.upd_ne _ _ (by omega), Heap.upd_same]) (fun j hj => by rw [yo _ (by omega) (A0.no (by omega)), Heap.upd_ne _ _ (by omega), Heap.upd_ne _ _ (by omega)]) A0.good.forget hlen A0.scr hn0 (by simp only; omega)
          exact Ends.mk (⟨i, Y, m', x, forgetS p, ⟨clearE v.e, v.now, v.scr⟩, bud⟩ : RunS) ⟨J, by simp only; omega, by simp only; omega, hm'⟩ (by repeat (first | exact Env.le_nil _ | refine Env.le_cons rfl ?_)) (fun _ _ => rfl) (by simp only; omega) (Nat.le_refl _)
        by_cases k5 : k = 5
        rotate_left
        · have b0 : (k == 0) = false := by simpa using k0
          have b1 : (k == 1) = false := by simpa using k1
          have b2 : (k == 2) = false := by simpa using k2
          have b3 : (k == 3) = false := by simpa using k3
          have b4 : (k == 4) = false := by simpa using k4
          have b5 : (k == 5) = false := by simpa using k5
          simp only [go_sem, xa, b0, b1, b2, b3, b4, b5]
          exact Ends.mk (⟨i, X1, m + 1, x, p, v, bud⟩ : RunS) ⟨A0.lower (by omega), by simp only; omega, by simp only; omega, Nat.le_refl _⟩ (by repeat (first | exact Env.le_nil _ | refine Env.le_cons rfl ?_)) (fun _ _ => rfl) (Nat.le_refl _) (Nat.le_refl _)
        subst k5
        have dl : (dumpV p v).length = 65591 := dumpV_len hgl hlen
        simp only [go_sem, xa]
        refine r20_dump x A0.ok p A0.good.ok v hlen _ _ _ A0.ref ?_
        have ua : ∀ V, (X1.upd (m + 1) V) m = some ⟨[.i64 5, .i64 ga, .i64 gb], 29, false⟩ := fun V => by rw [Heap.upd_ne _ _ (by omega)]; exact xa
        by_cases c5 : 0 ≤ ga ∧ ga < 65591
        · have c50 := c5.1
          have c51 := c5.2
          obtain ⟨g, rfl⟩ := Int.eq_ofNat_of_zero_le c50
          have c52 : g < 65591 := by omega
          simp only [go_sem, ua, c50, c51, c52, byB, List.length_map, dl]
          rw [← List.map_set]
          have hDl : ((dumpV p v).set g (BitVec.ofInt 8 gb)).length = 65591 := by rw [List.length_set, dl]
          refine ⟨by omega, ?_⟩
          change ACalls _ _ _ (X1.upd (m + 1) (some (byB ((dumpV p v).set g (BitVec.ofInt 8 gb))))) _ _
          generalize (dumpV p v).set g (BitVec.ofInt 8 gb) = D at hDl ⊢
          have u5 : ∀ {Z : Heap}, (∀ j, j < m + 2 → Z j = (X1.upd (m + 1) (some (byB D))) j) → Z (m + 1) = some (byB D) := fun hz => by rw [hz _ (by omega), Heap.upd_same]
          have A5 : RunI H n (100000 + 3000 * (i : Int)) (X1.upd (m + 1) (some (byB D))) (m + 2) x p v := A0.mono (Nat.le_succ _) (Heap.wf_upd A0.wf map_u8_ok) (fun j hj => by rw [Heap.upd_ne _ _ (by omega)])
          refine r20_load (.su (m + 1) 0 65591 1) D _ _ _ (.wholeU (Heap.upd_same _ _ _) hDl.symm) (by rw [hDl]; decide) (fun hf => ?_) (fun hf => ?_)
          · intro Y m' x' xok xown hm' yw hY yo
            simp only [go_sem]
            have yb : Y (n + 1) = some (vdpB n v) := by rw [yo _ (by omega)]; exact A5.pb
            have yq : Y n = some (portB p) := by rw [yo _ (by omega)]; exact A5.pq
            refine vdp_load (n + 1) n p hgl v hlen _ D _ _ _ yb yq (by omega) (.wholeU (by rw [Heap.upd_ne _ _ (by omega), Heap.upd_ne _ _ (by omega)]; exact u5 yo) hDl.symm) (by rw [hDl]; decide) ?_
            rw [hf]
            simp only [go_sem, if_true]
            obtain ⟨z1, z2, z3, z4, z5⟩ := vdpOf_good hf
            have no : ∀ {j}, j < m + 2 → ¬ x'.own j := fun hj e => by have := (xown _ e).1; omega
            have J : RunI H n (100000 + 3000 * ((i + 1 : Nat) : Int)) ((Y.upd n (some (portB (pportOf (D.take 16433))))).upd (n + 1) (some (vdpB n (vdpOf D)))) m' x' (pportOf (D.take 16433)) (vdpOf D) :=
              { wf := Heap.wf_set (Heap.wf_set yw (by omega) (PortS.cells_ok _ _)) (by omega) (vdpB_ok (by omega) _), lt := by omega, pb := Heap.upd_same _ _ _, pq := by rw [Heap.upd_ne _ _ (by omega), Heap.upd_same], ref := (hY.out (no (by omega)) _).out (no (by omega)) _, ok := xok, own := fun j hj => by have := (xown j hj).1; omega, old := fun j hj => by rw [Heap.upd_ne _ _ (by omega), Heap.upd_ne _ _ (by omega), yo _ (by omega)]; exact A5.old j hj, good := z1, len := z2, scr := z3, n0 := z4, n1 := by omega }
            exact Ends.mk (⟨i, _, m', x', pportOf (D.take 16433), vdpOf D, bud⟩ : RunS) ⟨J, by simp only; omega, by simp only; omega, by simp only; omega⟩ (by repeat (first | exact Env.le_nil _ | refine Env.le_cons rfl ?_)) (fun _ _ => rfl) (by simp only; omega) (Nat.le_refl _)
          · simp only [go_sem]
            refine vdp_load (n + 1) n p hgl v hlen _ D _ _ _ A5.pb A5.pq (by omega) (.wholeU (by rw [Heap.upd_ne _ _ (by omega), Heap.upd_ne _ _ (by omega)]; exact Heap.upd_same _ _ _) hDl.symm) (by rw [hDl]; decide) ?_
            rw [hf]
            simp only [go_sem, Bool.false_eq_true, if_false]
            refine r20_dump x A0.ok p A0.good.ok v hlen _ _ _ A5.ref ?_
            have A6 : RunI H n (100000 + 3000 * (i : Int)) ((X1.upd (m + 1) (some (byB D))).upd (m + 2) (some (byB (dumpV p v)))) (m + 3) x p v := A5.mono (Nat.le_succ _) (Heap.wf_upd A5.wf map_u8_ok) (fun j hj => by rw [Heap.upd_ne _ _ (by omega)])
            have a6 : ((X1.upd (m + 1) (some (byB D))).upd (m + 2) (some (byB (dumpV p v)))) (m + 2) = some (byB (dumpV p v)) := Heap.upd_same _ _ _
            generalize (X1.upd (m + 1) (some (byB D))).upd (m + 2) (some (byB (dumpV p v))) = X6 at A6 a6 ⊢
            simp only [go_sem]
            have dl6 : (dumpV p v).length = 65591 := dumpV_len hgl hlen
            refine vdp_load (n + 1) n p hgl v hlen _ (dumpV p v) _ _ _ A6.pb A6.pq (by omega) (.wholeU (by rw [Heap.upd_ne _ _ (by omega), Heap.upd_ne _ _ (by omega)]; exact a6) dl6.symm) (by rw [dl6]; decide) ?_
            rw [vdpFits_dump A0.good hlen A0.scr, dumpV_take hgl, pportOf_dump hgl, vdpOf_dump hgl hlen]
            have ub : ∀ V W, ((X6.upd n V).upd (n + 1) W) x.b = some (rvB x v) := fun V W => by rw [Heap.upd_ne _ _ (fun e => A6.no (show n + 1 < n + 2 by omega) (.inl e.symm)), Heap.upd_ne _ _ (fun e => A6.no (show n < n + 2 by omega) (.inl e.symm))]; exact A6.ref.b
            simp only [go_sem, if_true, ub, rvB]
            refine r14_modulo _ _ _ _ ?_
            simp only [go_sem, ub, rvB]
            have q6 := A6.qm
            have hm0' : 0 ≤ v.now % 59736 ∧ v.now % 59736 < 59736 := by omega
            have r7 : rvH ((X6.upd n (some (portB p))).upd (n + 1) (some (vdpB n ⟨v.e, v.now % 59736, v.scr⟩))) x p v := (A6.ref.out (A6.no (by omega)) _).out (A6.no (by omega)) _
            have no1 : ∀ {j}, j < n + 2 → j ≠ x.b := fun hj e => A6.no hj (.inl e)
            have J : RunI H n (100000 + 3000 * ((i + 1 : Nat) : Int)) (((X6.upd n (some (portB p))).upd (n + 1) (some (vdpB n ⟨v.e, v.now % 59736, v.scr⟩))).upd x.b (some (rvB x ⟨v.e, v.now % 59736, v.scr⟩))) (m + 3) x p ⟨v.e, v.now % 59736, v.scr⟩ :=
              A6.gone (Nat.le_refl _) (Heap.wf_set (Heap.wf_set (Heap.wf_set A6.wf (by omega) (PortS.cells_ok _ _)) (by omega) (vdpB_ok (by omega) _)) q6.1 (rvB_ok q6.2.2.1 q6.2.1 _)) (r7.setb A6.ok _ rfl) (by rw [Heap.upd_ne _ _ (no1 (by omega)), Heap.upd_same]) (by rw [Heap.upd_ne _ _ (no1 (by omega)), Heap.upd_ne _ _ (by omega), Heap.upd_same]) (fun j hj => by rw [Heap.upd_ne _ _ (no1 (by omega)), Heap.upd_ne _ _ (by omega), Heap.upd_ne _ _ (by omega)]) A0.good hlen A0.scr hm0'.1 (by simp only; omega)
            exact Ends.mk (⟨i, _, m + 3, x, p, ⟨v.e, v.now % 59736, v.scr⟩, bud⟩ : RunS) ⟨J, by simp only; omega, by simp only; omega, by simp only; omega⟩ (by repeat (first | exact Env.le_nil _ | refine Env.le_cons rfl ?_)) (fun _ _ => rfl) (by simp only; omega) (Nat.le_refl _)
        · have hDl : (dumpV p v).length = 65591 := dl
          have skip5 : ¬ 0 ≤ ga ∨ (0 ≤ ga ∧ ¬ ga < 65591) := by omega
          rcases skip5 with c50 | ⟨c50, c51⟩
          · simp only [go_sem, ua, c50, byB, List.length_map, dl]
            change ACalls _ _ _ (X1.upd (m + 1) (some (byB (dumpV p v)))) _ _
            generalize hDD : dumpV p v = D at hDl ⊢
            have u5 : ∀ {Z : Heap}, (∀ j, j < m + 2 → Z j = (X1.upd (m + 1) (some (byB D))) j) → Z (m + 1) = some (byB D) := fun hz => by rw [hz _ (by omega), Heap.upd_same]
            have A5 : RunI H n (100000 + 3000 * (i : Int)) (X1.upd (m + 1) (some (byB D))) (m + 2) x p v := A0.mono (Nat.le_succ _) (Heap.wf_upd A0.wf map_u8_ok) (fun j hj => by rw [Heap.upd_ne _ _ (by omega)])
            refine r20_load (.su (m + 1) 0 65591 1) D _ _ _ (.wholeU (Heap.upd_same _ _ _) hDl.symm) (by rw [hDl]; decide) (fun hf => ?_) (fun hf => ?_)
            · intro Y m' x' xok xown hm' yw hY yo
              simp only [go_sem]
              have yb : Y (n + 1) = some (vdpB n v) := by rw [yo _ (by omega)]; exact A5.pb
              have yq : Y n = some (portB p) := by rw [yo _ (by omega)]; exact A5.pq
              refine vdp_load (n + 1) n p hgl v hlen _ D _ _ _ yb yq (by omega) (.wholeU (by rw [Heap.upd_ne _ _ (by omega), Heap.upd_ne _ _ (by omega)]; exact u5 yo) hDl.symm) (by rw [hDl]; decide) ?_
              rw [hf]
              simp only [go_sem, if_true]
              obtain ⟨z1, z2, z3, z4, z5⟩ := vdpOf_good hf
              have no : ∀ {j}, j < m + 2 → ¬ x'.own j := fun hj e => by have := (xown _ e).1; omega
              have J : RunI H n (100000 + 3000 * ((i + 1 : Nat) : Int)) ((Y.upd n (some (portB (pportOf (D.take 16433))))).upd (n + 1) (some (vdpB n (vdpOf D)))) m' x' (pportOf (D.take 16433)) (vdpOf D) :=
                { wf := Heap.wf_set (Heap.wf_set yw (by omega) (PortS.cells_ok _ _)) (by omega) (vdpB_ok (by omega) _), lt := by omega, pb := Heap.upd_same _ _ _, pq := by rw [Heap.upd_ne _ _ (by omega), Heap.upd_same], ref := (hY.out (no (by omega)) _).out (no (by omega)) _, ok := xok, own := fun j hj => by have := (xown j hj).1; omega, old := fun j hj => by rw [Heap.upd_ne _ _ (by omega), Heap.upd_ne _ _ (by omega), yo _ (by omega)]; exact A5.old j hj, good := z1, len := z2, scr := z3, n0 := z4, n1 := by omega }
              exact Ends.mk (⟨i, _, m', x', pportOf (D.take 16433), vdpOf D, bud⟩ : RunS) ⟨J, by simp only; omega, by simp only; omega, by simp only; omega⟩ (by repeat (first | exact Env.le_nil _ | refine Env.le_cons rfl ?_)) (fun _ _ => rfl) (by simp only; omega) (Nat.le_refl _)
            · simp only [go_sem]
              refine vdp_load (n + 1) n p hgl v hlen _ D _ _ _ A5.pb A5.pq (by omega) (.wholeU (by rw [Heap.upd_ne _ _ (by omega), Heap.upd_ne _ _ (by omega)]; exact Heap.upd_same _ _ _) hDl.symm) (by rw [hDl]; decide) ?_
              rw [hf]
              simp only [go_sem, Bool.false_eq_true, if_false]
              refine r20_dump x A0.ok p A0.good.ok v hlen _ _ _ A5.ref ?_
              have A6 : RunI H n (100000 + 3000 * (i : Int)) ((X1.upd (m + 1) (some (byB D))).upd (m + 2) (some (byB (dumpV p v)))) (m + 3) x p v := A5.mono (Nat.le_succ _) (Heap.wf_upd A5.wf map_u8_ok) (fun j hj => by rw [Heap.upd_ne _ _ (by omega)])
              have a6 : ((X1.upd (m + 1) (some (byB D))).upd (m + 2) (some (byB (dumpV p v)))) (m + 2) = some (byB (dumpV p v)) := Heap.upd_same _ _ _
              generalize (X1.upd (m + 1) (some (byB D))).upd (m + 2) (some (byB (dumpV p v))) = X6 at A6 a6 ⊢
              simp only [go_sem]
              have dl6 : (dumpV p v).length = 65591 := dumpV_len hgl hlen
              refine vdp_load (n + 1) n p hgl v hlen _ (dumpV p v) _ _ _ A6.pb A6.pq (by omega) (.wholeU (by rw [Heap.upd_ne _ _ (by omega), Heap.upd_ne _ _ (by omega)]; exact a6) dl6.symm) (by rw [dl6]; decide) ?_
              rw [vdpFits_dump A0.good hlen A0.scr, dumpV_take hgl, pportOf_dump hgl, vdpOf_dump hgl hlen]
              have ub : ∀ V W, ((X6.upd n V).upd (n + 1) W) x.b = some (rvB x v) := fun V W => by rw [Heap.upd_ne _ _ (fun e => A6.no (show n + 1 < n + 2 by omega) (.inl e.symm)), Heap.upd_ne _ _ (fun e => A6.no (show n < n + 2 by omega) (.inl e.symm))]; exact A6.ref.b
              simp only [go_sem, if_true, ub, rvB]
              refine r14_modulo _ _ _ _ ?_
              simp only [go_sem, ub, rvB]
              have q6 := A6.qm
              have hm0' : 0 ≤ v.now % 59736 ∧ v.now % 59736 < 59736 := by omega
              have r7 : rvH ((X6.upd n (some (portB p))).upd (n + 1) (some (vdpB n ⟨v.e, v.now % 59736, v.scr⟩))) x p v := (A6.ref.out (A6.no (by omega)) _).out (A6.no (by omega)) _
              have no1 : ∀ {j}, j < n + 2 → j ≠ x.b := fun hj e => A6.no hj (.inl e)
              have J : RunI H n (100000 + 3000 * ((i + 1 : Nat) : Int)) (((X6.upd n (some (portB p))).upd (n + 1) (some (vdpB n ⟨v.e, v.now % 59736, v.scr⟩))).upd x.b (some (rvB x ⟨v.e, v.now % 59736, v.scr⟩))) (m + 3) x p ⟨v.e, v.now % 59736, v.scr⟩ :=
                A6.gone (Nat.le_refl _) (Heap.wf_set (Heap.wf_set (Heap.wf_set A6.wf (by omega) (PortS.cells_ok _ _)) (by omega) (vdpB_ok (by omega) _)) q6.1 (rvB_ok q6.2.2.1 q6.2.1 _)) (r7.setb A6.ok _ rfl) (by rw [Heap.upd_ne _ _ (no1 (by omega)), Heap.upd_same]) (by rw [Heap.upd_ne _ _ (no1 (by omega)), Heap.upd_ne _ _ (by omega), Heap.upd_same]) (fun j hj => by rw [Heap.upd_ne _ _ (no1 (by omega)), Heap.upd_ne _ _ (by omega), Heap.upd_ne _ _ (by omega)]) A0.good hlen A0.scr hm0'.1 (by simp only; omega)
              exact Ends.mk (⟨i, _, m + 3, x, p, ⟨v.e, v.now % 59736, v.scr⟩, bud⟩ : RunS) ⟨J, by simp only; omega, by simp only; omega, by simp only; omega⟩ (by repeat (first | exact Env.le_nil _ | refine Env.le_cons rfl ?_)) (fun _ _ => rfl) (by simp only; omega) (Nat.le_refl _)
          · simp only [go_sem, ua, c50, c51, byB, List.length_map, dl]
            change ACalls _ _ _ (X1.upd (m + 1) (some (byB (dumpV p v)))) _ _
            generalize hDD : dumpV p v = D at hDl ⊢
            have u5 : ∀ {Z : Heap}, (∀ j, j < m + 2 → Z j = (X1.upd (m + 1) (some (byB D))) j) → Z (m + 1) = some (byB D) := fun hz => by rw [hz _ (by omega), Heap.upd_same]
            have A5 : RunI H n (100000 + 3000 * (i : Int)) (X1.upd (m + 1) (some (byB D))) (m + 2) x p v := A0.mono (Nat.le_succ _) (Heap.wf_upd A0.wf map_u8_ok) (fun j hj => by rw [Heap.upd_ne _ _ (by omega)])
            refine r20_load (.su (m + 1) 0 65591 1) D _ _ _ (.wholeU (Heap.upd_same _ _ _) hDl.symm) (by rw [hDl]; decide) (fun hf => ?_) (fun hf => ?_)
            · intro Y m' x' xok xown hm' yw hY yo
              simp only [go_sem]
              have yb : Y (n + 1) = some (vdpB n v) := by rw [yo _ (by omega)]; exact A5.pb
              have yq : Y n = some (portB p) := by rw [yo _ (by omega)]; exact A5.pq
              refine vdp_load (n + 1) n p hgl v hlen _ D _ _ _ yb yq (by omega) (.wholeU (by rw [Heap.upd_ne _ _ (by omega), Heap.upd_ne _ _ (by omega)]; exact u5 yo) hDl.symm) (by rw [hDl]; decide) ?_
              rw [hf]
              simp only [go_sem, if_true]
              obtain ⟨z1, z2, z3, z4, z5⟩ := vdpOf_good hf
              have no : ∀ {j}, j < m + 2 → ¬ x'.own j := fun hj e => by have := (xown _ e).1; omega
              have J : RunI H n (100000 + 3000 * ((i + 1 : Nat) : Int)) ((Y.upd n (some (portB (pportOf (D.take 16433))))).upd (n + 1) (some (vdpB n (vdpOf D)))) m' x' (pportOf (D.take 16433)) (vdpOf D) :=
                { wf := Heap.wf_set (Heap.wf_set yw (by omega) (PortS.cells_ok _ _)) (by omega) (vdpB_ok (by omega) _), lt := by omega, pb := Heap.upd_same _ _ _, pq := by rw [Heap.upd_ne _ _ (by omega), Heap.upd_same], ref := (hY.out (no (by omega)) _).out (no (by omega)) _, ok := xok, own := fun j hj => by have := (xown j hj).1; omega, old := fun j hj => by rw [Heap.upd_ne _ _ (by omega), Heap.upd_ne _ _ (by omega), yo _ (by omega)]; exact A5.old j hj, good := z1, len := z2, scr := z3, n0 := z4, n1 := by omega }
              exact Ends.mk (⟨i, _, m', x', pportOf (D.take 16433), vdpOf D, bud⟩ : RunS) ⟨J, by simp only; omega, by simp only; omega, by simp only; omega⟩ (by repeat (first | exact Env.le_nil _ | refine Env.le_cons rfl ?_)) (fun _ _ => rfl) (by simp only; omega) (Nat.le_refl _)
            · simp only [go_sem]
              refine vdp_load (n + 1) n p hgl v hlen _ D _ _ _ A5.pb A5.pq (by omega) (.wholeU (by rw [Heap.upd_ne _ _ (by omega), Heap.upd_ne _ _ (by omega)]; exact Heap.upd_same _ _ _) hDl.symm) (by rw [hDl]; decide) ?_
              rw [hf]
              simp only [go_sem, Bool.false_eq_true, if_false]
              refine r20_dump x A0.ok p A0.good.ok v hlen _ _ _ A5.ref ?_
              have A6 : RunI H n (100000 + 3000 * (i : Int)) ((X1.upd (m + 1) (some (byB D))).upd (m + 2) (some (byB (dumpV p v)))) (m + 3) x p v := A5.mono (Nat.le_succ _) (Heap.wf_upd A5.wf map_u8_ok) (fun j hj => by rw [Heap.upd_ne _ _ (by omega)])
              have a6 : ((X1.upd (m + 1) (some (byB D))).upd (m + 2) (some (byB (dumpV p v)))) (m + 2) = some (byB (dumpV p v)) := Heap.upd_same _ _ _
              generalize (X1.upd (m + 1) (some (byB D))).upd (m + 2) (some (byB (dumpV p v))) = X6 at A6 a6 ⊢
              simp only [go_sem]
              have dl6 : (dumpV p v).length = 65591 := dumpV_len hgl hlen
              refine vdp_load (n + 1) n p hgl v hlen _ (dumpV p v) _ _ _ A6.pb A6.pq (by omega) (.wholeU (by rw [Heap.upd_ne _ _ (by omega), Heap.upd_ne _ _ (by omega)]; exact a6) dl6.symm) (by rw [dl6]; decide) ?_
              rw [vdpFits_dump A0.good hlen A0.scr, dumpV_take hgl, pportOf_dump hgl, vdpOf_dump hgl hlen]
              have ub : ∀ V W, ((X6.upd n V).upd (n + 1) W) x.b = some (rvB x v) := fun V W => by rw [Heap.upd_ne _ _ (fun e => A6.no (show n + 1 < n + 2 by omega) (.inl e.symm)), Heap.upd_ne _ _ (fun e => A6.no (show n < n + 2 by omega) (.inl e.symm))]; exact A6.ref.b
              simp only [go_sem, if_true, ub, rvB]
              refine r14_modulo _ _ _ _ ?_
              simp only [go_sem, ub, rvB]
              have q6 := A6.qm
              have hm0' : 0 ≤ v.now % 59736 ∧ v.now % 59736 < 59736 := by omega
              have r7 : rvH ((X6.upd n (some (portB p))).upd (n + 1) (some (vdpB n ⟨v.e, v.now % 59736, v.scr⟩))) x p v := (A6.ref.out (A6.no (by omega)) _).out (A6.no (by omega)) _
              have no1 : ∀ {j}, j < n + 2 → j ≠ x.b := fun hj e => A6.no hj (.inl e)
              have J : RunI H n (100000 + 3000 * ((i + 1 : Nat) : Int)) (((X6.upd n (some (portB p))).upd (n + 1) (some (vdpB n ⟨v.e, v.now % 59736, v.scr⟩))).upd x.b (some (rvB x ⟨v.e, v.now % 59736, v.scr⟩))) (m + 3) x p ⟨v.e, v.now % 59736, v.scr⟩ :=
                A6.gone (Nat.le_refl _) (Heap.wf_set (Heap.wf_set (Heap.wf_set A6.wf (by omega) (PortS.cells_ok _ _)) (by omega) (vdpB_ok (by omega) _)) q6.1 (rvB_ok q6.2.2.1 q6.2.1 _)) (r7.setb A6.ok _ rfl) (by rw [Heap.upd_ne _ _ (no1 (by omega)), Heap.upd_same]) (by rw [Heap.upd_ne _ _ (no1 (by omega)), Heap.upd_ne _ _ (by omega), Heap.upd_same]) (fun j hj => by rw [Heap.upd_ne _ _ (no1 (by omega)), Heap.upd_ne _ _ (by omega), Heap.upd_ne _ _ (by omega)]) A0.good hlen A0.scr hm0'.1 (by simp only; omega)
              exact Ends.mk (⟨i, _, m + 3, x, p, ⟨v.e, v.now % 59736, v.scr⟩, bud⟩ : RunS) ⟨J, by simp only; omega, by simp only; omega, by simp only; omega⟩ (by repeat (first | exact Env.le_nil _ | refine Env.le_cons rfl ?_)) (fun _ _ => rfl) (by simp only; omega) (Nat.le_refl _)
      rintro ⟨_, X2, m2, x2, p2, v2, b2⟩ ⟨I2, hb20, hb21, hm2⟩
      simp only at I2 hb20 hb21 hm2 ⊢
      have hpb := I2.pb
      have hpq := I2.pq
      have hrb := I2.ref.b
      have hgl := I2.good.ok.lens
      have hn0 := I2.n0
      have hn1 := I2.n1
      have hlen := I2.len
      have w5 : wrap64 ((i : Int) + 1) = ((i + 1 : Nat) : Int) := by rw [wrap_id _ (by omega) (by omega)]; omega
      refine awp_step dr0 (by decide +kernel) ?_
      simp only [go_sem]
      refine vdp_counters (n + 1) n v2 hlen _ _ _ hpb ?_
      simp only [go_sem]
      refine awp_ev dr3 (by decide +kernel) ?_
      simp only [go_sem, hrb, rvB]
      refine vdp_now (n + 1) n v2 hlen _ _ _ hpb ?_
      simp only [go_sem, hrb, rvB]
      refine vdp_asks (n + 1) n p2 hgl v2 hlen _ _ _ hpb hpq ?_
      simp only [go_sem, hrb, rvB]
      refine r20_asks x2 p2 hgl v2 _ _ _ I2.ref ?_
      simp only [go_sem, hrb, rvB]
      refine vdp_wait (n + 1) n p2 hgl v2 hlen _ _ _ hpb hpq ?_
      simp only [go_sem, hrb, rvB]
      refine r20_wait x2 p2 hgl v2 ⟨hn0, by omega⟩ _ _ _ I2.ref ?_
      simp only [go_sem, hrb, rvB]
      refine r14_line _ _ _ _ ?_
      simp only [go_sem, hrb, rvB]
      refine r14_v _ _ _ _ ?_
      simp only [go_sem, hrb, rvB]
      refine r14_dot _ _ _ _ ?_
      simp only [go_sem, hrb, rvB]
      refine r14_h _ _ _ _ ?_
      simp only [go_sem, hrb, rvB]
      refine awp_ev dr0 (by decide +kernel) ?_
      simp only [go_sem, w5]
      exact Ends.mk (⟨i + 1, X2, m2, x2, p2, v2, b2⟩ : RunS) ⟨by simp only; omega, by simp only; omega, I2, by simp only; omega, by simp only; omega, by simp only; omega⟩ (by repeat (first | exact Env.le_nil _ | refine Env.le_cons rfl ?_)) (fun _ _ => rfl) (by simp only; omega) (Nat.le_refl _)
    · have hie : i = acts.length := by omega
      subst hie
      exact Ends.mk (⟨0, X, m, x, p, v, 0⟩ : RunS) ⟨I.lower (by omega), hmm⟩ (by repeat (first | exact Env.le_nil _ | refine Env.le_cons rfl ?_)) (fun _ _ => rfl) (by simp only; omega) (Nat.le_refl _)
  rintro ⟨_, X, m, x, p, v, _⟩ ⟨I, -⟩
  simp only at I ⊢
  have hpb := I.pb
  have hpq := I.pq
  have hrb := I.ref.b
  have hgl := I.good.ok.lens
  have hn0 := I.n0
  have hlen := I.len
  have hml := I.lt
  have hmq := I.qm
  have dl : (dumpV p v).length = 65591 := dumpV_len hgl hlen
  have lm : ((dumpV p v).map AV.u8).length = 65591 := by rw [List.length_map, dl]
  have dt : (List.map AV.u8 (dumpV p v)).take 65591 = List.map AV.u8 (dumpV p v) := List.take_of_length_le (by rw [lm]; exact Nat.le_refl _)
  have lm2 : (v.scr.map AV.u8).length = 49152 := by rw [List.length_map, hlen]
  have dt2 : (List.map AV.u8 v.scr).take 49152 = List.map AV.u8 v.scr := List.take_of_length_le (by rw [lm2]; exact Nat.le_refl _)
  have hsb : ∀ Z : Heap, (∀ j, j < m → Z j = X j) → bytesIn Z (vw x.su x.s 0 49152 49152) v.scr := fun Z hZ => .vw (su := x.su) (b := x.s) (by rw [hZ _ hmq.2.1]; exact I.ref.s) hlen.symm (Nat.le_refl _) (by show ((v.scr.map AV.u8).drop 0).take _ = _; rw [List.drop_zero, List.take_of_length_le (by rw [List.length_map]; exact Nat.le_refl _)]) (by show 0 + v.scr.length ≤ (v.scr.map AV.u8).length; rw [List.length_map]; omega)
  generalize hG : dumpV p v = G at dl lm dt
  refine awp_seq (awp_tree td3_48 tr3_48 (by decide +kernel) (by decide +kernel) ?_)
  simp only [go_sem]
  refine vdp_dump (n + 1) n p hgl v hlen hn0 _ _ _ hpb hpq ?_
  rw [hG]
  simp only [go_sem, lm, dt]
  have e1 : ∀ V, ∀ j, j < m → (X.upd m V) j = X j := fun V j hj => Heap.upd_ne _ _ (by omega)
  have e2 : ∀ V W, ∀ j, j < m → ((X.upd m V).upd (m + 1) W) j = X j := fun V W j hj => by rw [Heap.upd_ne _ _ (by omega)]; exact e1 V j hj
  have e3 : ∀ V W U, ∀ j, j < m → (((X.upd m V).upd (m + 1) W).upd (m + 2) U) j = X j := fun V W U j hj => by rw [Heap.upd_ne _ _ (by omega)]; exact e2 V W j hj
  have r1 : ∀ V, rvH (X.upd m V) x p v := fun V => I.ref.mono I.wf (e1 V)
  have b2 : ∀ V W, ((X.upd m V).upd (m + 1) W) x.b = some (rvB x v) := fun V W => by rw [e2 V W _ hmq.1]; exact hrb
  have b3 : ∀ V W U, (((X.upd m V).upd (m + 1) W).upd (m + 2) U) x.b = some (rvB x v) := fun V W U => by rw [e3 V W U _ hmq.1]; exact hrb
  have p2 : ∀ V W, ((X.upd m V).upd (m + 1) W) (n + 1) = some (vdpB n v) := fun V W => by rw [e2 V W _ (by omega)]; exact hpb
  have k2 : ∀ V W Kc, readK ((X.upd m V).upd (m + 1) W) 1 (vw x.su x.s 0 49152 49152) Kc = Kc v.scr.length (v.scr.map .u8) := fun V W Kc => readK_bytes (hsb _ (e2 V W)) Kc
  have k3 : ∀ V W U Kc, readK (((X.upd m V).upd (m + 1) W).upd (m + 2) U) 1 (vw x.su x.s 0 49152 49152) Kc = Kc v.scr.length (v.scr.map .u8) := fun V W U Kc => readK_bytes (hsb _ (e3 V W U)) Kc
  repeat' first
    | with_reducible refine And.intro ?_ ?_
    | (refine r20_dump x I.ok p I.good.ok v hlen _ _ _ (r1 _) ?_; rw [hG]; simp only [go_sem, lm, dt, byB, b2, rvB, k2])
    | (refine vdp_screen (n + 1) n v hlen _ _ _ (p2 _ _) ?_; simp only [go_sem, lm2, dt2, b3, rvB, k3])
    | (refine awp_ev dr0 (by decide +kernel) ?_; simp only [go_sem])
    | exact Fin.back wf h (fun j hj => by rw [e3 _ _ _ _ (by omega)]; exact I.old j hj) rfl
end Go.Proofs.Joy
namespace Go.Proofs.Joy
open Go.Ab Go.Proofs

def shActs : AK := .one (.s 29 [.int .i64, .int .i64, .int .i64])
theorem runs_all (H : Heap) (n : Nat) (L : List AV) (_ : RO H) (_ : H.wf n) (_ : ∀ x ∈ L, x.ok n = true) (hf : fitAs H [shActs] L) : ACalls Tryz.prog 3 L H n fun v _ _ => v = .bo true := by
  match L, hf with
  | [a], ⟨h1, _⟩ =>
    obtain ⟨xs, hx⟩ := fitL_list (el := 29) encV (fun l hl => by
      match l, hl with
      | [.i64 a, .i64 b, .i64 c], _ => exact ⟨⟨a, b, c⟩, rfl⟩) h1
    refine runs_walk a xs _ _ _ ?_ rfl
    rcases hx with h | ⟨b, c, el, h0, h1, -, h2⟩
    · exact .inl h
    · exact .inr ⟨b, c, el, h0, h1, h2⟩
end Go.Proofs.Joy
