/- Parts of the proof: contracts of the seat's functions. -/
import Derived.Test.YtpgjpdcnhbiejaaJoyX4
import Derived.Test.YtpgjpdcnhbiejaaJoyW3
set_option linter.unusedSimpArgs false
set_option linter.unusedVariables false
namespace Go.Proofs.Joy
open Go.Ab Go.Proofs

set_option maxHeartbeats 1000000
set_option maxRecDepth 20000

def picB (C : List (BitVec 8)) (o m : Bool) : Blk := ⟨C.map .u8 ++ [.bo o, .bo m], 25, false⟩
theorem picB_ok (C : List (BitVec 8)) (o m : Bool) (n : Nat) : ∀ v ∈ (picB C o m).cells, v.ok n = true := by
  intro v hv
  simp only [picB, List.mem_append, List.mem_map, List.mem_cons, List.not_mem_nil, or_false] at hv
  rcases hv with ⟨x, -, rfl⟩ | rfl | rfl <;> rfl
theorem pic_av (C : List (BitVec 8)) (o m : Bool) (n : Nat) : AV.ok n (.ag (C.map .u8 ++ [.bo o, .bo m])) = true := by
  rw [AV.ok, AV.oks_eq]; simp [AV.ok, AV.one]
theorem bits_ne (b c : BitVec 8) : (b &&& c != 0#8) = decide (b &&& c ≠ 0#8) := by by_cases h : b &&& c = 0#8 <;> simp [h]

structure DrS where
  j : Nat
  m : Nat
  X : Heap
structure DrI (H : Heap) (n : Nat) (regs : List (BitVec 8)) (f : Nat → BitVec 8) (o mm : Bool) (j m : Nat) (X : Heap) : Prop where
  wf : X.wf m
  le : n + 3 ≤ m
  r : X n = some ⟨regs.map .u8, 27, false⟩
  z : X (n + 1) = some (picB (List.replicate 256 0#8) false false)
  c : X (n + 2) = some (picB (layF f 256 j) o mm)
  old : ∀ k, k < n → X k = H k
theorem DrI.put {H : Heap} {n : Nat} {regs : List (BitVec 8)} {f : Nat → BitVec 8} {o mm : Bool} {j m : Nat} {X : Heap} (h : DrI H n regs f o mm j m X) (f' : Nat → BitVec 8) (o' mm' : Bool) (j' : Nat) : DrI H n regs f' o' mm' j' m (X.upd (n + 2) (some (picB (layF f' 256 j') o' mm'))) :=
  ⟨Heap.wf_set h.wf (by have := h.le; omega) (picB_ok _ _ _ _), h.le, by rw [Heap.upd_ne _ _ (by omega)]; exact h.r, by rw [Heap.upd_ne _ _ (by omega)]; exact h.z, Heap.upd_same _ _ _, fun k hk => by rw [Heap.upd_ne _ _ (by omega)]; exact h.old k hk⟩
theorem pic_set (f : Nat → BitVec 8) (o m : Bool) {j : Nat} (hj : j < 256) (y : BitVec 8) (hy : y = f j) : ((layF f 256 j).map AV.u8 ++ [AV.bo o, AV.bo m]).set j (.u8 y) = (layF f 256 (j + 1)).map AV.u8 ++ [AV.bo o, AV.bo m] := by
  rw [List.set_append_left _ _ (by rw [List.length_map, layF_len _ (by omega)]; exact hj), ← List.map_set, hy, layF_set _ hj]
theorem pic_len (f : Nat → BitVec 8) (o m : Bool) {j : Nat} (hj : j ≤ 256) : ((layF f 256 j).map AV.u8 ++ [AV.bo o, AV.bo m]).length = 258 := by
  rw [List.length_append, List.length_map, layF_len _ hj]; rfl

theorem draw_ok (v cv : AV) (bs cs regs : List (BitVec 8)) (hr : regs.length = 11) (line : Int) (hln : -9223372036854775808 ≤ line ∧ line ≤ 9223372036854775807) (H : Heap) (n : Nat) (K : AV → Heap → Nat → Prop) (hv : bytesIn H v bs) (hc : bytesIn H cv cs)
    (h : K (.ag ((lineC bs cs regs line).map .u8 ++ [.bo (lineO bs regs line), .bo (lineM bs regs line)])) H n) :
    ACalls Try.prog 8 [v, cv, .ag (regs.map .u8), .i64 line] H n K := by
  refine ACalls.of_awp Try.func8 rfl (by decide +kernel) (show 4 ≤ 100 by decide) (by simp [hv.ne, hc.ne]) fun wf => ?_
  have okOf : ∀ {v : AV} {bs : List (BitVec 8)}, bytesIn H v bs → v.ok n = true := fun hv => by
    rcases hv with ⟨rfl, rfl⟩ | ⟨su, b, o, c, blk, rfl, h0, h1, h2, h3⟩
    · rfl
    · exact vw_ok (wf b _ h1).1
  have hvok := okOf hv
  have hcok := okOf hc
  obtain ⟨r0, r1, r2, r3, r4, r5, r6, r7, r8, r9, r10, hregs⟩ := regs11 hr
  have hr0 : regs.getD 0 0#8 = r0 := by rw [hregs]; rfl
  have hr7 : regs.getD 7 0#8 = r7 := by rw [hregs]; rfl
  have hm : regs.map AV.u8 = [.u8 r0, .u8 r1, .u8 r2, .u8 r3, .u8 r4, .u8 r5, .u8 r6, .u8 r7, .u8 r8, .u8 r9, .u8 r10] := by rw [hregs]; rfl
  have hgc : ∀ X : Heap, X = (((H.upd n (some ⟨[.u8 r0, .u8 r1, .u8 r2, .u8 r3, .u8 r4, .u8 r5, .u8 r6, .u8 r7, .u8 r8, .u8 r9, .u8 r10], 27, false⟩)).upd (n + 1) (some ⟨List.replicate 256 (.u8 0#8) ++ [.bo false, .bo false], 25, false⟩)).upd (n + 2) (some ⟨List.replicate 256 (.u8 0#8) ++ [.bo false, .bo false], 25, false⟩)) →
      ∀ f, DrI H n regs f false false 0 (n + 3) X := fun X hX f => by
    subst hX
    have er : ∀ k, List.replicate k (AV.u8 0#8) ++ [AV.bo false, AV.bo false] = (picB (List.replicate k 0#8) false false).cells := fun k => by simp only [picB, List.map_replicate]
    refine ⟨Heap.wf_upd (Heap.wf_upd (Heap.wf_upd wf (by rw [← hm]; exact map_u8_ok)) (by rw [er]; exact picB_ok _ _ _ _)) (by rw [er]; exact picB_ok _ _ _ _), Nat.le_refl _, ?_, ?_, ?_, fun k hk => ?_⟩
    · rw [Heap.upd_ne _ _ (by omega), Heap.upd_ne _ _ (by omega), Heap.upd_same, hm]
    · rw [Heap.upd_ne _ _ (by omega), Heap.upd_same, er]; rfl
    · rw [Heap.upd_same, er, layF_zero]; rfl
    · rw [Heap.upd_ne _ _ (by omega), Heap.upd_ne _ _ (by omega), Heap.upd_ne _ _ (by omega)]
  rw [hm]
  refine awp_step dr8 (by decide +kernel) ?_
  simp only [go_sem, Try.f8]
  refine awp_step dr8 (by decide +kernel) ?_
  simp only [go_sem]
  refine awp_gen (fun X => ∀ f, DrI H n regs f false false 0 (n + 3) X) (hgc _ rfl) ?_
  intro X hX
  have x0 := (hX (fun _ => 0#8)).r
  rw [hm] at x0
  have xz : X (n + 1) = some ⟨(List.replicate 256 0#8).map .u8 ++ [.bo false, .bo false], 25, false⟩ := (hX (fun _ => 0#8)).z
  have xc : X (n + 2) = some ⟨(List.replicate 256 0#8).map .u8 ++ [.bo false, .bo false], 25, false⟩ := by
    rw [(hX (fun _ => 0#8)).c, layF_zero]; rfl
  have xo := (hX (fun _ => 0#8)).old
  have l0 : ((List.replicate 256 0#8).map AV.u8 ++ [AV.bo false, AV.bo false]).length = 258 := by rw [List.length_append, List.length_map, List.length_replicate]; rfl
  have es0 : ∀ L : List AV, L.length = 258 → splice ((List.replicate 256 0#8).map AV.u8 ++ [AV.bo false, AV.bo false]) 0 L = L := fun L hL => by simp [splice, hL]
  have hvX := hv.mono hvok xo
  have hcX := hc.mono hcok xo
  have hvok3 : v.ok (n + 3) = true := AV.ok_mono (by omega) _ hvok
  have hcok3 : cv.ok (n + 3) = true := AV.ok_mono (by omega) _ hcok
  by_cases hin : line < 0 ∨ 192 ≤ line
  · have hno : inLine line = false := by unfold inLine; rcases hin with a | a <;> simp <;> omega
    have eC : lineC bs cs regs line = List.replicate 256 0#8 := by
      unfold lineC
      have : ∀ x, seeS bs cs regs line x = 0#8 := fun x => by unfold seeS; rw [if_pos hno]
      rw [List.map_congr_left (fun x _ => this x), List.map_const', List.length_range]
    have eO : lineO bs regs line = false := by unfold lineO; rw [hno]; rfl
    have eM : lineM bs regs line = false := by unfold lineM; rw [hno]; rfl
    rw [eC, eO, eM] at h
    have pa := pic_av (List.replicate 256 0#8) false false n
    have e1 := es0 _ l0
    generalize (List.replicate 256 0#8).map AV.u8 ++ [AV.bo false, AV.bo false] = L at xz xc l0 e1 h pa
    have tk : L.take 258 = L := List.take_of_length_le (by omega)
    refine awp_step dr8 (by decide +kernel) ?_
    rcases hin with hin | hin
    · simp only [go_sem, hin, xz, xc, l0, e1, tk]
      exact Fin.back wf h (fun k hk => by rw [Heap.upd_ne _ _ (by omega)]; exact xo k hk) pa
    · have hin' : ¬ line < 0 := by omega
      simp only [go_sem, hin, hin', xz, xc, l0, e1, tk]
      exact Fin.back wf h (fun k hk => by rw [Heap.upd_ne _ _ (by omega)]; exact xo k hk) pa
  have hl : 0 ≤ line ∧ line < 192 := by omega
  have hl1 : ¬ line < 0 := by omega
  have hl2 : ¬ 192 ≤ line := by omega
  have hyes : inLine line = true := by unfold inLine; simp; omega
  refine awp_step dr8 (by decide +kernel) ?_
  simp only [go_sem, hl1, hl2]
  refine awp_step dr8 (by decide +kernel) ?_
  have h7 : (r7 &&& 15#8).toNat ≤ 15 := by rw [BitVec.toNat_and]; exact Nat.and_le_right
  have we : wrap64 (16 + ((r7 &&& 15#8).toNat : Int)) = 16 + (r7 &&& 15#8).toNat := wrap_id _ (by omega) (by omega)
  simp only [go_sem, x0, we]
  refine line_paint cv cs _ _ _ _ hcX hcok3 ?_
  have eE : paintS cs (16 + ((r7 &&& 15#8).toNat : Int)) = edgeS cs regs := by unfold edgeS; rw [hr7]
  rw [eE]
  simp only [go_sem]
  refine awp_step dr8 (by decide +kernel) ?_
  simp only [go_sem, x0]
  rw [← hm]
  refine shows_ok regs hr _ _ _ ?_
  simp only [go_sem]
  by_cases hs : shownS regs = false
  · have eO : lineO bs regs line = false := by unfold lineO; rw [hs, Bool.and_false]; rfl
    have eM : lineM bs regs line = false := by unfold lineM; rw [hs, Bool.and_false]; rfl
    have eC : ∀ x, seeS bs cs regs line x = edgeS cs regs := fun x => by unfold seeS; rw [if_neg (by rw [hyes]; decide), if_pos (.inl hs)]
    rw [hs]
    simp only [go_sem]
    have eC' : lineC bs cs regs line = layF (fun _ => edgeS cs regs) 256 256 := by unfold lineC; rw [layF_all]; exact List.map_congr_left fun x _ => eC x
    rw [eO, eM, eC'] at h
    generalize edgeS cs regs = ed at hX h ⊢
    refine awp_loopF (S := DrS) (fun t => [(3, .i64 line), (8, .pt (n + 1) 0), (9, .pt (n + 2) 0), (10, .u8 ed), (33, .i64 t.j)]) (fun t => t.X) (fun _ => n + 3) (fun t => t.j ≤ 256 ∧ DrI H n regs (fun _ => ed) false false t.j (n + 3) t.X) (fun t => 256 - t.j)
      (fun t ht => ⟨ht.2.wf, Env.okAt_of2 (by simp [AV.ok])⟩) ?_ (⟨0, 0, X⟩ : DrS) ⟨Nat.zero_le _, hX _⟩ (by repeat (first | exact Env.le_nil _ | refine Env.le_cons rfl ?_)) (fun _ _ => rfl) rfl
    rintro ⟨j, _, Y⟩ ⟨hj, hI⟩
    simp only at hj hI ⊢
    have yc : Y (n + 2) = some ⟨(layF (fun _ => ed) 256 j).map .u8 ++ [.bo false, .bo false], 25, false⟩ := hI.c
    have yz : Y (n + 1) = some ⟨(List.replicate 256 0#8).map .u8 ++ [.bo false, .bo false], 25, false⟩ := hI.z
    refine awp_step dr8 (by decide +kernel) ?_
    simp only [go_sem]
    refine awp_step dr8 (by decide +kernel) ?_
    simp only [go_sem]
    refine ⟨fun hlt => ?_, fun hlt => ?_⟩
    · have hj' : j < 256 := by omega
      have hjI : (j : Int) < 256 := by omega
      have hj2 : j < 258 := by omega
      have w1 : wrap64 ((j : Int) + 1) = ((j + 1 : Nat) : Int) := by rw [wrap_id _ (by omega) (by omega)]; omega
      refine awp_seq (awp_block ?_)
      refine awp_ev dr8 (by decide +kernel) ?_
      simp only [go_sem, yc, hjI, hj2, pic_len _ _ _ hj, pic_set (fun _ => ed) false false hj' ed rfl]
      refine ⟨by omega, ?_⟩
      refine awp_ev dr8 (by decide +kernel) ?_
      simp only [go_sem, w1]
      exact Ends.mk (⟨j + 1, 0, Y.upd (n + 2) (some (picB (layF (fun _ => ed) 256 (j + 1)) false false))⟩ : DrS) ⟨by simp only; omega, by simp only; omega, hI.put _ _ _ _⟩ (by repeat (first | exact Env.le_nil _ | refine Env.le_cons rfl ?_)) (fun k _ => rfl) (Nat.le_refl _) (Nat.le_refl _)
    · have hj6 : j = 256 := by omega
      subst hj6
      have pa := pic_av (layF (fun _ => ed) 256 256) false false n
      have e1 := es0 _ (pic_len (fun _ => ed) false false hj)
      have l1 := pic_len (fun _ => ed) false false hj
      generalize (layF (fun _ => ed) 256 256).map AV.u8 ++ [AV.bo false, AV.bo false] = L at yc l1 e1 h pa
      have tk : L.take 258 = L := List.take_of_length_le (by omega)
      simp only [go_sem, yc, yz, l0, l1, e1, tk]
      exact Fin.back wf h (fun k hk => by rw [Heap.upd_ne _ _ (by omega)]; exact hI.old k hk) pa
  · have hs' : shownS regs = true := by simpa using hs
    rw [hs']
    simp only [go_sem]
    refine awp_step dr8 (by decide +kernel) ?_
    rw [hm]
    simp only [go_sem, x0]
    rw [← hm]
    refine back_line v bs regs hr line hl _ _ _ hvX ?_
    intro C F c1 c2 c3 c4
    simp only [go_sem]
    have ld : ∀ {Y : Heap}, (∀ i, i < n + 3 → Y i = X i) → loadB (Y n) (some (true, 11)) 0 fun x => x = AV.ag (regs.map .u8) := fun hY => by
      rw [hY n (by omega), hm, x0]; simp only [go_sem]
    refine ⟨ld (fun _ _ => rfl), ?_⟩
    refine line_ok v bs regs hr line hln _ _ _ hvX ?_
    intro X' m hm3 xw' xo'
    have x0' := x0
    rw [← xo' n (by omega)] at x0'
    have xc' := xc
    rw [← xo' (n + 2) (by omega)] at xc'
    simp only [go_sem]
    have hS : (spritesS bs regs line).c.length = 256 := by unfold spritesS; rw [rowTo_len, List.length_replicate]
    have gl : (C.map AV.u8 ++ F.map AV.bo).length = 512 := by rw [List.length_append, List.length_map, List.length_map, c1, c2]
    have ml : ∀ o mm, ((spritesS bs regs line).c.map AV.u8 ++ [AV.bo o, AV.bo mm]).length = 258 := fun o mm => by rw [List.length_append, List.length_map, hS]; rfl
    refine ⟨ld (fun i hi => by rw [Heap.upd_ne _ _ (by omega)]; exact xo' i hi), ld (fun i hi => by rw [Heap.upd_ne _ _ (by omega), Heap.upd_ne _ _ (by omega)]; exact xo' i hi), gl, by simp, ml _ _, by simp, ?_⟩
    have s1 : splice (List.replicate 256 (AV.u8 0#8) ++ List.replicate 256 (AV.bo false)) 0 (C.map AV.u8 ++ F.map AV.bo) = C.map AV.u8 ++ F.map AV.bo := by simp [splice, c1, c2]
    have s2 : splice (List.replicate 256 (AV.u8 0#8) ++ [AV.bo false, AV.bo false]) 0 (rowB (spritesS bs regs line).c (decide (8 < (hitsS bs regs line).length)) (spritesS bs regs line).m).cells = (spritesS bs regs line).c.map AV.u8 ++ [AV.bo (decide (8 < (hitsS bs regs line).length)), AV.bo (spritesS bs regs line).m] := by
      unfold rowB; simp [splice, hS]
    rw [s1, s2]
    have eO : lineO bs regs line = decide (8 < (hitsS bs regs line).length) := by unfold lineO; rw [hyes, hs']; simp
    have eM : lineM bs regs line = (spritesS bs regs line).m := by unfold lineM; rw [hyes, hs']; simp
    have eF : ∀ j : Nat, mixD bs regs line j = if (spritesS bs regs line).c.getD j 0#8 ≠ 0#8 ∧ gfrS bs regs line j = false then (spritesS bs regs line).c.getD j 0#8 else gcolS bs regs line j := fun j => rfl
    rw [← eO, ← eM]
    have hh : lineC bs cs regs line = layF (seeS bs cs regs line) 256 256 := by unfold lineC; rw [layF_all]
    rw [hh] at h
    generalize spritesS bs regs line = S at hS ml s2 eM eF ⊢
    generalize lineO bs regs line = oo at h ⊢
    generalize lineM bs regs line = mm at h ⊢
    refine awp_gen (fun W => W.wf (m + 2) ∧ W m = some ⟨C.map .u8 ++ F.map .bo, 49, false⟩ ∧ W (m + 1) = some ⟨S.c.map .u8 ++ [.bo oo, .bo mm], 51, false⟩ ∧ ∀ i, i < m → W i = X' i) ?_ ?_
    · have k1 : ∀ k, ∀ y ∈ (C.map AV.u8 ++ F.map AV.bo), y.ok k = true := fun k => grdB_ok C F k
      have k2 : ∀ k, ∀ y ∈ (S.c.map AV.u8 ++ [AV.bo oo, AV.bo mm]), y.ok k = true := fun k => picB_ok S.c oo mm k
      have k3 : ∀ k, ∀ y ∈ (List.replicate 256 (AV.u8 0#8) ++ List.replicate 256 (AV.bo false)), y.ok k = true := fun k y hy => by
        rcases List.mem_append.1 hy with a | a <;> rw [(List.mem_replicate.1 a).2] <;> rfl
      have k4 : ∀ k, ∀ y ∈ (List.replicate 256 (AV.u8 0#8) ++ [AV.bo false, AV.bo false]), y.ok k = true := fun k y hy => by
        rcases List.mem_append.1 hy with a | a
        · rw [(List.mem_replicate.1 a).2]; rfl
        · simp only [List.mem_cons, List.not_mem_nil, or_false] at a; rcases a with rfl | rfl <;> rfl
      exact ⟨Heap.wf_set (Heap.wf_set (Heap.wf_upd (Heap.wf_upd xw' (k3 _)) (k4 _)) (by omega) (k1 _)) (by omega) (k2 _), by rw [Heap.upd_ne _ _ (by omega), Heap.upd_same], Heap.upd_same _ _ _, fun i hi => by
        rw [Heap.upd_ne _ _ (by omega), Heap.upd_ne _ _ (by omega), Heap.upd_ne _ _ (by omega), Heap.upd_ne _ _ (by omega)]⟩
    rintro W ⟨ww, wg, wm, wo⟩
    have wx : ∀ i, i < n + 3 → W i = X i := fun i hi => by rw [wo i (by omega), xo' i hi]
    have wc : W (n + 2) = some ⟨(List.replicate 256 0#8).map .u8 ++ [.bo false, .bo false], 25, false⟩ := by rw [wx _ (by omega), xc]
    have gm1 : (S.c.map AV.u8 ++ [AV.bo oo, AV.bo mm]).getD 256 .junk = .bo oo := by rw [getD_app_r (by rw [List.length_map, hS]; exact Nat.le_refl _), List.length_map, hS]; rfl
    have gm2 : (S.c.map AV.u8 ++ [AV.bo oo, AV.bo mm]).getD 257 .junk = .bo mm := by rw [getD_app_r (by rw [List.length_map, hS]; omega), List.length_map, hS]; rfl
    have st : (((List.replicate 256 0#8).map AV.u8 ++ [AV.bo false, AV.bo false]).set 256 (.bo oo)).set 257 (.bo mm) = (List.replicate 256 0#8).map AV.u8 ++ [AV.bo oo, AV.bo mm] := by
      rw [List.set_append_right _ _ (by simp), List.set_append_right _ _ (by simp)]; simp
    refine awp_step dr8 (by decide +kernel) ?_
    simp only [go_sem, wm, wc, ml, l0, gm1, gm2]
    refine ⟨by rw [Heap.upd_ne _ _ (by omega), wm]; simp only [go_sem, gm2, ml], by rw [List.length_set, l0]; exact Nat.le_refl _, ?_⟩
    rw [st]
    have hI0 : DrI H n regs (seeS bs cs regs line) oo mm 0 (m + 2) (W.upd (n + 2) (some ⟨(List.replicate 256 0#8).map .u8 ++ [.bo oo, .bo mm], 25, false⟩)) := by
      have d0 := hX (seeS bs cs regs line)
      refine ⟨Heap.wf_set ww (by omega) (picB_ok _ _ _ _), by omega, ?_, ?_, ?_, fun k hk => ?_⟩
      · rw [Heap.upd_ne _ _ (by omega), wx _ (by omega)]; exact d0.r
      · rw [Heap.upd_ne _ _ (by omega), wx _ (by omega)]; exact d0.z
      · rw [Heap.upd_same, layF_zero]; rfl
      · rw [Heap.upd_ne _ _ (by omega), wx _ (by omega)]; exact xo k hk
    have hG0 : (W.upd (n + 2) (some ⟨(List.replicate 256 0#8).map .u8 ++ [.bo oo, .bo mm], 25, false⟩)) m = some ⟨C.map .u8 ++ F.map .bo, 49, false⟩ := by rw [Heap.upd_ne _ _ (by omega), wg]
    have hM0 : (W.upd (n + 2) (some ⟨(List.replicate 256 0#8).map .u8 ++ [.bo oo, .bo mm], 25, false⟩)) (m + 1) = some ⟨S.c.map .u8 ++ [.bo oo, .bo mm], 51, false⟩ := by rw [Heap.upd_ne _ _ (by omega), wm]
    generalize W.upd (n + 2) (some ⟨(List.replicate 256 0#8).map .u8 ++ [.bo oo, .bo mm], 25, false⟩) = W0 at hI0 hG0 hM0 ⊢
    have hvokm : v.ok (m + 2) = true := AV.ok_mono (by omega) _ hvok
    have hcokm : cv.ok (m + 2) = true := AV.ok_mono (by omega) _ hcok
    refine awp_seqF (S := DrS) (fun _ => [(8, .pt (n + 1) 0), (9, .pt (n + 2) 0)]) (fun t => t.X) (fun _ => m + 2) (fun t => DrI H n regs (seeS bs cs regs line) oo mm 256 (m + 2) t.X) (fun t ht => ⟨ht.wf, Env.okAt_of2 (by simp [AV.ok]; omega)⟩) ?_ ?_
    · refine awp_step dr8 (by decide +kernel) ?_
      simp only [go_sem]
      refine awp_block ?_
      refine awp_loopF (S := DrS) (fun t => [(0, v), (1, cv), (3, .i64 line), (6, .pt n 0), (8, .pt (n + 1) 0), (9, .pt (n + 2) 0), (10, .u8 (edgeS cs regs)), (12, .pt m 0), (13, .pt (m + 1) 0), (56, .i64 t.j)]) (fun t => t.X) (fun _ => m + 2)
        (fun t => t.j ≤ 256 ∧ DrI H n regs (seeS bs cs regs line) oo mm t.j (m + 2) t.X ∧ t.X m = some ⟨C.map .u8 ++ F.map .bo, 49, false⟩ ∧ t.X (m + 1) = some ⟨S.c.map .u8 ++ [.bo oo, .bo mm], 51, false⟩) (fun t => 256 - t.j)
        (fun t ht => ⟨ht.2.1.wf, Env.okAt_of2 (by simp [AV.ok, hvokm, hcokm]; omega)⟩) ?_ (⟨0, 0, W0⟩ : DrS) ⟨Nat.zero_le _, hI0, hG0, hM0⟩ (by repeat (first | exact Env.le_nil _ | refine Env.le_cons rfl ?_)) (fun _ _ => rfl) rfl
      rintro ⟨j, _, Y⟩ ⟨hj, hI, hG, hM⟩
      simp only at hj hI hG hM ⊢
      have yc : Y (n + 2) = some ⟨(layF (seeS bs cs regs line) 256 j).map .u8 ++ [.bo oo, .bo mm], 25, false⟩ := hI.c
      have y0 := hI.r
      rw [hm] at y0
      have hcY := hc.mono hcok hI.old
      refine awp_step dr8 (by decide +kernel) ?_
      simp only [go_sem]
      refine awp_step dr8 (by decide +kernel) ?_
      simp only [go_sem]
      refine ⟨fun hlt => ?_, fun hlt => ?_⟩
      · have hj' : j < 256 := by omega
        have hjI : (j : Int) < 256 := by omega
        have hj2 : j < 258 := by omega
        have hj5 : j < 512 := by omega
        have hj6 : 256 + j < 512 := by omega
        have w1 : wrap64 ((j : Int) + 1) = ((j + 1 : Nat) : Int) := by rw [wrap_id _ (by omega) (by omega)]; omega
        have gc : (C.map AV.u8 ++ F.map AV.bo).getD j .junk = .u8 (gcolS bs regs line j) := by
          rw [getD_app_l (by rw [List.length_map]; omega), getD_map_u8' (by omega), c3 j hj']
        have gf : (C.map AV.u8 ++ F.map AV.bo).getD (256 + j) .junk = .bo (gfrS bs regs line j) := by
          rw [getD_app_r (by rw [List.length_map]; omega), List.length_map, c1, show 256 + j - 256 = j by omega, ← c4 j hj']
          simp [List.getD_eq_getElem?_getD, c2, hj']
        have gs : (S.c.map AV.u8 ++ [AV.bo oo, AV.bo mm]).getD j .junk = .u8 (S.c.getD j 0#8) := by
          rw [getD_app_l (by rw [List.length_map]; omega), getD_map_u8' (by omega)]
        have ex := eF j
        generalize S.c.getD j 0#8 = sd at gs ex
        refine awp_seq (awp_block ?_)
        refine awp_step dr8 (by decide +kernel) ?_
        simp only [go_sem]
        refine awp_step dr8 (by decide +kernel) ?_
        simp only [go_sem, hG, gl, gc, hjI, hj5]
        refine awp_seqF (S := Unit) (fun _ => [(0, v), (1, cv), (3, .i64 line), (6, .pt n 0), (8, .pt (n + 1) 0), (9, .pt (n + 2) 0), (10, .u8 (edgeS cs regs)), (12, .pt m 0), (13, .pt (m + 1) 0), (14, .i64 j), (15, .u8 (mixD bs regs line j)), (56, .i64 j)]) (fun _ => Y) (fun _ => m + 2) (fun _ => True) (fun _ _ => ⟨hI.wf, Env.okAt_of2 (by simp [AV.ok, hvokm, hcokm]; omega)⟩) ?_ ?_
        · refine awp_ev dr8 (by decide +kernel) ?_
          simp only [go_sem, hM, hG, ml, gl, gs, gf, hjI, hj2, hj6]
          have d1 : (sd != 0#8) = true → (!gfrS bs regs line j) = true → mixD bs regs line j = sd := fun a b => by rw [ex, if_pos ⟨by simpa using a, by simpa using b⟩]
          have d2 : (sd != 0#8) = false ∨ (!gfrS bs regs line j) = false → mixD bs regs line j = gcolS bs regs line j := fun a => by
            rw [ex, if_neg (fun c => by
              rcases a with a | a
              · exact c.1 (by simpa using a)
              · have := c.2; rw [this] at a; simp at a)]
          refine ⟨fun a => ⟨fun b => ?_, fun b => ?_⟩, fun a => ?_⟩
          · rw [d1 a b]; exact Ends.mk () trivial (by repeat (first | exact Env.le_nil _ | refine Env.le_cons rfl ?_)) (fun _ _ => rfl) (Nat.le_refl _) (Nat.le_refl _)
          · rw [d2 (.inr b)]; exact Ends.mk () trivial (by repeat (first | exact Env.le_nil _ | refine Env.le_cons rfl ?_)) (fun _ _ => rfl) (Nat.le_refl _) (Nat.le_refl _)
          · rw [d2 (.inl a)]; exact Ends.mk () trivial (by repeat (first | exact Env.le_nil _ | refine Env.le_cons rfl ?_)) (fun _ _ => rfl) (Nat.le_refl _) (Nat.le_refl _)
        rintro - -
        refine awp_step dr8 (by decide +kernel) ?_
        simp only [go_sem]
        refine line_paint cv cs _ _ _ _ hcY hcokm ?_
        have es1 : seeS bs cs regs line j = if j < 8 ∧ blankS regs = true then edgeS cs regs else paintS cs (mixD bs regs line j).toNat := by
          unfold seeS
          rw [if_neg (by rw [hyes]; decide), hs']
          by_cases c : j < 8 ∧ blankS regs = true
          · rw [if_pos c, if_pos (.inr c)]
          · rw [if_neg c, if_neg (fun x => by rcases x with x | x; exact absurd x (by decide); exact c x)]
        have eb : (r0 &&& 32#8 != 0#8) = blankS regs := by unfold blankS; rw [hr0, bits_ne]
        generalize paintS cs (mixD bs regs line j).toNat = pp at es1 ⊢
        have ss : ∀ y, ((layF (seeS bs cs regs line) 256 j).map AV.u8 ++ [AV.bo oo, AV.bo mm]).set j (.u8 y) = ((layF (seeS bs cs regs line) 256 j).set j y).map AV.u8 ++ [AV.bo oo, AV.bo mm] := fun y => by
          rw [List.set_append_left _ _ (by rw [List.length_map, layF_len _ hj]; exact hj'), List.map_set]
        have ll := pic_len (seeS bs cs regs line) oo mm hj
        simp only [go_sem, yc, ll, hjI, hj2, ss]
        refine ⟨by omega, ?_⟩
        have yn0 : ∀ V, (Y.upd (n + 2) V) n = some ⟨[.u8 r0, .u8 r1, .u8 r2, .u8 r3, .u8 r4, .u8 r5, .u8 r6, .u8 r7, .u8 r8, .u8 r9, .u8 r10], 27, false⟩ := fun V => by rw [Heap.upd_ne _ _ (by omega)]; exact y0
        have l2 : ∀ y, (((layF (seeS bs cs regs line) 256 j).set j y).map AV.u8 ++ [AV.bo oo, AV.bo mm]).length = 258 := fun y => by
          rw [List.length_append, List.length_map, List.length_set, layF_len _ hj]; rfl
        have s3 : ∀ x y, (((layF (seeS bs cs regs line) 256 j).set j x).map AV.u8 ++ [AV.bo oo, AV.bo mm]).set j (.u8 y) = ((layF (seeS bs cs regs line) 256 j).set j y).map AV.u8 ++ [AV.bo oo, AV.bo mm] := fun x y => by
          rw [List.set_append_left _ _ (by rw [List.length_map, List.length_set, layF_len _ hj]; exact hj'), ← List.map_set, List.set_set]
        have tail : ∀ y, y = seeS bs cs regs line j → j + 1 ≤ 256 ∧ DrI H n regs (seeS bs cs regs line) oo mm (j + 1) (m + 2) (Y.upd (n + 2) (some ⟨((layF (seeS bs cs regs line) 256 j).set j y).map .u8 ++ [.bo oo, .bo mm], 25, false⟩)) ∧
            (Y.upd (n + 2) (some ⟨((layF (seeS bs cs regs line) 256 j).set j y).map .u8 ++ [.bo oo, .bo mm], 25, false⟩)) m = some ⟨C.map .u8 ++ F.map .bo, 49, false⟩ ∧
            (Y.upd (n + 2) (some ⟨((layF (seeS bs cs regs line) 256 j).set j y).map .u8 ++ [.bo oo, .bo mm], 25, false⟩)) (m + 1) = some ⟨S.c.map .u8 ++ [.bo oo, .bo mm], 51, false⟩ := fun y hy => by
          rw [hy, layF_set _ hj']
          exact ⟨by omega, hI.put _ _ _ _, by rw [Heap.upd_ne _ _ (by omega)]; exact hG, by rw [Heap.upd_ne _ _ (by omega)]; exact hM⟩
        refine awp_ev dr8 (by decide +kernel) ?_
        simp only [go_sem, yn0, l2, s3, hjI, hj2, eb]
        refine ⟨fun a => ⟨fun b => ⟨by omega, ?_⟩, fun b => ?_⟩, fun a => ?_⟩ <;> refine awp_ev dr0 (by decide +kernel) ?_ <;> simp only [go_sem, w1]
        · exact Ends.mk (⟨j + 1, 0, Y.upd (n + 2) (some ⟨((layF (seeS bs cs regs line) 256 j).set j (edgeS cs regs)).map .u8 ++ [.bo oo, .bo mm], 25, false⟩)⟩ : DrS) ⟨by simp only; omega, tail _ (by rw [es1, if_pos ⟨by omega, b⟩])⟩ (by repeat (first | exact Env.le_nil _ | refine Env.le_cons rfl ?_)) (fun k _ => by
            by_cases hk : k = n + 2
            · subst hk; simp only [Heap.upd_same]
            · simp only [Heap.upd_ne _ _ hk]) (Nat.le_refl _) (Nat.le_refl _)
        · exact Ends.mk (⟨j + 1, 0, Y.upd (n + 2) (some ⟨((layF (seeS bs cs regs line) 256 j).set j pp).map .u8 ++ [.bo oo, .bo mm], 25, false⟩)⟩ : DrS) ⟨by simp only; omega, tail _ (by rw [es1, if_neg (fun c => by rw [c.2] at b; cases b)])⟩ (by repeat (first | exact Env.le_nil _ | refine Env.le_cons rfl ?_)) (fun k _ => rfl) (Nat.le_refl _) (Nat.le_refl _)
        · exact Ends.mk (⟨j + 1, 0, Y.upd (n + 2) (some ⟨((layF (seeS bs cs regs line) 256 j).set j pp).map .u8 ++ [.bo oo, .bo mm], 25, false⟩)⟩ : DrS) ⟨by simp only; omega, tail _ (by rw [es1, if_neg (fun c => by omega)])⟩ (by repeat (first | exact Env.le_nil _ | refine Env.le_cons rfl ?_)) (fun k _ => rfl) (Nat.le_refl _) (Nat.le_refl _)
      · have hj6 : j = 256 := by omega
        subst hj6
        exact Ends.mk (⟨256, 0, Y⟩ : DrS) hI (by repeat (first | exact Env.le_nil _ | refine Env.le_cons rfl ?_)) (fun _ _ => rfl) (Nat.le_refl _) (Nat.le_refl _)
    rintro ⟨_, _, Y⟩ hI
    simp only at hI ⊢
    have yc : Y (n + 2) = some ⟨(layF (seeS bs cs regs line) 256 256).map .u8 ++ [.bo oo, .bo mm], 25, false⟩ := hI.c
    have yz : Y (n + 1) = some ⟨(List.replicate 256 0#8).map .u8 ++ [.bo false, .bo false], 25, false⟩ := hI.z
    have pa := pic_av (layF (seeS bs cs regs line) 256 256) oo mm n
    have e1 := es0 _ (pic_len (seeS bs cs regs line) oo mm (Nat.le_refl _))
    have l1 := pic_len (seeS bs cs regs line) oo mm (Nat.le_refl 256)
    generalize (layF (seeS bs cs regs line) 256 256).map AV.u8 ++ [AV.bo oo, AV.bo mm] = L at yc l1 e1 h pa
    have tk : L.take 258 = L := List.take_of_length_le (by omega)
    refine awp_ev dr8 (by decide +kernel) ?_
    simp only [go_sem, yc, yz, l0, l1, e1, tk]
    exact Fin.back wf h (fun k hk => by rw [Heap.upd_ne _ _ (by omega)]; exact hI.old k hk) pa
end Go.Proofs.Joy
namespace Go.Proofs.Joy
open Go.Ab Go.Proofs

set_option maxHeartbeats 1000000
set_option maxRecDepth 20000

structure AtS where
  k : Nat
theorem lenB_intsE (q l : Nat) (K : AV → Prop) : lenB (some .slice) (intsE q l) K = K (.i64 l) := by
  unfold intsE; split
  · rename_i h; subst h; rfl
  · rfl
theorem intsC_len (L : List Nat) : (intsC L).length = L.length := List.length_map ..
theorem intsC_getD (L : List Nat) {k : Nat} (h : k < L.length) : (intsC L).getD k .junk = .i64 ((L.getD k 0 : Nat) : Int) := by
  simp [intsC, List.getD_eq_getElem?_getD, h]
theorem getD_mem (L : List Nat) {k : Nat} (h : k < L.length) : L.getD k 0 ∈ L := by
  rw [List.getD_eq_getElem?_getD, List.getElem?_eq_getElem h]; exact List.getElem_mem h
theorem u8_pos (d : BitVec 8) : decide (0#8 < d) = decide (d ≠ 0#8) := by revert d; decide

theorem ref18_at (v : AV) (bs regs : List (BitVec 8)) (hr : regs.length = 11) (line : Int) (hln : -9223372036854775808 ≤ line ∧ line ≤ 9223372036854775807) (x : Nat) (hx : x < 256) (H : Heap) (n : Nat) (K : AV → Heap → Nat → Prop) (hv : bytesIn H v bs)
    (h : K (.tu [.u8 (atTo bs regs line x (hitsS bs regs line) (hitsS bs regs line).length).1, .bo (decide ((1 : Int) < ((atTo bs regs line x (hitsS bs regs line) (hitsS bs regs line).length).2 : Nat)))]) H n) :
    ACalls Try.prog 22 [v, .ag (regs.map .u8), .i64 line, .i64 x] H n K := by
  refine ACalls.of_awp Try.func22 rfl (by decide +kernel) (show 4 ≤ 46 by decide) (by simp [hv.ne]) fun wf => ?_
  have hvok : v.ok n = true := by
    rcases hv with ⟨rfl, rfl⟩ | ⟨su, b, o, c, blk, rfl, h0, h1, h2, h3⟩
    · rfl
    · exact vw_ok (wf b _ h1).1
  obtain ⟨r0, r1, r2, r3, r4, r5, r6, r7, r8, r9, r10, hregs⟩ := regs11 hr
  have hm : regs.map AV.u8 = [.u8 r0, .u8 r1, .u8 r2, .u8 r3, .u8 r4, .u8 r5, .u8 r6, .u8 r7, .u8 r8, .u8 r9, .u8 r10] := by rw [hregs]; rfl
  rw [hm]
  refine awp_step dr0 (by decide +kernel) ?_
  simp only [go_sem, Try.f22]
  refine awp_gen (fun X => X.wf (n + 1) ∧ X n = some ⟨[.u8 r0, .u8 r1, .u8 r2, .u8 r3, .u8 r4, .u8 r5, .u8 r6, .u8 r7, .u8 r8, .u8 r9, .u8 r10], 27, false⟩ ∧ ∀ k, k < n → X k = H k) ⟨Heap.wf_upd wf (map_u8_ok (bs := [r0, r1, r2, r3, r4, r5, r6, r7, r8, r9, r10])), Heap.upd_same _ _ _, fun k hk => Heap.upd_ne _ _ (by omega)⟩ ?_
  rintro X ⟨xw, x0, xo⟩
  have hvX := hv.mono hvok xo
  have hvok1 : v.ok (n + 1) = true := AV.ok_mono (by omega) _ hvok
  refine awp_step dr0 (by decide +kernel) ?_
  simp only [go_sem]
  refine awp_seqF (S := DrS) (fun t => [(10, .u8 (atTo bs regs line x (hitsS bs regs line) (hitsS bs regs line).length).1), (11, .i64 ((atTo bs regs line x (hitsS bs regs line) (hitsS bs regs line).length).2 : Nat))]) (fun t => t.X) (fun t => t.m) (fun t => t.X.wf t.m ∧ n + 1 ≤ t.m ∧ ∀ k, k < n → t.X k = H k) (fun t ht => ⟨ht.1, Env.okAt_of2 (by simp [AV.ok])⟩) ?_ ?_
  · refine awp_step dr0 (by decide +kernel) ?_
    simp only [go_sem, x0]
    rw [← hm]
    refine ref_on v bs regs hr line hln _ _ _ hvX ?_
    intro q Y m hm1 yw yo hqm hq
    have hmem := fun {i : Nat} (h : i ∈ hitsS bs regs line) => h
    generalize hL : hitsS bs regs line = L at hq ⊢
    have hlen : L.length ≤ 64 := by
      rw [← hL]; unfold hitsS; split
      · exact Nat.zero_le _
      · exact Nat.le_trans (hitsTo_len _ _ _ _) (endS_le _ _)
    have y0 : Y n = some ⟨[.u8 r0, .u8 r1, .u8 r2, .u8 r3, .u8 r4, .u8 r5, .u8 r6, .u8 r7, .u8 r8, .u8 r9, .u8 r10], 27, false⟩ := by rw [yo n (by omega)]; exact x0
    have hvY := hvX.mono hvok1 yo
    have hvokm : v.ok m = true := AV.ok_mono (by omega) _ hvok
    have iok := intsE_ok (l := L.length) hqm
    simp only [go_sem, lenB_intsE]
    refine awp_block ?_
    refine awp_loopF (S := AtS) (fun t => [(0, v), (2, .i64 line), (3, .i64 x), (5, .pt n 0), (10, .u8 (atTo bs regs line x L t.k).1), (11, .i64 ((atTo bs regs line x L t.k).2 : Nat)), (18, intsE q L.length), (19, .i64 L.length), (20, .i64 t.k)]) (fun _ => Y) (fun _ => m) (fun t => t.k ≤ L.length) (fun t => L.length - t.k)
      (fun t _ => ⟨yw, Env.okAt_of2 (by simp [AV.ok, hvokm, iok]; omega)⟩) ?_ ⟨0⟩ (Nat.zero_le _) (by repeat (first | exact Env.le_nil _ | refine Env.le_cons rfl ?_)) (fun _ _ => rfl) rfl
    rintro ⟨k⟩ hk
    simp only at hk ⊢
    refine awp_step dr0 (by decide +kernel) ?_
    simp only [go_sem]
    refine awp_step dr0 (by decide +kernel) ?_
    simp only [go_sem]
    refine ⟨fun hlt => ?_, fun hlt => ?_⟩
    · have hk' : k < L.length := by omega
      have w1 : wrap64 ((k : Int) + 1) = ((k + 1 : Nat) : Int) := by rw [wrap_id _ (by omega) (by omega)]; omega
      obtain ⟨hq1, hq2⟩ := hq (fun e => by rw [e] at hk'; exact absurd hk' (Nat.not_lt_zero _))
      have ei : intsE q L.length = .su q 0 L.length 1 := if_neg (by omega)
      rw [ei]
      have g1 := intsC_getD L hk'
      have g2 := intsC_len L
      have hmm : L.getD k 0 ∈ hitsS bs regs line := by rw [hL]; exact getD_mem L hk'
      have hle := atTo_le bs regs line x L k
      have w2 : wrap64 (((atTo bs regs line x L k).2 : Int) + 1) = (((atTo bs regs line x L k).2 + 1 : Nat) : Int) := by rw [wrap_id _ (by omega) (by omega)]; omega
      have es : atTo bs regs line x L (k + 1) = if (if k < 8 then dotX bs regs line (L.getD k 0) x else 0#8) = 0#8 then atTo bs regs line x L k else (if (atTo bs regs line x L k).2 = 0 then 16#8 + (if k < 8 then dotX bs regs line (L.getD k 0) x else 0#8) else (atTo bs regs line x L k).1, (atTo bs regs line x L k).2 + 1) := rfl
      generalize atTo bs regs line x L k = A0 at es hle w2 ⊢
      refine awp_seq (awp_block ?_)
      refine awp_step dr0 (by decide +kernel) ?_
      simp only [go_sem, hq2, g1, g2, hlt, hk']
      refine awp_step dr0 (by decide +kernel) ?_
      simp only [go_sem]
      refine awp_seqF (S := Unit) (fun _ => [(0, v), (2, .i64 line), (3, .i64 x), (5, .pt n 0), (10, .u8 A0.1), (11, .i64 (A0.2 : Nat)), (14, .u8 (if k < 8 then dotX bs regs line (L.getD k 0) x else 0#8)), (18, .su q 0 L.length 1), (19, .i64 L.length), (20, .i64 k)]) (fun _ => Y) (fun _ => m) (fun _ => True)
        (fun _ _ => ⟨yw, Env.okAt_of2 (by rw [ei] at iok; simp [AV.ok, hvokm]; omega)⟩) ?_ ?_
      · refine awp_ev dr0 (by decide +kernel) ?_
        simp only [go_sem, y0]
        refine ⟨fun a => ?_, fun a => ?_⟩
        · rw [← hm]
          refine ref18_dot v bs regs hr line _ x hmm hx _ _ _ hvY ?_
          simp only [go_sem]
          rw [if_pos (by omega)]
          exact Ends.mk () trivial (by repeat (first | exact Env.le_nil _ | refine Env.le_cons rfl ?_)) (fun _ _ => rfl) (Nat.le_refl _) (Nat.le_refl _)
        · rw [if_neg (by omega)]
          exact Ends.mk () trivial (by repeat (first | exact Env.le_nil _ | refine Env.le_cons rfl ?_)) (fun _ _ => rfl) (Nat.le_refl _) (Nat.le_refl _)
      rintro - -
      generalize (if k < 8 then dotX bs regs line (L.getD k 0) x else 0#8) = d at es ⊢
      refine awp_ev dr0 (by decide +kernel) ?_
      simp only [go_sem, w2]
      have fin : ∀ (e : Env) (A : BitVec 8 × Nat), atTo bs regs line x L (k + 1) = A → Env.le [(0, v), (2, .i64 line), (3, .i64 x), (5, .pt n 0), (10, .u8 A.1), (11, .i64 (A.2 : Nat)), (18, .su q 0 L.length 1), (19, .i64 L.length), (20, .i64 (k + 1 : Nat))] e →
          Go.Ab.Ends (fun t : AtS => [(0, v), (2, .i64 line), (3, .i64 x), (5, .pt n 0), (10, .u8 (atTo bs regs line x L t.k).1), (11, .i64 ((atTo bs regs line x L t.k).2 : Nat)), (18, .su q 0 L.length 1), (19, .i64 L.length), (20, .i64 t.k)]) (fun _ => Y) (fun _ => m) (fun s' => L.length - s'.k < L.length - k ∧ s'.k ≤ L.length) m e Y m := fun e A hA he =>
        Go.Ab.Ends.mk (⟨k + 1⟩ : AtS) ⟨by simp only; omega, by simp only; omega⟩ (by simp only; rw [hA]; exact he) (fun _ _ => rfl) (Nat.le_refl _) (Nat.le_refl _)
      refine ⟨fun a => ⟨fun b => ?_, fun b => ?_⟩, fun a => ?_⟩ <;> refine awp_ev dr0 (by decide +kernel) ?_ <;> simp only [go_sem, w1]
      · have hd : d ≠ 0#8 := by
          have := u8_pos d; rw [decide_eq_true a] at this; exact of_decide_eq_true this.symm
        have b' : A0.2 = 0 := by simp at b; omega
        rw [if_neg hd, if_pos b'] at es
        refine fin _ _ es ?_
        exact (by repeat (first | exact Env.le_nil _ | refine Env.le_cons rfl ?_))
      · have hd : d ≠ 0#8 := by
          have := u8_pos d; rw [decide_eq_true a] at this; exact of_decide_eq_true this.symm
        have b' : ¬ A0.2 = 0 := fun c => by rw [c] at b; exact absurd b (by decide)
        rw [if_neg hd, if_neg b'] at es
        refine fin _ _ es ?_
        exact (by repeat (first | exact Env.le_nil _ | refine Env.le_cons rfl ?_))
      · have hd : d = 0#8 := by
          have := u8_pos d; rw [decide_eq_false a] at this
          exact Decidable.not_not.1 (of_decide_eq_false this.symm)
        rw [if_pos hd] at es
        refine fin _ _ es ?_
        exact (by repeat (first | exact Env.le_nil _ | refine Env.le_cons rfl ?_))
    · have hke : k = L.length := by omega
      subst hke
      exact Ends.mk (⟨0, m, Y⟩ : DrS) ⟨yw, by simp only; omega, fun k hk => by simp only; rw [yo k (by omega)]; exact xo k hk⟩ (by repeat (first | exact Env.le_nil _ | refine Env.le_cons rfl ?_)) (fun _ _ => rfl) hm1 (Nat.le_refl _)
  rintro ⟨_, m, Y⟩ ⟨yw, hm1, yo⟩
  simp only at yw hm1 yo ⊢
  refine awp_ev dr0 (by decide +kernel) ?_
  simp only [go_sem]
  exact Fin.back wf h yo rfl
end Go.Proofs.Joy
namespace Go.Proofs.Joy
open Go.Ab Go.Proofs

set_option maxHeartbeats 1000000
set_option maxRecDepth 20000

structure RwS where
  k : Nat
  C : List (BitVec 8)
  b : Bool
  X : Heap
structure RwI (H : Heap) (n q m : Nat) (regs : List (BitVec 8)) (L : List Nat) (C : List (BitVec 8)) (X : Heap) : Prop where
  wf : X.wf m
  le : n + 2 ≤ m
  r : X n = some ⟨regs.map .u8, 27, false⟩
  c : X (n + 1) = some ⟨C.map .u8, 5, false⟩
  l : C.length = 256
  hits : L ≠ [] → n + 2 ≤ q ∧ X q = some ⟨intsC L, 3, false⟩
  old : ∀ k, k < n → X k = H k
theorem RwI.put {H : Heap} {n q m : Nat} {regs : List (BitVec 8)} {L : List Nat} {C : List (BitVec 8)} {X : Heap} (h : RwI H n q m regs L C X) {C' : List (BitVec 8)} (hl : C'.length = 256) : RwI H n q m regs L C' (X.upd (n + 1) (some ⟨C'.map .u8, 5, false⟩)) :=
  ⟨Heap.wf_set h.wf (by have := h.le; omega) map_u8_ok, h.le, by rw [Heap.upd_ne _ _ (by omega)]; exact h.r, Heap.upd_same _ _ _, hl, fun e => by obtain ⟨a, b⟩ := h.hits e; exact ⟨a, by rw [Heap.upd_ne _ _ (by omega)]; exact b⟩, fun k hk => by rw [Heap.upd_ne _ _ (by omega)]; exact h.old k hk⟩

theorem ref18_row (v : AV) (bs regs : List (BitVec 8)) (hr : regs.length = 11) (line : Int) (hln : -9223372036854775808 ≤ line ∧ line ≤ 9223372036854775807) (H : Heap) (n : Nat) (K : AV → Heap → Nat → Prop) (hv : bytesIn H v bs)
    (h : ∀ (q : Nat) (H' : Heap) (m : Nat), n ≤ q → q < m → H'.wf m → (∀ i, i < n → H' i = H i) → H' q = some ⟨(spritesS bs regs line).c.map .u8, 5, false⟩ → K (.tu [.sl q 0 256 256, .bo (spritesS bs regs line).m]) H' m) :
    ACalls Try.prog 24 [v, .ag (regs.map .u8), .i64 line] H n K := by
  refine ACalls.of_awp Try.func24 rfl (by decide +kernel) (show 3 ≤ 59 by decide) (by simp [hv.ne]) fun wf => ?_
  have hvok : v.ok n = true := by
    rcases hv with ⟨rfl, rfl⟩ | ⟨su, b, o, c, blk, rfl, h0, h1, h2, h3⟩
    · rfl
    · exact vw_ok (wf b _ h1).1
  obtain ⟨r0, r1, r2, r3, r4, r5, r6, r7, r8, r9, r10, hregs⟩ := regs11 hr
  have hm : regs.map AV.u8 = [.u8 r0, .u8 r1, .u8 r2, .u8 r3, .u8 r4, .u8 r5, .u8 r6, .u8 r7, .u8 r8, .u8 r9, .u8 r10] := by rw [hregs]; rfl
  rw [hm]
  refine awp_step dr0 (by decide +kernel) ?_
  simp only [go_sem, Try.f24]
  refine awp_step dr0 (by decide +kernel) ?_
  simp only [go_sem]
  rw [rep_u8]
  refine awp_gen (fun X => X.wf (n + 2) ∧ X n = some ⟨[.u8 r0, .u8 r1, .u8 r2, .u8 r3, .u8 r4, .u8 r5, .u8 r6, .u8 r7, .u8 r8, .u8 r9, .u8 r10], 27, false⟩ ∧ X (n + 1) = some ⟨(List.replicate 256 0#8).map .u8, 5, false⟩ ∧ ∀ k, k < n → X k = H k) ⟨Heap.wf_upd (Heap.wf_upd wf (map_u8_ok (bs := [r0, r1, r2, r3, r4, r5, r6, r7, r8, r9, r10]))) map_u8_ok, by rw [Heap.upd_ne _ _ (by omega), Heap.upd_same], Heap.upd_same _ _ _, fun k hk => by rw [Heap.upd_ne _ _ (by omega), Heap.upd_ne _ _ (by omega)]⟩ ?_
  rintro X ⟨xw, x0, x1, xo⟩
  have hvX := hv.mono hvok xo
  have hvok2 : v.ok (n + 2) = true := AV.ok_mono (by omega) _ hvok
  refine awp_step dr0 (by decide +kernel) ?_
  simp only [go_sem]
  have hsame := same_sprites bs regs line
  refine awp_seqF (S := DrS) (fun t => [(8, .sl (n + 1) 0 256 256), (9, .bo (spritesS bs regs line).m)]) (fun t => t.X) (fun t => t.m) (fun t => t.X.wf t.m ∧ n + 2 ≤ t.m ∧ t.X (n + 1) = some ⟨(spritesS bs regs line).c.map .u8, 5, false⟩ ∧ ∀ k, k < n → t.X k = H k) (fun t ht => ⟨ht.1, Env.okAt_of2 (by simp [AV.ok]; omega)⟩) ?_ ?_
  · refine awp_step dr0 (by decide +kernel) ?_
    simp only [go_sem, x0]
    rw [← hm]
    refine ref_on v bs regs hr line hln _ _ _ hvX ?_
    intro q Y m hm1 yw yo hqm hq
    generalize hL : hitsS bs regs line = L at hq hsame ⊢
    have hlen : L.length ≤ 64 := by
      rw [← hL]; unfold hitsS; split
      · exact Nat.zero_le _
      · exact Nat.le_trans (hitsTo_len _ _ _ _) (endS_le _ _)
    have iok := intsE_ok (l := L.length) hqm
    have hvokm : v.ok m = true := AV.ok_mono (by omega) _ hvok
    simp only [go_sem, lenB_intsE]
    refine awp_block ?_
    refine awp_loopF (S := RwS) (fun t => [(0, v), (2, .i64 line), (4, .pt n 0), (8, .sl (n + 1) 0 256 256), (9, .bo t.b), (18, intsE q L.length), (19, .i64 L.length), (20, .i64 t.k)]) (fun t => t.X) (fun _ => m)
      (fun t => t.k ≤ L.length ∧ RwI H n q m regs L t.C t.X ∧ Same bs regs line L t.k ⟨t.C, t.b⟩) (fun t => L.length - t.k)
      (fun t ht => ⟨ht.2.1.wf, Env.okAt_of2 (by simp [AV.ok, hvokm, iok]; omega)⟩) ?_ (⟨0, List.replicate 256 0#8, false, Y⟩ : RwS) ⟨Nat.zero_le _, ?_, same_zero _ _ _ _⟩ (by repeat (first | exact Env.le_nil _ | refine Env.le_cons rfl ?_)) (fun _ _ => rfl) rfl
    · rintro ⟨k, C, b, Z⟩ ⟨hk, hI, hS⟩
      simp only at hk hI hS ⊢
      have hvZ := hv.mono hvok hI.old
      have z0 := hI.r
      rw [hm] at z0
      refine awp_step dr0 (by decide +kernel) ?_
      simp only [go_sem]
      refine awp_step dr0 (by decide +kernel) ?_
      simp only [go_sem]
      refine ⟨fun hlt => ?_, fun hlt => ?_⟩
      · have hk' : k < L.length := by omega
        have w1 : wrap64 ((k : Int) + 1) = ((k + 1 : Nat) : Int) := by rw [wrap_id _ (by omega) (by omega)]; omega
        obtain ⟨hq1, hq2⟩ := hI.hits (fun e => by rw [e] at hk'; exact absurd hk' (Nat.not_lt_zero _))
        have ei : intsE q L.length = .su q 0 L.length 1 := if_neg (by omega)
        rw [ei]
        have g1 := intsC_getD L hk'
        have g2 := intsC_len L
        have hmm : L.getD k 0 ∈ hitsS bs regs line := by rw [hL]; exact getD_mem L hk'
        refine awp_seq (awp_block ?_)
        refine awp_step dr0 (by decide +kernel) ?_
        simp only [go_sem, hq2, g1, g2, hlt, hk']
        refine awp_step dr0 (by decide +kernel) ?_
        simp only [go_sem]
        refine awp_block ?_
        refine awp_loopF (S := RwS) (fun t => [(0, v), (2, .i64 line), (4, .pt n 0), (8, .sl (n + 1) 0 256 256), (9, .bo t.b), (10, .i64 k), (11, .i64 (L.getD k 0 : Nat)), (12, .i64 t.k), (18, .su q 0 L.length 1), (19, .i64 L.length), (20, .i64 k)]) (fun t => t.X) (fun _ => m)
          (fun t => t.k ≤ 256 ∧ (8 ≤ k → t.k = 0) ∧ RwI H n q m regs L t.C t.X ∧ (∀ y, y < 256 → t.C.getD y 0#8 = if y < t.k ∧ dotX bs regs line (L.getD k 0) y ≠ 0#8 ∧ C.getD y 0#8 = 0#8 then 16#8 + dotX bs regs line (L.getD k 0) y else C.getD y 0#8) ∧
            (t.b = true ↔ b = true ∨ ∃ y : Nat, y < t.k ∧ dotX bs regs line (L.getD k 0) y ≠ 0#8 ∧ C.getD y 0#8 ≠ 0#8)) (fun t => 256 - t.k)
          (fun t ht => ⟨ht.2.2.1.wf, Env.okAt_of2 (by rw [ei] at iok; simp [AV.ok, hvokm, iok]; omega)⟩) ?_ (⟨0, C, b, Z⟩ : RwS) ⟨Nat.zero_le _, fun _ => rfl, hI, fun y _ => by rw [if_neg (fun c => by exact absurd c.1 (Nat.not_lt_zero _))], ⟨.inl, fun h => h.elim id fun ⟨y, h, _⟩ => absurd h (Nat.not_lt_zero _)⟩⟩ (by repeat (first | exact Env.le_nil _ | refine Env.le_cons rfl ?_)) (fun _ _ => rfl) rfl
        clear z0 hvZ
        rintro ⟨x, C', b', W⟩ ⟨hx, h8, hW, hC, hb⟩
        simp only at hx h8 hW hC hb ⊢
        have w0 := hW.r
        rw [hm] at w0
        have hvW := hv.mono hvok hW.old
        have exit : (8 ≤ k ∨ x = 256) → Same bs regs line L (k + 1) ⟨C', b'⟩ := fun hor => by
          rcases Nat.lt_or_ge k 8 with c8 | c8
          · have hx6 : x = 256 := by omega
            subst hx6
            refine hS.next c8 hW.l (fun y hy => ?_) ?_
            · show C'.getD y 0#8 = _
              rw [hC y hy]
              by_cases c : dotX bs regs line (L.getD k 0) y ≠ 0#8 ∧ C.getD y 0#8 = 0#8
              · rw [if_pos ⟨hy, c⟩, if_pos c]
              · rw [if_neg (fun x => c x.2), if_neg c]
            · exact hb
          · have hx0 := h8 c8
            subst hx0
            have e1 : C' = C := by
              apply List.ext_getElem?
              intro y
              rcases Nat.lt_or_ge y 256 with c | c
              · have e := hC y c
                rw [if_neg (fun x => absurd x.1 (Nat.not_lt_zero _)), List.getD_eq_getElem?_getD, List.getD_eq_getElem?_getD, List.getElem?_eq_getElem (by rw [hW.l]; exact c), List.getElem?_eq_getElem (by rw [hI.l]; exact c)] at e
                rw [List.getElem?_eq_getElem (by rw [hW.l]; exact c), List.getElem?_eq_getElem (by rw [hI.l]; exact c)]
                simpa using e
              · rw [List.getElem?_eq_none (by rw [hW.l]; exact c), List.getElem?_eq_none (by rw [hI.l]; exact c)]
            have e2 : b' = b := by
              have : b' = true ↔ b = true := hb.trans ⟨fun h => h.elim id fun ⟨y, h, _⟩ => absurd h (Nat.not_lt_zero _), .inl⟩
              cases h1 : b' <;> cases h2 : b <;> simp_all
            subst e1 e2
            exact hS.skip c8
        refine awp_step dr0 (by decide +kernel) ?_
        simp only [go_sem]
        have exitE : Same bs regs line L (k + 1) ⟨C', b'⟩ → ∀ e, Env.le [(0, v), (2, .i64 line), (4, .pt n 0), (8, .sl (n + 1) 0 256 256), (9, .bo b'), (18, .su q 0 L.length 1), (19, .i64 L.length), (20, .i64 (k + 1 : Nat))] e →
            Go.Ab.Ends (fun t : RwS => [(0, v), (2, .i64 line), (4, .pt n 0), (8, .sl (n + 1) 0 256 256), (9, .bo t.b), (18, .su q 0 L.length 1), (19, .i64 L.length), (20, .i64 t.k)]) (fun t => t.X) (fun _ => m) (fun s' => L.length - s'.k < L.length - k ∧ s'.k ≤ L.length ∧ RwI H n q m regs L s'.C s'.X ∧ Same bs regs line L s'.k ⟨s'.C, s'.b⟩) m e W m := fun hs e he =>
          Go.Ab.Ends.mk (⟨k + 1, C', b', W⟩ : RwS) ⟨by simp only; omega, by simp only; omega, hW, hs⟩ he (fun _ _ => rfl) (Nat.le_refl _) (Nat.le_refl _)
        refine ⟨fun a => ⟨fun c => ?_, fun c => ?_⟩, fun a => ?_⟩
        · have hx' : x < 256 := by omega
          have hk8 : k < 8 := by omega
          have wx : wrap64 ((x : Int) + 1) = ((x + 1 : Nat) : Int) := by rw [wrap_id _ (by omega) (by omega)]; omega
          have gC : (C'.map AV.u8).getD x .junk = .u8 (C'.getD x 0#8) := getD_map_u8' (by rw [hW.l]; exact hx')
          have eC : C'.getD x 0#8 = C.getD x 0#8 := by rw [hC x hx', if_neg (fun c => by exact absurd c.1 (Nat.lt_irrefl _))]
          have wc : W (n + 1) = some ⟨C'.map .u8, 5, false⟩ := hW.c
          have cl : C'.length = 256 := hW.l
          refine awp_seq (awp_block ?_)
          refine awp_step dr0 (by decide +kernel) ?_
          simp only [go_sem, w0]
          rw [← hm]
          refine ref18_dot v bs regs hr line _ x hmm hx' _ _ _ hvW ?_
          generalize hd : dotX bs regs line (L.getD k 0) x = d
          have dp := u8_pos d
          have cp := u8_pos (C'.getD x 0#8)
          simp only [go_sem]
          have fin : ∀ (e : Env) (C2 : List (BitVec 8)) (b2 : Bool) (W2 : Heap), RwI H n q m regs L C2 W2 → (C2 = if d ≠ 0#8 ∧ C.getD x 0#8 = 0#8 then C'.set x (16#8 + d) else C') → (b2 = if d ≠ 0#8 ∧ C.getD x 0#8 ≠ 0#8 then true else b') →
              Env.le [(0, v), (2, .i64 line), (4, .pt n 0), (8, .sl (n + 1) 0 256 256), (9, .bo b2), (10, .i64 k), (11, .i64 (L.getD k 0 : Nat)), (12, .i64 (x + 1 : Nat)), (18, .su q 0 L.length 1), (19, .i64 L.length), (20, .i64 k)] e →
              Go.Ab.Ends (fun t : RwS => [(0, v), (2, .i64 line), (4, .pt n 0), (8, .sl (n + 1) 0 256 256), (9, .bo t.b), (10, .i64 k), (11, .i64 (L.getD k 0 : Nat)), (12, .i64 t.k), (18, .su q 0 L.length 1), (19, .i64 L.length), (20, .i64 k)]) (fun t => t.X) (fun _ => m)
                (fun t => 256 - t.k < 256 - x ∧ t.k ≤ 256 ∧ (8 ≤ k → t.k = 0) ∧ RwI H n q m regs L t.C t.X ∧ (∀ y, y < 256 → t.C.getD y 0#8 = if y < t.k ∧ dotX bs regs line (L.getD k 0) y ≠ 0#8 ∧ C.getD y 0#8 = 0#8 then 16#8 + dotX bs regs line (L.getD k 0) y else C.getD y 0#8) ∧
                  (t.b = true ↔ b = true ∨ ∃ y : Nat, y < t.k ∧ dotX bs regs line (L.getD k 0) y ≠ 0#8 ∧ C.getD y 0#8 ≠ 0#8)) m e W2 m := fun e C2 b2 W2 hI2 hC2 hb2 he => by
            refine Go.Ab.Ends.mk (⟨x + 1, C2, b2, W2⟩ : RwS) ⟨by simp only; omega, by simp only; omega, fun c => by omega, hI2, fun y hy => ?_, ?_⟩ he (fun _ _ => rfl) (Nat.le_refl _) (Nat.le_refl _)
            · show C2.getD y 0#8 = _
              rw [hC2]
              by_cases e : x = y
              · subst e
                rw [hd]
                by_cases z : d ≠ 0#8 ∧ C.getD x 0#8 = 0#8
                · rw [if_pos z, if_pos ⟨Nat.lt_succ_self _, z⟩, getD_set8, if_pos ⟨rfl, by omega⟩]
                · rw [if_neg z, if_neg (fun c => z c.2), eC]
              · have e0 : (if d ≠ 0#8 ∧ C.getD x 0#8 = 0#8 then C'.set x (16#8 + d) else C').getD y 0#8 = C'.getD y 0#8 := by
                  split
                  · rw [getD_set8, if_neg (fun c => e c.1)]
                  · rfl
                rw [e0, hC y hy]
                by_cases z : y < x ∧ dotX bs regs line (L.getD k 0) y ≠ 0#8 ∧ C.getD y 0#8 = 0#8
                · rw [if_pos z, if_pos ⟨by simp only; omega, z.2⟩]
                · rw [if_neg z, if_neg (fun c => z ⟨by have := c.1; simp only at this; omega, c.2⟩)]
            · show b2 = true ↔ _
              rw [hb2]
              by_cases z : d ≠ 0#8 ∧ C.getD x 0#8 ≠ 0#8
              · rw [if_pos z]
                exact ⟨fun _ => .inr ⟨x, Nat.lt_succ_self _, by rw [hd]; exact z.1, z.2⟩, fun _ => rfl⟩
              · rw [if_neg z, hb]
                constructor
                · rintro (h | ⟨y, h1, h2⟩)
                  · exact .inl h
                  · exact .inr ⟨y, by simp only; omega, h2⟩
                · rintro (h | ⟨y, h1, h2, h3⟩)
                  · exact .inl h
                  · by_cases e : y = x
                    · subst e; rw [hd] at h2; exact absurd ⟨h2, h3⟩ z
                    · exact .inr ⟨y, by simp only at h1; omega, h2, h3⟩
          refine awp_step dr0 (by decide +kernel) ?_
          simp only [go_sem, wc, cl, gC, a, hx', List.length_map]
          have sC : ∀ y, (C'.map AV.u8).set x (.u8 y) = (C'.set x y).map AV.u8 := fun y => List.map_set.symm
          refine ⟨fun p1 => ?_, fun p1 => ?_⟩
          · have hd0 : d ≠ 0#8 := by
              have := u8_pos d; rw [decide_eq_true p1] at this; exact of_decide_eq_true this.symm
            refine awp_ev dr0 (by decide +kernel) ?_
            simp only [go_sem, wc, cl, sC, p1, a, hx', List.length_map]
            refine ⟨fun p2 => ?_, fun p2 => ?_⟩
            · have hc0 : C.getD x 0#8 ≠ 0#8 := by
                have := u8_pos (C'.getD x 0#8); rw [decide_eq_true p2] at this; rw [← eC]; exact of_decide_eq_true this.symm
              refine awp_ev dr0 (by decide +kernel) ?_
              simp only [go_sem, wx]
              refine fin _ C' true _ hW (by rw [if_neg (fun c => hc0 c.2)]) (by rw [if_pos ⟨hd0, hc0⟩]) ?_
              exact (by repeat (first | exact Env.le_nil _ | refine Env.le_cons rfl ?_))
            · have hc0 : C.getD x 0#8 = 0#8 := by
                have := u8_pos (C'.getD x 0#8); rw [decide_eq_false p2] at this; rw [← eC]; exact Decidable.not_not.1 (of_decide_eq_false this.symm)
              refine ⟨by omega, ?_⟩
              refine awp_ev dr0 (by decide +kernel) ?_
              simp only [go_sem, wx]
              refine fin _ (C'.set x (16#8 + d)) b' _ (hW.put (by rw [List.length_set, cl])) (by rw [if_pos ⟨hd0, hc0⟩]) (by rw [if_neg (fun c => c.2 hc0)]) ?_
              exact (by repeat (first | exact Env.le_nil _ | refine Env.le_cons rfl ?_))
          · have hd0 : d = 0#8 := by
              have := u8_pos d; rw [decide_eq_false p1] at this
              exact Decidable.not_not.1 (of_decide_eq_false this.symm)
            refine awp_ev dr0 (by decide +kernel) ?_
            simp only [go_sem, wc, cl, sC, p1, a, hx', List.length_map]
            refine awp_ev dr0 (by decide +kernel) ?_
            simp only [go_sem, wx]
            refine fin _ C' b' _ hW (by rw [if_neg (fun c => c.1 hd0)]) (by rw [if_neg (fun c => c.1 hd0)]) ?_
            exact (by repeat (first | exact Env.le_nil _ | refine Env.le_cons rfl ?_))
        · refine awp_ev dr0 (by decide +kernel) ?_
          simp only [go_sem, w1]
          refine exitE (exit (.inl (by omega))) _ ?_
          exact (by repeat (first | exact Env.le_nil _ | refine Env.le_cons rfl ?_))
        · refine awp_ev dr0 (by decide +kernel) ?_
          simp only [go_sem, w1]
          refine exitE (exit (.inr (by omega))) _ ?_
          exact (by repeat (first | exact Env.le_nil _ | refine Env.le_cons rfl ?_))
      · have hke : k = L.length := by omega
        subst hke
        obtain ⟨u1, u2⟩ := hS.uniq hsame
        simp only at u1 u2
        subst u1 u2
        exact Ends.mk (⟨0, m, Z⟩ : DrS) ⟨hI.wf, hI.le, hI.c, hI.old⟩ (by repeat (first | exact Env.le_nil _ | refine Env.le_cons rfl ?_)) (fun _ _ => rfl) hm1 (Nat.le_refl _)
    · exact ⟨yw, hm1, by simp only; rw [hm, yo _ (by omega)]; exact x0, by simp only; rw [yo _ (by omega)]; exact x1, List.length_replicate, hq, fun k hk => by simp only; rw [yo k (by omega)]; exact xo k hk⟩
  rintro ⟨_, m, Y⟩ ⟨yw, hm2, y1, yo⟩
  simp only at yw hm2 y1 yo ⊢
  refine awp_ev dr0 (by decide +kernel) ?_
  simp only [go_sem]
  exact Fin.keep (h (n + 1) Y m (by omega) (by omega) yw yo y1)
end Go.Proofs.Joy
namespace Go.Proofs.Joy
open Go.Ab Go.Proofs

set_option maxHeartbeats 1000000
set_option maxRecDepth 20000

theorem and15 : ∀ b : BitVec 8, b % 16#8 = b &&& 15#8 := by decide
theorem off64 : ∀ b : BitVec 8, (b / 64#8 % 2#8 == 0#8) = !(b &&& 64#8 != 0#8) := by decide
theorem on32 : ∀ b : BitVec 8, (b / 32#8 % 2#8 == 1#8) = (b &&& 32#8 != 0#8) := by decide
theorem okB {v : AV} {bs : List (BitVec 8)} {H : Heap} {n : Nat} (wf : H.wf n) (hv : bytesIn H v bs) : v.ok n = true := by
  rcases hv with ⟨rfl, rfl⟩ | ⟨su, b, o, c, blk, rfl, h0, h1, h2, h3⟩
  · rfl
  · exact vw_ok (wf b _ h1).1
theorem ref17_dot' (v : AV) (bs regs : List (BitVec 8)) (hr : regs.length = 11) (line x : Int) (hl : 0 ≤ line ∧ line < 192) (hx : 0 ≤ x ∧ x < 256) (H : Heap) (n : Nat) (K : AV → Heap → Nat → Prop) (hv : bytesIn H v bs) {l : List AV} (hm : regs.map AV.u8 = l)
    (h : K (.tu [.u8 (gcolS bs regs line x), .bo (gfrS bs regs line x)]) H n) : ACalls Try.prog 17 [v, .ag l, .i64 line, .i64 x] H n K := by rw [← hm]; exact ref17_dot v bs regs hr line x hl hx H n K hv h
theorem ref18_at' (v : AV) (bs regs : List (BitVec 8)) (hr : regs.length = 11) (line : Int) (hln : -9223372036854775808 ≤ line ∧ line ≤ 9223372036854775807) (x : Nat) (hx : x < 256) (H : Heap) (n : Nat) (K : AV → Heap → Nat → Prop) (hv : bytesIn H v bs) {l : List AV} (hm : regs.map AV.u8 = l)
    (h : K (.tu [.u8 ((spritesS bs regs line).c.getD x 0#8), .bo (decide ((1 : Int) < ((atTo bs regs line x (hitsS bs regs line) (hitsS bs regs line).length).2 : Nat)))]) H n) :
    ACalls Try.prog 22 [v, .ag l, .i64 line, .i64 x] H n K := by
  rw [← hm]
  refine ref18_at v bs regs hr line hln x hx H n K hv ?_
  rw [(same_sprites bs regs line).c x hx] at h
  exact h

theorem ref19_at (v cv : AV) (bs cs regs : List (BitVec 8)) (hr : regs.length = 11) (line : Int) (hln : -9223372036854775808 ≤ line ∧ line ≤ 9223372036854775807) (x : Nat) (hx : x < 256) (H : Heap) (n : Nat) (K : AV → Heap → Nat → Prop) (hv : bytesIn H v bs) (hc : bytesIn H cv cs)
    (h : K (.u8 (seeS bs cs regs line x)) H n) : ACalls Try.prog 13 [v, cv, .ag (regs.map .u8), .ag [.i64 line, .i64 x]] H n K := by
  refine ACalls.of_awp Try.func13 rfl (by decide +kernel) (show 4 ≤ 77 by decide) (by simp [hv.ne, hc.ne]) fun wf => ?_
  have hvok := okB wf hv
  have hcok := okB wf hc
  obtain ⟨r0, r1, r2, r3, r4, r5, r6, r7, r8, r9, r10, hregs⟩ := regs11 hr
  have hr0 : regs.getD 0 0#8 = r0 := by rw [hregs]; rfl
  have hr1 : regs.getD 1 0#8 = r1 := by rw [hregs]; rfl
  have hr7 : regs.getD 7 0#8 = r7 := by rw [hregs]; rfl
  have hm : regs.map AV.u8 = [.u8 r0, .u8 r1, .u8 r2, .u8 r3, .u8 r4, .u8 r5, .u8 r6, .u8 r7, .u8 r8, .u8 r9, .u8 r10] := by rw [hregs]; rfl
  have eS : (r1 &&& 64#8 != 0#8) = shownS regs := by unfold shownS; rw [hr1, bits_ne]
  have eB : (r0 &&& 32#8 != 0#8) = blankS regs := by unfold blankS; rw [hr0, bits_ne]
  rw [hm]
  refine awp_step dr13 (by decide +kernel) ?_
  simp only [go_sem, Try.f13]
  refine awp_gen (fun X => X.wf (n + 2) ∧ X n = some ⟨[.u8 r0, .u8 r1, .u8 r2, .u8 r3, .u8 r4, .u8 r5, .u8 r6, .u8 r7, .u8 r8, .u8 r9, .u8 r10], 27, false⟩ ∧ X (n + 1) = some ⟨[.i64 line, .i64 x], 37, false⟩ ∧ ∀ k, k < n → X k = H k) ⟨Heap.wf_upd (Heap.wf_upd wf (map_u8_ok (bs := [r0, r1, r2, r3, r4, r5, r6, r7, r8, r9, r10]))) (fun y hy => by
      simp only [List.mem_cons, List.not_mem_nil, or_false] at hy
      rcases hy with rfl | rfl <;> rfl), by rw [Heap.upd_ne _ _ (by omega), Heap.upd_same], Heap.upd_same _ _ _, fun k hk => by rw [Heap.upd_ne _ _ (by omega), Heap.upd_ne _ _ (by omega)]⟩ ?_
  rintro X ⟨xw, x0, x1, xo⟩
  have hvX := hv.mono hvok xo
  have hcX := hc.mono hcok xo
  have hvok2 : v.ok (n + 2) = true := AV.ok_mono (by omega) _ hvok
  have hcok2 : cv.ok (n + 2) = true := AV.ok_mono (by omega) _ hcok
  refine awp_step dr13 (by decide +kernel) ?_
  simp only [go_sem, x1]
  refine awp_step dr13 (by decide +kernel) ?_
  by_cases hin : line < 0 ∨ 191 < line
  · have hno : inLine line = false := by unfold inLine; rcases hin with a | a <;> simp <;> omega
    have e0 : seeS bs cs regs line x = 0#8 := by unfold seeS; rw [if_pos hno]
    rw [e0] at h
    rcases hin with hin | hin
    · simp only [go_sem, hin]
      exact Fin.back wf h xo rfl
    · have hin' : ¬ line < 0 := by omega
      simp only [go_sem, hin, hin']
      exact Fin.back wf h xo rfl
  have hl : 0 ≤ line ∧ line < 192 := by omega
  have hl1 : ¬ line < 0 := by omega
  have hl2 : ¬ 191 < line := by omega
  have hyes : inLine line = true := by unfold inLine; simp; omega
  have eV : seeS bs cs regs line x = if shownS regs = false ∨ x < 8 ∧ blankS regs = true then edgeS cs regs else paintS cs (mixD bs regs line x).toNat := by unfold seeS; rw [if_neg (by rw [hyes]; decide)]
  rw [eV] at h
  simp only [go_sem, hl1, hl2]
  have h7 : (r7 &&& 15#8).toNat ≤ 15 := by rw [BitVec.toNat_and]; exact Nat.and_le_right
  have we : wrap64 (16 + ((r7 &&& 15#8).toNat : Int)) = 16 + (r7 &&& 15#8).toNat := wrap_id _ (by omega) (by omega)
  refine awp_step dr13 (by decide +kernel) ?_
  simp only [go_sem, x0, and15, we]
  refine ref_paint cv cs _ (by omega) _ _ _ hcX hcok2 ?_
  have eE : paintS cs (16 + ((r7 &&& 15#8).toNat : Int)) = edgeS cs regs := by unfold edgeS; rw [hr7]
  rw [eE]
  simp only [go_sem]
  refine awp_step dr13 (by decide +kernel) ?_
  simp only [go_sem, x0, off64, on32, eS, eB]
  by_cases hs : shownS regs = false
  · rw [if_pos (.inl hs)] at h
    rw [hs]
    simp only [go_sem]
    exact Fin.back wf h xo rfl
  · have hs' : shownS regs = true := by simpa using hs
    rw [hs']
    simp only [go_sem]
    have rest : ¬ (x < 8 ∧ blankS regs = true) → K (.u8 (paintS cs (mixD bs regs line x).toNat)) H n := fun hb => by
      rw [if_neg (fun c => by rcases c with c | c; exact hs c; exact hb c)] at h; exact h
    have edge : x < 8 ∧ blankS regs = true → K (.u8 (edgeS cs regs)) H n := fun hb => by rw [if_pos (.inr hb)] at h; exact h
    refine ⟨fun a => ⟨fun b => Fin.back wf (edge ⟨by omega, b⟩) xo rfl, fun b => ?_⟩, fun a => ?_⟩
    rotate_left
    all_goals
      have k0 := rest (fun c => by first | (rw [c.2] at b; cases b) | omega)
      refine awp_step dr13 (by decide +kernel) ?_
      simp only [go_sem, x0]
      refine ref17_dot' v bs regs hr line _ hl (by omega) _ _ _ hvX hm ?_
      simp only [go_sem]
      refine awp_step dr13 (by decide +kernel) ?_
      simp only [go_sem, x0]
      refine ref18_at' v bs regs hr line hln x hx _ _ _ hvX hm ?_
      have ex : mixD bs regs line x = if (spritesS bs regs line).c.getD x 0#8 ≠ 0#8 ∧ gfrS bs regs line x = false then (spritesS bs regs line).c.getD x 0#8 else gcolS bs regs line x := rfl
      generalize (spritesS bs regs line).c.getD x 0#8 = sd at ex ⊢
      have sp := u8_pos sd
      simp only [go_sem]
      refine awp_seqF (S := Unit) (fun _ => [(1, cv), (12, .u8 (mixD bs regs line x))]) (fun _ => X) (fun _ => n + 2) (fun _ => True) (fun _ _ => ⟨xw, Env.okAt_of2 (by simp [AV.ok, hcok2])⟩) ?_ ?_
      · refine awp_ev dr0 (by decide +kernel) ?_
        simp only [go_sem]
        have p1 : 0#8 < sd → sd ≠ 0#8 := fun c => by rw [decide_eq_true c] at sp; exact of_decide_eq_true sp.symm
        have p0 : ¬ 0#8 < sd → sd = 0#8 := fun c => by rw [decide_eq_false c] at sp; exact Decidable.not_not.1 (of_decide_eq_false sp.symm)
        refine ⟨fun c1 => ⟨fun c2 => ?_, fun c2 => ?_⟩, fun c1 => ?_⟩
        · rw [ex, if_pos ⟨p1 c1, by simpa using c2⟩]; exact Ends.mk () trivial (by repeat (first | exact Env.le_nil _ | refine Env.le_cons rfl ?_)) (fun _ _ => rfl) (Nat.le_refl _) (Nat.le_refl _)
        · rw [ex, if_neg (fun c => by rw [c.2] at c2; exact absurd c2 (by decide))]; exact Ends.mk () trivial (by repeat (first | exact Env.le_nil _ | refine Env.le_cons rfl ?_)) (fun _ _ => rfl) (Nat.le_refl _) (Nat.le_refl _)
        · rw [ex, if_neg (fun c => c.1 (p0 c1))]; exact Ends.mk () trivial (by repeat (first | exact Env.le_nil _ | refine Env.le_cons rfl ?_)) (fun _ _ => rfl) (Nat.le_refl _) (Nat.le_refl _)
      rintro - -
      have hmx := (mixD bs regs line x).isLt
      refine awp_ev dr0 (by decide +kernel) ?_
      simp only [go_sem]
      refine ref_paint cv cs _ (by omega) _ _ _ hcX hcok2 ?_
      simp only [go_sem]
      exact Fin.back wf k0 xo rfl

/-- Whether two meet at one of the columns. -/
theorem ref19_told (v : AV) (bs regs : List (BitVec 8)) (hr : regs.length = 11) (line : Int) (hln : -9223372036854775808 ≤ line ∧ line ≤ 9223372036854775807) (H : Heap) (n : Nat) (K : AV → Heap → Nat → Prop) (hv : bytesIn H v bs)
    (h : K (.tu [.bo (lineM bs regs line), .bo (lineO bs regs line)]) H n) : ACalls Try.prog 14 [v, .ag (regs.map .u8), .i64 line] H n K := by
  refine ACalls.of_awp Try.func14 rfl (by decide +kernel) (show 3 ≤ 48 by decide) (by simp [hv.ne]) fun wf => ?_
  have hvok := okB wf hv
  obtain ⟨r0, r1, r2, r3, r4, r5, r6, r7, r8, r9, r10, hregs⟩ := regs11 hr
  have hr1 : regs.getD 1 0#8 = r1 := by rw [hregs]; rfl
  have hm : regs.map AV.u8 = [.u8 r0, .u8 r1, .u8 r2, .u8 r3, .u8 r4, .u8 r5, .u8 r6, .u8 r7, .u8 r8, .u8 r9, .u8 r10] := by rw [hregs]; rfl
  have eS : (r1 &&& 64#8 != 0#8) = shownS regs := by unfold shownS; rw [hr1, bits_ne]
  rw [hm]
  refine awp_step dr0 (by decide +kernel) ?_
  simp only [go_sem, Try.f14]
  refine awp_gen (fun X => X.wf (n + 1) ∧ X n = some ⟨[.u8 r0, .u8 r1, .u8 r2, .u8 r3, .u8 r4, .u8 r5, .u8 r6, .u8 r7, .u8 r8, .u8 r9, .u8 r10], 27, false⟩ ∧ ∀ k, k < n → X k = H k) ⟨Heap.wf_upd wf (map_u8_ok (bs := [r0, r1, r2, r3, r4, r5, r6, r7, r8, r9, r10])), Heap.upd_same _ _ _, fun k hk => Heap.upd_ne _ _ (by omega)⟩ ?_
  rintro X ⟨xw, x0, xo⟩
  have hvX := hv.mono hvok xo
  have hvok1 : v.ok (n + 1) = true := AV.ok_mono (by omega) _ hvok
  refine awp_step dr0 (by decide +kernel) ?_
  by_cases hin : line < 0 ∨ 191 < line
  · have hno : inLine line = false := by unfold inLine; rcases hin with a | a <;> simp <;> omega
    have e1 : lineM bs regs line = false := by unfold lineM; rw [hno]; rfl
    have e2 : lineO bs regs line = false := by unfold lineO; rw [hno]; rfl
    rw [e1, e2] at h
    rcases hin with hin | hin
    · simp only [go_sem, hin]
      exact Fin.back wf h xo rfl
    · have hin' : ¬ line < 0 := by omega
      simp only [go_sem, hin, hin']
      exact Fin.back wf h xo rfl
  have hl : 0 ≤ line ∧ line < 192 := by omega
  have hl1 : ¬ line < 0 := by omega
  have hl2 : ¬ 191 < line := by omega
  have hyes : inLine line = true := by unfold inLine; simp; omega
  simp only [go_sem, hl1, hl2, x0, off64, eS]
  by_cases hs : shownS regs = false
  · have e1 : lineM bs regs line = false := by unfold lineM; rw [hs, Bool.and_false]; rfl
    have e2 : lineO bs regs line = false := by unfold lineO; rw [hs, Bool.and_false]; rfl
    rw [e1, e2] at h
    rw [hs]
    simp only [go_sem]
    exact Fin.back wf h xo rfl
  have hs' : shownS regs = true := by simpa using hs
  rw [hs']
  simp only [go_sem]
  have e1 : lineM bs regs line = (spritesS bs regs line).m := by unfold lineM; rw [hyes, hs']; simp
  have e2 : lineO bs regs line = decide ((8 : Int) < ((hitsS bs regs line).length : Nat)) := by
    unfold lineO; rw [hyes, hs']
    by_cases c : 8 < (hitsS bs regs line).length
    · rw [decide_eq_true c, decide_eq_true (by omega)]; rfl
    · rw [decide_eq_false c, decide_eq_false (by omega)]; rfl
  rw [e1, e2] at h
  have hsame := same_sprites bs regs line
  refine awp_step dr0 (by decide +kernel) ?_
  simp only [go_sem]
  refine awp_seqF (S := Unit) (fun _ => [(0, v), (2, .i64 line), (4, .pt n 0), (8, .bo (spritesS bs regs line).m)]) (fun _ => X) (fun _ => n + 1) (fun _ => True) (fun _ _ => ⟨xw, Env.okAt_of2 (by simp [AV.ok, hvok1])⟩) ?_ ?_
  · refine awp_step dr0 (by decide +kernel) ?_
    simp only [go_sem]
    refine awp_block ?_
    refine awp_loopF (S := RwS) (fun t => [(0, v), (2, .i64 line), (4, .pt n 0), (8, .bo t.b), (9, .i64 t.k)]) (fun _ => X) (fun _ => n + 1) (fun t => t.k ≤ 256 ∧ (t.b = true ↔ ∃ x, x < t.k ∧ 2 ≤ (atTo bs regs line x (hitsS bs regs line) (hitsS bs regs line).length).2)) (fun t => 256 - t.k)
      (fun t _ => ⟨xw, Env.okAt_of2 (by simp [AV.ok, hvok1])⟩) ?_ (⟨0, [], false, X⟩ : RwS) ⟨Nat.zero_le _, fun c => (by cases c), fun ⟨x, c, _⟩ => absurd c (Nat.not_lt_zero _)⟩ (by repeat (first | exact Env.le_nil _ | refine Env.le_cons rfl ?_)) (fun _ _ => rfl) rfl
    rintro ⟨x, _, b, _⟩ ⟨hx, hb⟩
    simp only at hx hb ⊢
    refine awp_step dr0 (by decide +kernel) ?_
    simp only [go_sem]
    refine ⟨fun hlt => ?_, fun hlt => ?_⟩
    · have hx' : x < 256 := by omega
      have w1 : wrap64 ((x : Int) + 1) = ((x + 1 : Nat) : Int) := by rw [wrap_id _ (by omega) (by omega)]; omega
      refine awp_seq (awp_block ?_)
      refine awp_step dr0 (by decide +kernel) ?_
      simp only [go_sem, x0]
      refine ref18_at' v bs regs hr line hln x hx' _ _ _ hvX hm ?_
      simp only [go_sem]
      refine awp_ev dr0 (by decide +kernel) ?_
      simp only [go_sem]
      have nxt : ∀ c : Bool, (c = true ↔ b = true ∨ 2 ≤ (atTo bs regs line x (hitsS bs regs line) (hitsS bs regs line).length).2) → (c = true ↔ ∃ x', x' < x + 1 ∧ 2 ≤ (atTo bs regs line x' (hitsS bs regs line) (hitsS bs regs line).length).2) := fun c hc => by
        rw [hc, hb]
        constructor
        · rintro (⟨y, h1, h2⟩ | h2)
          · exact ⟨y, by omega, h2⟩
          · exact ⟨x, by omega, h2⟩
        · rintro ⟨y, h1, h2⟩
          by_cases e : y = x
          · subst e; exact .inr h2
          · exact .inl ⟨y, by omega, h2⟩
      refine ⟨fun c => ?_, fun c => ?_⟩ <;> refine awp_ev dr0 (by decide +kernel) ?_ <;> simp only [go_sem, w1]
      · exact Ends.mk (⟨x + 1, [], decide ((1 : Int) < ((atTo bs regs line x (hitsS bs regs line) (hitsS bs regs line).length).2 : Nat)), X⟩ : RwS) ⟨by simp only; omega, by simp only; omega, nxt _ ⟨fun z => .inr (by have := of_decide_eq_true z; omega), fun z => by
          rcases z with z | z
          · rw [c] at z; cases z
          · exact decide_eq_true (by omega)⟩⟩ (by repeat (first | exact Env.le_nil _ | refine Env.le_cons rfl ?_)) (fun _ _ => rfl) (Nat.le_refl _) (Nat.le_refl _)
      · exact Ends.mk (⟨x + 1, [], true, X⟩ : RwS) ⟨by simp only; omega, by simp only; omega, nxt _ ⟨fun _ => .inl c, fun _ => rfl⟩⟩ (by repeat (first | exact Env.le_nil _ | refine Env.le_cons rfl ?_)) (fun _ _ => rfl) (Nat.le_refl _) (Nat.le_refl _)
    · have hx6 : x = 256 := by omega
      subst hx6
      have eb : b = (spritesS bs regs line).m := by
        have := hb.trans hsame.m.symm
        cases h1 : b <;> cases h2 : (spritesS bs regs line).m <;> simp_all
      rw [eb]
      exact Ends.mk () trivial (by repeat (first | exact Env.le_nil _ | refine Env.le_cons rfl ?_)) (fun _ _ => rfl) (Nat.le_refl _) (Nat.le_refl _)
  rintro - -
  refine awp_ev dr0 (by decide +kernel) ?_
  simp only [go_sem, x0]
  rw [← hm]
  refine ref_on v bs regs hr line hln _ _ _ hvX ?_
  intro q Y m hm1 yw yo hqm hq
  simp only [go_sem, lenB_intsE]
  exact Fin.back wf h (fun k hk => by rw [yo k (by omega)]; exact xo k hk) rfl

theorem ref19_row (v cv : AV) (bs cs regs : List (BitVec 8)) (hr : regs.length = 11) (line : Int) (hl : 0 ≤ line ∧ line < 192) (H : Heap) (n : Nat) (K : AV → Heap → Nat → Prop) (hv : bytesIn H v bs) (hc : bytesIn H cv cs)
    (h : ∀ (q : Nat) (H' : Heap) (m : Nat), n ≤ q → q < m → H'.wf m → (∀ i, i < n → H' i = H i) → H' q = some ⟨(lineC bs cs regs line).map .u8, 5, false⟩ → K (.tu [.sl q 0 256 256, .bo (lineM bs regs line), .bo (lineO bs regs line)]) H' m) :
    ACalls Try.prog 15 [v, cv, .ag (regs.map .u8), .i64 line] H n K := by
  refine ACalls.of_awp Try.func15 rfl (by decide +kernel) (show 4 ≤ 105 by decide) (by simp [hv.ne, hc.ne]) fun wf => ?_
  have hln : -9223372036854775808 ≤ line ∧ line ≤ 9223372036854775807 := by omega
  have hvok := okB wf hv
  have hcok := okB wf hc
  obtain ⟨r0, r1, r2, r3, r4, r5, r6, r7, r8, r9, r10, hregs⟩ := regs11 hr
  have hr0 : regs.getD 0 0#8 = r0 := by rw [hregs]; rfl
  have hr1 : regs.getD 1 0#8 = r1 := by rw [hregs]; rfl
  have hr7 : regs.getD 7 0#8 = r7 := by rw [hregs]; rfl
  have hm : regs.map AV.u8 = [.u8 r0, .u8 r1, .u8 r2, .u8 r3, .u8 r4, .u8 r5, .u8 r6, .u8 r7, .u8 r8, .u8 r9, .u8 r10] := by rw [hregs]; rfl
  have eS : (r1 &&& 64#8 != 0#8) = shownS regs := by unfold shownS; rw [hr1, bits_ne]
  have eB : (r0 &&& 32#8 != 0#8) = blankS regs := by unfold blankS; rw [hr0, bits_ne]
  have hyes : inLine line = true := by unfold inLine; simp; omega
  have eV : ∀ x, seeS bs cs regs line x = if shownS regs = false ∨ x < 8 ∧ blankS regs = true then edgeS cs regs else paintS cs (mixD bs regs line x).toNat := fun x => by unfold seeS; rw [if_neg (by rw [hyes]; decide)]
  have hh : lineC bs cs regs line = layF (seeS bs cs regs line) 256 256 := by unfold lineC; rw [layF_all]
  rw [hh] at h
  rw [hm]
  refine awp_step dr0 (by decide +kernel) ?_
  simp only [go_sem, Try.f15]
  refine awp_step dr0 (by decide +kernel) ?_
  simp only [go_sem]
  rw [rep_u8]
  refine awp_gen (fun X => X.wf (n + 2) ∧ X n = some ⟨[.u8 r0, .u8 r1, .u8 r2, .u8 r3, .u8 r4, .u8 r5, .u8 r6, .u8 r7, .u8 r8, .u8 r9, .u8 r10], 27, false⟩ ∧ X (n + 1) = some ⟨(List.replicate 256 0#8).map .u8, 5, false⟩ ∧ ∀ k, k < n → X k = H k) ⟨Heap.wf_upd (Heap.wf_upd wf (map_u8_ok (bs := [r0, r1, r2, r3, r4, r5, r6, r7, r8, r9, r10]))) map_u8_ok, by rw [Heap.upd_ne _ _ (by omega), Heap.upd_same], Heap.upd_same _ _ _, fun k hk => by rw [Heap.upd_ne _ _ (by omega), Heap.upd_ne _ _ (by omega)]⟩ ?_
  rintro X ⟨xw, x0, x1, xo⟩
  have hvX := hv.mono hvok xo
  have hcX := hc.mono hcok xo
  have hvok2 : v.ok (n + 2) = true := AV.ok_mono (by omega) _ hvok
  have hcok2 : cv.ok (n + 2) = true := AV.ok_mono (by omega) _ hcok
  have h7 : (r7 &&& 15#8).toNat ≤ 15 := by rw [BitVec.toNat_and]; exact Nat.and_le_right
  have we : wrap64 (16 + ((r7 &&& 15#8).toNat : Int)) = 16 + (r7 &&& 15#8).toNat := wrap_id _ (by omega) (by omega)
  have eE : paintS cs (16 + ((r7 &&& 15#8).toNat : Int)) = edgeS cs regs := by unfold edgeS; rw [hr7]
  refine awp_step dr0 (by decide +kernel) ?_
  simp only [go_sem, x0, and15, we]
  refine ref_paint cv cs _ (by omega) _ _ _ hcX hcok2 ?_
  rw [eE]
  simp only [go_sem]
  refine awp_step dr0 (by decide +kernel) ?_
  simp only [go_sem, x0, off64, eS]
  by_cases hs : shownS regs = false
  · have e1 : lineM bs regs line = false := by unfold lineM; rw [hs, Bool.and_false]; rfl
    have e2 : lineO bs regs line = false := by unfold lineO; rw [hs, Bool.and_false]; rfl
    have e3 : layF (seeS bs cs regs line) 256 256 = layF (fun _ => edgeS cs regs) 256 256 := by rw [layF_all, layF_all]; exact List.map_congr_left fun x _ => by rw [eV, if_pos (.inl hs)]
    rw [e1, e2, e3] at h
    rw [hs]
    simp only [go_sem]
    generalize edgeS cs regs = ed at h ⊢
    refine awp_loopF (S := DrS) (fun t => [(3, .i64 line), (11, .sl (n + 1) 0 256 256), (12, .u8 ed), (33, .i64 256), (34, .i64 t.j)]) (fun t => t.X) (fun _ => n + 2) (fun t => t.j ≤ 256 ∧ t.X.wf (n + 2) ∧ t.X (n + 1) = some ⟨(layF (fun _ => ed) 256 t.j).map .u8, 5, false⟩ ∧ ∀ k, k < n → t.X k = H k) (fun t => 256 - t.j)
      (fun t ht => ⟨ht.2.1, Env.okAt_of2 (by simp [AV.ok])⟩) ?_ (⟨0, 0, X⟩ : DrS) ⟨Nat.zero_le _, xw, by rw [layF_zero]; exact x1, xo⟩ (by repeat (first | exact Env.le_nil _ | refine Env.le_cons rfl ?_)) (fun _ _ => rfl) rfl
    rintro ⟨j, _, Y⟩ ⟨hj, yw, y1, yo⟩
    simp only at hj yw y1 yo ⊢
    have ll : (layF (fun _ => ed) 256 j).length = 256 := layF_len _ hj
    refine awp_step dr0 (by decide +kernel) ?_
    simp only [go_sem]
    refine awp_step dr0 (by decide +kernel) ?_
    simp only [go_sem]
    refine ⟨fun hlt => ?_, fun hlt => ?_⟩
    · have hj' : j < 256 := by omega
      have hjI : (j : Int) < 256 := by omega
      have w1 : wrap64 ((j : Int) + 1) = ((j + 1 : Nat) : Int) := by rw [wrap_id _ (by omega) (by omega)]; omega
      have sC : ((layF (fun _ => ed) 256 j).map AV.u8).set j (.u8 ed) = (layF (fun _ => ed) 256 (j + 1)).map AV.u8 := by rw [← List.map_set, layF_set (fun _ => ed) hj']
      refine awp_seq (awp_block ?_)
      refine awp_ev dr0 (by decide +kernel) ?_
      simp only [go_sem, y1, hjI, hj', ll, sC, List.length_map]
      refine ⟨by omega, ?_⟩
      refine awp_ev dr0 (by decide +kernel) ?_
      simp only [go_sem, w1]
      exact Ends.mk (⟨j + 1, 0, Y.upd (n + 1) (some ⟨(layF (fun _ => ed) 256 (j + 1)).map .u8, 5, false⟩)⟩ : DrS) ⟨by simp only; omega, by simp only; omega, Heap.wf_set yw (by omega) map_u8_ok, Heap.upd_same _ _ _, fun k hk => by simp only; rw [Heap.upd_ne _ _ (by omega)]; exact yo k hk⟩ (by repeat (first | exact Env.le_nil _ | refine Env.le_cons rfl ?_)) (fun _ _ => rfl) (Nat.le_refl _) (Nat.le_refl _)
    · have hj6 : j = 256 := by omega
      subst hj6
      refine Fin.keep (h (n + 1) Y (n + 2) (by omega) (by omega) yw yo y1)
  have hs' : shownS regs = true := by simpa using hs
  rw [hs']
  simp only [go_sem]
  refine awp_step dr0 (by decide +kernel) ?_
  simp only [go_sem, x0]
  rw [← hm]
  refine ref18_row v bs regs hr line hln _ _ _ hvX ?_
  intro q Y m hq1 hq2 yw yo yq
  simp only [go_sem]
  have e1 : lineM bs regs line = (spritesS bs regs line).m := by unfold lineM; rw [hyes, hs']; simp
  have e2 : lineO bs regs line = decide ((8 : Int) < ((hitsS bs regs line).length : Nat)) := by
    unfold lineO; rw [hyes, hs']
    by_cases c : 8 < (hitsS bs regs line).length
    · rw [decide_eq_true c, decide_eq_true (by omega)]; rfl
    · rw [decide_eq_false c, decide_eq_false (by omega)]; rfl
  rw [e1, e2] at h
  have hS : (spritesS bs regs line).c.length = 256 := by unfold spritesS; rw [rowTo_len, List.length_replicate]
  have eF : ∀ j : Nat, mixD bs regs line j = if (spritesS bs regs line).c.getD j 0#8 ≠ 0#8 ∧ gfrS bs regs line j = false then (spritesS bs regs line).c.getD j 0#8 else gcolS bs regs line j := fun j => rfl
  generalize spritesS bs regs line = S at hS eF yq h ⊢
  have hvokm : v.ok m = true := AV.ok_mono (by omega) _ hvok
  have hcokm : cv.ok m = true := AV.ok_mono (by omega) _ hcok
  have eV' : ∀ x, seeS bs cs regs line x = if x < 8 ∧ blankS regs = true then edgeS cs regs else paintS cs (mixD bs regs line x).toNat := fun x => by
    rw [eV]
    by_cases c : x < 8 ∧ blankS regs = true
    · rw [if_pos c, if_pos (.inr c)]
    · rw [if_neg c, if_neg (fun z => by rcases z with z | z; exact hs z; exact c z)]
  generalize hf : seeS bs cs regs line = f at h eV'
  generalize edgeS cs regs = ed at eV' ⊢
  refine awp_seqF (S := DrS) (fun _ => [(0, v), (3, .i64 line), (6, .pt n 0), (11, .sl (n + 1) 0 256 256), (15, .bo S.m)]) (fun t => t.X) (fun _ => m) (fun t => t.X.wf m ∧ t.X n = some ⟨regs.map .u8, 27, false⟩ ∧ t.X (n + 1) = some ⟨(layF f 256 256).map .u8, 5, false⟩ ∧ ∀ k, k < n → t.X k = H k)
    (fun t ht => ⟨ht.1, Env.okAt_of2 (by simp [AV.ok, hvokm]; omega)⟩) ?_ ?_
  · refine awp_step dr0 (by decide +kernel) ?_
    simp only [go_sem]
    refine awp_block ?_
    refine awp_loopF (S := DrS) (fun t => [(0, v), (1, cv), (3, .i64 line), (6, .pt n 0), (11, .sl (n + 1) 0 256 256), (12, .u8 ed), (14, .sl q 0 256 256), (15, .bo S.m), (51, .i64 256), (52, .i64 t.j)]) (fun t => t.X) (fun _ => m) (fun t => t.j ≤ 256 ∧ t.X.wf m ∧ t.X n = some ⟨regs.map .u8, 27, false⟩ ∧ t.X (n + 1) = some ⟨(layF f 256 t.j).map .u8, 5, false⟩ ∧ t.X q = some ⟨S.c.map .u8, 5, false⟩ ∧ ∀ k, k < n → t.X k = H k) (fun t => 256 - t.j)
      (fun t ht => ⟨ht.2.1, Env.okAt_of2 (by simp [AV.ok, hvokm, hcokm]; omega)⟩) ?_ (⟨0, 0, Y⟩ : DrS) ⟨Nat.zero_le _, yw, by simp only; rw [hm, yo _ (by omega)]; exact x0, by simp only; rw [layF_zero, yo _ (by omega)]; exact x1, yq, fun k hk => by simp only; rw [yo k (by omega)]; exact xo k hk⟩ (by repeat (first | exact Env.le_nil _ | refine Env.le_cons rfl ?_)) (fun _ _ => rfl) rfl
    rintro ⟨j, _, Z⟩ ⟨hj, zw, z0, z1, zq, zo⟩
    simp only at hj zw z0 z1 zq zo ⊢
    have hvZ := hv.mono hvok zo
    have hcZ := hc.mono hcok zo
    rw [hm] at z0
    have ll : (layF f 256 j).length = 256 := layF_len _ hj
    refine awp_step dr0 (by decide +kernel) ?_
    simp only [go_sem]
    refine awp_step dr0 (by decide +kernel) ?_
    simp only [go_sem]
    refine ⟨fun hlt => ?_, fun hlt => ?_⟩
    · have hj' : j < 256 := by omega
      have hjI : (j : Int) < 256 := by omega
      have w1 : wrap64 ((j : Int) + 1) = ((j + 1 : Nat) : Int) := by rw [wrap_id _ (by omega) (by omega)]; omega
      have sC : ∀ y, y = f j → ((layF f 256 j).map AV.u8).set j (.u8 y) = (layF f 256 (j + 1)).map AV.u8 := fun y hy => by rw [← List.map_set, hy, layF_set f hj']
      have fin : ∀ y, y = f j → ∀ e, Env.le [(0, v), (1, cv), (3, .i64 line), (6, .pt n 0), (11, .sl (n + 1) 0 256 256), (12, .u8 ed), (14, .sl q 0 256 256), (15, .bo S.m), (51, .i64 256), (52, .i64 (j + 1 : Nat))] e →
          Go.Ab.Ends (fun t : DrS => [(0, v), (1, cv), (3, .i64 line), (6, .pt n 0), (11, .sl (n + 1) 0 256 256), (12, .u8 ed), (14, .sl q 0 256 256), (15, .bo S.m), (51, .i64 256), (52, .i64 t.j)]) (fun t => t.X) (fun _ => m) (fun s' => 256 - s'.j < 256 - j ∧ s'.j ≤ 256 ∧ s'.X.wf m ∧ s'.X n = some ⟨regs.map .u8, 27, false⟩ ∧ s'.X (n + 1) = some ⟨(layF f 256 s'.j).map .u8, 5, false⟩ ∧ s'.X q = some ⟨S.c.map .u8, 5, false⟩ ∧ ∀ k, k < n → s'.X k = H k) m e
            (Z.upd (n + 1) (some ⟨((layF f 256 j).map AV.u8).set j (.u8 y), 5, false⟩)) m := fun y hy e he => by
        rw [sC y hy]
        exact Go.Ab.Ends.mk (⟨j + 1, 0, Z.upd (n + 1) (some ⟨(layF f 256 (j + 1)).map .u8, 5, false⟩)⟩ : DrS) ⟨by simp only; omega, by simp only; omega, Heap.wf_set zw (by omega) map_u8_ok, by simp only; rw [Heap.upd_ne _ _ (by omega), hm]; exact z0, Heap.upd_same _ _ _, by simp only; rw [Heap.upd_ne _ _ (by omega)]; exact zq, fun k hk => by simp only; rw [Heap.upd_ne _ _ (by omega)]; exact zo k hk⟩ he (fun _ _ => rfl) (Nat.le_refl _) (Nat.le_refl _)
      have gS : (S.c.map AV.u8).getD j .junk = .u8 (S.c.getD j 0#8) := getD_map_u8' (by rw [hS]; exact hj')
      have ex := eF j
      generalize S.c.getD j 0#8 = sd at gS ex
      refine awp_seq (awp_block ?_)
      refine awp_step dr0 (by decide +kernel) ?_
      simp only [go_sem]
      refine awp_step dr0 (by decide +kernel) ?_
      simp only [go_sem, z0, z1, on32, eB, hjI, hj', ll, List.length_map]
      refine ⟨fun a => ⟨fun b => ⟨by omega, ?_⟩, fun b => ?_⟩, fun a => ?_⟩
      · refine awp_ev dr0 (by decide +kernel) ?_
        simp only [go_sem, w1]
        refine fin ed (by rw [eV', if_pos ⟨by omega, b⟩]) _ ?_
        exact (by repeat (first | exact Env.le_nil _ | refine Env.le_cons rfl ?_))
      all_goals
        have nb : ¬ (j < 8 ∧ blankS regs = true) := fun c => by first | (rw [c.2] at b; cases b) | omega
        refine awp_step dr0 (by decide +kernel) ?_
        simp only [go_sem, z0]
        refine ref17_dot' v bs regs hr line _ hl (by omega) _ _ _ hvZ hm ?_
        simp only [go_sem]
        refine awp_seqF (S := Unit) (fun _ => [(0, v), (1, cv), (3, .i64 line), (6, .pt n 0), (11, .sl (n + 1) 0 256 256), (12, .u8 ed), (14, .sl q 0 256 256), (15, .bo S.m), (16, .i64 j), (17, .u8 (mixD bs regs line j)), (51, .i64 256), (52, .i64 j)]) (fun _ => Z) (fun _ => m) (fun _ => True) (fun _ _ => ⟨zw, Env.okAt_of2 (by simp [AV.ok, hvokm, hcokm]; omega)⟩) ?_ ?_
        · have sp := u8_pos sd
          have p1 : 0#8 < sd → sd ≠ 0#8 := fun c => by rw [decide_eq_true c] at sp; exact of_decide_eq_true sp.symm
          have p0 : ¬ 0#8 < sd → sd = 0#8 := fun c => by rw [decide_eq_false c] at sp; exact Decidable.not_not.1 (of_decide_eq_false sp.symm)
          refine awp_ev dr0 (by decide +kernel) ?_
          simp only [go_sem, zq, gS, hS, hjI, hj', List.length_map]
          refine ⟨fun c1 => ⟨fun c2 => ?_, fun c2 => ?_⟩, fun c1 => ?_⟩
          · rw [ex, if_pos ⟨p1 c1, by simpa using c2⟩]; exact Ends.mk () trivial (by repeat (first | exact Env.le_nil _ | refine Env.le_cons rfl ?_)) (fun _ _ => rfl) (Nat.le_refl _) (Nat.le_refl _)
          · rw [ex, if_neg (fun c => by rw [c.2] at c2; exact absurd c2 (by decide))]; exact Ends.mk () trivial (by repeat (first | exact Env.le_nil _ | refine Env.le_cons rfl ?_)) (fun _ _ => rfl) (Nat.le_refl _) (Nat.le_refl _)
          · rw [ex, if_neg (fun c => c.1 (p0 c1))]; exact Ends.mk () trivial (by repeat (first | exact Env.le_nil _ | refine Env.le_cons rfl ?_)) (fun _ _ => rfl) (Nat.le_refl _) (Nat.le_refl _)
        rintro - -
        have hmx := (mixD bs regs line j).isLt
        refine awp_ev dr0 (by decide +kernel) ?_
        simp only [go_sem]
        refine ref_paint cv cs _ (by omega) _ _ _ hcZ hcokm ?_
        simp only [go_sem, z1, hjI, hj', ll, List.length_map]
        refine ⟨by omega, ?_⟩
        refine awp_ev dr0 (by decide +kernel) ?_
        simp only [go_sem, w1]
        refine fin _ (by rw [eV', if_neg nb]) _ ?_
        exact (by repeat (first | exact Env.le_nil _ | refine Env.le_cons rfl ?_))
    · have hj6 : j = 256 := by omega
      subst hj6
      exact Ends.mk (⟨256, 0, Z⟩ : DrS) ⟨zw, by rw [hm]; exact z0, z1, zo⟩ (by repeat (first | exact Env.le_nil _ | refine Env.le_cons rfl ?_)) (fun _ _ => rfl) (by omega) (Nat.le_refl _)
  rintro ⟨_, _, Z⟩ ⟨zw, z0, z1, zo⟩
  simp only at zw z0 z1 zo ⊢
  rw [hm] at z0
  have hvZ := hv.mono hvok zo
  refine awp_ev dr0 (by decide +kernel) ?_
  simp only [go_sem, z0]
  rw [← hm]
  refine ref_on v bs regs hr line hln _ _ _ hvZ ?_
  intro q' W m' hm1 ww wo hqm hq
  simp only [go_sem, lenB_intsE]
  exact Fin.keep (h (n + 1) W m' (by omega) (by omega) ww (fun k hk => by rw [wo k (by omega)]; exact zo k hk) (by rw [wo _ (by omega)]; exact z1))
end Go.Proofs.Joy
namespace Go.Proofs.Joy
open Go.Ab Go.Proofs

set_option maxHeartbeats 1000000
set_option maxRecDepth 20000

def enc3 (x : B3) : List AV := [.u8 x.1, .u8 x.2.1, .u8 x.2.2]
/-- A scene's sprites. -/
def sprIn (H : Heap) (v : AV) (xs : List B3) : Prop := (v = .sn ∧ xs = []) ∨ ∃ b c el ro, v = .sl b 0 xs.length c ∧ xs.length ≤ c ∧ H b = some ⟨xs.flatMap enc3, el, ro⟩
theorem lenB_spr {H : Heap} {v : AV} {xs : List B3} (h : sprIn H v xs) (K : AV → Prop) : lenB (some .slice) v K = K (.i64 xs.length) := by
  rcases h with ⟨rfl, rfl⟩ | ⟨b, c, el, ro, rfl, _, _⟩ <;> rfl
theorem spr_mono {H H' : Heap} {v : AV} {xs : List B3} {n : Nat} (h : sprIn H v xs) (hok : v.ok n = true) (he : ∀ k, k < n → H' k = H k) : sprIn H' v xs := by
  rcases h with h | ⟨b, c, el, ro, rfl, h1, h2⟩
  · exact .inl h
  · refine .inr ⟨b, c, el, ro, rfl, h1, ?_⟩
    have : b < n := by simpa [AV.ok] using hok
    rw [he b this]; exact h2
theorem spr_ok {H : Heap} {n : Nat} {v : AV} {xs : List B3} (wf : H.wf n) (h : sprIn H v xs) : v.ok n = true := by
  rcases h with ⟨rfl, _⟩ | ⟨b, c, el, ro, rfl, h1, h2⟩
  · rfl
  · have := (wf b _ h2).1; simp [AV.ok, this]
theorem enc3_get {xs : List B3} {i k : Nat} (h : i < xs.length) (hk : k < 3) : (xs.flatMap enc3).getD (i * 3 + k) .junk = (enc3 (xs.getD i d3)).getD k .junk := by
  induction xs generalizing i with
  | nil => simp at h
  | cons s r ih =>
    rw [List.flatMap_cons]
    match i with
    | 0 =>
      rw [Nat.zero_mul, Nat.zero_add, getD_app_l (by simpa [enc3] using hk)]; rfl
    | i + 1 =>
      rw [getD_app_r (by simp [enc3]; omega), show (enc3 s).length = 3 from rfl, show (i + 1) * 3 + k - 3 = i * 3 + k by omega, ih (by simpa using h)]; rfl
theorem enc3_len (xs : List B3) : (xs.flatMap enc3).length = xs.length * 3 := by
  induction xs with
  | nil => rfl
  | cons s r ih => rw [List.flatMap_cons, List.length_append, ih]; simp only [enc3, List.length_cons, List.length_nil]; omega

structure LbS where
  j : Nat
  l : List (BitVec 8)
  X : Heap
structure LbI (H : Heap) (n m : Nat) (v w u : AV) (regs l : List (BitVec 8)) (X : Heap) : Prop where
  wf : X.wf m
  le : n + 3 ≤ m
  x0 : X n = some ⟨[v, w, u], 32, false⟩
  x1 : X (n + 1) = some ⟨regs.map .u8, 27, false⟩
  x2 : X (n + 2) = some ⟨l.map .u8, 5, false⟩
  len : l.length = 16384
  old : ∀ k, k < n → X k = H k
theorem LbI.put {H : Heap} {n m : Nat} {v w u : AV} {regs l : List (BitVec 8)} {X : Heap} (h : LbI H n m v w u regs l X) {l' : List (BitVec 8)} (hl : l'.length = 16384) : LbI H n m v w u regs l' (X.upd (n + 2) (some ⟨l'.map .u8, 5, false⟩)) :=
  ⟨Heap.wf_set h.wf (by have := h.le; omega) map_u8_ok, h.le, by rw [Heap.upd_ne _ _ (by omega)]; exact h.x0, by rw [Heap.upd_ne _ _ (by omega)]; exact h.x1, Heap.upd_same _ _ _, hl, fun k hk => by rw [Heap.upd_ne _ _ (by omega)]; exact h.old k hk⟩

theorem great_ok (v w u : AV) (xs : List B3) (ts us : List (BitVec 8)) (H : Heap) (n : Nat) (K : AV → Heap → Nat → Prop) (hv : sprIn H v xs) (hw : bytesIn H w ts) (hu : bytesIn H u us)
    (h : ∀ b, (b = false → xs.length ≤ 64 ∧ ts.length ≤ 300 ∧ us.length ≤ 100) → K (.bo b) H n) : ACalls Try.prog 11 [.ag [v, w, u]] H n K := by
  refine ACalls.of_ev dr0 Try.func11 rfl (by decide +kernel) (by decide +kernel) (show 1 ≤ 19 by decide) (by simp) fun wf => ?_
  have l1 : ∀ K, lenB (some .slice) v K = K (.i64 xs.length) := lenB_spr hv
  have l2 : ∀ K, lenB (some .slice) w K = K (.i64 ts.length) := lenB_bytes hw
  have l3 : ∀ K, lenB (some .slice) u K = K (.i64 us.length) := lenB_bytes hu
  simp only [go_sem, Try.f11, l1, l2, l3]
  have d : ∀ X, ∀ k, k < n → (H.upd n X) k = H k := fun X k hk => Heap.upd_ne _ _ (by omega)
  repeat' first
    | with_reducible refine And.intro ?_ ?_
    | (intro c)
    | exact Fin.back wf (h _ (fun e => by first | (cases e) | (have := of_decide_eq_false e; omega))) (d _) rfl

theorem build_ok (v w u : AV) (xs : List B3) (hx : xs.length ≤ 64) (ts us regs : List (BitVec 8)) (hts : ts.length ≤ 300) (hus : us.length ≤ 100) (hr : regs.length = 11) (H : Heap) (n : Nat) (K : AV → Heap → Nat → Prop) (hv : sprIn H v xs) (hw : bytesIn H w ts) (hu : bytesIn H u us)
    (h : ∀ (l c : List (BitVec 8)) (H' : Heap) (m b d : Nat), l.length = 16384 → c.length = 32 → (xs = [] → yS l regs 0 = 208#8) → n ≤ m → H'.wf m → (∀ i, i < n → H' i = H i) → n ≤ b → b < m → n ≤ d → d < m →
      H' b = some ⟨l.map .u8, 5, false⟩ → H' d = some ⟨c.map .u8, 5, false⟩ → K (.tu [.sl b 0 16384 16384, .sl d 0 32 32]) H' m) : ACalls Try.prog 12 [.ag [v, w, u], .ag (regs.map .u8)] H n K := by
  refine ACalls.of_awp Try.func12 rfl (by decide +kernel) (show 2 ≤ 131 by decide) (by simp) fun wf => ?_
  have hvok := spr_ok wf hv
  have hwok := okB wf hw
  have huok := okB wf hu
  obtain ⟨r0, r1, r2, r3, r4, r5, r6, r7, r8, r9, r10, hregs⟩ := regs11 hr
  have hm : regs.map AV.u8 = [.u8 r0, .u8 r1, .u8 r2, .u8 r3, .u8 r4, .u8 r5, .u8 r6, .u8 r7, .u8 r8, .u8 r9, .u8 r10] := by rw [hregs]; rfl
  rw [hm]
  refine awp_step dr12 (by decide +kernel) ?_
  simp only [go_sem, Try.f12]
  refine awp_step dr12 (by decide +kernel) ?_
  simp only [go_sem]
  rw [rep_u8]
  refine awp_gen (LbI H n (n + 3) v w u regs (List.replicate 16384 0#8)) ⟨Heap.wf_upd (Heap.wf_upd (Heap.wf_upd wf (fun y hy => by
      simp only [List.mem_cons, List.not_mem_nil, or_false] at hy
      rcases hy with rfl | rfl | rfl
      · exact AV.ok_mono (by omega) _ hvok
      · exact AV.ok_mono (by omega) _ hwok
      · exact AV.ok_mono (by omega) _ huok)) (map_u8_ok (bs := [r0, r1, r2, r3, r4, r5, r6, r7, r8, r9, r10]))) map_u8_ok, Nat.le_refl _, (by repeat (first | rw [Heap.upd_same] | rw [Heap.upd_ne _ _ (by omega)])), by rw [hm]; exact (by repeat (first | rw [Heap.upd_same] | rw [Heap.upd_ne _ _ (by omega)])), (by repeat (first | rw [Heap.upd_same] | rw [Heap.upd_ne _ _ (by omega)])), List.length_replicate, fun k hk => by rw [Heap.upd_ne _ _ (by omega), Heap.upd_ne _ _ (by omega), Heap.upd_ne _ _ (by omega)]⟩ ?_
  intro X hX
  refine awp_seqF (S := LbS) (fun _ => [(2, .pt n 0), (3, .pt (n + 1) 0), (6, .sl (n + 2) 0 16384 16384)]) (fun t => t.X) (fun _ => n + 3) (fun t => LbI H n (n + 3) v w u regs t.l t.X)
    (fun t ht => ⟨ht.wf, Env.okAt_of2 (by simp [AV.ok])⟩) ?_ ?_
  · refine awp_step dr12 (by decide +kernel) ?_
    simp only [go_sem]
    refine awp_block ?_
    refine awp_loopF (S := LbS) (fun t => [(2, .pt n 0), (3, .pt (n + 1) 0), (6, .sl (n + 2) 0 16384 16384), (14, .i64 16384), (15, .i64 t.j)]) (fun t => t.X) (fun _ => n + 3)
      (fun t => t.j ≤ 16384 ∧ LbI H n (n + 3) v w u regs t.l t.X) (fun t => 16384 - t.j)
      (fun t ht => ⟨ht.2.wf, Env.okAt_of2 (by simp [AV.ok])⟩) ?_ (⟨0, _, X⟩ : LbS) ⟨Nat.zero_le _, hX⟩ (by repeat (first | exact Env.le_nil _ | refine Env.le_cons rfl ?_)) (fun _ _ => rfl) rfl
    rintro ⟨j, l, Y⟩ ⟨hj, hY⟩
    simp only at hj hY ⊢
    refine awp_step dr12 (by decide +kernel) ?_
    simp only [go_sem]
    refine awp_step dr12 (by decide +kernel) ?_
    simp only [go_sem]
    refine ⟨fun hlt => ?_, fun hlt => ?_⟩
    · have hj' : j < 16384 := by omega
      have y0 := hY.x0; have y1 := hY.x2
      have wj : wrap64 ((j : Int) + 1) = ((j + 1 : Nat) : Int) := by rw [wrap_id _ (by omega) (by omega)]; omega
      have hvY : bytesIn Y w ts := hw.mono hwok hY.old
      have hlb : ∀ K, lenB (some .slice) w K = K (.i64 ts.length) := lenB_bytes hvY
      refine awp_ev dr12 (by decide +kernel) ?_
      simp only [go_sem, y0, hlb]
      refine ⟨fun c => ?_, fun c => ?_⟩
      · have hts : ts ≠ [] := by rintro rfl; simp at c
        have htl : 0 < ts.length := List.length_pos_iff.2 hts
        have hm : (j : Int).tmod (ts.length : Int) = ((j % ts.length : Nat) : Int) := by rw [Int.tmod_eq_emod_of_nonneg (by omega)]; rfl
        have hml : j % ts.length < ts.length := Nat.mod_lt _ htl
        refine ⟨by omega, ?_⟩
        rw [hm]
        rcases hvY with ⟨rfl, he⟩ | ⟨su, b, o, c2, blk, rfl, g0, g1, g2, g3⟩
        · exact absurd he hts
        obtain ⟨q1, q2⟩ := cells_at g2 g3 hml
        have hml2 : ((j % ts.length : Nat) : Int) < (ts.length : Int) := by omega
        have hbn : b < n := by cases su <;> simpa [vw, AV.ok] using hwok
        have hjI : (j : Int) < 16384 := by omega
        have hll : l.length = 16384 := hY.len
        simp only [go_sem, g1, q1, q2, hml, hml2, hjI, y1, y0, hll, hj', List.length_map, wj]
        refine ⟨by omega, ?_⟩
        rw [← List.map_set]
        exact Go.Ab.Ends.mk (⟨j + 1, l.set j _, _⟩ : LbS) ⟨by simp only; omega, by simp only; omega, hY.put (by rw [List.length_set, hll])⟩ (by repeat (first | exact Env.le_nil _ | refine Env.le_cons rfl ?_)) (fun _ _ => rfl) (Nat.le_refl _) (Nat.le_refl _)
      · simp only [wj]
        exact Go.Ab.Ends.mk (⟨j + 1, l, Y⟩ : LbS) ⟨by simp only; omega, by simp only; omega, hY⟩ (by repeat (first | exact Env.le_nil _ | refine Env.le_cons rfl ?_)) (fun _ _ => rfl) (Nat.le_refl _) (Nat.le_refl _)
    · exact Go.Ab.Ends.mk (⟨0, l, Y⟩ : LbS) hY (by repeat (first | exact Env.le_nil _ | refine Env.le_cons rfl ?_)) (fun _ _ => rfl) (Nat.le_refl _) (Nat.le_refl _)
  clear hX
  rintro ⟨_, l1, X⟩ hX
  simp only at hX ⊢
  have hb := baseS_le regs
  obtain ⟨a, ha⟩ := Int.eq_ofNat_of_zero_le hb.1
  have x1 := hX.x1
  rw [hm] at x1
  refine awp_step dr12 (by decide +kernel) ?_
  simp only [go_sem, x1]
  rw [← hm]
  refine ref_base regs hr _ _ _ ?_
  simp only [go_sem]
  rw [ha]
  have hva : ∀ {Z : Heap}, (∀ k, k < n → Z k = H k) → sprIn Z v xs := fun hz => spr_mono hv hvok hz
  refine awp_seqF (S := LbS) (fun _ => [(2, .pt n 0), (6, .sl (n + 2) 0 16384 16384)]) (fun t => t.X) (fun _ => n + 3) (fun t => LbI H n (n + 3) v w u regs t.l t.X ∧ (xs = [] → t.l.getD a 0#8 = 208#8))
    (fun t ht => ⟨ht.1.wf, Env.okAt_of2 (by simp [AV.ok])⟩) ?_ ?_
  · refine awp_step dr12 (by decide +kernel) ?_
    simp only [go_sem]
    refine awp_block ?_
    refine awp_loopF (S := LbS) (fun t => [(2, .pt n 0), (6, .sl (n + 2) 0 16384 16384), (8, .i64 a), (9, .i64 t.j)]) (fun t => t.X) (fun _ => n + 3)
      (fun t => t.j ≤ 64 ∧ LbI H n (n + 3) v w u regs t.l t.X ∧ (xs = [] → 0 < t.j → t.l.getD a 0#8 = 208#8)) (fun t => 64 - t.j)
      (fun t ht => ⟨ht.2.1.wf, Env.okAt_of2 (by simp [AV.ok])⟩) ?_ (⟨0, l1, X⟩ : LbS) ⟨Nat.zero_le _, hX, fun _ c => absurd c (Nat.lt_irrefl _)⟩ (by repeat (first | exact Env.le_nil _ | refine Env.le_cons rfl ?_)) (fun _ _ => rfl) rfl
    clear x1
    rintro ⟨i, l, Y⟩ ⟨hi, hY, hz⟩
    simp only at hi hY hz ⊢
    have y0 := hY.x0; have y1 := hY.x2
    have hlv := lenB_spr (hva hY.old)
    refine awp_step dr12 (by decide +kernel) ?_
    simp only [go_sem, y0, hlv]
    have hll : l.length = 16384 := hY.len
    have exit : ¬ ((i : Int) ≤ (xs.length : Int) ∧ (i : Int) < 64) → (xs = [] → l.getD a 0#8 = 208#8) := fun c e => hz e (by rw [e] at c; simp at c; omega)
    refine ⟨fun c1 => ⟨fun c2 => ?_, fun c2 => ?_⟩, fun c1 => ?_⟩
    · have t1 : (wrap64 ((a : Int) + (i : Int))).tmod 16384 = ((a + i : Nat) : Int) := by rw [wrap_id _ (by omega) (by omega), Int.tmod_eq_emod_of_nonneg (by omega)]; omega
      have t2 : (wrap64 (wrap64 ((a : Int) + 128) + wrap64 (2 * (i : Int)))).tmod 16384 = ((a + 128 + 2 * i : Nat) : Int) := by
        rw [wrap_id ((a : Int) + 128) (by omega) (by omega), wrap_id (2 * (i : Int)) (by omega) (by omega), wrap_id _ (by omega) (by omega), Int.tmod_eq_emod_of_nonneg (by omega)]; omega
      have t3 : (wrap64 (wrap64 ((a : Int) + 129) + wrap64 (2 * (i : Int)))).tmod 16384 = ((a + 129 + 2 * i : Nat) : Int) := by
        rw [wrap_id ((a : Int) + 129) (by omega) (by omega), wrap_id (2 * (i : Int)) (by omega) (by omega), wrap_id _ (by omega) (by omega), Int.tmod_eq_emod_of_nonneg (by omega)]; omega
      have w1 : wrap64 ((i : Int) + 1) = ((i + 1 : Nat) : Int) := by rw [wrap_id _ (by omega) (by omega)]; omega
      generalize hp1 : a + i = p1 at t1
      generalize hp2 : a + 128 + 2 * i = p2 at t2
      generalize hp3 : a + 129 + 2 * i = p3 at t3
      have q1 : p1 < 16384 := by omega
      have q2 : p2 < 16384 := by omega
      have q3 : p3 < 16384 := by omega
      have i1 : (p1 : Int) < 16384 := by omega
      have i2 : (p2 : Int) < 16384 := by omega
      have i3 : (p3 : Int) < 16384 := by omega
      refine awp_seq (awp_block ?_)
      refine awp_step dr12 (by decide +kernel) ?_
      simp only [go_sem, y1, hll, i1, q1, t1, List.length_map]
      refine ⟨by omega, ?_⟩
      rw [← List.map_set]
      have hY2 : LbI H n (n + 3) v w u regs (l.set p1 208#8) (Y.upd (n + 2) (some ⟨(l.set p1 208#8).map .u8, 5, false⟩)) := hY.put (by rw [List.length_set, hll])
      have hl2 : (l.set p1 208#8).length = 16384 := by rw [List.length_set, hll]
      have hz2 : xs = [] → (l.set p1 208#8).getD a 0#8 = 208#8 := fun e => by
        have : i = 0 := by rw [e] at c1; simp at c1; omega
        rw [getD_set8, if_pos ⟨by omega, by omega⟩]
      generalize l.set p1 208#8 = l2 at hY2 hl2 hz2 ⊢
      generalize Y.upd (n + 2) (some ⟨l2.map .u8, 5, false⟩) = Z at hY2 ⊢
      have z0 := hY2.x0; have z1 := hY2.x2
      have hlz := lenB_spr (hva hY2.old)
      refine awp_ev dr12 (by decide +kernel) ?_
      simp only [go_sem, z0, hlz]
      refine ⟨fun c3 => ?_, fun c3 => ?_⟩
      · have hix : i < xs.length := by omega
        have hvz := hva hY2.old
        rcases hvz with ⟨rfl, e⟩ | ⟨b, c, el, ro, rfl, g0, g1⟩
        · rw [e] at hix; exact absurd hix (Nat.not_lt_zero _)
        have e0 := enc3_get (k := 0) hix (by decide)
        have e1 := enc3_get (k := 1) hix (by decide)
        have e2 := enc3_get (k := 2) hix (by decide)
        have el3 := enc3_len xs
        have hbn : b < n := by simpa [AV.ok] using hvok
        have gb : ∀ W, (Z.upd (n + 2) W) b = some ⟨xs.flatMap enc3, el, ro⟩ := fun W => by rw [Heap.upd_ne _ _ (by omega)]; exact g1
        have z0' : ∀ W, (Z.upd (n + 2) W) n = some ⟨[.sl b 0 xs.length c, w, u], 32, false⟩ := fun W => by rw [Heap.upd_ne _ _ (by omega)]; exact z0
        simp only [enc3, List.getD_cons_zero, List.getD_cons_succ] at e0 e1 e2
        have k0 : i * 3 + 0 < xs.length * 3 := by omega
        have k1 : i * 3 + 1 < xs.length * 3 := by omega
        have k2 : i * 3 + 2 < xs.length * 3 := by omega
        simp only [go_sem, g1, z0', gb, z1, t1, t2, t3, i1, i2, i3, q1, q2, q3, c3, e0, e1, e2, el3, k0, k1, k2, hl2, List.length_map, List.length_set]
        repeat' first
          | exact k0
          | exact k1
          | exact k2
          | with_reducible refine And.intro ?_ ?_
          | omega
        all_goals try simp only [go_sem, g1, z0', gb, z1, t1, t2, t3, i1, i2, i3, q1, q2, q3, c3, e0, e1, e2, el3, k0, k1, k2, hl2, List.length_map, List.length_set]
        rw [← List.map_set, ← List.map_set, ← List.map_set]
        refine awp_ev dr0 (by decide +kernel) ?_
        simp only [go_sem, w1]
        have hl5 : (((l2.set p1 (xs.getD i d3).1).set p2 (xs.getD i d3).2.1).set p3 (xs.getD i d3).2.2).length = 16384 := by rw [List.length_set, List.length_set, List.length_set, hl2]
        exact Go.Ab.Ends.mk (⟨i + 1, ((l2.set p1 (xs.getD i d3).1).set p2 (xs.getD i d3).2.1).set p3 (xs.getD i d3).2.2, Z.upd (n + 2) (some ⟨(((l2.set p1 (xs.getD i d3).1).set p2 (xs.getD i d3).2.1).set p3 (xs.getD i d3).2.2).map .u8, 5, false⟩)⟩ : LbS) ⟨by simp only; omega, by simp only; omega, hY2.put hl5, fun e _ => by rw [e] at hix; exact absurd hix (Nat.not_lt_zero _)⟩ (by repeat (first | exact Env.le_nil _ | refine Env.le_cons rfl ?_)) (fun _ _ => rfl) (Nat.le_refl _) (Nat.le_refl _)
      · refine awp_ev dr0 (by decide +kernel) ?_
        simp only [go_sem, w1]
        exact Go.Ab.Ends.mk (⟨i + 1, l2, Z⟩ : LbS) ⟨by simp only; omega, by simp only; omega, hY2, fun e _ => hz2 e⟩ (by repeat (first | exact Env.le_nil _ | refine Env.le_cons rfl ?_)) (fun _ _ => rfl) (Nat.le_refl _) (Nat.le_refl _)
    · exact Go.Ab.Ends.mk (⟨0, l, Y⟩ : LbS) ⟨hY, exit (fun c => c2 c.2)⟩ (by repeat (first | exact Env.le_nil _ | refine Env.le_cons rfl ?_)) (fun _ _ => rfl) (Nat.le_refl _) (Nat.le_refl _)
    · exact Go.Ab.Ends.mk (⟨0, l, Y⟩ : LbS) ⟨hY, exit (fun c => c1 c.1)⟩ (by repeat (first | exact Env.le_nil _ | refine Env.le_cons rfl ?_)) (fun _ _ => rfl) (Nat.le_refl _) (Nat.le_refl _)
  clear hX x1
  rintro ⟨_, l, X⟩ ⟨hX, hz⟩
  simp only at hX hz ⊢
  have hzz : xs = [] → yS l regs 0 = 208#8 := fun e => by
    unfold yS atS
    rw [ha, show (((a : Int) + ((0 : Nat) : Int)) % 16384).toNat = a by omega]
    exact hz e
  refine awp_step dr12 (by decide +kernel) ?_
  simp only [go_sem]
  rw [rep_u8]
  have hX2 : LbI H n (n + 4) v w u regs l (X.upd (n + 3) (some ⟨(List.replicate 32 0#8).map .u8, 5, false⟩)) :=
    ⟨Heap.wf_upd hX.wf map_u8_ok, by omega, by rw [Heap.upd_ne _ _ (by omega)]; exact hX.x0, by rw [Heap.upd_ne _ _ (by omega)]; exact hX.x1, by rw [Heap.upd_ne _ _ (by omega)]; exact hX.x2, hX.len, fun k hk => by rw [Heap.upd_ne _ _ (by omega)]; exact hX.old k hk⟩
  have hX3 : (X.upd (n + 3) (some ⟨(List.replicate 32 0#8).map .u8, 5, false⟩)) (n + 3) = some ⟨(List.replicate 32 0#8).map .u8, 5, false⟩ := Heap.upd_same _ _ _
  generalize X.upd (n + 3) (some ⟨(List.replicate 32 0#8).map .u8, 5, false⟩) = V at hX2 hX3 ⊢
  refine awp_seqF (S := LbS) (fun _ => [(6, .sl (n + 2) 0 16384 16384), (10, .sl (n + 3) 0 32 32)]) (fun t => t.X) (fun _ => n + 4) (fun t => LbI H n (n + 4) v w u regs l t.X ∧ t.l.length = 32 ∧ t.X (n + 3) = some ⟨t.l.map .u8, 5, false⟩)
    (fun t ht => ⟨ht.1.wf, Env.okAt_of2 (by simp [AV.ok])⟩) ?_ ?_
  · refine awp_step dr12 (by decide +kernel) ?_
    simp only [go_sem]
    refine awp_block ?_
    refine awp_loopF (S := LbS) (fun t => [(2, .pt n 0), (6, .sl (n + 2) 0 16384 16384), (10, .sl (n + 3) 0 32 32), (105, .i64 32), (106, .i64 t.j)]) (fun t => t.X) (fun _ => n + 4)
      (fun t => t.j ≤ 32 ∧ LbI H n (n + 4) v w u regs l t.X ∧ t.l.length = 32 ∧ t.X (n + 3) = some ⟨t.l.map .u8, 5, false⟩) (fun t => 32 - t.j)
      (fun t ht => ⟨ht.2.1.wf, Env.okAt_of2 (by simp [AV.ok])⟩) ?_ (⟨0, _, V⟩ : LbS) ⟨Nat.zero_le _, hX2, List.length_replicate, hX3⟩ (by repeat (first | exact Env.le_nil _ | refine Env.le_cons rfl ?_)) (fun _ _ => rfl) rfl
    rintro ⟨j, c, Y⟩ ⟨hj, hY, hcl, y1⟩
    simp only at hj hY hcl y1 ⊢
    refine awp_step dr12 (by decide +kernel) ?_
    simp only [go_sem]
    refine awp_step dr12 (by decide +kernel) ?_
    simp only [go_sem]
    refine ⟨fun hlt => ?_, fun hlt => ?_⟩
    · have hj' : j < 32 := by omega
      have y0 := hY.x0
      have wj : wrap64 ((j : Int) + 1) = ((j + 1 : Nat) : Int) := by rw [wrap_id _ (by omega) (by omega)]; omega
      have hvY : bytesIn Y u us := hu.mono huok hY.old
      have hlb : ∀ K, lenB (some .slice) u K = K (.i64 us.length) := lenB_bytes hvY
      refine awp_ev dr12 (by decide +kernel) ?_
      simp only [go_sem, y0, hlb]
      refine ⟨fun cc => ?_, fun cc => ?_⟩
      · have hts : us ≠ [] := by rintro rfl; simp at cc
        have htl : 0 < us.length := List.length_pos_iff.2 hts
        have hm : (j : Int).tmod (us.length : Int) = ((j % us.length : Nat) : Int) := by rw [Int.tmod_eq_emod_of_nonneg (by omega)]; rfl
        have hml : j % us.length < us.length := Nat.mod_lt _ htl
        refine ⟨by omega, ?_⟩
        rw [hm]
        rcases hvY with ⟨rfl, he⟩ | ⟨su, b, o, c2, blk, rfl, g0, g1, g2, g3⟩
        · exact absurd he hts
        obtain ⟨q1, q2⟩ := cells_at g2 g3 hml
        have hml2 : ((j % us.length : Nat) : Int) < (us.length : Int) := by omega
        have hbn : b < n := by cases su <;> simpa [vw, AV.ok] using huok
        have hjI : (j : Int) < 32 := by omega
        simp only [go_sem, g1, q1, q2, hml, hml2, hjI, y1, y0, hcl, hj', List.length_map, wj]
        refine ⟨by omega, ?_⟩
        rw [← List.map_set]
        generalize hcc : List.set c j _ = c'
        have hcl' : c'.length = 32 := by rw [← hcc, List.length_set, hcl]
        exact Go.Ab.Ends.mk (⟨j + 1, c', Y.upd (n + 3) (some ⟨c'.map .u8, 5, false⟩)⟩ : LbS) ⟨by simp only; omega, by simp only; omega, ⟨Heap.wf_set hY.wf (by omega) map_u8_ok, hY.le, by rw [← hY.x0]; exact Heap.upd_ne _ _ (by omega), by rw [← hY.x1]; exact Heap.upd_ne _ _ (by omega), by rw [← hY.x2]; exact Heap.upd_ne _ _ (by omega), hY.len, fun k hk => by rw [← hY.old k hk]; exact Heap.upd_ne _ _ (by omega)⟩, hcl', Heap.upd_same _ _ _⟩ (by repeat (first | exact Env.le_nil _ | refine Env.le_cons rfl ?_)) (fun _ _ => rfl) (Nat.le_refl _) (Nat.le_refl _)
      · simp only [wj]
        exact Go.Ab.Ends.mk (⟨j + 1, c, Y⟩ : LbS) ⟨by simp only; omega, by simp only; omega, hY, hcl, y1⟩ (by repeat (first | exact Env.le_nil _ | refine Env.le_cons rfl ?_)) (fun _ _ => rfl) (Nat.le_refl _) (Nat.le_refl _)
    · exact Go.Ab.Ends.mk (⟨0, c, Y⟩ : LbS) ⟨hY, hcl, y1⟩ (by repeat (first | exact Env.le_nil _ | refine Env.le_cons rfl ?_)) (fun _ _ => rfl) (by omega) (Nat.le_refl _)
  rintro ⟨_, c, Y⟩ ⟨hY, hcl, y1⟩
  simp only at hY hcl y1 ⊢
  refine awp_ev dr0 (by decide +kernel) ?_
  simp only [go_sem]
  exact Fin.keep (h l c Y (n + 4) (n + 2) (n + 3) hY.len hcl hzz (by omega) hY.wf hY.old (by omega) (by omega) (by omega) (by omega) hY.x2 y1)
end Go.Proofs.Joy
namespace Go.Proofs.Joy
open Go.Ab Go.Proofs

set_option maxHeartbeats 1000000
set_option maxRecDepth 20000

def cram1 : List (BitVec 8) := (List.replicate 32 0#8).set 16 255#8
def regs0 : List (BitVec 8) := List.replicate 11 0#8
theorem pic_len' (bs cs regs : List (BitVec 8)) (line : Int) (o m : Bool) : ((lineC bs cs regs line).map AV.u8 ++ [AV.bo o, AV.bo m]).length = 258 := by
  rw [List.length_append, List.length_map, lineC_len]; rfl
theorem pic_get (bs cs regs : List (BitVec 8)) (line : Int) (o m : Bool) {x : Nat} (h : x < 256) : ((lineC bs cs regs line).map AV.u8 ++ [AV.bo o, AV.bo m]).getD x .junk = .u8 (seeS bs cs regs line x) := by
  rw [getD_app_l (by rw [List.length_map, lineC_len]; exact h), getD_map_u8' (by rw [lineC_len]; exact h), lineC_getD _ _ _ _ h]
theorem pic_o (bs cs regs : List (BitVec 8)) (line : Int) (o m : Bool) : ((lineC bs cs regs line).map AV.u8 ++ [AV.bo o, AV.bo m]).getD 256 .junk = .bo o := by
  rw [getD_app_r (by rw [List.length_map, lineC_len]; exact Nat.le_refl _), List.length_map, lineC_len]; rfl
theorem pic_m (bs cs regs : List (BitVec 8)) (line : Int) (o m : Bool) : ((lineC bs cs regs line).map AV.u8 ++ [AV.bo o, AV.bo m]).getD 257 .junk = .bo m := by
  rw [getD_app_r (by rw [List.length_map, lineC_len]; omega), List.length_map, lineC_len]; rfl
theorem see0 (x : Nat) : seeS [] cram1 regs0 0 x = 63#8 := by
  unfold seeS
  rw [if_neg (by decide), if_pos (.inl (by decide))]
  decide
theorem bytes_of {H : Heap} {b : Nat} {l : List (BitVec 8)} {el : TypeId} {ro : Bool} (k : Nat) (h : H b = some ⟨l.map .u8, el, ro⟩) (hk : l.length = k) : bytesIn H (.sl b 0 k k) l := .whole h hk.symm (Nat.le_refl _)

theorem alive_ok (H : Heap) (n : Nat) (K : AV → Heap → Nat → Prop) (h : K (.bo true) H n) : ACalls Try.prog 9 [] H n K := by
  refine ACalls.of_awp Try.func9 rfl (by decide +kernel) (show 0 ≤ 33 by decide) (by simp) fun wf => ?_
  refine awp_step dr0 (by decide +kernel) ?_
  simp only [go_sem, Try.f9]
  refine awp_step dr0 (by decide +kernel) ?_
  simp only [go_sem]
  rw [rep_u8]
  refine awp_step dr0 (by decide +kernel) ?_
  have s1 : ((List.replicate 32 0#8).map AV.u8).set 16 (.u8 255#8) = cram1.map AV.u8 := rfl
  have l0 : ((List.replicate 32 0#8).map AV.u8).length = 32 := rfl
  simp only [go_sem, s1, l0]
  refine awp_gen (fun X => X.wf (n + 1) ∧ X n = some ⟨cram1.map .u8, 5, false⟩ ∧ ∀ k, k < n → X k = H k) ⟨Heap.wf_upd wf map_u8_ok, Heap.upd_same _ _ _, fun k hk => Heap.upd_ne _ _ (by omega)⟩ ?_
  rintro X ⟨xw, x0, xo⟩
  refine awp_step dr0 (by decide +kernel) ?_
  simp only [go_sem]
  refine draw_ok .sn (.sl n 0 32 32) [] cram1 regs0 rfl 0 (by decide) _ _ _ (.inl ⟨rfl, rfl⟩) (bytes_of 32 x0 rfl) ?_
  have eO : lineO [] regs0 0 = false := by unfold lineO; rw [show shownS regs0 = false by decide]; simp
  have g0 := pic_get [] cram1 regs0 0 (lineO [] regs0 0) (lineM [] regs0 0) (x := 0) (by decide)
  have g1 := pic_get [] cram1 regs0 0 (lineO [] regs0 0) (lineM [] regs0 0) (x := 255) (by decide)
  have g2 := pic_o [] cram1 regs0 0 (lineO [] regs0 0) (lineM [] regs0 0)
  have ll := pic_len' [] cram1 regs0 0 (lineO [] regs0 0) (lineM [] regs0 0)
  rw [see0] at g0 g1
  rw [eO] at g0 g1 g2 ll ⊢
  have pa := pic_av (lineC [] cram1 regs0 0) false (lineM [] regs0 0) (n + 2)
  generalize (lineC [] cram1 regs0 0).map AV.u8 ++ [AV.bo false, AV.bo (lineM [] regs0 0)] = L at g0 g1 g2 ll pa ⊢
  have l3 : (List.replicate 256 (AV.u8 0#8) ++ [AV.bo false, AV.bo false]).length = 258 := by simp
  have es : splice (List.replicate 256 (AV.u8 0#8) ++ [AV.bo false, AV.bo false]) 0 L = L := by simp [splice, ll]
  simp only [go_sem, ll, l3, es]
  refine awp_ev dr0 (by decide +kernel) ?_
  simp only [go_sem, g0, g1, g2, ll]
  refine shows_ok [0#8, 64#8, 0#8, 0#8, 0#8, 0#8, 0#8, 0#8, 0#8, 0#8, 0#8] rfl _ _ _ ?_
  rw [show shownS [0#8, 64#8, 0#8, 0#8, 0#8, 0#8, 0#8, 0#8, 0#8, 0#8, 0#8] = true by decide]
  simp only [go_sem]
  refine shows_ok [0#8, 191#8, 0#8, 0#8, 0#8, 0#8, 0#8, 0#8, 0#8, 0#8, 0#8] rfl _ _ _ ?_
  rw [show shownS [0#8, 191#8, 0#8, 0#8, 0#8, 0#8, 0#8, 0#8, 0#8, 0#8, 0#8] = false by decide]
  simp only [go_sem]
  exact Fin.back wf h (fun k hk => by rw [Heap.upd_ne _ _ (by omega)]; exact xo k hk) rfl

theorem paints_walk (v : AV) (cs : List (BitVec 8)) (x : Int) (hx : -9223372036854775808 ≤ x ∧ x ≤ 9223372036854775807) (H : Heap) (n : Nat) (K : AV → Heap → Nat → Prop) (hv : bytesIn H v cs) (h : K (.bo true) H n) : ACalls Try.prog 5 [v, .i64 x] H n K := by
  refine ACalls.of_awp Try.func5 rfl (by decide +kernel) (show 2 ≤ 19 by decide) (by simp [hv.ne]) fun wf => ?_
  have hvok := okB wf hv
  have hlb : ∀ K, lenB (some .slice) v K = K (.i64 cs.length) := lenB_bytes hv
  refine awp_step dr0 (by decide +kernel) ?_
  simp only [go_sem, Try.f5]
  refine awp_step dr0 (by decide +kernel) ?_
  simp only [go_sem]
  refine alive_ok _ _ _ ?_
  simp only [go_sem]
  refine awp_ev dr0 (by decide +kernel) ?_
  simp only [go_sem, hlb]
  refine ⟨fun _ => ?_, fun _ => Fin.back wf h (fun _ _ => rfl) rfl⟩
  refine line_paint v cs _ _ _ _ hv hvok ?_
  simp only [go_sem]
  refine ref_paint v cs _ hx _ _ _ hv hvok ?_
  simp only [go_sem, beq_self_eq_true]
  exact Fin.back wf h (fun _ _ => rfl) rfl

def cram2 : List (BitVec 8) := ((List.replicate 32 0#8).set 21 9#8).set 0 4#8
def regs2 : List (BitVec 8) := [32#8, 64#8, 0#8, 0#8, 0#8, 126#8, 0#8, 245#8, 0#8, 0#8, 0#8]
def regs3 : List (BitVec 8) := [0#8, 0#8, 0#8, 0#8, 0#8, 0#8, 0#8, 5#8, 0#8, 0#8, 0#8]
theorem at_nil (a : Int) : atS [] a = 0#8 := rfl
theorem dot_nil (f : Int) (t : Bool) (j : Nat) : ∀ p, dotS [] f t p j = 0#8
  | 0 => rfl
  | p + 1 => by
    unfold dotS
    rw [dot_nil f t j p]
    unfold bitS
    rw [at_nil]
    simp
theorem hits_nil : hitsS [] regs2 100 = [] := by
  unfold hitsS
  rw [if_neg (by decide), endS_none (fun j hj => by unfold yS; rw [at_nil]; decide)]
  unfold hitsTo
  rw [List.filter_eq_nil_iff]
  intro i _
  unfold onS'
  have : yS [] regs2 i = 0#8 := rfl
  rw [this]
  decide
theorem mix_nil : mixD [] regs2 100 8 = 0#8 := by
  have e1 : (spritesS [] regs2 100).c = List.replicate 256 0#8 := by unfold spritesS; rw [hits_nil]; rfl
  have e2 : gcolS [] regs2 100 (8 : Nat) = 0#8 := by
    have d : gdotS [] regs2 100 (8 : Nat) = 0#8 := by
      unfold gdotS seenS rowS
      simp only [dot_nil]
      rw [List.getD_eq_getElem?_getD, List.getElem?_map]
      cases (List.range 8)[(colS regs2 100 ((8 : Nat) : Int) % 8).toNat]? <;> rfl
    have g : ghowS [] regs2 100 (8 : Nat) = 0#8 := by
      unfold ghowS howS entH entN
      rw [at_nil, at_nil]; rfl
    unfold gcolS; rw [d, g]; rfl
  unfold mixD
  rw [e1, e2, getD_rep0, if_neg (fun c => c.1 rfl)]
theorem see7 : seeS [] cram2 regs2 100 7 = 9#8 := by
  unfold seeS
  rw [if_neg (by decide), if_pos (.inr (by decide))]
  decide
theorem see8 : seeS [] cram2 regs2 100 8 = 4#8 := by
  unfold seeS
  rw [if_neg (by decide), if_neg (by decide), mix_nil]
  decide
theorem out_pic (bs cs regs : List (BitVec 8)) {line : Int} (h : inLine line = false) : (lineC bs cs regs line).map AV.u8 ++ [AV.bo (lineO bs regs line), AV.bo (lineM bs regs line)] = List.replicate 256 (AV.u8 0#8) ++ [AV.bo false, AV.bo false] := by
  have e1 : lineC bs cs regs line = List.replicate 256 0#8 := by
    unfold lineC
    have : ∀ x, seeS bs cs regs line x = 0#8 := fun x => by unfold seeS; rw [if_pos h]
    rw [List.map_congr_left (fun x _ => this x), List.map_const', List.length_range]
  have e2 : lineO bs regs line = false := by unfold lineO; rw [h]; rfl
  have e3 : lineM bs regs line = false := by unfold lineM; rw [h]; rfl
  rw [e1, e2, e3, List.map_replicate]

theorem names_walk (H : Heap) (n : Nat) (K : AV → Heap → Nat → Prop) (h : K (.bo true) H n) : ACalls Try.prog 3 [] H n K := by
  refine ACalls.of_awp Try.func3 rfl (by decide +kernel) (show 0 ≤ 45 by decide) (by simp) fun wf => ?_
  refine awp_step dr0 (by decide +kernel) ?_
  simp only [go_sem, Try.f3]
  refine awp_step dr0 (by decide +kernel) ?_
  simp only [go_sem]
  rw [rep_u8]
  refine awp_step dr0 (by decide +kernel) ?_
  have l0 : ((List.replicate 32 0#8).map AV.u8).length = 32 := rfl
  have l1 : (((List.replicate 32 0#8).map AV.u8).set 21 (.u8 9#8)).length = 32 := rfl
  have s1 : (((List.replicate 32 0#8).map AV.u8).set 21 (.u8 9#8)).set 0 (.u8 4#8) = cram2.map AV.u8 := rfl
  simp only [go_sem, s1, l0]
  refine awp_step dr0 (by decide +kernel) ?_
  simp only [go_sem, s1, l0, l1]
  refine awp_gen (fun X => X.wf (n + 1) ∧ X n = some ⟨cram2.map .u8, 5, false⟩ ∧ ∀ k, k < n → X k = H k) ⟨Heap.wf_upd wf map_u8_ok, Heap.upd_same _ _ _, fun k hk => Heap.upd_ne _ _ (by omega)⟩ ?_
  rintro X ⟨xw, x0, xo⟩
  refine awp_step dr0 (by decide +kernel) ?_
  simp only [go_sem]
  refine draw_ok .sn (.sl n 0 32 32) [] cram2 regs2 rfl 100 (by decide) _ _ _ (.inl ⟨rfl, rfl⟩) (bytes_of 32 x0 rfl) ?_
  have g0 := pic_get [] cram2 regs2 100 (lineO [] regs2 100) (lineM [] regs2 100) (x := 7) (by decide)
  have g1 := pic_get [] cram2 regs2 100 (lineO [] regs2 100) (lineM [] regs2 100) (x := 8) (by decide)
  have ll := pic_len' [] cram2 regs2 100 (lineO [] regs2 100) (lineM [] regs2 100)
  have lok := picB_ok (lineC [] cram2 regs2 100) (lineO [] regs2 100) (lineM [] regs2 100) (n + 2)
  unfold picB at lok
  simp only at lok
  rw [see7] at g0
  rw [see8] at g1
  generalize (lineC [] cram2 regs2 100).map AV.u8 ++ [AV.bo (lineO [] regs2 100), AV.bo (lineM [] regs2 100)] = L at g0 g1 ll lok ⊢
  have l3 : (List.replicate 256 (AV.u8 0#8) ++ [AV.bo false, AV.bo false]).length = 258 := by simp
  have es : splice (List.replicate 256 (AV.u8 0#8) ++ [AV.bo false, AV.bo false]) 0 L = L := by simp [splice, ll]
  simp only [go_sem, ll, l3, es]
  refine awp_gen (fun Y => Y.wf (n + 2) ∧ Y n = some ⟨cram2.map .u8, 5, false⟩ ∧ Y (n + 1) = some ⟨L, 25, false⟩ ∧ ∀ k, k < n → Y k = H k) ⟨Heap.wf_upd xw lok, by rw [Heap.upd_ne _ _ (by omega)]; exact x0, Heap.upd_same _ _ _, fun k hk => by rw [Heap.upd_ne _ _ (by omega)]; exact xo k hk⟩ ?_
  rintro Y ⟨yw, y0, y1, yo⟩
  have bY := bytes_of 32 y0 rfl
  refine awp_ev dr0 (by decide +kernel) ?_
  simp only [go_sem]
  refine alive_ok _ _ _ ?_
  simp only [go_sem, y1, g0, g1, ll]
  refine line_paint _ cram2 _ _ _ _ bY (by simp [AV.ok]) ?_
  rw [show paintS cram2 53 = 9#8 by decide]
  simp only [go_sem]
  refine line_paint _ cram2 _ _ _ _ bY (by simp [AV.ok]) ?_
  rw [show paintS cram2 (-11) = 9#8 by decide]
  simp only [go_sem]
  refine line_paint _ [] _ _ _ _ (.inl ⟨rfl, rfl⟩) rfl ?_
  rw [show paintS [] 0 = 0#8 by decide]
  simp only [go_sem]
  refine draw_ok .sn (.sl n 0 32 32) [] cram2 regs3 rfl 192 (by decide) _ _ _ (.inl ⟨rfl, rfl⟩) bY ?_
  rw [out_pic [] cram2 regs3 (line := 192) (by decide)]
  simp only [go_sem]
  have f1 : fits (List.replicate 256 (EK.int .u8) ++ [EK.bool, EK.bool]) (List.replicate 256 (AV.u8 0#8) ++ [AV.bo false, AV.bo false]) = true := by decide +kernel
  have f2 : eqCells (List.replicate 256 (AV.u8 0#8) ++ [AV.bo false, AV.bo false]) (List.replicate 256 (AV.u8 0#8) ++ [AV.bo false, AV.bo false]) = true := by decide +kernel
  refine ⟨f1, f1, ?_⟩
  rw [f2]
  exact Fin.back wf h yo rfl
end Go.Proofs.Joy
namespace Go.Proofs.Joy
open Go.Ab Go.Proofs

set_option maxHeartbeats 1000000
set_option maxRecDepth 20000

theorem fits_pic (C : List (BitVec 8)) (hl : C.length = 256) (o m : Bool) : fits (List.replicate 256 (EK.int .u8) ++ [EK.bool, EK.bool]) (C.map AV.u8 ++ [AV.bo o, AV.bo m]) = true := by
  have h2 : fits [EK.bool, EK.bool] [AV.bo o, AV.bo m] = true := by simp [fits, AV.fits]
  exact fits_append (fits_u8s hl) h2

theorem draws_walk (v w u : AV) (xs : List B3) (ts us regs : List (BitVec 8)) (hr : regs.length = 11) (line : Int) (hln : -9223372036854775808 ≤ line ∧ line ≤ 9223372036854775807) (H : Heap) (n : Nat) (K : AV → Heap → Nat → Prop) (hv : sprIn H v xs) (hw : bytesIn H w ts) (hu : bytesIn H u us)
    (h : K (.bo true) H n) : ACalls Try.prog 4 [.ag [v, w, u], .ag (regs.map .u8), .i64 line] H n K := by
  refine ACalls.of_awp Try.func4 rfl (by decide +kernel) (show 3 ≤ 107 by decide) (by simp) fun wf => ?_
  have hvok := spr_ok wf hv
  have hwok := okB wf hw
  have huok := okB wf hu
  obtain ⟨r0, r1, r2, r3, r4, r5, r6, r7, r8, r9, r10, hregs⟩ := regs11 hr
  have hm : regs.map AV.u8 = [.u8 r0, .u8 r1, .u8 r2, .u8 r3, .u8 r4, .u8 r5, .u8 r6, .u8 r7, .u8 r8, .u8 r9, .u8 r10] := by rw [hregs]; rfl
  rw [hm]
  refine awp_step dr4 (by decide +kernel) ?_
  simp only [go_sem, Try.f4]
  refine awp_gen (fun X => X.wf (n + 2) ∧ X n = some ⟨[v, w, u], 32, false⟩ ∧ X (n + 1) = some ⟨[.u8 r0, .u8 r1, .u8 r2, .u8 r3, .u8 r4, .u8 r5, .u8 r6, .u8 r7, .u8 r8, .u8 r9, .u8 r10], 27, false⟩ ∧ ∀ k, k < n → X k = H k) ⟨Heap.wf_upd (Heap.wf_upd wf (fun y hy => by
      simp only [List.mem_cons, List.not_mem_nil, or_false] at hy
      rcases hy with rfl | rfl | rfl
      · exact AV.ok_mono (by omega) _ hvok
      · exact AV.ok_mono (by omega) _ hwok
      · exact AV.ok_mono (by omega) _ huok)) (map_u8_ok (bs := [r0, r1, r2, r3, r4, r5, r6, r7, r8, r9, r10])), (by repeat (first | rw [Heap.upd_same] | rw [Heap.upd_ne _ _ (by omega)])), (by repeat (first | rw [Heap.upd_same] | rw [Heap.upd_ne _ _ (by omega)])), fun k hk => by rw [Heap.upd_ne _ _ (by omega), Heap.upd_ne _ _ (by omega)]⟩ ?_
  rintro X ⟨xw, x0, x1, xo⟩
  have hvX := spr_mono hv hvok xo
  have hwX := hw.mono hwok xo
  have huX := hu.mono huok xo
  refine awp_step dr4 (by decide +kernel) ?_
  simp only [go_sem]
  refine alive_ok _ _ _ ?_
  simp only [go_sem]
  refine awp_step dr4 (by decide +kernel) ?_
  simp only [go_sem, x0]
  refine great_ok v w u xs ts us _ _ _ hvX hwX huX ?_
  intro b hb
  simp only [go_sem]
  by_cases hbt : b = true
  · subst hbt
    simp only [go_sem]
    exact Fin.back wf h xo rfl
  have hbf : b = false := by simpa using hbt
  obtain ⟨hx64, ht3, hu1⟩ := hb hbf
  subst hbf
  simp only [go_sem]
  refine awp_step dr4 (by decide +kernel) ?_
  simp only [go_sem, x0, x1]
  rw [← hm]
  refine build_ok v w u xs hx64 ts us regs ht3 hu1 hr _ _ _ hvX hwX huX ?_
  intro l c X' m b d hl hc hy hm2 xw' xo' hb1 hb2 hd1 hd2 gb gd
  simp only [go_sem]
  have x1' := x1
  rw [← xo' _ (by omega)] at x1'
  have hV : bytesIn X' (.sl b 0 16384 16384) l := bytes_of 16384 gb hl
  have hC : bytesIn X' (.sl d 0 32 32) c := bytes_of 32 gd hc
  refine awp_step dr4 (by decide +kernel) ?_
  simp only [go_sem, x1']
  rw [← hm]
  refine draw_ok _ _ l c regs hr line hln _ _ _ hV hC ?_
  have ll := pic_len' l c regs line (lineO l regs line) (lineM l regs line)
  have lok := picB_ok (lineC l c regs line) (lineO l regs line) (lineM l regs line) (m + 1)
  unfold picB at lok
  simp only at lok
  have gx : ∀ {x : Nat}, x < 256 → _ := fun {x} hx => pic_get l c regs line (lineO l regs line) (lineM l regs line) (x := x) hx
  have go := pic_o l c regs line (lineO l regs line) (lineM l regs line)
  have gm := pic_m l c regs line (lineO l regs line) (lineM l regs line)
  have fp := fits_pic (lineC l c regs line) (lineC_len _ _ _ _) (lineO l regs line) (lineM l regs line)
  have tk : ((lineC l c regs line).map AV.u8 ++ [AV.bo (lineO l regs line), AV.bo (lineM l regs line)]).take 256 = (lineC l c regs line).map AV.u8 := by
    rw [List.take_append_of_le_length (by rw [List.length_map, lineC_len]; exact Nat.le_refl _), List.take_of_length_le (by rw [List.length_map, lineC_len]; exact Nat.le_refl _)]
  have outp := fun h => out_pic l c regs (line := line) h
  generalize (lineC l c regs line).map AV.u8 ++ [AV.bo (lineO l regs line), AV.bo (lineM l regs line)] = L at ll lok gx go gm fp tk outp ⊢
  have l3 : (List.replicate 256 (AV.u8 0#8) ++ [AV.bo false, AV.bo false]).length = 258 := by simp
  have es : splice (List.replicate 256 (AV.u8 0#8) ++ [AV.bo false, AV.bo false]) 0 L = L := by simp [splice, ll]
  simp only [go_sem, ll, l3, es]
  refine awp_gen (fun Y => Y.wf (m + 1) ∧ Y m = some ⟨L, 25, false⟩ ∧ Y b = some ⟨l.map .u8, 5, false⟩ ∧ Y d = some ⟨c.map .u8, 5, false⟩ ∧ Y (n + 1) = some ⟨[.u8 r0, .u8 r1, .u8 r2, .u8 r3, .u8 r4, .u8 r5, .u8 r6, .u8 r7, .u8 r8, .u8 r9, .u8 r10], 27, false⟩ ∧ ∀ k, k < n → Y k = H k)
    ⟨Heap.wf_upd xw' lok, Heap.upd_same _ _ _, by rw [Heap.upd_ne _ _ (by omega)]; exact gb, by rw [Heap.upd_ne _ _ (by omega)]; exact gd, by rw [Heap.upd_ne _ _ (by omega)]; exact x1', fun k hk => by rw [Heap.upd_ne _ _ (by omega), xo' k (by omega), xo k hk]⟩ ?_
  rintro Y ⟨yw, yp, yb, yd, y1, yo⟩
  have hV : bytesIn Y (.sl b 0 16384 16384) l := bytes_of 16384 yb hl
  have hC : bytesIn Y (.sl d 0 32 32) c := bytes_of 32 yd hc
  refine awp_seqF (S := Unit) (fun _ => [(2, .i64 line), (4, .pt (n + 1) 0), (7, .sl b 0 16384 16384), (8, .sl d 0 32 32), (9, .pt m 0)]) (fun _ => Y) (fun _ => m + 1) (fun _ => True) (fun _ _ => ⟨yw, Env.okAt_of2 (by simp [AV.ok]; omega)⟩) ?_ ?_
  · refine awp_step dr4 (by decide +kernel) ?_
    simp only [go_sem]
    refine awp_block ?_
    refine awp_loopF (S := AtS) (fun t => [(2, .i64 line), (4, .pt (n + 1) 0), (7, .sl b 0 16384 16384), (8, .sl d 0 32 32), (9, .pt m 0), (10, .i64 t.k)]) (fun _ => Y) (fun _ => m + 1) (fun t => t.k ≤ 256) (fun t => 256 - t.k)
      (fun t _ => ⟨yw, Env.okAt_of2 (by simp [AV.ok]; omega)⟩) ?_ ⟨0⟩ (Nat.zero_le _) (by repeat (first | exact Env.le_nil _ | refine Env.le_cons rfl ?_)) (fun _ _ => rfl) rfl
    rintro ⟨x⟩ hx
    simp only at hx ⊢
    refine awp_step dr4 (by decide +kernel) ?_
    simp only [go_sem]
    refine ⟨fun hlt => ?_, fun hlt => ?_⟩
    · have hx' : x < 256 := by omega
      have wx : wrap64 ((x : Int) + 1) = ((x + 1 : Nat) : Int) := by rw [wrap_id _ (by omega) (by omega)]; omega
      have gxx := gx hx'
      have hx2 : x < 258 := by omega
      have hx3 : (x : Int) < 256 := by omega
      have h63 : ¬ 63#8 < seeS l c regs line x := fun z => by
        have := seeS_le l c regs line x
        rw [BitVec.lt_def] at z
        have : (63#8 : BitVec 8).toNat = 63 := rfl
        omega
      refine awp_seq (awp_block ?_)
      refine awp_ev dr4 (by decide +kernel) ?_
      simp only [go_sem, yp, y1, ll, gxx, hx2, hx3]
      rw [← hm]
      refine ref19_at _ _ l c regs hr line hln x hx' _ _ _ hV hC ?_
      simp only [go_sem, yp, y1, ll, gxx, hx2, hx3, hm, bne_self_eq_false, h63]
      refine awp_ev dr0 (by decide +kernel) ?_
      simp only [go_sem, wx]
      exact Ends.mk ⟨x + 1⟩ ⟨by simp only; omega, by simp only; omega⟩ (by repeat (first | exact Env.le_nil _ | refine Env.le_cons rfl ?_)) (fun _ _ => rfl) (Nat.le_refl _) (Nat.le_refl _)
    · exact Ends.mk () trivial (by repeat (first | exact Env.le_nil _ | refine Env.le_cons rfl ?_)) (fun _ _ => rfl) (Nat.le_refl _) (Nat.le_refl _)
  rintro - -
  refine awp_step dr4 (by decide +kernel) ?_
  simp only [go_sem, y1]
  rw [← hm]
  refine ref19_told _ l regs hr line hln _ _ _ hV ?_
  simp only [go_sem]
  refine awp_step dr4 (by decide +kernel) ?_
  by_cases hin : line < 0 ∨ 191 < line
  · have hno : inLine line = false := by unfold inLine; rcases hin with a | a <;> simp <;> omega
    have eL := outp hno
    have f1 : fits (List.replicate 256 (EK.int .u8) ++ [EK.bool, EK.bool]) (List.replicate 256 (AV.u8 0#8) ++ [AV.bo false, AV.bo false]) = true := by decide +kernel
    have f2 : eqCells (List.replicate 256 (AV.u8 0#8) ++ [AV.bo false, AV.bo false]) (List.replicate 256 (AV.u8 0#8) ++ [AV.bo false, AV.bo false]) = true := by decide +kernel
    have tk2 : L.take 258 = L := List.take_of_length_le (by omega)
    rcases hin with hin | hin
    · simp only [go_sem, hin, yp, ll, tk2]
      rw [eL]
      refine ⟨f1, f1, ?_⟩
      rw [f2]
      exact Fin.back wf h yo rfl
    · have hin' : ¬ line < 0 := by omega
      simp only [go_sem, hin, hin', yp, ll, tk2]
      rw [eL]
      refine ⟨f1, f1, ?_⟩
      rw [f2]
      exact Fin.back wf h yo rfl
  have hl : 0 ≤ line ∧ line < 192 := by omega
  have hl1 : ¬ line < 0 := by omega
  have hl2 : ¬ 191 < line := by omega
  simp only [go_sem, hl1, hl2]
  refine awp_step dr4 (by decide +kernel) ?_
  simp only [go_sem, y1]
  rw [← hm]
  refine ref19_row _ _ l c regs hr line hl _ _ _ hV hC ?_
  intro q Z m2 hq1 hq2 zw zo zq
  have z9 : Z m = some ⟨L, 25, false⟩ := by rw [zo _ (by omega)]; exact yp
  have lc : (lineC l c regs line).length = 256 := lineC_len _ _ _ _
  have rq : ∀ K, readK Z 1 (.sl q 0 256 256) K = K 256 ((lineC l c regs line).map .u8) := fun K => by
    have := readK_bytes (bytes_of 256 zq lc) (K := K); rw [lc] at this; exact this
  simp only [go_sem]
  refine awp_seq ?_
  refine awp_tree td4_16 tr4_16 (by decide +kernel) (by decide +kernel) ?_
  have hall : ((lineC l c regs line).map AV.u8).all isU8 = true := by
    rw [List.all_eq_true]; intro y hy; obtain ⟨z, -, rfl⟩ := List.mem_map.1 hy; rfl
  have tkC : ((lineC l c regs line).map AV.u8).take 256 = (lineC l c regs line).map AV.u8 := List.take_of_length_le (by rw [List.length_map, lc]; exact Nat.le_refl _)
  have lcm : ((lineC l c regs line).map AV.u8).length = 256 := by rw [List.length_map, lc]
  simp only [go_sem, z9, ll, go, gm, beq_self_eq_true, zq, tk, tkC, hall, lcm]
  have zold : ∀ k, k < n → Z k = H k := fun k hk => by rw [zo k (by omega)]; exact yo k hk
  constructor <;> refine awp_ev dr0 (by decide +kernel) ?_ <;> simp only [go_sem] <;> exact Fin.back wf h zold rfl
end Go.Proofs.Joy
namespace Go.Proofs.Joy
open Go.Ab Go.Proofs

def shI2 : AK := .one (.k (.int .i64))
def shRg : AK := .ag ((List.replicate 11 (EK.int .u8)).map .k)
def shScene : AK := .ag [.s 54 [.int .u8, .int .u8, .int .u8], .s 5 [.int .u8], .s 5 [.int .u8]]
theorem FitsR_u8s : ∀ {k : Nat} {l : List AV}, FitsR (List.replicate k (.int .u8)) l → ∃ bs : List (BitVec 8), bs.length = k ∧ l = bs.map .u8
  | 0, [], _ => ⟨[], rfl, rfl⟩
  | 0, _ :: _, h => by have := h.1; simp [fits] at this
  | k + 1, [], h => by have := h.1; simp [List.replicate_succ, fits] at this
  | k + 1, v :: l, h => by
    have h1 := h.1
    rw [List.replicate_succ] at h1
    simp only [fits, Bool.and_eq_true] at h1
    obtain ⟨bs, hl, rfl⟩ := FitsR_u8s (k := k) (l := l) ⟨h1.2, fun x hx => h.2 x (List.mem_cons_of_mem _ hx)⟩
    match v, h1.1 with
    | .u8 x, _ => exact ⟨x :: bs, by simp [hl], rfl⟩
theorem scene_args {H : Heap} {v : AV} (h : fitA H shScene v) : ∃ p q r xs ts us, v = .ag [p, q, r] ∧ sprIn H p xs ∧ bytesIn H q ts ∧ bytesIn H r us := by
  obtain ⟨l, rfl, hl⟩ := h
  match l, hl with
  | [p, q, r], ⟨h1, h2, h3, _⟩ =>
    obtain ⟨xs, hx⟩ := fitL_list (α := B3) (el := 54) enc3 (fun l hl => by
      match l, hl.1 with
      | [.u8 a, .u8 b, .u8 c], _ => exact ⟨(a, b, c), rfl⟩) h1
    obtain ⟨ts, ht⟩ := fitL_bytesIn (el := 5) h2
    obtain ⟨us, hu⟩ := fitL_bytesIn (el := 5) h3
    refine ⟨p, q, r, xs, ts, us, rfl, ?_, ht, hu⟩
    rcases hx with hs | ⟨b, c, el, rfl, h3, _, h4⟩
    · exact .inl hs
    · exact .inr ⟨b, c, el, true, rfl, h3, h4⟩
theorem draws_all (H : Heap) (n : Nat) (L : List AV) (_ : RO H) (_ : H.wf n) (_ : ∀ x ∈ L, x.ok n = true) (hf : fitAs H [shScene, shRg, shI2] L) : ACalls Try.prog 4 L H n fun v _ _ => v = .bo true := by
  match L, hf with
  | [a, b, c], ⟨h1, h2, h3, _⟩ =>
    obtain ⟨p, q, r, xs, ts, us, rfl, hp, hq, hr⟩ := scene_args h1
    obtain ⟨l, rfl, hl⟩ := fitA_flat h2
    obtain ⟨rs, hrl, rfl⟩ := FitsR_u8s hl
    obtain ⟨x, rfl, hx⟩ := fitA_int h3
    exact draws_walk _ _ _ _ _ _ _ hrl _ hx _ _ _ hp hq hr rfl
end Go.Proofs.Joy
namespace Go.Proofs.Joy
open Go.Ab

/-- Registers that differ in the blank edge alone. -/
structure SameR (r s : List (BitVec 8)) : Prop where
  b8 : r.getD 0 0#8 &&& 8#8 = s.getD 0 0#8 &&& 8#8
  b64 : r.getD 0 0#8 &&& 64#8 = s.getD 0 0#8 &&& 64#8
  b128 : r.getD 0 0#8 &&& 128#8 = s.getD 0 0#8 &&& 128#8
  rest : ∀ k, 0 < k → r.getD k 0#8 = s.getD k 0#8
theorem SameR.base {r s : List (BitVec 8)} (h : SameR r s) : baseS r = baseS s := by unfold baseS; rw [h.rest 5 (by decide)]
theorem SameR.height {r s : List (BitVec 8)} (h : SameR r s) : heightS r = heightS s := by unfold heightS; rw [h.rest 1 (by decide)]
theorem SameR.y {r s : List (BitVec 8)} (h : SameR r s) (v : List (BitVec 8)) (i : Nat) : yS v r i = yS v s i := by unfold yS; rw [h.base]
theorem SameR.hits {r s : List (BitVec 8)} (h : SameR r s) (v : List (BitVec 8)) (line : Int) : hitsS v r line = hitsS v s line := by
  have e1 : endS v r = endS v s := by unfold endS; simp only [h.y v]
  have e2 : onS' v r line = onS' v s line := by funext i; unfold onS'; rw [h.y v, h.height]
  unfold hitsS hitsTo
  rw [e1, e2]
theorem SameR.wide {r s : List (BitVec 8)} (h : SameR r s) : wideS r = wideS s := by unfold wideS; rw [h.rest 1 (by decide)]
theorem SameR.left {r s : List (BitVec 8)} (h : SameR r s) (v : List (BitVec 8)) (i : Nat) : leftS v r i = leftS v s i := by unfold leftS; rw [h.base, h.b8]
theorem SameR.dots {r s : List (BitVec 8)} (h : SameR r s) (v : List (BitVec 8)) (i : Nat) (line : Int) : dotsL v r i line = dotsL v s i line := by
  have e1 : numS v r i = numS v s i := by unfold numS; rw [h.base, h.rest 6 (by decide), h.rest 1 (by decide)]
  have e2 : downS v r i line = downS v s i line := by unfold downS; rw [h.rest 1 (by decide), h.y v]
  unfold dotsL; rw [e1, e2]
theorem SameR.sprTo {r s : List (BitVec 8)} (h : SameR r s) (v : List (BitVec 8)) (line : Int) (i : Nat) (x : RowS) (t : Nat) : sprTo v r line i x t = sprTo v s line i x t := by
  induction t with
  | zero => rfl
  | succ t ih => unfold Joy.sprTo; rw [ih, h.left v, h.dots v, h.wide]
theorem SameR.rowTo {r s : List (BitVec 8)} (h : SameR r s) (v : List (BitVec 8)) (line : Int) (l : List Nat) (x : RowS) : rowTo v r line l x = rowTo v s line l x := by
  induction l generalizing x with
  | nil => rfl
  | cons i l ih => unfold Joy.rowTo; rw [show sprS v r line i x = sprS v s line i x by unfold sprS; rw [h.sprTo v, h.wide], ih]
theorem SameR.sprites {r s : List (BitVec 8)} (h : SameR r s) (v : List (BitVec 8)) (line : Int) : spritesS v r line = spritesS v s line := by
  unfold spritesS; rw [h.hits v, h.rowTo v]
theorem SameR.mix {r s : List (BitVec 8)} (h : SameR r s) (v : List (BitVec 8)) (line : Int) (x : Nat) : mixD v r line x = mixD v s line x := by
  have e1 : colS r line x = colS s line x := by unfold colS; rw [h.b64, h.rest 8 (by decide)]
  have e2 : lowS r line x = lowS s line x := by unfold lowS; rw [h.b128, h.rest 9 (by decide)]
  have e3 : ∀ a b, plcS r a b = plcS s a b := fun a b => by unfold plcS tabS; rw [h.rest 2 (by decide)]
  have e4 : gdotS v r line x = gdotS v s line x := by unfold gdotS seenS; simp only [e1, e2, e3]
  have e5 : ghowS v r line x = ghowS v s line x := by unfold ghowS howS; simp only [e1, e2, e3]
  unfold mixD gfrS gcolS
  rw [h.sprites v, e4, e5]
theorem SameR.edge {r s : List (BitVec 8)} (h : SameR r s) (cs : List (BitVec 8)) : edgeS cs r = edgeS cs s := by unfold edgeS; rw [h.rest 7 (by decide)]
theorem SameR.shown {r s : List (BitVec 8)} (h : SameR r s) : shownS r = shownS s := by unfold shownS; rw [h.rest 1 (by decide)]
theorem SameR.o {r s : List (BitVec 8)} (h : SameR r s) (v : List (BitVec 8)) (line : Int) : lineO v r line = lineO v s line := by unfold lineO; rw [h.shown, h.hits v]
theorem SameR.m {r s : List (BitVec 8)} (h : SameR r s) (v : List (BitVec 8)) (line : Int) : lineM v r line = lineM v s line := by unfold lineM; rw [h.shown, h.sprites v]

/-- Open, closed, dark. -/
def opR (r0 r1 : BitVec 8) (l : List (BitVec 8)) : List (BitVec 8) := (r0 &&& ~~~32#8) :: (r1 ||| 64#8) :: l
def clR (r0 r1 : BitVec 8) (l : List (BitVec 8)) : List (BitVec 8) := (r0 ||| 32#8) :: (r1 ||| 64#8) :: l
def dkR (r0 r1 : BitVec 8) (l : List (BitVec 8)) : List (BitVec 8) := r0 :: ((r1 ||| 64#8) &&& ~~~64#8) :: l
theorem same_oc (r0 r1 : BitVec 8) (l : List (BitVec 8)) : SameR (opR r0 r1 l) (clR r0 r1 l) :=
  ⟨by show (r0 &&& ~~~32#8) &&& 8#8 = (r0 ||| 32#8) &&& 8#8; revert r0; decide, by show (r0 &&& ~~~32#8) &&& 64#8 = (r0 ||| 32#8) &&& 64#8; revert r0; decide, by show (r0 &&& ~~~32#8) &&& 128#8 = (r0 ||| 32#8) &&& 128#8; revert r0; decide, fun k hk => by
    match k, hk with
    | k + 1, _ => rfl⟩
theorem or64_ne (r : BitVec 8) : (r ||| 64#8) &&& 64#8 ≠ 0#8 := by revert r; decide
theorem not64 (r : BitVec 8) : ((r ||| 64#8) &&& ~~~64#8) &&& 64#8 = 0#8 := by revert r; decide
theorem or32_ne (r : BitVec 8) : (r ||| 32#8) &&& 32#8 ≠ 0#8 := by revert r; decide
theorem not32 (r : BitVec 8) : (r &&& ~~~32#8) &&& 32#8 = 0#8 := by revert r; decide
theorem hides_ab (v cs : List (BitVec 8)) (r0 r1 : BitVec 8) (l : List (BitVec 8)) (line : Int) {x : Nat} (h : 8 ≤ x) : seeS v cs (opR r0 r1 l) line x = seeS v cs (clR r0 r1 l) line x := by
  unfold seeS
  rw [(same_oc r0 r1 l).shown, (same_oc r0 r1 l).edge, (same_oc r0 r1 l).mix]
  split
  · rfl
  · have e : ∀ b : Bool, (shownS (clR r0 r1 l) = false ∨ x < 8 ∧ b = true) = (shownS (clR r0 r1 l) = false) := fun b => propext ⟨fun c => by rcases c with c | c; exact c; omega, .inl⟩
    simp only [e]
theorem dark_edge (v cs : List (BitVec 8)) (r0 r1 : BitVec 8) (l : List (BitVec 8)) (line : Int) (x : Nat) : seeS v cs (dkR r0 r1 l) line x = if inLine line = false then 0#8 else edgeS cs (dkR r0 r1 l) := by
  unfold seeS
  have : shownS (dkR r0 r1 l) = false := by unfold shownS; exact decide_eq_false (fun c => c (not64 r1))
  rw [if_pos (c := shownS (dkR r0 r1 l) = false ∨ _) (.inl this)]
theorem hides_c (v cs : List (BitVec 8)) (r0 r1 : BitVec 8) (l : List (BitVec 8)) (line : Int) (x : Nat) : seeS v cs (dkR r0 r1 l) line x = seeS v cs (dkR r0 r1 l) line 0 := by rw [dark_edge, dark_edge]
theorem hides_bc (v cs : List (BitVec 8)) (r0 r1 : BitVec 8) (l : List (BitVec 8)) (line : Int) {x : Nat} (h : x < 8) : seeS v cs (clR r0 r1 l) line x = seeS v cs (dkR r0 r1 l) line x := by
  rw [dark_edge]
  unfold seeS
  have hb : blankS (clR r0 r1 l) = true := by unfold blankS; exact decide_eq_true (or32_ne r0)
  have he : edgeS cs (clR r0 r1 l) = edgeS cs (dkR r0 r1 l) := rfl
  rw [if_pos (c := shownS (clR r0 r1 l) = false ∨ _) (.inr ⟨h, hb⟩), he]
theorem dark_om (v : List (BitVec 8)) (r0 r1 : BitVec 8) (l : List (BitVec 8)) (line : Int) : lineO v (dkR r0 r1 l) line = false ∧ lineM v (dkR r0 r1 l) line = false := by
  have : shownS (dkR r0 r1 l) = false := by unfold shownS; exact decide_eq_false (fun c => c (not64 r1))
  unfold lineO lineM; rw [this]; simp
end Go.Proofs.Joy
namespace Go.Proofs.Joy
open Go.Ab Go.Proofs

set_option maxHeartbeats 1000000
set_option maxRecDepth 20000

theorem pic_all (bs cs regs : List (BitVec 8)) (line : Int) : ∃ L, L = (lineC bs cs regs line).map AV.u8 ++ [AV.bo (lineO bs regs line), AV.bo (lineM bs regs line)] ∧ L.length = 258 ∧ (∀ x, x < 256 → L.getD x .junk = .u8 (seeS bs cs regs line x)) ∧ L.getD 256 .junk = .bo (lineO bs regs line) ∧ L.getD 257 .junk = .bo (lineM bs regs line) ∧ (∀ k, ∀ y ∈ L, y.ok k = true) :=
  ⟨_, rfl, pic_len' _ _ _ _ _ _, fun _ h => pic_get _ _ _ _ _ _ h, pic_o _ _ _ _ _ _, pic_m _ _ _ _ _ _, fun k => picB_ok (lineC bs cs regs line) (lineO bs regs line) (lineM bs regs line) k⟩

theorem hides_walk (v w u : AV) (xs : List B3) (ts us regs : List (BitVec 8)) (hr : regs.length = 11) (line : Int) (hln : -9223372036854775808 ≤ line ∧ line ≤ 9223372036854775807) (H : Heap) (n : Nat) (K : AV → Heap → Nat → Prop) (hv : sprIn H v xs) (hw : bytesIn H w ts) (hu : bytesIn H u us)
    (h : K (.bo true) H n) : ACalls Try.prog 6 [.ag [v, w, u], .ag (regs.map .u8), .i64 line] H n K := by
  refine ACalls.of_awp Try.func6 rfl (by decide +kernel) (show 3 ≤ 142 by decide) (by simp) fun wf => ?_
  have hvok := spr_ok wf hv
  have hwok := okB wf hw
  have huok := okB wf hu
  obtain ⟨r0, r1, r2, r3, r4, r5, r6, r7, r8, r9, r10, hregs⟩ := regs11 hr
  have hm : regs.map AV.u8 = [.u8 r0, .u8 r1, .u8 r2, .u8 r3, .u8 r4, .u8 r5, .u8 r6, .u8 r7, .u8 r8, .u8 r9, .u8 r10] := by rw [hregs]; rfl
  rw [hm]
  refine awp_step dr6 (by decide +kernel) ?_
  simp only [go_sem, Try.f6]
  refine awp_gen (fun X => X.wf (n + 2) ∧ X n = some ⟨[v, w, u], 32, false⟩ ∧ X (n + 1) = some ⟨[.u8 r0, .u8 r1, .u8 r2, .u8 r3, .u8 r4, .u8 r5, .u8 r6, .u8 r7, .u8 r8, .u8 r9, .u8 r10], 27, false⟩ ∧ ∀ k, k < n → X k = H k) ⟨Heap.wf_upd (Heap.wf_upd wf (fun y hy => by
      simp only [List.mem_cons, List.not_mem_nil, or_false] at hy
      rcases hy with rfl | rfl | rfl
      · exact AV.ok_mono (by omega) _ hvok
      · exact AV.ok_mono (by omega) _ hwok
      · exact AV.ok_mono (by omega) _ huok)) (map_u8_ok (bs := [r0, r1, r2, r3, r4, r5, r6, r7, r8, r9, r10])), (by repeat (first | rw [Heap.upd_same] | rw [Heap.upd_ne _ _ (by omega)])), (by repeat (first | rw [Heap.upd_same] | rw [Heap.upd_ne _ _ (by omega)])), fun k hk => by rw [Heap.upd_ne _ _ (by omega), Heap.upd_ne _ _ (by omega)]⟩ ?_
  rintro X ⟨xw, x0, x1, xo⟩
  have hvX := spr_mono hv hvok xo
  have hwX := hw.mono hwok xo
  have huX := hu.mono huok xo
  refine awp_step dr6 (by decide +kernel) ?_
  simp only [go_sem]
  refine alive_ok _ _ _ ?_
  simp only [go_sem]
  refine awp_step dr6 (by decide +kernel) ?_
  simp only [go_sem, x0]
  refine great_ok v w u xs ts us _ _ _ hvX hwX huX ?_
  intro b hb
  simp only [go_sem]
  by_cases hbt : b = true
  · subst hbt
    simp only [go_sem]
    exact Fin.back wf h xo rfl
  have hbf : b = false := by simpa using hbt
  obtain ⟨hx64, ht3, hu1⟩ := hb hbf
  subst hbf
  simp only [go_sem]
  refine awp_step dr6 (by decide +kernel) ?_
  simp only [go_sem, x0, x1]
  rw [← hm]
  refine build_ok v w u xs hx64 ts us regs ht3 hu1 hr _ _ _ hvX hwX huX ?_
  intro l c X' m b d hl hc hy hm2 xw' xo' hb1 hb2 hd1 hd2 gb gd
  simp only [go_sem]
  have x1' := x1
  rw [← xo' _ (by omega)] at x1'
  have hlm : (l.map AV.u8).length = 16384 := by rw [List.length_map, hl]
  have hcm : (c.map AV.u8).length = 32 := by rw [List.length_map, hc]
  have tl : (l.map AV.u8).take 16384 = l.map AV.u8 := List.take_of_length_le (by omega)
  have tc : (c.map AV.u8).take 32 = c.map AV.u8 := List.take_of_length_le (by omega)
  refine awp_seqF (S := Unit) (fun _ => [(2, .i64 line), (4, .pt (n + 1) 0), (7, .sl b 0 16384 16384), (8, .sl d 0 32 32), (9, .st l), (10, .st c)]) (fun _ => X') (fun _ => m) (fun _ => True) (fun _ _ => ⟨xw', Env.okAt_of2 (by simp [AV.ok]; omega)⟩) ?_ ?_
  · refine awp_tree td6_6 tr6_6 (by decide +kernel) (by decide +kernel) ?_
    simp only [go_sem, gb, gd, hlm, hcm, tl, tc]
    constructor <;> exact Ends.mk () trivial (by repeat (first | exact Env.le_nil _ | refine Env.le_cons rfl ?_)) (fun _ _ => rfl) (Nat.le_refl _) (Nat.le_refl _)
  rintro - -
  have s0 : ∀ a y : BitVec 8, [AV.u8 r0, .u8 a, .u8 r2, .u8 r3, .u8 r4, .u8 r5, .u8 r6, .u8 r7, .u8 r8, .u8 r9, .u8 r10].set 0 (.u8 y) = [.u8 y, .u8 a, .u8 r2, .u8 r3, .u8 r4, .u8 r5, .u8 r6, .u8 r7, .u8 r8, .u8 r9, .u8 r10] := fun _ _ => rfl
  have s1 : ∀ a y : BitVec 8, [AV.u8 r0, .u8 a, .u8 r2, .u8 r3, .u8 r4, .u8 r5, .u8 r6, .u8 r7, .u8 r8, .u8 r9, .u8 r10].set 1 (.u8 y) = [.u8 r0, .u8 y, .u8 r2, .u8 r3, .u8 r4, .u8 r5, .u8 r6, .u8 r7, .u8 r8, .u8 r9, .u8 r10] := fun _ _ => rfl
  have hnm : n + 1 < m := by omega
  have hnm1 : n + 1 < m + 1 := by omega
  have hnm2 : n + 1 < m + 2 := by omega
  refine awp_step dr6 (by decide +kernel) ?_
  simp only [go_sem, x1', s1]
  refine awp_step dr6 (by decide +kernel) ?_
  simp only [go_sem, hnm, hnm1, hnm2]
  refine awp_step dr6 (by decide +kernel) ?_
  simp only [go_sem, hnm, hnm1, hnm2, s0]
  refine awp_step dr6 (by decide +kernel) ?_
  simp only [go_sem, hnm, hnm1, hnm2, s0]
  refine awp_step dr6 (by decide +kernel) ?_
  simp only [go_sem, hnm, hnm1, hnm2, s0]
  refine awp_step dr6 (by decide +kernel) ?_
  simp only [go_sem, hnm, hnm1, hnm2, s0]
  refine awp_step dr6 (by decide +kernel) ?_
  simp only [go_sem, hnm, hnm1, hnm2, s1]
  refine awp_gen (fun Z => Z.wf (m + 3) ∧ Z m = some ⟨(opR r0 r1 [r2, r3, r4, r5, r6, r7, r8, r9, r10]).map .u8, 27, false⟩ ∧ Z (m + 1) = some ⟨(clR r0 r1 [r2, r3, r4, r5, r6, r7, r8, r9, r10]).map .u8, 27, false⟩ ∧ Z (m + 2) = some ⟨(dkR r0 r1 [r2, r3, r4, r5, r6, r7, r8, r9, r10]).map .u8, 27, false⟩ ∧
      Z b = some ⟨l.map .u8, 5, false⟩ ∧ Z d = some ⟨c.map .u8, 5, false⟩ ∧ ∀ k, k < n → Z k = H k) ?_ ?_
  · have e1 : ∀ k, k < m → k ≠ n + 1 → ∀ U V W T, ((((X'.upd (n + 1) U).upd m V).upd (m + 1) W).upd (m + 2) T) k = X' k := fun k hk hk2 U V W T => by
      rw [Heap.upd_ne _ _ (by omega), Heap.upd_ne _ _ (by omega), Heap.upd_ne _ _ (by omega), Heap.upd_ne _ _ (by omega)]
    refine ⟨Heap.wf_upd (Heap.wf_upd (Heap.wf_upd (Heap.wf_set xw' (by omega) (map_u8_ok (bs := [r0, r1 ||| 64#8, r2, r3, r4, r5, r6, r7, r8, r9, r10]))) (map_u8_ok (bs := opR r0 r1 [r2, r3, r4, r5, r6, r7, r8, r9, r10]))) (map_u8_ok (bs := clR r0 r1 [r2, r3, r4, r5, r6, r7, r8, r9, r10]))) (map_u8_ok (bs := dkR r0 r1 [r2, r3, r4, r5, r6, r7, r8, r9, r10])), by rw [Heap.upd_ne _ _ (by omega), Heap.upd_ne _ _ (by omega), Heap.upd_same]; rfl, by rw [Heap.upd_ne _ _ (by omega), Heap.upd_same]; rfl, by rw [Heap.upd_same]; rfl, ?_, ?_, ?_⟩
    · rw [e1 b (by omega) (by omega)]; exact gb
    · rw [e1 d (by omega) (by omega)]; exact gd
    · intro k hk; rw [e1 k (by omega) (by omega), xo' k (by omega), xo k hk]
  rintro Z ⟨zw, za, zb, zc, zl, zd, zo⟩
  have hV : bytesIn Z (.sl b 0 16384 16384) l := bytes_of 16384 zl hl
  have hC : bytesIn Z (.sl d 0 32 32) c := bytes_of 32 zd hc
  have za' : Z m = some ⟨[.u8 (r0 &&& ~~~32#8), .u8 (r1 ||| 64#8), .u8 r2, .u8 r3, .u8 r4, .u8 r5, .u8 r6, .u8 r7, .u8 r8, .u8 r9, .u8 r10], 27, false⟩ := za
  have zb' : Z (m + 1) = some ⟨[.u8 (r0 ||| 32#8), .u8 (r1 ||| 64#8), .u8 r2, .u8 r3, .u8 r4, .u8 r5, .u8 r6, .u8 r7, .u8 r8, .u8 r9, .u8 r10], 27, false⟩ := zb
  have zc' : Z (m + 2) = some ⟨[.u8 r0, .u8 ((r1 ||| 64#8) &&& ~~~64#8), .u8 r2, .u8 r3, .u8 r4, .u8 r5, .u8 r6, .u8 r7, .u8 r8, .u8 r9, .u8 r10], 27, false⟩ := zc
  have lA : (opR r0 r1 [r2, r3, r4, r5, r6, r7, r8, r9, r10]).length = 11 := rfl
  have lB : (clR r0 r1 [r2, r3, r4, r5, r6, r7, r8, r9, r10]).length = 11 := rfl
  have lC : (dkR r0 r1 [r2, r3, r4, r5, r6, r7, r8, r9, r10]).length = 11 := rfl
  have l3 : (List.replicate 256 (AV.u8 0#8) ++ [AV.bo false, AV.bo false]).length = 258 := by simp
  have es : ∀ L : List AV, L.length = 258 → splice (List.replicate 256 (AV.u8 0#8) ++ [AV.bo false, AV.bo false]) 0 L = L := fun L ll => by simp [splice, ll]
  have tk : ∀ L : List AV, L.length = 258 → L.take 258 = L := fun L ll => List.take_of_length_le (by omega)
  refine awp_step dr6 (by decide +kernel) ?_
  simp only [go_sem, za', zb', zc']
  refine draw_ok _ _ l c (opR r0 r1 [r2, r3, r4, r5, r6, r7, r8, r9, r10]) lA line hln _ _ _ hV hC ?_
  obtain ⟨LA, eA, lla, gA, oA, mA, kA⟩ := pic_all l c (opR r0 r1 [r2, r3, r4, r5, r6, r7, r8, r9, r10]) line
  rw [← eA]
  clear eA
  simp only [go_sem, za', zb', zc']
  refine draw_ok _ _ l c (clR r0 r1 [r2, r3, r4, r5, r6, r7, r8, r9, r10]) lB line hln _ _ _ hV hC ?_
  obtain ⟨LB, eB, llb, gB, oB, mB, kB⟩ := pic_all l c (clR r0 r1 [r2, r3, r4, r5, r6, r7, r8, r9, r10]) line
  rw [← eB]
  clear eB
  simp only [go_sem, za', zb', zc']
  refine draw_ok _ _ l c (dkR r0 r1 [r2, r3, r4, r5, r6, r7, r8, r9, r10]) lC line hln _ _ _ hV hC ?_
  obtain ⟨LC, eC, llc, gC, oC, mC, kC⟩ := pic_all l c (dkR r0 r1 [r2, r3, r4, r5, r6, r7, r8, r9, r10]) line
  rw [← eC]
  clear eC
  have hnm3 : m + 2 < m + 3 := by omega
  simp only [go_sem, za', zb', zc', lla, llb, llc, l3, es LA lla, es LB llb, es LC llc]
  have kz : ∀ k, ∀ y ∈ (List.replicate 256 (AV.u8 0#8) ++ [AV.bo false, AV.bo false]), y.ok k = true := fun k y hy => by
    rcases List.mem_append.1 hy with a | a
    · rw [(List.mem_replicate.1 a).2]; rfl
    · simp only [List.mem_cons, List.not_mem_nil, or_false] at a; rcases a with rfl | rfl <;> rfl
  refine awp_gen (fun Y => Y.wf (m + 6) ∧ Y (m + 3) = some ⟨LA, 25, false⟩ ∧ Y (m + 4) = some ⟨LB, 25, false⟩ ∧ Y (m + 5) = some ⟨LC, 25, false⟩ ∧ Y b = some ⟨l.map .u8, 5, false⟩ ∧ Y d = some ⟨c.map .u8, 5, false⟩ ∧ ∀ k, k < n → Y k = H k) ?_ ?_
  · have e1 : ∀ k, k < m + 3 → ∀ U V W S T R, ((((((Z.upd (m + 3) U).upd (m + 4) V).upd (m + 5) W).upd (m + 3) S).upd (m + 4) T).upd (m + 5) R) k = Z k := fun k hk U V W S T R => by
      rw [Heap.upd_ne _ _ (by omega), Heap.upd_ne _ _ (by omega), Heap.upd_ne _ _ (by omega), Heap.upd_ne _ _ (by omega), Heap.upd_ne _ _ (by omega), Heap.upd_ne _ _ (by omega)]
    refine ⟨Heap.wf_set (Heap.wf_set (Heap.wf_set (Heap.wf_upd (Heap.wf_upd (Heap.wf_upd zw (kz _)) (kz _)) (kz _)) (by omega) (kA _)) (by omega) (kB _)) (by omega) (kC _), by rw [Heap.upd_ne _ _ (by omega), Heap.upd_ne _ _ (by omega), Heap.upd_same], by rw [Heap.upd_ne _ _ (by omega), Heap.upd_same], Heap.upd_same _ _ _, ?_, ?_, ?_⟩
    · rw [e1 b (by omega)]; exact zl
    · rw [e1 d (by omega)]; exact zd
    · intro k hk; rw [e1 k (by omega)]; exact zo k hk
  clear za zb zc za' zb' zc' hV hC
  rintro Y ⟨yw, ya, yb, yc, yl, yd, yo⟩
  generalize hop : opR r0 r1 [r2, r3, r4, r5, r6, r7, r8, r9, r10] = ro at gA oA mA
  generalize hcl : clR r0 r1 [r2, r3, r4, r5, r6, r7, r8, r9, r10] = rc at gB oB mB
  generalize hdk : dkR r0 r1 [r2, r3, r4, r5, r6, r7, r8, r9, r10] = rd at gC oC mC
  have hab : ∀ x, 8 ≤ x → seeS l c ro line x = seeS l c rc line x := fun x hx => by rw [← hop, ← hcl]; exact hides_ab l c r0 r1 _ line hx
  have hcc : ∀ x, seeS l c rd line x = seeS l c rd line 0 := fun x => by rw [← hdk]; exact hides_c l c r0 r1 _ line x
  have hbc : ∀ x, x < 8 → seeS l c rc line x = seeS l c rd line x := fun x hx => by rw [← hcl, ← hdk]; exact hides_bc l c r0 r1 _ line hx
  have ho : lineO l ro line = lineO l rc line := by rw [← hop, ← hcl]; exact (same_oc r0 r1 _).o l line
  have hmm : lineM l ro line = lineM l rc line := by rw [← hop, ← hcl]; exact (same_oc r0 r1 _).m l line
  have hdo : lineO l rd line = false := by rw [← hdk]; exact (dark_om l r0 r1 _ line).1
  have hdm : lineM l rd line = false := by rw [← hdk]; exact (dark_om l r0 r1 _ line).2
  refine awp_seqF (S := Unit) (fun _ => [(2, .i64 line), (7, .sl b 0 16384 16384), (8, .sl d 0 32 32), (9, .st l), (10, .st c), (14, .pt (m + 3) 0), (15, .pt (m + 4) 0), (16, .pt (m + 5) 0)]) (fun _ => Y) (fun _ => m + 6) (fun _ => True) (fun _ _ => ⟨yw, Env.okAt_of2 (by simp [AV.ok]; omega)⟩) ?_ ?_
  · refine awp_step dr6 (by decide +kernel) ?_
    simp only [go_sem]
    refine awp_block ?_
    refine awp_loopF (S := AtS) (fun t => [(2, .i64 line), (7, .sl b 0 16384 16384), (8, .sl d 0 32 32), (9, .st l), (10, .st c), (14, .pt (m + 3) 0), (15, .pt (m + 4) 0), (16, .pt (m + 5) 0), (17, .i64 t.k)]) (fun _ => Y) (fun _ => m + 6) (fun t => t.k ≤ 256) (fun t => 256 - t.k)
      (fun t _ => ⟨yw, Env.okAt_of2 (by simp [AV.ok]; omega)⟩) ?_ ⟨0⟩ (Nat.zero_le _) (by repeat (first | exact Env.le_nil _ | refine Env.le_cons rfl ?_)) (fun _ _ => rfl) rfl
    rintro ⟨x⟩ hx
    simp only at hx ⊢
    refine awp_step dr6 (by decide +kernel) ?_
    simp only [go_sem]
    refine ⟨fun hlt => ?_, fun hlt => ?_⟩
    · have hx' : x < 256 := by omega
      have wx : wrap64 ((x : Int) + 1) = ((x + 1 : Nat) : Int) := by rw [wrap_id _ (by omega) (by omega)]; omega
      have hx2 : x < 258 := by omega
      have hx3 : (x : Int) < 256 := by omega
      have gAx := gA x hx'
      have gBx := gB x hx'
      have gCx := gC x hx'
      have gC0 := gC 0 (by decide)
      rw [hcc x] at gCx
      have bcx := hbc x
      have abx := hab x
      rw [hcc x] at bcx
      generalize seeS l c rd line 0 = cz at gCx gC0 bcx
      generalize seeS l c ro line x = ca at gAx abx
      generalize seeS l c rc line x = cb at gBx bcx abx
      refine awp_seq (awp_block ?_)
      rcases Nat.lt_or_ge x 8 with c8 | c8
      · have hx8 : (x : Int) < 8 := by omega
        have hx9 : ¬ 8 ≤ (x : Int) := by omega
        have e := bcx c8
        subst e
        refine awp_ev dr6 (by decide +kernel) ?_
        simp only [go_sem, ya, yb, yc, lla, llb, llc, gAx, gBx, gCx, gC0, hx2, hx3, hx8, hx9, bne_self_eq_false]
        refine awp_ev dr0 (by decide +kernel) ?_
        simp only [go_sem, wx]
        exact Ends.mk ⟨x + 1⟩ ⟨by simp only; omega, by simp only; omega⟩ (by repeat (first | exact Env.le_nil _ | refine Env.le_cons rfl ?_)) (fun _ _ => rfl) (Nat.le_refl _) (Nat.le_refl _)
      · have hx8 : ¬ (x : Int) < 8 := by omega
        have hx9 : 8 ≤ (x : Int) := by omega
        have e := abx c8
        subst e
        refine awp_ev dr6 (by decide +kernel) ?_
        simp only [go_sem, ya, yb, yc, lla, llb, llc, gAx, gBx, gCx, gC0, hx2, hx3, hx8, hx9, bne_self_eq_false]
        refine awp_ev dr0 (by decide +kernel) ?_
        simp only [go_sem, wx]
        exact Ends.mk ⟨x + 1⟩ ⟨by simp only; omega, by simp only; omega⟩ (by repeat (first | exact Env.le_nil _ | refine Env.le_cons rfl ?_)) (fun _ _ => rfl) (Nat.le_refl _) (Nat.le_refl _)
    · exact Ends.mk () trivial (by repeat (first | exact Env.le_nil _ | refine Env.le_cons rfl ?_)) (fun _ _ => rfl) (Nat.le_refl _) (Nat.le_refl _)
  rintro - -
  refine awp_ev dr0 (by decide +kernel) ?_
  simp only [go_sem, ya, yb, yc, yl, yd, lla, llb, llc, oA, oB, oC, mA, mB, mC, ho, hmm, hdo, hdm, hlm, hcm, tl, tc, beq_self_eq_true]
  exact Fin.back wf h yo rfl
end Go.Proofs.Joy
namespace Go.Proofs.Joy
open Go.Ab Go.Proofs

set_option maxHeartbeats 1000000
set_option maxRecDepth 20000

def one42 : List (BitVec 8) := List.replicate 32 42#8
theorem paint42 (x : Int) : paintS one42 x = 42#8 := by
  unfold paintS one42
  have h : (x % 32).toNat < 32 := by omega
  rw [List.getD_eq_getElem?_getD, List.getElem?_replicate, if_pos h]; rfl
theorem see42 (v regs : List (BitVec 8)) {line : Int} (h : inLine line = true) (x : Nat) : seeS v one42 regs line x = 42#8 := by
  unfold seeS edgeS
  rw [if_neg (by rw [h]; decide), paint42, paint42]; split <;> rfl
theorem hits0 (v regs : List (BitVec 8)) (line : Int) (h : yS v regs 0 = 208#8) : hitsS v regs line = [] := by
  unfold hitsS
  split
  · rfl
  · rw [endS_at (i := 0) (by decide) h (fun j hj => absurd hj (Nat.not_lt_zero _))]; rfl
def ovR (r0 r1 : BitVec 8) (l : List (BitVec 8)) : List (BitVec 8) := (r0 &&& ~~~32#8) :: (r1 ||| 64#8) :: l
theorem over_y (v : List (BitVec 8)) (r0 r1 : BitVec 8) (l : List (BitVec 8)) (i : Nat) : yS v (ovR r0 r1 l) i = yS v (r0 :: r1 :: l) i := rfl
theorem over_see (v cs : List (BitVec 8)) (r0 r1 : BitVec 8) (l : List (BitVec 8)) {line : Int} (hi : inLine line = true) (h : yS v (r0 :: r1 :: l) 0 = 208#8) (x : Nat) :
    seeS v cs (ovR r0 r1 l) line x = paintS cs (gcolS v (ovR r0 r1 l) line x).toNat := by
  have hh := hits0 v (ovR r0 r1 l) line h
  have hs : shownS (ovR r0 r1 l) = true := by unfold shownS; exact decide_eq_true (or64_ne r1)
  have hb : blankS (ovR r0 r1 l) = false := by unfold blankS; exact decide_eq_false (fun c => c (not32 r0))
  have e1 : (spritesS v (ovR r0 r1 l) line).c = List.replicate 256 0#8 := by unfold spritesS; rw [hh]; rfl
  unfold seeS
  rw [if_neg (by rw [hi]; decide), hs, hb, if_neg (by simp)]
  unfold mixD
  rw [e1, getD_rep0, if_neg (fun c => c.1 rfl)]
theorem over_om (v : List (BitVec 8)) (r0 r1 : BitVec 8) (l : List (BitVec 8)) (line : Int) (h : yS v (r0 :: r1 :: l) 0 = 208#8) : lineO v (ovR r0 r1 l) line = false ∧ lineM v (ovR r0 r1 l) line = false := by
  have hh := hits0 v (ovR r0 r1 l) line h
  have e2 : (spritesS v (ovR r0 r1 l) line).m = false := by unfold spritesS; rw [hh]; rfl
  unfold lineO lineM
  rw [hh, e2]; simp

theorem part_bytes {H : Heap} {v : AV} {bs : List (BitVec 8)} (h : bytesIn H v bs) : partOk v = true ∧ cellsOf v = [v] ∧ ∀ l off, putCells l off v = l.set off v := by
  rcases h with ⟨rfl, _⟩ | ⟨su, b, o, c, blk, rfl, _⟩
  · exact ⟨rfl, rfl, fun _ _ => rfl⟩
  · cases su <;> exact ⟨rfl, rfl, fun _ _ => rfl⟩

theorem over_walk (v w u : AV) (xs : List B3) (ts us regs : List (BitVec 8)) (hr : regs.length = 11) (line : Int) (hln : -9223372036854775808 ≤ line ∧ line ≤ 9223372036854775807) (H : Heap) (n : Nat) (K : AV → Heap → Nat → Prop) (hv : sprIn H v xs) (hw : bytesIn H w ts) (hu : bytesIn H u us)
    (h : K (.bo true) H n) : ACalls Try.prog 7 [.ag [v, w, u], .ag (regs.map .u8), .i64 line] H n K := by
  refine ACalls.of_awp Try.func7 rfl (by decide +kernel) (show 3 ≤ 113 by decide) (by simp) fun wf => ?_
  have hvok := spr_ok wf hv
  have hwok := okB wf hw
  have huok := okB wf hu
  obtain ⟨r0, r1, r2, r3, r4, r5, r6, r7, r8, r9, r10, hregs⟩ := regs11 hr
  have hm : regs.map AV.u8 = [.u8 r0, .u8 r1, .u8 r2, .u8 r3, .u8 r4, .u8 r5, .u8 r6, .u8 r7, .u8 r8, .u8 r9, .u8 r10] := by rw [hregs]; rfl
  rw [hm]
  refine awp_step dr7 (by decide +kernel) ?_
  simp only [go_sem, Try.f7]
  refine awp_gen (fun X => X.wf (n + 2) ∧ X n = some ⟨[v, w, u], 32, false⟩ ∧ X (n + 1) = some ⟨[.u8 r0, .u8 r1, .u8 r2, .u8 r3, .u8 r4, .u8 r5, .u8 r6, .u8 r7, .u8 r8, .u8 r9, .u8 r10], 27, false⟩ ∧ ∀ k, k < n → X k = H k) ⟨Heap.wf_upd (Heap.wf_upd wf (fun y hy => by
      simp only [List.mem_cons, List.not_mem_nil, or_false] at hy
      rcases hy with rfl | rfl | rfl
      · exact AV.ok_mono (by omega) _ hvok
      · exact AV.ok_mono (by omega) _ hwok
      · exact AV.ok_mono (by omega) _ huok)) (map_u8_ok (bs := [r0, r1, r2, r3, r4, r5, r6, r7, r8, r9, r10])), (by repeat (first | rw [Heap.upd_same] | rw [Heap.upd_ne _ _ (by omega)])), (by repeat (first | rw [Heap.upd_same] | rw [Heap.upd_ne _ _ (by omega)])), fun k hk => by rw [Heap.upd_ne _ _ (by omega), Heap.upd_ne _ _ (by omega)]⟩ ?_
  rintro X ⟨xw, x0, x1, xo⟩
  have hvX := spr_mono hv hvok xo
  have hwX := hw.mono hwok xo
  have huX := hu.mono huok xo
  refine awp_step dr7 (by decide +kernel) ?_
  simp only [go_sem]
  refine alive_ok _ _ _ ?_
  simp only [go_sem]
  refine awp_step dr7 (by decide +kernel) ?_
  simp only [go_sem, x0]
  refine great_ok v w u xs ts us _ _ _ hvX hwX huX ?_
  intro b hb
  by_cases hbt : b = true
  · subst hbt
    simp only [go_sem]
    exact Fin.back wf h xo rfl
  have hbf : b = false := by simpa using hbt
  obtain ⟨hx64, ht3, hu1⟩ := hb hbf
  subst hbf
  simp only [go_sem]
  by_cases hin : line < 0 ∨ 191 < line
  · rcases hin with hin | hin
    · simp only [go_sem, hin]
      exact Fin.back wf h xo rfl
    · have hin' : ¬ line < 0 := by omega
      simp only [go_sem, hin, hin']
      exact Fin.back wf h xo rfl
  have hl : 0 ≤ line ∧ line < 192 := by omega
  have hl1 : ¬ line < 0 := by omega
  have hl2 : ¬ 191 < line := by omega
  have hyes : inLine line = true := by unfold inLine; simp; omega
  simp only [go_sem, hl1, hl2]
  refine awp_step dr7 (by decide +kernel) ?_
  simp only [go_sem, x0, x1]
  rw [← hm]
  refine build_ok v w u xs hx64 ts us regs ht3 hu1 hr _ _ _ hvX hwX huX ?_
  intro l c X' m b d hll hc hy hm2 xw' xo' hb1 hb2 hd1 hd2 gb gd
  simp only [go_sem]
  have x0' := x0
  rw [← xo' _ (by omega)] at x0'
  have x1' := x1
  rw [← xo' _ (by omega)] at x1'
  refine awp_step dr7 (by decide +kernel) ?_
  simp only [go_sem]
  rw [rep_u8]
  refine awp_seqF (S := DrS) (fun _ => [(2, .i64 line), (3, .pt n 0), (4, .pt (n + 1) 0), (7, .sl b 0 16384 16384), (9, .sl m 0 32 32)]) (fun t => t.X) (fun _ => m + 1) (fun t => t.X.wf (m + 1) ∧ t.X m = some ⟨one42.map .u8, 5, false⟩ ∧ ∀ k, k < m → t.X k = X' k)
    (fun t ht => ⟨ht.1, Env.okAt_of2 (by simp [AV.ok]; omega)⟩) ?_ ?_
  · refine awp_step dr7 (by decide +kernel) ?_
    simp only [go_sem]
    refine awp_block ?_
    refine awp_loopF (S := DrS) (fun t => [(2, .i64 line), (3, .pt n 0), (4, .pt (n + 1) 0), (7, .sl b 0 16384 16384), (9, .sl m 0 32 32), (40, .i64 32), (41, .i64 t.j)]) (fun t => t.X) (fun _ => m + 1)
      (fun t => t.j ≤ 32 ∧ t.X.wf (m + 1) ∧ t.X m = some ⟨(layF (fun _ => 42#8) 32 t.j).map .u8, 5, false⟩ ∧ ∀ k, k < m → t.X k = X' k) (fun t => 32 - t.j)
      (fun t ht => ⟨ht.2.1, Env.okAt_of2 (by simp [AV.ok]; omega)⟩) ?_ (⟨0, 0, X'.upd m (some ⟨(List.replicate 32 0#8).map .u8, 5, false⟩)⟩ : DrS) ⟨Nat.zero_le _, Heap.wf_upd xw' map_u8_ok, by rw [layF_zero]; exact Heap.upd_same _ _ _, fun k hk => Heap.upd_ne _ _ (by omega)⟩ (by repeat (first | exact Env.le_nil _ | refine Env.le_cons rfl ?_)) (fun _ _ => rfl) rfl
    rintro ⟨j, _, Y⟩ ⟨hj, yw, y1, yo⟩
    simp only at hj yw y1 yo ⊢
    have ll : (layF (fun _ => 42#8) 32 j).length = 32 := layF_len _ hj
    refine awp_step dr7 (by decide +kernel) ?_
    simp only [go_sem]
    refine awp_step dr7 (by decide +kernel) ?_
    simp only [go_sem]
    refine ⟨fun hlt => ?_, fun hlt => ?_⟩
    · have hj' : j < 32 := by omega
      have hjI : (j : Int) < 32 := by omega
      have w1 : wrap64 ((j : Int) + 1) = ((j + 1 : Nat) : Int) := by rw [wrap_id _ (by omega) (by omega)]; omega
      have sC : ((layF (fun _ => 42#8) 32 j).map AV.u8).set j (.u8 42#8) = (layF (fun _ => 42#8) 32 (j + 1)).map AV.u8 := by rw [← List.map_set, layF_set (fun _ => 42#8) hj']
      refine awp_seq (awp_block ?_)
      refine awp_ev dr7 (by decide +kernel) ?_
      simp only [go_sem, y1, hjI, hj', ll, sC, List.length_map]
      refine ⟨by omega, ?_⟩
      refine awp_ev dr0 (by decide +kernel) ?_
      simp only [go_sem, w1]
      exact Ends.mk (⟨j + 1, 0, Y.upd m (some ⟨(layF (fun _ => 42#8) 32 (j + 1)).map .u8, 5, false⟩)⟩ : DrS) ⟨by simp only; omega, by simp only; omega, Heap.wf_set yw (by omega) map_u8_ok, Heap.upd_same _ _ _, fun k hk => by simp only; rw [Heap.upd_ne _ _ (by omega)]; exact yo k hk⟩ (by repeat (first | exact Env.le_nil _ | refine Env.le_cons rfl ?_)) (fun _ _ => rfl) (Nat.le_refl _) (Nat.le_refl _)
    · have hj6 : j = 32 := by omega
      subst hj6
      exact Ends.mk (⟨0, 0, Y⟩ : DrS) ⟨yw, y1, yo⟩ (by repeat (first | exact Env.le_nil _ | refine Env.le_cons rfl ?_)) (fun _ _ => rfl) (by omega) (Nat.le_refl _)
  rintro ⟨_, _, Y⟩ ⟨yw, y1, yo⟩
  simp only at yw y1 yo ⊢
  have yb : Y b = some ⟨l.map .u8, 5, false⟩ := by rw [yo b (by omega)]; exact gb
  have yr : Y (n + 1) = some ⟨[.u8 r0, .u8 r1, .u8 r2, .u8 r3, .u8 r4, .u8 r5, .u8 r6, .u8 r7, .u8 r8, .u8 r9, .u8 r10], 27, false⟩ := by rw [yo _ (by omega)]; exact x1'
  have ys : Y n = some ⟨[v, w, u], 32, false⟩ := by rw [yo _ (by omega)]; exact x0'
  refine awp_step dr7 (by decide +kernel) ?_
  simp only [go_sem, yr]
  rw [← hm]
  refine draw_ok _ _ l one42 regs hr line hln _ _ _ (bytes_of 16384 yb hll) (bytes_of 32 y1 rfl) ?_
  have tk : ((lineC l one42 regs line).map AV.u8 ++ [AV.bo (lineO l regs line), AV.bo (lineM l regs line)]).take 256 = (lineC l one42 regs line).map AV.u8 := by
    rw [List.take_append_of_le_length (by rw [List.length_map, lineC_len]; exact Nat.le_refl _), List.take_of_length_le (by rw [List.length_map, lineC_len]; exact Nat.le_refl _)]
  have e42 : (lineC l one42 regs line).map AV.u8 = List.replicate 256 (.u8 42#8) := by
    unfold lineC
    rw [List.map_congr_left (fun x _ => see42 l regs hyes x), List.map_const', List.length_range, List.map_replicate]
  obtain ⟨L, eL, ll, gL, oL, mL, kL⟩ := pic_all l one42 regs line
  rw [← eL] at tk ⊢
  rw [e42] at tk
  clear eL e42 gL
  have l3 : (List.replicate 256 (AV.u8 0#8) ++ [AV.bo false, AV.bo false]).length = 258 := by simp
  have es : ∀ L : List AV, L.length = 258 → splice (List.replicate 256 (AV.u8 0#8) ++ [AV.bo false, AV.bo false]) 0 L = L := fun L ll => by simp [splice, ll]
  simp only [go_sem, ll, l3, es L ll]
  refine awp_gen (fun Z => Z.wf (m + 2) ∧ Z (m + 1) = some ⟨L, 25, false⟩ ∧ Z n = some ⟨[v, w, u], 32, false⟩ ∧ Z (n + 1) = some ⟨[.u8 r0, .u8 r1, .u8 r2, .u8 r3, .u8 r4, .u8 r5, .u8 r6, .u8 r7, .u8 r8, .u8 r9, .u8 r10], 27, false⟩ ∧ ∀ k, k < n → Z k = H k)
    ⟨Heap.wf_upd yw (kL _), Heap.upd_same _ _ _, by rw [Heap.upd_ne _ _ (by omega)]; exact ys, by rw [Heap.upd_ne _ _ (by omega)]; exact yr, fun k hk => by rw [Heap.upd_ne _ _ (by omega), yo k (by omega), xo' k (by omega), xo k hk]⟩ ?_
  rintro Z ⟨zw, zp, zs, zr, zo⟩
  have aok : AV.ok (m + 2) (.ag (List.replicate 256 (AV.u8 42#8))) = true := by rw [AV.ok, AV.oks_eq]; simp [AV.ok, AV.one]
  refine awp_seqF (S := Unit) (fun _ => [(2, .i64 line), (3, .pt n 0), (4, .pt (n + 1) 0)]) (fun _ => Z) (fun _ => m + 2) (fun _ => True) (fun _ _ => ⟨zw, Env.okAt_of2 (by simp [AV.ok]; omega)⟩) ?_ ?_
  · refine awp_step dr7 (by decide +kernel) ?_
    simp only [go_sem, zp, ll, tk]
    have g42 : ∀ x, x < 256 → (List.replicate 256 (AV.u8 42#8)).getD x .junk = .u8 42#8 := fun x hx => by
      rw [List.getD_eq_getElem?_getD, List.getElem?_replicate, if_pos hx]; rfl
    have l42 : (List.replicate 256 (AV.u8 42#8)).length = 256 := List.length_replicate
    generalize List.replicate 256 (AV.u8 42#8) = RL at aok g42 l42 ⊢
    refine awp_block ?_
    refine awp_loopF (S := AtS) (fun t => [(2, .i64 line), (3, .pt n 0), (4, .pt (n + 1) 0), (54, .ag RL), (55, .i64 t.k)]) (fun _ => Z) (fun _ => m + 2) (fun t => t.k ≤ 256) (fun t => 256 - t.k)
      (fun t _ => ⟨zw, Env.okAt_of2 (by
        simp only [List.mem_cons, List.not_mem_nil, or_false, forall_eq_or_imp, forall_eq, aok]
        simp [AV.ok]; omega)⟩) ?_ ⟨0⟩ (Nat.zero_le _) (by repeat (first | exact Env.le_nil _ | refine Env.le_cons rfl ?_)) (fun _ _ => rfl) rfl
    rintro ⟨x⟩ hx
    simp only at hx ⊢
    refine awp_step dr7 (by decide +kernel) ?_
    simp only [go_sem]
    refine awp_step dr7 (by decide +kernel) ?_
    simp only [go_sem]
    refine ⟨fun hlt => ?_, fun hlt => ?_⟩
    · have hx' : x < 256 := by omega
      have wx : wrap64 ((x : Int) + 1) = ((x + 1 : Nat) : Int) := by rw [wrap_id _ (by omega) (by omega)]; omega
      have hx3 : (x : Int) < 256 := by omega
      have gx := g42 x hx'
      refine awp_seq (awp_block ?_)
      refine awp_ev dr7 (by decide +kernel) ?_
      simp only [go_sem, gx, hx', hx3, l42]
      refine awp_ev dr0 (by decide +kernel) ?_
      simp only [go_sem, wx]
      exact Ends.mk ⟨x + 1⟩ ⟨by simp only; omega, by simp only; omega⟩ (by repeat (first | exact Env.le_nil _ | refine Env.le_cons rfl ?_)) (fun _ _ => rfl) (Nat.le_refl _) (Nat.le_refl _)
    · exact Ends.mk () trivial (by repeat (first | exact Env.le_nil _ | refine Env.le_cons rfl ?_)) (fun _ _ => rfl) (Nat.le_refl _) (Nat.le_refl _)
  rintro - -
  have hwZ := hw.mono hwok zo
  have huZ := hu.mono huok zo
  refine awp_step dr7 (by decide +kernel) ?_
  obtain ⟨pw1, pw2, pw3⟩ := part_bytes hwZ
  obtain ⟨pu1, pu2, pu3⟩ := part_bytes huZ
  have pc : putCells (putCells [AV.sn, AV.sn, AV.sn] 1 w) 2 u = [AV.sn, w, u] := by rw [pw3, pu3]; rfl
  have pl : (putCells [AV.sn, AV.sn, AV.sn] 1 w).length = 3 := by rw [pw3]; rfl
  simp only [go_sem, zs, zr, pw1, pw2, pu1, pu2, pc, pl]
  rw [← hm]
  refine build_ok .sn w u [] (Nat.zero_le _) ts us regs ht3 hu1 hr _ _ _ (.inl ⟨rfl, rfl⟩) hwZ huZ ?_
  intro l2 c2 V m2 b2 d2 hl3 hc3 hy3 hm3 vw vo hb3 hb4 hd3 hd4 gb2 gd2
  have hy0 := hy3 rfl
  rw [hregs] at hy0
  have vr := zr
  rw [← vo _ (by omega)] at vr
  simp only [go_sem]
  have s0 : ∀ a y : BitVec 8, [AV.u8 r0, .u8 a, .u8 r2, .u8 r3, .u8 r4, .u8 r5, .u8 r6, .u8 r7, .u8 r8, .u8 r9, .u8 r10].set 0 (.u8 y) = [.u8 y, .u8 a, .u8 r2, .u8 r3, .u8 r4, .u8 r5, .u8 r6, .u8 r7, .u8 r8, .u8 r9, .u8 r10] := fun _ _ => rfl
  have s1 : ∀ a y : BitVec 8, [AV.u8 r0, .u8 a, .u8 r2, .u8 r3, .u8 r4, .u8 r5, .u8 r6, .u8 r7, .u8 r8, .u8 r9, .u8 r10].set 1 (.u8 y) = [.u8 r0, .u8 y, .u8 r2, .u8 r3, .u8 r4, .u8 r5, .u8 r6, .u8 r7, .u8 r8, .u8 r9, .u8 r10] := fun _ _ => rfl
  refine awp_step dr7 (by decide +kernel) ?_
  simp only [go_sem, vr, s1]
  refine awp_step dr7 (by decide +kernel) ?_
  simp only [go_sem, s0]
  refine awp_gen (fun W => W.wf m2 ∧ W (n + 1) = some ⟨(ovR r0 r1 [r2, r3, r4, r5, r6, r7, r8, r9, r10]).map .u8, 27, false⟩ ∧ W b2 = some ⟨l2.map .u8, 5, false⟩ ∧ W d2 = some ⟨c2.map .u8, 5, false⟩ ∧ ∀ k, k < n → W k = H k)
    ⟨Heap.wf_set vw (by omega) (map_u8_ok (bs := ovR r0 r1 [r2, r3, r4, r5, r6, r7, r8, r9, r10])), by rw [Heap.upd_same]; rfl, by rw [Heap.upd_ne _ _ (by omega)]; exact gb2, by rw [Heap.upd_ne _ _ (by omega)]; exact gd2, fun k hk => by rw [Heap.upd_ne _ _ (by omega), vo k (by omega), zo k hk]⟩ ?_
  rintro W ⟨ww, wr, wb, wd, wo⟩
  have wr' : W (n + 1) = some ⟨[.u8 (r0 &&& ~~~32#8), .u8 (r1 ||| 64#8), .u8 r2, .u8 r3, .u8 r4, .u8 r5, .u8 r6, .u8 r7, .u8 r8, .u8 r9, .u8 r10], 27, false⟩ := wr
  have hrO : (ovR r0 r1 [r2, r3, r4, r5, r6, r7, r8, r9, r10]).length = 11 := rfl
  have hmO : (ovR r0 r1 [r2, r3, r4, r5, r6, r7, r8, r9, r10]).map AV.u8 = [.u8 (r0 &&& ~~~32#8), .u8 (r1 ||| 64#8), .u8 r2, .u8 r3, .u8 r4, .u8 r5, .u8 r6, .u8 r7, .u8 r8, .u8 r9, .u8 r10] := rfl
  refine awp_step dr7 (by decide +kernel) ?_
  simp only [go_sem, wr']
  refine draw_ok _ _ l2 c2 (ovR r0 r1 [r2, r3, r4, r5, r6, r7, r8, r9, r10]) hrO line hln _ _ _ (bytes_of 16384 wb hl3) (bytes_of 32 wd hc3) ?_
  have hsee := fun x => over_see l2 c2 r0 r1 [r2, r3, r4, r5, r6, r7, r8, r9, r10] hyes hy0 x
  obtain ⟨ho1, ho2⟩ := over_om l2 r0 r1 [r2, r3, r4, r5, r6, r7, r8, r9, r10] line hy0
  obtain ⟨L2, eL2, ll2, gL2, oL2, mL2, kL2⟩ := pic_all l2 c2 (ovR r0 r1 [r2, r3, r4, r5, r6, r7, r8, r9, r10]) line
  rw [← eL2]
  clear eL2
  rw [ho1] at oL2
  rw [ho2] at mL2
  simp only [go_sem, ll2, l3, es L2 ll2]
  generalize hor : ovR r0 r1 [r2, r3, r4, r5, r6, r7, r8, r9, r10] = ro at hrO hmO hsee gL2
  refine awp_gen (fun T => T.wf (m2 + 1) ∧ T m2 = some ⟨L2, 25, false⟩ ∧ T (n + 1) = some ⟨[.u8 (r0 &&& ~~~32#8), .u8 (r1 ||| 64#8), .u8 r2, .u8 r3, .u8 r4, .u8 r5, .u8 r6, .u8 r7, .u8 r8, .u8 r9, .u8 r10], 27, false⟩ ∧ T b2 = some ⟨l2.map .u8, 5, false⟩ ∧ T d2 = some ⟨c2.map .u8, 5, false⟩ ∧ ∀ k, k < n → T k = H k)
    ⟨Heap.wf_upd ww (kL2 _), Heap.upd_same _ _ _, by rw [Heap.upd_ne _ _ (by omega)]; exact wr', by rw [Heap.upd_ne _ _ (by omega)]; exact wb, by rw [Heap.upd_ne _ _ (by omega)]; exact wd, fun k hk => by rw [Heap.upd_ne _ _ (by omega)]; exact wo k hk⟩ ?_
  rintro T ⟨tw, tp, tr, tb, td, to⟩
  have hVT : bytesIn T (.sl b2 0 16384 16384) l2 := bytes_of 16384 tb hl3
  have hCT : bytesIn T (.sl d2 0 32 32) c2 := bytes_of 32 td hc3
  refine awp_seqF (S := Unit) (fun _ => [(16, .pt m2 0)]) (fun _ => T) (fun _ => m2 + 1) (fun _ => True) (fun _ _ => ⟨tw, Env.okAt_of2 (by simp [AV.ok])⟩) ?_ ?_
  · refine awp_step dr7 (by decide +kernel) ?_
    simp only [go_sem]
    refine awp_block ?_
    refine awp_loopF (S := AtS) (fun t => [(2, .i64 line), (4, .pt (n + 1) 0), (14, .sl b2 0 16384 16384), (15, .sl d2 0 32 32), (16, .pt m2 0), (17, .i64 t.k)]) (fun _ => T) (fun _ => m2 + 1) (fun t => t.k ≤ 256) (fun t => 256 - t.k)
      (fun t _ => ⟨tw, Env.okAt_of2 (by simp [AV.ok]; omega)⟩) ?_ ⟨0⟩ (Nat.zero_le _) (by repeat (first | exact Env.le_nil _ | refine Env.le_cons rfl ?_)) (fun _ _ => rfl) rfl
    rintro ⟨x⟩ hx
    simp only at hx ⊢
    refine awp_step dr7 (by decide +kernel) ?_
    simp only [go_sem]
    refine ⟨fun hlt => ?_, fun hlt => ?_⟩
    · have hx' : x < 256 := by omega
      have wx : wrap64 ((x : Int) + 1) = ((x + 1 : Nat) : Int) := by rw [wrap_id _ (by omega) (by omega)]; omega
      have hx3 : (x : Int) < 256 := by omega
      have hx2 : x < 258 := by omega
      have gx := gL2 x hx'
      rw [hsee] at gx
      refine awp_seq (awp_block ?_)
      refine awp_step dr7 (by decide +kernel) ?_
      simp only [go_sem, tr]
      refine ref17_dot' _ l2 ro hrO line x hl (by omega) _ _ _ hVT hmO ?_
      simp only [go_sem]
      refine awp_ev dr7 (by decide +kernel) ?_
      simp only [go_sem, tp, gx, ll2, hx2, hx3]
      refine line_paint _ c2 _ _ _ _ hCT (by simp [AV.ok]; omega) ?_
      simp only [go_sem, tp, gx, ll2, hx2, hx3, bne_self_eq_false]
      refine awp_ev dr0 (by decide +kernel) ?_
      simp only [go_sem, wx]
      exact Ends.mk ⟨x + 1⟩ ⟨by simp only; omega, by simp only; omega⟩ (by repeat (first | exact Env.le_nil _ | refine Env.le_cons rfl ?_)) (fun _ _ => rfl) (Nat.le_refl _) (Nat.le_refl _)
    · exact Ends.mk () trivial (by repeat (first | exact Env.le_nil _ | refine Env.le_cons rfl ?_)) (fun _ _ => rfl) (Nat.le_refl _) (Nat.le_refl _)
  rintro - -
  refine awp_ev dr0 (by decide +kernel) ?_
  simp only [go_sem, tp, ll2, oL2, mL2]
  exact Fin.back wf h to rfl
end Go.Proofs.Joy
namespace Go.Proofs.Joy
open Go.Ab Go.Proofs

theorem over_all (H : Heap) (n : Nat) (L : List AV) (_ : RO H) (_ : H.wf n) (_ : ∀ x ∈ L, x.ok n = true) (hf : fitAs H [shScene, shRg, shI2] L) : ACalls Try.prog 7 L H n fun v _ _ => v = .bo true := by
  match L, hf with
  | [a, b, c], ⟨h1, h2, h3, _⟩ =>
    obtain ⟨p, q, r, xs, ts, us, rfl, hp, hq, hr⟩ := scene_args h1
    obtain ⟨l, rfl, hl⟩ := fitA_flat h2
    obtain ⟨rs, hrl, rfl⟩ := FitsR_u8s hl
    obtain ⟨x, rfl, hx⟩ := fitA_int h3
    exact over_walk _ _ _ _ _ _ _ hrl _ hx _ _ _ hp hq hr rfl
end Go.Proofs.Joy
