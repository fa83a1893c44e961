/- Parts of the proof: contracts of the seat's functions. -/
import Derived.Test.YthcmnmkajnpbeaaJoyX4
import Derived.Test.YthcmnmkajnpbeaaJoyW3
set_option linter.unusedSimpArgs false
set_option linter.unusedVariables false
namespace Go.Proofs.Joy
open Go.Ab Go.Proofs

set_option maxHeartbeats 2000000
set_option maxRecDepth 20000

theorem srcK_threes {H : Heap} {v : AV} {xs : List B3} (h : threesIn H v xs) (K : Nat → List AV → Prop) : srcK H 3 v K = K xs.length (flat3 xs) := by
  rcases h with ⟨rfl, rfl⟩ | ⟨b, c, el, ro, rfl, h0, h1⟩ | ⟨b, el, ro, rfl, h1⟩
  · rfl
  · have := flat3_len xs
    simp only [go_sem, h1, this]
    rw [List.take_of_length_le (by rw [this]; exact Nat.le_refl _)]
  · have := flat3_len xs
    simp only [go_sem, h1, this]
    rw [List.take_of_length_le (by rw [this]; exact Nat.le_refl _)]
theorem appX_threes {H : Heap} {v : AV} {xs : List B3} (h : threesIn H v xs) (a : AppT) : appX a v = True := by
  rcases h with ⟨rfl, rfl⟩ | ⟨b, c, el, ro, rfl, h0, h1⟩ | ⟨b, el, ro, rfl, h1⟩ <;> rfl
/-- A row to which more may be appended, that lies from n on. -/
def rowish (n : Nat) (V : Heap) (r : AV) (l : List B3) : Prop := (l = [] ∧ ∃ b, n ≤ b ∧ r = .sl b 0 0 0 ∧ V b = some ⟨[], 36, false⟩) ∨ (l ≠ [] ∧ ∃ q, n ≤ q ∧ r = .su q 0 l.length 3 ∧ V q = some ⟨flat3 l, 36, false⟩)
theorem rowish.mono {n m : Nat} {V V' : Heap} {r : AV} {l : List B3} (h : rowish n V r l) (hok : r.ok m = true) (ho : ∀ k, k < m → V' k = V k) : rowish n V' r l := by
  rcases h with ⟨rfl, c, hc, rfl, hcc⟩ | ⟨hl, q, hq, rfl, hqq⟩
  · exact .inl ⟨rfl, c, hc, rfl, by rw [ho c (by simpa [AV.ok] using hok)]; exact hcc⟩
  · exact .inr ⟨hl, q, hq, rfl, by rw [ho q (by simpa [AV.ok] using hok)]; exact hqq⟩
theorem app_rowish {H : Heap} {n n0 b : Nat} {r : AV} {l : List B3} {e : B3} {by_ : Nat} {z : List AV} {K : AV → Heap → Nat → Prop} (wf : H.wf n) (hr : rowish n0 H r l) (hb : H b = some ⟨flat3 [e], 36, false⟩) (hm : l.length + 1 ≤ 4294967296)
    (h : ∀ V, V.wf (n + 1) → (∀ i, i < n → i < n0 → V i = H i) → threesIn V (.su n 0 (l.length + 1) 3) (l ++ [e]) → K (.su n 0 (l.length + 1) 3) V (n + 1)) :
    appB (some ⟨36, 3, by_, z⟩) true H n r (.sl b 0 1 1) K := by
  have e2 : flat3 l ++ flat3 [e] = flat3 (l ++ [e]) := by unfold flat3; rw [List.flatMap_append]
  have el : (l ++ [e]).length = l.length + 1 := by simp
  have hl3 := flat3_len l
  rcases hr with ⟨rfl, c, hc, rfl, hcc⟩ | ⟨hl, q, hq, rfl, hqq⟩
  · simp only [go_sem, hb, hcc]
    have h' := h (H.upd n (some ⟨flat3 [e], 36, false⟩)) (Heap.wf_upd wf (flat3_oks _ _)) (fun i hi _ => Heap.upd_ne _ _ (by omega)) (.inr (.inr ⟨n, _, _, rfl, Heap.upd_same _ _ _⟩))
    exact ⟨Nat.le_refl 3, h'⟩
  · simp only [go_sem, hb, hqq, hl3]
    rw [List.take_of_length_le (l := flat3 l) (by rw [hl3]; exact Nat.le_refl _), List.take_of_length_le (l := flat3 [e]) (by rw [flat3_len]; exact Nat.le_refl _), e2]
    refine ⟨Nat.le_refl 3, by omega, h _ (Heap.wf_upd (Heap.wf_upd_none wf) (flat3_oks _ _)) (fun i hi h0 => by rw [Heap.upd_ne _ _ (by omega), Heap.upd_ne _ _ (by omega)]) (.inr (.inr ⟨n, _, _, by rw [el], Heap.upd_same _ _ _⟩))⟩
/-- Threes behind a row that is full. -/
theorem app_full {H : Heap} {n b k : Nat} {v : AV} {l0 xs : List B3} {by_ : Nat} {z : List AV} {K : AV → Heap → Nat → Prop} (wf : H.wf n) (hbn : b ≤ n) (hb : H b = some ⟨flat3 l0, 36, false⟩) (hk : l0.length = k) (hv : threesIn H v xs) (hm : k + xs.length ≤ 4294967296)
    (h : ∀ r V m', n ≤ m' → V.wf m' → (∀ i, i < n → V i = H i) → threesIn V r (l0 ++ xs) → (l0 = [] → rowish b V r xs) → K r V m') :
    appX ⟨36, 3, by_, z⟩ v ∧ srcK H 3 v (appSl (some ⟨flat3 l0, 36, false⟩) ⟨36, 3, by_, z⟩ b 0 k k H n K) := by
  have hl0 := flat3_len l0
  simp only [go_sem, appX_threes hv, srcK_threes hv, hb, hl0, hk]
  refine ⟨fun hx => ?_, fun hx => ⟨hm, ?_⟩⟩
  · have he : xs = [] := List.eq_nil_of_length_eq_zero (by omega)
    subst he
    have e0 : splice (flat3 l0) (k * 3) (flat3 []) = flat3 l0 := by
      have : flat3 [] = [] := rfl
      rw [this]; simp [splice]
    rw [e0, Heap.upd_self hb]
    refine ⟨by simp, h _ H n (Nat.le_refl _) wf (fun _ _ => rfl) ?_ (fun h0 => ?_)⟩
    · rw [List.append_nil]
      exact .inr (.inl ⟨b, k, _, _, by rw [hk]; rfl, by omega, hb⟩)
    · subst h0
      have hk0 : k = 0 := by rw [← hk]; rfl
      subst hk0
      exact .inl ⟨rfl, b, Nat.le_refl _, rfl, hb⟩
  · have e1 : (flat3 l0).take (k * 3) = flat3 l0 := List.take_of_length_le (by rw [hl0, hk]; exact Nat.le_refl _)
    have e2 : flat3 l0 ++ flat3 xs = flat3 (l0 ++ xs) := by unfold flat3; rw [List.flatMap_append]
    rw [e1, e2]
    refine h _ _ (n + 1) (by omega) (Heap.wf_upd wf (flat3_oks _ _)) (fun i hi => Heap.upd_ne _ _ (by omega)) ?_ (fun h0 => ?_)
    rotate_left
    · subst h0
      have hk0 : k = 0 := by rw [← hk]; rfl
      subst hk0
      exact .inr ⟨fun h1 => by rw [h1] at hx; simp at hx, n, hbn, by rw [Nat.zero_add], Heap.upd_same _ _ _⟩
    exact .inr (.inr ⟨n, _, _, by rw [List.length_append, hk], Heap.upd_same _ _ _⟩)

structure PicE (H : Heap) (n : Nat) (v w : AV) (regs : List (BitVec 8)) (e : B3) (m : Nat) (X : Heap) : Prop where
  i : PicI H n v w regs m X
  e : X (n + 2) = some ⟨[.u8 e.1, .u8 e.2.1, .u8 e.2.2], 36, false⟩
theorem PicE.lt {H : Heap} {n : Nat} {v w : AV} {regs : List (BitVec 8)} {e : B3} {m : Nat} {X : Heap} (h : PicE H n v w regs e m X) : n + 2 < m := (h.i.wf _ _ h.e).1
theorem PicE.mono {H : Heap} {n : Nat} {v w : AV} {regs : List (BitVec 8)} {e : B3} {m : Nat} {X : Heap} (h : PicE H n v w regs e m X) {m' : Nat} {Y : Heap} (hm : m ≤ m') (wf : Y.wf m') (ho : ∀ k, k < m → Y k = X k) : PicE H n v w regs e m' Y :=
  ⟨h.i.mono hm wf ho, by rw [ho _ h.lt]; exact h.e⟩

theorem sprites_len (v regs : List (BitVec 8)) (line : Int) : (spritesS v regs line).c.length = 256 := by
  unfold spritesS; rw [rowTo_len]; exact List.length_replicate
theorem zrow_ok (k : Nat) : ∀ x ∈ (List.replicate 256 (AV.u8 0#8) ++ [AV.bo false, AV.bo false]), x.ok k = true := fun x hx => by
  simp only [List.mem_append, List.mem_replicate, List.mem_cons, List.not_mem_nil, or_false] at hx
  rcases hx with ⟨-, rfl⟩ | rfl | rfl <;> rfl
/-- Two rows, made and filled. -/
theorem two_rows {H X : Heap} {n p : Nat} {T : TypeId} (wf : X.wf p) (ho : ∀ k, k < n → X k = H k) (ca cb : List (BitVec 8)) (oa ob ma mb : Bool) {Z : List AV} (hz : ∀ k, ∀ x ∈ Z, x.ok k = true) :
    let V := (((X.upd p (some ⟨Z, T, false⟩)).upd (p + 1) (some ⟨Z, T, false⟩)).upd p (some ⟨(rowB ca oa ma).cells, T, false⟩)).upd (p + 1) (some ⟨(rowB cb ob mb).cells, T, false⟩)
    V.wf (p + 2) ∧ V p = some ⟨(rowB ca oa ma).cells, T, false⟩ ∧ V (p + 1) = some ⟨(rowB cb ob mb).cells, T, false⟩ ∧ ∀ k, k < p → V k = X k := by
  refine ⟨Heap.wf_set (Heap.wf_set (Heap.wf_upd (Heap.wf_upd wf (hz _)) (hz _)) (by omega) (rowB_ok _ _ _ _)) (by omega) (rowB_ok _ _ _ _), ?_, ?_, fun k hk => ?_⟩
  · rw [Heap.upd_ne _ _ (by omega), Heap.upd_same]
  · rw [Heap.upd_same]
  · rw [Heap.upd_ne _ _ (by omega), Heap.upd_ne _ _ (by omega), Heap.upd_ne _ _ (by omega), Heap.upd_ne _ _ (by omega)]

theorem first_walk (v w : AV) (xs : List B3) (ts regs0 : List (BitVec 8)) (hr0 : regs0.length = 11) (e : B3) (H : Heap) (n : Nat) (K : AV → Heap → Nat → Prop) (hv : threesIn H v xs) (hw : bytesIn H w ts)
    (h : K (.bo true) H n) : ACalls Try.prog 6 [.ag [v, w], .ag (regs0.map .u8), .ag [.u8 e.1, .u8 e.2.1, .u8 e.2.2]] H n K := by
  refine ACalls.of_awp Try.func6 rfl (by decide +kernel) (show 3 ≤ 121 by decide) (by simp) fun wf => ?_
  have hvok := threes_ok wf hv
  have hwok := bytes_ok wf hw
  refine awp_step dr6 (by decide +kernel) ?_
  simp only [go_sem, Try.f6]
  refine awp_gen (fun X => PicI H n v w regs0 (n + 3) X ∧ X (n + 2) = some ⟨[.u8 e.1, .u8 e.2.1, .u8 e.2.2], 36, false⟩) ⟨(PicI.start wf hv hw regs0).mono (by omega) (Heap.wf_upd (PicI.start wf hv hw regs0).wf (three_ok _ _ _ _)) (fun k hk => Heap.upd_ne _ _ (by omega)), Heap.upd_same _ _ _⟩ ?_
  rintro X ⟨hX, xe⟩
  have x0 := hX.x0; have x1 := hX.x1
  refine awp_step dr6 (by decide +kernel) ?_
  simp only [go_sem]
  refine alive_ok _ _ _ ?_
  simp only [go_sem]
  refine awp_step dr6 (by decide +kernel) ?_
  simp only [go_sem, x0]
  have hvX := threes_mono hv hvok hX.old
  have hwX := hw.mono hwok hX.old
  refine great_ok v w xs ts _ _ _ hvX hwX ?_
  have hlv := lenB_threes hvX
  simp only [go_sem, hlv, x0]
  refine ⟨fun _ => ⟨fun _ => Fin.back wf h hX.old rfl, fun h30 => ?_⟩, fun _ => Fin.back wf h hX.old rfl⟩
  have hx6 : xs.length ≤ 6 := by omega
  obtain ⟨regs, hrg⟩ : ∃ regs, regs = (regs0.set 5 126#8).set 6 0#8 := ⟨_, rfl⟩
  have hr : regs.length = 11 := by rw [hrg, List.length_set, List.length_set, hr0]
  refine awp_step dr6 (by decide +kernel) ?_
  simp only [go_sem, x1, hr0, List.length_map, List.length_set, ← List.map_set]
  refine awp_step dr6 (by decide +kernel) ?_
  simp only [go_sem, x1, hr0, List.length_map, List.length_set, ← List.map_set, ← hrg]
  refine awp_gen (fun X => PicI H n v w regs (n + 3) X ∧ X (n + 2) = some ⟨[.u8 e.1, .u8 e.2.1, .u8 e.2.2], 36, false⟩) ⟨⟨Heap.wf_set hX.wf (by omega) map_u8_ok, by omega, by rw [Heap.upd_ne _ _ (by omega)]; exact x0, Heap.upd_same _ _ _, fun k hk => by rw [Heap.upd_ne _ _ (by omega)]; exact hX.old k hk⟩, by rw [Heap.upd_ne _ _ (by omega)]; exact xe⟩ ?_
  rintro Y ⟨hY, ye⟩
  have y0 := hY.x0; have y1 := hY.x1
  obtain ⟨pw1, pw2, pw3⟩ := bytes_part hw
  have pw4 : ∀ x, putCells [x, .sn] 1 w = [x, w] := fun x => by
    rcases hw with ⟨rfl, rfl⟩ | ⟨su, b, o, c, blk, rfl, h0, h1, h2, h3⟩
    · rfl
    · cases su <;> rfl
  have rp : ∀ x y z : AV, splice (repCells 1 [AV.u8 0#8, AV.u8 0#8, AV.u8 0#8]) 0 [x, y, z] = [x, y, z] := fun _ _ _ => rfl
  have rl : (repCells 1 [AV.u8 0#8, AV.u8 0#8, AV.u8 0#8]).length = 3 := rfl
  have hwY := hw.mono hwok hY.old
  refine awp_step dr6 (by decide +kernel) ?_
  simp only [go_sem, ye, y0, y1, rp, rl, pw1, pw2, pw3, pw4, hr, List.length_map, take_map_all hr]
  refine build_ok (.sl (n + 3) 0 1 1) w [e] (by simp) ts regs hr _ _ _ (.inr (.inl ⟨n + 3, 1, _, _, rfl, Nat.le_refl _, Heap.upd_same _ _ _⟩)) (hw.mono hwok (fun k hk => by rw [Heap.upd_ne _ _ (by omega)]; exact hY.old k hk)) ?_
  intro H1 m1 b1 hm1 w1 o1 hb1 hbm1 g1
  have h1 : PicE H n v w regs e m1 H1 := PicE.mono ⟨hY, ye⟩ (by omega) w1 (fun k hk => by rw [o1 k (by omega), Heap.upd_ne _ _ (by omega)])
  simp only [go_sem]
  have a0 := h1.i.x0; have a1 := h1.i.x1; have ae := h1.e
  refine awp_step dr6 (by decide +kernel) ?_
  have k0 : n < m1 := by omega
  have k1 : n + 1 < m1 := by omega
  have k2 : n + 2 < m1 := h1.lt
  simp only [go_sem, ae, a0, a1, rp, rl, pw1, pw2, pw3, pw4, hr, List.length_map, take_map_all hr, k0, k1, k2]
  refine app_full (k := 1) (l0 := [e]) (Heap.wf_upd w1 (three_ok _ _ _ _)) (by omega) (Heap.upd_same _ _ _) rfl (threes_mono hv hvok (fun k hk => by rw [Heap.upd_ne _ _ (by omega)]; exact h1.i.old k hk)) (by omega) ?_
  intro r2 H2 m2 hm2 w2 o2 hr2 _
  have ok2 := threes_ok w2 hr2
  have h2 : PicE H n v w regs e m2 H2 := h1.mono (by omega) w2 (fun k hk => by rw [o2 k (by omega), Heap.upd_ne _ _ (by omega)])
  have a20 := h2.i.x0; have a21 := h2.i.x1; have a2e := h2.e
  have c2 : partOk r2 = true ∧ cellsOf r2 = [r2] ∧ putCells [.sn, .sn] 0 r2 = [r2, .sn] := by
    rcases hr2 with ⟨rfl, h0⟩ | ⟨b, c, el, ro, rfl, _, _⟩ | ⟨b, el, ro, rfl, _⟩ <;> exact ⟨rfl, rfl, rfl⟩
  obtain ⟨c2a, c2b, c2c⟩ := c2
  simp only [go_sem, a20, a21, a2e, c2a, c2b, c2c, pw1, pw2, pw3, pw4, hr, List.length_map, take_map_all hr]
  refine build_ok r2 w ([e] ++ xs) (by simp; omega) ts regs hr _ _ _ hr2 (hw.mono hwok h2.i.old) ?_
  intro H3 m3 b3 hm3 w3 o3 hb3 hbm3 g3
  have h3 : PicE H n v w regs e m3 H3 := h2.mono (by omega) w3 o3
  have a30 := h3.i.x0; have a31 := h3.i.x1; have a3e := h3.e
  have g13 : H3 b1 = some ⟨(buildS [e] ts regs).map .u8, 5, false⟩ := by rw [o3 _ (by omega), o2 _ (by omega), Heap.upd_ne _ _ (by omega)]; exact g1
  simp only [go_sem, a30, a31, a3e, hr, List.length_map, take_map_all hr]
  have k30 : n < m3 := by omega
  have k31 : n + 1 < m3 := by omega
  have k32 : n + 2 < m3 := h3.lt
  have hv3 : threesIn H3 v xs := threes_mono hv hvok h3.i.old
  have hvok3 : v.ok m3 = true := AV.ok_mono (by omega) _ hvok
  refine awp_seqF (S := CutS) (fun t => [(3, .pt n 0), (4, .pt (n + 1) 0), (7, .sl b1 0 16384 16384), (8, .sl b3 0 16384 16384), (9, .sl t.q 0 16384 16384)]) (fun t => t.X) (fun t => t.m)
    (fun t => PicE H n v w regs e t.m t.X ∧ m3 ≤ t.m ∧ (∀ k, k < m3 → t.X k = H3 k) ∧ t.q < t.m ∧ t.X t.q = some ⟨(buildS (xs ++ [e]) ts regs).map .u8, 5, false⟩)
    (fun t ht => ⟨ht.1.i.wf, Env.okAt_of2 (by have := ht.2.1; have := ht.2.2.2.1; simp [AV.ok]; omega)⟩) ?_ ?_
  · refine awp_tree td6_9 tr6_9 (by decide +kernel) (by decide +kernel) ?_
    simp only [go_sem, a30, a31, a3e, rp, rl, pw1, pw2, pw3, pw4, hr, List.length_map, take_map_all hr, k30, k31, k32]
    refine ⟨⟨?_, ?_⟩, ?_⟩
    · refine app_full (k := 0) (l0 := []) (Heap.wf_upd w3 (fun x hx => by cases hx)) (by omega) (Heap.upd_same _ _ _) rfl (threes_mono hv3 hvok3 (fun k hk => Heap.upd_ne _ _ (by omega))) (by omega) ?_
      intro r4 H4 m4 hm4 w4 o4 hr4 hrow
      have hrow := hrow rfl
      have ok4 := threes_ok w4 hr4
      have h4 : PicE H n v w regs e m4 H4 := h3.mono (by omega) w4 (fun k hk => by rw [o4 k (by omega), Heap.upd_ne _ _ (by omega)])
      have a40 := h4.i.x0; have a41 := h4.i.x1; have a4e := h4.e
      have k40 : n < m4 := by omega
      have k41 : n + 1 < m4 := by omega
      have k42 : n + 2 < m4 := h4.lt
      simp only [go_sem, a40, a41, a4e, rp, rl, pw1, pw2, pw3, pw4, hr, List.length_map, take_map_all hr, k40, k41, k42]
      refine app_rowish (n0 := m3) (l := xs) (e := e) (Heap.wf_upd w4 (three_ok _ _ _ _)) (hrow.mono ok4 (fun k hk => Heap.upd_ne _ _ (by omega))) (Heap.upd_same _ _ _) (by omega) ?_
      intro V5 w5 o5 hr5
      have O5 : ∀ k, k < m3 → V5 k = H3 k := fun k hk => by rw [o5 k (by omega) hk, Heap.upd_ne _ _ (by omega), o4 k (by omega), Heap.upd_ne _ _ (by omega)]
      have h5 : PicE H n v w regs e (m4 + 1 + 1) V5 := ⟨⟨w5, by omega, by rw [O5 n (by omega)]; exact a30, by rw [O5 (n + 1) (by omega)]; exact a31, fun k hk => by rw [O5 k (by omega)]; exact h3.i.old k hk⟩, by rw [O5 (n + 2) (by omega)]; exact a3e⟩
      have a50 := h5.i.x0; have a51 := h5.i.x1; have a5e := h5.e
      simp only [go_sem, a50, a51, a5e, rp, rl, pw1, pw2, pw3, pw4, hr, List.length_map, take_map_all hr]
      refine build_ok (.su (m4 + 1) 0 (xs.length + 1) 3) w (xs ++ [e]) (by simp; omega) ts regs hr _ _ _ hr5 (hw.mono hwok h5.i.old) ?_
      intro H6 m6 b6 hm6 w6 o6 hb6 hbm6 g6
      have h6 : PicE H n v w regs e m6 H6 := h5.mono (by omega) w6 o6
      have a60 := h6.i.x0; have a61 := h6.i.x1; have a6e := h6.e
      simp only [go_sem, a60, a61, a6e, hr, List.length_map, take_map_all hr]
      exact Go.Ab.Ends.mk ⟨0, b6, m6, H6⟩ ⟨h6, by simp only; omega, fun k hk => by simp only; rw [o6 k (by omega), O5 k hk], by simp only; omega, g6⟩ (by repeat (first | exact Env.le_nil _ | refine Env.le_cons rfl ?_)) (fun _ _ => rfl) (by simp only; omega) (Nat.le_refl _)
    · refine app_full (b := m3) (k := 0) (l0 := []) (Heap.wf_upd (Heap.wf_upd w3 (fun x hx => by cases hx)) (three_ok _ _ _ _)) (by omega) (by rw [Heap.upd_ne _ _ (by omega)]; exact Heap.upd_same _ _ _) rfl (threes_mono hv3 hvok3 (fun k hk => by rw [Heap.upd_ne _ _ (by omega), Heap.upd_ne _ _ (by omega)])) (by omega) ?_
      intro r4 H4 m4 hm4 w4 o4 hr4 hrow
      have hrow := hrow rfl
      have ok4 := threes_ok w4 hr4
      have h4 : PicE H n v w regs e m4 H4 := h3.mono (by omega) w4 (fun k hk => by rw [o4 k (by omega), Heap.upd_ne _ _ (by omega), Heap.upd_ne _ _ (by omega)])
      have a40 := h4.i.x0; have a41 := h4.i.x1; have a4e := h4.e
      have g4 : H4 (m3 + 1) = some ⟨[.u8 e.1, .u8 e.2.1, .u8 e.2.2], 36, false⟩ := by rw [o4 _ (by omega), Heap.upd_same]
      simp only [go_sem, a40, a41, a4e, rp, rl, pw1, pw2, pw3, pw4, hr, List.length_map, take_map_all hr]
      refine app_rowish (n0 := m3) (l := xs) (e := e) w4 hrow g4 (by omega) ?_
      intro V5 w5 o5 hr5
      have O5 : ∀ k, k < m3 → V5 k = H3 k := fun k hk => by rw [o5 k (by omega) hk, o4 k (by omega), Heap.upd_ne _ _ (by omega), Heap.upd_ne _ _ (by omega)]
      have h5 : PicE H n v w regs e (m4 + 1) V5 := ⟨⟨w5, by omega, by rw [O5 n (by omega)]; exact a30, by rw [O5 (n + 1) (by omega)]; exact a31, fun k hk => by rw [O5 k (by omega)]; exact h3.i.old k hk⟩, by rw [O5 (n + 2) (by omega)]; exact a3e⟩
      have a50 := h5.i.x0; have a51 := h5.i.x1; have a5e := h5.e
      simp only [go_sem, a50, a51, a5e, rp, rl, pw1, pw2, pw3, pw4, hr, List.length_map, take_map_all hr]
      refine build_ok (.su m4 0 (xs.length + 1) 3) w (xs ++ [e]) (by simp; omega) ts regs hr _ _ _ hr5 (hw.mono hwok h5.i.old) ?_
      intro H6 m6 b6 hm6 w6 o6 hb6 hbm6 g6
      have h6 : PicE H n v w regs e m6 H6 := h5.mono (by omega) w6 o6
      have a60 := h6.i.x0; have a61 := h6.i.x1; have a6e := h6.e
      simp only [go_sem, a60, a61, a6e, hr, List.length_map, take_map_all hr]
      exact Go.Ab.Ends.mk ⟨0, b6, m6, H6⟩ ⟨h6, by simp only; omega, fun k hk => by simp only; rw [o6 k (by omega), O5 k hk], by simp only; omega, g6⟩ (by repeat (first | exact Env.le_nil _ | refine Env.le_cons rfl ?_)) (fun _ _ => rfl) (by simp only; omega) (Nat.le_refl _)
    · refine app_full (b := m3 + 1) (k := 0) (l0 := []) (Heap.wf_upd (Heap.wf_upd w3 (three_ok _ _ _ _)) (fun x hx => by cases hx)) (by omega) (Heap.upd_same _ _ _) rfl (threes_mono hv3 hvok3 (fun k hk => by rw [Heap.upd_ne _ _ (by omega), Heap.upd_ne _ _ (by omega)])) (by omega) ?_
      intro r4 H4 m4 hm4 w4 o4 hr4 hrow
      have hrow := hrow rfl
      have ok4 := threes_ok w4 hr4
      have h4 : PicE H n v w regs e m4 H4 := h3.mono (by omega) w4 (fun k hk => by rw [o4 k (by omega), Heap.upd_ne _ _ (by omega), Heap.upd_ne _ _ (by omega)])
      have a40 := h4.i.x0; have a41 := h4.i.x1; have a4e := h4.e
      have g4 : H4 m3 = some ⟨[.u8 e.1, .u8 e.2.1, .u8 e.2.2], 36, false⟩ := by rw [o4 _ (by omega), Heap.upd_ne _ _ (by omega), Heap.upd_same]
      simp only [go_sem, a40, a41, a4e, rp, rl, pw1, pw2, pw3, pw4, hr, List.length_map, take_map_all hr]
      refine app_rowish (n0 := m3 + 1) (l := xs) (e := e) w4 hrow g4 (by omega) ?_
      intro V5 w5 o5 hr5
      have O5 : ∀ k, k < m3 → V5 k = H3 k := fun k hk => by rw [o5 k (by omega) (by omega), o4 k (by omega), Heap.upd_ne _ _ (by omega), Heap.upd_ne _ _ (by omega)]
      have h5 : PicE H n v w regs e (m4 + 1) V5 := ⟨⟨w5, by omega, by rw [O5 n (by omega)]; exact a30, by rw [O5 (n + 1) (by omega)]; exact a31, fun k hk => by rw [O5 k (by omega)]; exact h3.i.old k hk⟩, by rw [O5 (n + 2) (by omega)]; exact a3e⟩
      have a50 := h5.i.x0; have a51 := h5.i.x1; have a5e := h5.e
      simp only [go_sem, a50, a51, a5e, rp, rl, pw1, pw2, pw3, pw4, hr, List.length_map, take_map_all hr]
      refine build_ok (.su m4 0 (xs.length + 1) 3) w (xs ++ [e]) (by simp; omega) ts regs hr _ _ _ hr5 (hw.mono hwok h5.i.old) ?_
      intro H6 m6 b6 hm6 w6 o6 hb6 hbm6 g6
      have h6 : PicE H n v w regs e m6 H6 := h5.mono (by omega) w6 o6
      have a60 := h6.i.x0; have a61 := h6.i.x1; have a6e := h6.e
      simp only [go_sem, a60, a61, a6e, hr, List.length_map, take_map_all hr]
      exact Go.Ab.Ends.mk ⟨0, b6, m6, H6⟩ ⟨h6, by simp only; omega, fun k hk => by simp only; rw [o6 k (by omega), O5 k hk], by simp only; omega, g6⟩ (by repeat (first | exact Env.le_nil _ | refine Env.le_cons rfl ?_)) (fun _ _ => rfl) (by simp only; omega) (Nat.le_refl _)
  rintro ⟨j6, b6, m6, H6⟩ ⟨h6, hm6, o6, hb6, g6⟩
  simp only at h6 hm6 o6 hb6 g6 ⊢
  have a60 := h6.i.x0; have a61 := h6.i.x1
  have hv6 : threesIn H6 v xs := threes_mono hv hvok h6.i.old
  refine awp_step dr6 (by decide +kernel) ?_
  simp only [go_sem, a60, a61, hr, List.length_map, take_map_all hr]
  refine build_ok v w xs (by omega) ts regs hr _ _ _ hv6 (hw.mono hwok h6.i.old) ?_
  intro H7 m7 b7 hm7 w7 o7 hb7 hbm7 g7
  have h7 : PicE H n v w regs e m7 H7 := h6.mono (by omega) w7 o7
  have a71 := h7.i.x1
  have s7 : ∀ k, k < m3 → H7 k = H3 k := fun k hk => by rw [o7 k (by omega), o6 k hk]
  have b17 : H7 b1 = some ⟨(buildS [e] ts regs).map .u8, 5, false⟩ := by rw [s7 _ (by omega)]; exact g13
  have b37 : H7 b3 = some ⟨(buildS ([e] ++ xs) ts regs).map .u8, 5, false⟩ := by rw [s7 _ (by omega)]; exact g3
  have b67 : H7 b6 = some ⟨(buildS (xs ++ [e]) ts regs).map .u8, 5, false⟩ := by rw [o7 _ (by omega)]; exact g6
  have l1 := buildS_len [e] ts regs
  have l3 := buildS_len ([e] ++ xs) ts regs
  have l6 := buildS_len (xs ++ [e]) ts regs
  have l7 := buildS_len xs ts regs
  have gb5 : regs.getD 5 0#8 = 126#8 := by rw [hrg]; simp [getD_set8, hr0]
  have gb6 : regs.getD 6 0#8 &&& 4#8 = 0#8 := by rw [hrg]; simp [getD_set8, hr0]
  have fa := fun k => first_ahead xs hx6 e ts ⟨gb5, gb6⟩ (line := 50) (by decide) k
  have fb := fun k => first_behind xs hx6 e ts ⟨gb5, gb6⟩ (line := 50) (by decide) k
  have v3 := few_hits ([e] ++ xs) (by simp; omega) ts regs 50
  have v6 := few_hits (xs ++ [e]) (by simp; omega) ts regs 50
  have v7 := few_hits xs (by omega) ts regs 50
  rw [show e :: xs = [e] ++ xs from rfl] at fa
  generalize buildS [e] ts regs = m1' at b17 l1 fa
  generalize buildS ([e] ++ xs) ts regs = m3' at b37 l3 fa v3
  generalize buildS (xs ++ [e]) ts regs = m6' at b67 l6 fb v6
  generalize buildS xs ts regs = m7' at g7 l7 fb v7
  have c1 : bytesIn H7 (.sl b1 0 16384 16384) m1' := .whole b17 l1.symm (Nat.le_refl _)
  have c3 : bytesIn H7 (.sl b3 0 16384 16384) m3' := .whole b37 l3.symm (Nat.le_refl _)
  have c6 : bytesIn H7 (.sl b6 0 16384 16384) m6' := .whole b67 l6.symm (Nat.le_refl _)
  have c7 : bytesIn H7 (.sl b7 0 16384 16384) m7' := .whole g7 l7.symm (Nat.le_refl _)
  simp only [go_sem]
  refine awp_step dr6 (by decide +kernel) ?_
  simp only [go_sem, a71, hr, List.length_map, take_map_all hr]
  refine line_ok _ m1' regs hr 50 (by decide) _ _ _ c1 ?_
  intro A1 p1 hp1 wa1 oa1
  have i1 := h7.mono hp1 wa1 oa1
  have z1 := i1.i.x1
  simp only [go_sem, z1, hr, List.length_map, take_map_all hr]
  refine line_ok _ m3' regs hr 50 (by decide) _ _ _ (c3.mono (n := m7) (by simp [AV.ok]; omega) oa1) ?_
  intro A2 p2 hp2 wa2 oa2
  have i2 := i1.mono hp2 wa2 oa2
  have z2 := i2.i.x1
  have q1 : n + 1 < p2 := by omega
  simp only [go_sem, z2, hr, List.length_map, take_map_all hr, q1]
  have sa := sprites_len m1' regs 50
  have sb := sprites_len m3' regs 50
  have sc := sprites_len m6' regs 50
  have sd := sprites_len m7' regs 50
  rw [show decide (8 < (hitsS m3' regs 50).length) = false by rw [decide_eq_false_iff_not]; omega]
  generalize decide (8 < (hitsS m1' regs 50).length) = ova
  generalize (spritesS m1' regs 50).m = ma
  generalize (spritesS m3' regs 50).m = mb
  generalize (spritesS m1' regs 50).c = ra at fa sa ⊢
  generalize (spritesS m3' regs 50).c = rb at fa sb ⊢
  have la := rowB_len sa ova ma
  have lb := rowB_len sb false mb
  rw [rowB_new _ _ sa, rowB_new _ _ sb]
  refine ⟨la, by simp, lb, by simp, ?_⟩
  refine awp_gen (fun V => V.wf (p2 + 2) ∧ V p2 = some ⟨(rowB ra ova ma).cells, 39, false⟩ ∧ V (p2 + 1) = some ⟨(rowB rb false mb).cells, 39, false⟩ ∧ ∀ k, k < p2 → V k = A2 k) (two_rows (n := 0) (H := A2) wa2 (fun _ _ => rfl) ra rb ova false ma mb zrow_ok) ?_
  rintro V ⟨vw, va, vb, vo⟩
  have iV := i2.mono (m' := p2 + 2) (by omega) vw vo
  have zV := iV.i.x1
  have oV : ∀ k, k < m7 → V k = H7 k := fun k hk => by rw [vo k (by omega), oa2 k (by omega), oa1 k hk]
  refine awp_step dr6 (by decide +kernel) ?_
  simp only [go_sem, zV, hr, List.length_map, take_map_all hr]
  refine line_ok _ m6' regs hr 50 (by decide) _ _ _ (c6.mono (n := m7) (by simp [AV.ok]; omega) oV) ?_
  intro A3 p3 hp3 wa3 oa3
  have i3 := iV.mono hp3 wa3 oa3
  have z3 := i3.i.x1
  simp only [go_sem, z3, hr, List.length_map, take_map_all hr]
  refine line_ok _ m7' regs hr 50 (by decide) _ _ _ (c7.mono (n := m7) (by simp [AV.ok]; omega) (fun k hk => by rw [oa3 k (by omega), oV k hk])) ?_
  intro A4 p4 hp4 wa4 oa4
  have i4 := i3.mono hp4 wa4 oa4
  have z4 := i4.i.x1
  have q4 : n + 1 < p4 := by omega
  simp only [go_sem, z4, hr, List.length_map, take_map_all hr, q4]
  rw [show decide (8 < (hitsS m6' regs 50).length) = false by rw [decide_eq_false_iff_not]; omega, show decide (8 < (hitsS m7' regs 50).length) = false by rw [decide_eq_false_iff_not]; omega]
  generalize (spritesS m6' regs 50).m = mc
  generalize (spritesS m7' regs 50).m = md
  generalize (spritesS m6' regs 50).c = rc at fb sc ⊢
  generalize (spritesS m7' regs 50).c = rd at fb sd ⊢
  have lc := rowB_len sc false mc
  have ld := rowB_len sd false md
  rw [rowB_new _ _ sc, rowB_new _ _ sd]
  refine ⟨lc, by simp, ld, by simp, ?_⟩
  refine awp_gen (fun U => U.wf (p4 + 2) ∧ U p4 = some ⟨(rowB rc false mc).cells, 39, false⟩ ∧ U (p4 + 1) = some ⟨(rowB rd false md).cells, 39, false⟩ ∧ ∀ k, k < p4 → U k = A4 k) (two_rows (n := 0) (H := A4) wa4 (fun _ _ => rfl) rc rd false false mc md zrow_ok) ?_
  rintro U ⟨uw, uc, ud, uo⟩
  have ua : U p2 = some ⟨(rowB ra ova ma).cells, 39, false⟩ := by rw [uo _ (by omega), oa4 _ (by omega), oa3 _ (by omega)]; exact va
  have ub : U (p2 + 1) = some ⟨(rowB rb false mb).cells, 39, false⟩ := by rw [uo _ (by omega), oa4 _ (by omega), oa3 _ (by omega)]; exact vb
  have uold : ∀ k, k < n → U k = H k := fun k hk => by rw [uo k (by omega)]; exact i4.i.old k hk
  refine awp_seqF (S := Unit) (fun _ => [(11, .pt p2 0), (12, .pt (p2 + 1) 0), (13, .pt p4 0), (14, .pt (p4 + 1) 0)]) (fun _ => U) (fun _ => p4 + 2) (fun _ => True) (fun _ _ => ⟨uw, Env.okAt_of2 (by simp [AV.ok]; omega)⟩) ?_ ?_
  · refine awp_step dr6 (by decide +kernel) ?_
    simp only [go_sem]
    refine awp_block ?_
    refine awp_loopF (S := Nat) (fun j => [(11, .pt p2 0), (12, .pt (p2 + 1) 0), (13, .pt p4 0), (14, .pt (p4 + 1) 0), (15, .i64 j)]) (fun _ => U) (fun _ => p4 + 2) (fun j => j ≤ 256) (fun j => 256 - j)
      (fun j _ => ⟨uw, Env.okAt_of2 (by simp [AV.ok]; omega)⟩) ?_ 0 (Nat.zero_le _) (by repeat (first | exact Env.le_nil _ | refine Env.le_cons rfl ?_)) (fun _ _ => rfl) rfl
    intro j hj
    refine awp_step dr6 (by decide +kernel) ?_
    simp only [go_sem]
    refine ⟨fun hlt => ?_, fun hlt => ?_⟩
    · have hj' : j < 256 := by omega
      have wj : wrap64 ((j : Int) + 1) = ((j + 1 : Nat) : Int) := by rw [wrap_id _ (by omega) (by omega)]; omega
      have hj258 : j < 258 := by omega
      have hjI : (j : Int) < 256 := by omega
      have da := rowB_dot sa ova ma hj'
      have db := rowB_dot sb false mb hj'
      have dc := rowB_dot sc false mc hj'
      have dd := rowB_dot sd false md hj'
      refine awp_ev dr6 (by decide +kernel) ?_
      simp only [go_sem, ua, ub, uc, ud, la, lb, lc, ld, da, db, dc, dd, hj', hj258, hjI, wj]
      have go : ∀ e : Env, Env.le [(11, .pt p2 0), (12, .pt (p2 + 1) 0), (13, .pt p4 0), (14, .pt (p4 + 1) 0), (15, .i64 ((j + 1 : Nat) : Int))] e → Go.Ab.Ends (fun j : Nat => [(11, AV.pt p2 0), (12, AV.pt (p2 + 1) 0), (13, AV.pt p4 0), (14, AV.pt (p4 + 1) 0), (15, AV.i64 (j : Int))]) (fun _ => U) (fun _ => p4 + 2) (fun s' => 256 - s' < 256 - j ∧ s' ≤ 256) (p4 + 2) e U (p4 + 2) := fun e he =>
        Go.Ab.Ends.mk (j + 1) ⟨by omega, by omega⟩ he (fun _ _ => rfl) (Nat.le_refl _) (Nat.le_refl _)
      have ga : (ra.getD j 0#8 != 0#8) = true → (rb.getD j 0#8 != ra.getD j 0#8) = true → False := fun x y => by
        rw [fa j (by simpa using x)] at y; simp at y
      have gd : (rd.getD j 0#8 != 0#8) = true → (rc.getD j 0#8 != rd.getD j 0#8) = true → False := fun x y => by
        rw [fb j (by simpa using x)] at y; simp at y
      exact ⟨fun x => ⟨fun y => (ga x y).elim, fun _ => ⟨fun x2 => ⟨fun y2 => (gd x2 y2).elim, fun _ => go _ (by repeat (first | exact Env.le_nil _ | refine Env.le_cons rfl ?_))⟩, fun _ => go _ (by repeat (first | exact Env.le_nil _ | refine Env.le_cons rfl ?_))⟩⟩, fun _ => ⟨fun x2 => ⟨fun y2 => (gd x2 y2).elim, fun _ => go _ (by repeat (first | exact Env.le_nil _ | refine Env.le_cons rfl ?_))⟩, fun _ => go _ (by repeat (first | exact Env.le_nil _ | refine Env.le_cons rfl ?_))⟩⟩
    · exact Ends.mk () trivial (by repeat (first | exact Env.le_nil _ | refine Env.le_cons rfl ?_)) (fun _ _ => rfl) (Nat.le_refl _) (Nat.le_refl _)
  rintro - -
  refine awp_ev dr6 (by decide +kernel) ?_
  simp only [go_sem, ub, uc, ud, lb, lc, ld, rowB_over sb, rowB_over sc, rowB_over sd, Nat.reduceLT]
  exact Fin.back wf h uold rfl
end Go.Proofs.Joy
namespace Go.Proofs.Joy
open Go.Ab Go.Proofs

set_option maxHeartbeats 1000000
set_option maxRecDepth 20000

theorem names_walk (H : Heap) (n : Nat) (K : AV → Heap → Nat → Prop) (h : K (.bo true) H n) : ACalls Try.prog 3 [] H n K := by
  refine ACalls.of_awp Try.func3 rfl (by decide +kernel) (show 0 ≤ 74 by decide) (by simp) fun wf => ?_
  refine awp_step dr0 (by decide +kernel) ?_
  simp only [go_sem, Try.f3]
  refine awp_step dr0 (by decide +kernel) ?_
  simp only [go_sem]
  rw [rep_u8, show List.replicate 16384 0#8 = zeroL from rfl]
  have hz := zeroL_len
  refine awp_gen (fun X => X.wf (n + 1) ∧ X n = some ⟨zeroL.map .u8, 5, false⟩ ∧ ∀ k, k < n → X k = H k) ⟨Heap.wf_upd wf map_u8_ok, Heap.upd_same _ _ _, fun k hk => Heap.upd_ne _ _ (by omega)⟩ ?_
  rintro X ⟨xw, x0, xo⟩
  have hbX : bytesIn X (.sl n 0 16384 16384) zeroL := .whole x0 hz.symm (Nat.le_refl _)
  have e1 : ((hitsS zeroL regsA 1).take 8).length = 8 := by rw [List.length_take, hitsZ1]; rfl
  have e2 : decide (8 < (hitsS zeroL regsA 1).length) = true := by rw [hitsZ1]; rfl
  have e3 : ((hitsS zeroL regsA 0).take 8).length = 0 := by rw [hitsZ0]; rfl
  have e4 : decide (8 < (hitsS zeroL regsA 0).length) = false := by rw [hitsZ0]; rfl
  have e5 : ((hitsS zeroL regsA 192).take 8).length = 0 := by rw [hitsZ2]; rfl
  have e6 : decide (8 < (hitsS zeroL regsA 192).length) = false := by rw [hitsZ2]; rfl
  have v8 : ∀ q, intsV q 8 = .su q 0 8 1 := fun _ => rfl
  have v0 : ∀ q, intsV q 0 = .sn := fun _ => rfl
  refine awp_step dr0 (by decide +kernel) ?_
  simp only [go_sem]
  refine on_ok _ zeroL regsA rfl 1 (by decide) _ _ _ hbX ?_
  intro q1 H1 m1 hm1 w1 o1 _
  rw [e1, e2, v8]
  simp only [go_sem]
  have hb1 := hbX.mono (n := n + 1) (by simp [AV.ok]) o1
  refine awp_step dr0 (by decide +kernel) ?_
  simp only [go_sem]
  refine on_ok _ zeroL regsA rfl 0 (by decide) _ _ _ hb1 ?_
  intro q2 H2 m2 hm2 w2 o2 _
  rw [e3, e4, v0]
  simp only [go_sem]
  have hb2 := hb1.mono (n := n + 1) (by simp [AV.ok]) (fun i hi => o2 i (by omega))
  refine awp_step dr0 (by decide +kernel) ?_
  simp only [go_sem]
  refine on_ok _ zeroL regsA rfl 192 (by decide) _ _ _ hb2 ?_
  intro q3 H3 m3 hm3 w3 o3 _
  rw [e5, e6, v0]
  simp only [go_sem]
  refine awp_ev dr0 (by decide +kernel) ?_
  simp only [go_sem]
  refine alive_ok _ _ _ ?_
  simp only [go_sem]
  refine height_ok [0#8, 0#8, 0#8, 0#8, 0#8, 0#8, 0#8, 0#8, 0#8, 0#8, 0#8] rfl _ _ _ ?_
  rw [show heightS [0#8, 0#8, 0#8, 0#8, 0#8, 0#8, 0#8, 0#8, 0#8, 0#8, 0#8] = 8 from by decide]
  simp only [go_sem]
  refine height_ok [0#8, 1#8, 0#8, 0#8, 0#8, 0#8, 0#8, 0#8, 0#8, 0#8, 0#8] rfl _ _ _ ?_
  rw [show heightS [0#8, 1#8, 0#8, 0#8, 0#8, 0#8, 0#8, 0#8, 0#8, 0#8, 0#8] = 16 from by decide]
  simp only [go_sem]
  refine height_ok [0#8, 2#8, 0#8, 0#8, 0#8, 0#8, 0#8, 0#8, 0#8, 0#8, 0#8] rfl _ _ _ ?_
  rw [show heightS [0#8, 2#8, 0#8, 0#8, 0#8, 0#8, 0#8, 0#8, 0#8, 0#8, 0#8] = 16 from by decide]
  simp only [go_sem]
  refine height_ok [0#8, 3#8, 0#8, 0#8, 0#8, 0#8, 0#8, 0#8, 0#8, 0#8, 0#8] rfl _ _ _ ?_
  rw [show heightS [0#8, 3#8, 0#8, 0#8, 0#8, 0#8, 0#8, 0#8, 0#8, 0#8, 0#8] = 32 from by decide]
  simp only [go_sem]
  exact Fin.back wf h (fun k hk => by rw [o3 k (by omega), o2 k (by omega), o1 k (by omega), xo k hk]) rfl
end Go.Proofs.Joy
namespace Go.Proofs.Joy
open Go.Ab Go.Proofs

def shI : AK := .one (.k (.int .i64))
def shB : AK := .one (.k (.int .u8))
def shR : AK := .ag ((List.replicate 11 (EK.int .u8)).map .k)
def sh3 : AK := .ag ([.int .u8, .int .u8, .int .u8].map .k)
def shPic : AK := .ag [.s 36 [.int .u8, .int .u8, .int .u8], .s 5 [.int .u8]]
theorem FitsR_u8s : ∀ {k : Nat} {l : List AV}, FitsR (List.replicate k (.int .u8)) l → ∃ bs : List (BitVec 8), bs.length = k ∧ l = bs.map .u8
  | 0, [], _ => ⟨[], rfl, rfl⟩
  | 0, _ :: _, h => by have := h.1; simp [fits] at this
  | k + 1, [], h => by have := h.1; simp [List.replicate_succ, fits] at this
  | k + 1, v :: l, h => by
    have h1 := h.1
    rw [List.replicate_succ] at h1
    simp only [fits, Bool.and_eq_true] at h1
    obtain ⟨bs, hl, rfl⟩ := FitsR_u8s (k := k) (l := l) ⟨h1.2, fun x hx => h.2 x (List.mem_cons_of_mem _ hx)⟩
    match v, h1.1 with
    | .u8 x, _ => exact ⟨x :: bs, by simp [hl], rfl⟩
theorem FitsR_3 {l : List AV} (h : FitsR [.int .u8, .int .u8, .int .u8] l) : ∃ e : B3, l = [.u8 e.1, .u8 e.2.1, .u8 e.2.2] := by
  match l, h.1 with
  | [.u8 a, .u8 b, .u8 c], _ => exact ⟨(a, b, c), rfl⟩
theorem pic_args {H : Heap} {v : AV} (h : fitA H shPic v) : ∃ p q xs ts, v = .ag [p, q] ∧ threesIn H p xs ∧ bytesIn H q ts := by
  obtain ⟨l, rfl, hl⟩ := h
  match l, hl with
  | [p, q], ⟨h1, h2, _⟩ =>
    obtain ⟨z, b, cap, xs, el, hp, hb, hm⟩ := fitL_slice (fun (x : B3) => [AV.u8 x.1, .u8 x.2.1, .u8 x.2.2]) (fun l hl => FitsR_3 hl) h1
    refine ⟨p, q, xs, ?_⟩
    have hx : threesIn H p xs := by
      rcases h1 with rfl | ⟨b2, len, cap2, es, el2, rfl, c1, c2, c3, c4⟩
      · have e0 : xs = [] := by
          unfold slz at hp
          split at hp
          · rename_i hz; exact List.eq_nil_of_length_eq_zero hz.2
          · cases hp
        subst e0
        exact .inl ⟨rfl, rfl⟩
      · unfold slz at hp
        split at hp
        · cases hp
        · rename_i hz
          simp only [AV.sl.injEq] at hp
          obtain ⟨rfl, -, rfl, rfl⟩ := hp
          have hz2 : z = false ∨ 0 < xs.length := by
            cases z
            · exact .inl rfl
            · right; simp only [true_and] at hz; omega
          exact .inr (.inl ⟨b2, cap2, el, true, rfl, c1, hb hz2⟩)
    rcases h2 with rfl | ⟨b2, len, cap2, es, el2, rfl, c1, c2, c3, c4⟩
    · exact ⟨[], rfl, hx, .inl ⟨rfl, rfl⟩⟩
    · have : FitsR (List.replicate len (.int .u8)) es := by
        have e : ∀ k, (List.replicate k [EK.int .u8]).flatten = List.replicate k (EK.int .u8) := fun k => by
          induction k with
          | zero => rfl
          | succ k ih => rw [List.replicate_succ, List.flatten_cons, ih, List.replicate_succ]; rfl
        rw [← e]; exact c3
      obtain ⟨ts, hts, rfl⟩ := FitsR_u8s this
      exact ⟨ts, rfl, hx, .whole c4 hts.symm c1⟩
theorem names_all (H : Heap) (n : Nat) (L : List AV) (_ : RO H) (_ : H.wf n) (_ : ∀ x ∈ L, x.ok n = true) (hf : fitAs H [] L) : ACalls Try.prog 3 L H n fun v _ _ => v = .bo true := by
  match L, hf with
  | [], _ => exact names_walk _ _ _ rfl
theorem on_all (H : Heap) (n : Nat) (L : List AV) (_ : RO H) (_ : H.wf n) (_ : ∀ x ∈ L, x.ok n = true) (hf : fitAs H [shPic, shR, shI] L) : ACalls Try.prog 4 L H n fun v _ _ => v = .bo true := by
  match L, hf with
  | [a, b, c], ⟨h1, h2, h3, _⟩ =>
    obtain ⟨p, q, xs, ts, rfl, hp, hq⟩ := pic_args h1
    obtain ⟨l, rfl, hl⟩ := fitA_flat h2
    obtain ⟨rs, hr, rfl⟩ := FitsR_u8s hl
    obtain ⟨x, rfl, hx⟩ := fitA_int h3
    exact on_walk _ _ _ _ _ hr _ hx _ _ _ hp hq rfl
theorem ends_all (H : Heap) (n : Nat) (L : List AV) (_ : RO H) (_ : H.wf n) (_ : ∀ x ∈ L, x.ok n = true) (hf : fitAs H [shPic, shR, shI] L) : ACalls Try.prog 7 L H n fun v _ _ => v = .bo true := by
  match L, hf with
  | [a, b, c], ⟨h1, h2, h3, _⟩ =>
    obtain ⟨p, q, xs, ts, rfl, hp, hq⟩ := pic_args h1
    obtain ⟨l, rfl, hl⟩ := fitA_flat h2
    obtain ⟨rs, hr, rfl⟩ := FitsR_u8s hl
    obtain ⟨x, rfl, hx⟩ := fitA_int h3
    exact ends_walk _ _ _ _ _ hr _ hx _ _ _ hp hq rfl
theorem moves_all (H : Heap) (n : Nat) (L : List AV) (_ : RO H) (_ : H.wf n) (_ : ∀ x ∈ L, x.ok n = true) (hf : fitAs H [shPic, shR, shB] L) : ACalls Try.prog 5 L H n fun v _ _ => v = .bo true := by
  match L, hf with
  | [a, b, c], ⟨h1, h2, h3, _⟩ =>
    obtain ⟨p, q, xs, ts, rfl, hp, hq⟩ := pic_args h1
    obtain ⟨l, rfl, hl⟩ := fitA_flat h2
    obtain ⟨rs, hr, rfl⟩ := FitsR_u8s hl
    obtain ⟨x, rfl⟩ := fitA_u8 h3
    exact moves_walk _ _ _ _ _ hr _ _ _ _ hp hq rfl
theorem first_all (H : Heap) (n : Nat) (L : List AV) (_ : RO H) (_ : H.wf n) (_ : ∀ x ∈ L, x.ok n = true) (hf : fitAs H [shPic, shR, sh3] L) : ACalls Try.prog 6 L H n fun v _ _ => v = .bo true := by
  match L, hf with
  | [a, b, c], ⟨h1, h2, h3, _⟩ =>
    obtain ⟨p, q, xs, ts, rfl, hp, hq⟩ := pic_args h1
    obtain ⟨l, rfl, hl⟩ := fitA_flat h2
    obtain ⟨rs, hr, rfl⟩ := FitsR_u8s hl
    obtain ⟨l3, rfl, hl3⟩ := fitA_flat h3
    obtain ⟨e, rfl⟩ := FitsR_3 hl3
    exact first_walk _ _ _ _ _ hr _ _ _ _ hp hq rfl
end Go.Proofs.Joy
