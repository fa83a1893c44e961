import Derived.Test.YtglkkfobkncbbaaJoyAbApp
namespace Go.Ab

theorem append_fits {P : Program} {t t' ty : TypeId} {a : AppT} {B off sl sc l : Nat} {X : Value} {new : List Value} {w : World} {c : Array Value} {el : TypeId} {fz : Nat × Nat} (ha : appT P t = some a) (hni : notIntT P t' = true)
    (hfit : sl + l ≤ sc) (hlen : ∀ w, (Builtin.lenOf X).run P w = .ok l w) (hnew : (Builtin.firstCells a.e l X).run P w = .ok new.toArray w) (hn : new.length = l * a.e)
    (hc : w.heap[B]? = some (.cells c el fz)) (hsz : off + (sl + l) * a.e ≤ c.size) (hf : ∀ k, k < c.size → freeAt fz k) (hone : ∀ v ∈ new, vOne v = true) :
    (Builtin.append_ #[t, t'] ty #[.slice (some ⟨B, off, none⟩) sl sc, X]).run P w = .ok (.slice (some ⟨B, off, none⟩) (sl + l) sc) (setRow w B (splice c.toList (off + sl * a.e) new).toArray el fz) := by
  obtain ⟨hel, hz, hzl, he0, hby⟩ := appT_spec ha
  obtain ⟨hu, hs, ti, hti, hbt⟩ := elT_spec hel
  obtain ⟨d', hd0, hdi⟩ := notIntT_spec hni
  have hst := run_storeCells (P := P) (off := off + sl * a.e) new 0 w c hc (by rw [hn]; rw [Nat.add_mul] at hsz; omega) hf hone
  simp only [Nat.add_zero] at hst
  simp only [Builtin.append_, List.getElem?_toArray, List.getElem?_cons_zero, List.getElem?_cons_succ]
  rw [run_ok_bind (run_underlying hu w)]
  dsimp only
  rw [run_ok_bind (hs w), run_ok_bind (run_underlying hd0 w)]
  cases d' <;> first | (simp [isIntD] at hdi; done) | skip
  all_goals
    simp only [pure_bind, Bool.false_eq_true, if_false, Bool.not_false, if_true]
    rw [run_ok_bind (hlen w), if_pos hfit, run_ok_bind hnew, add_addr, run_ok_bind hst]
    rfl

/-- The row grew in its own place, under a new name; the old one is given up. -/
theorem HRel.regrow {m : NM} {H : Heap} {n : Nat} {w : World} (h : HRel m H n w) {b : Nat} {blk : Blk} (hb : H b = some blk) (hro : blk.ro = false) {c c' : Array Value} {fz : Nat × Nat} {cells : List AV}
    (hc : w.heap[m.ρ b]? = some (.cells c blk.elem fz)) (hk : m.κ b = c.size) (hf : ∀ k, k < c.size → freeAt fz k) (hsz : c'.size = c.size)
    (hv : ∀ (j : Nat) (v : AV), cells[j]? = some v → c'[j]? = some (AV.toV m v)) (hok : ∀ v ∈ cells, v.ok n = true ∧ v.one = true) :
    HRel (m.new n (m.ρ b) (m.κ b)) ((H.upd b none).upd n (some ⟨cells, blk.elem, false⟩)) (n + 1) (setRow w (m.ρ b) c' blk.elem fz) ∧
      Fr m H w (m.new n (m.ρ b) (m.κ b)) ((H.upd b none).upd n (some ⟨cells, blk.elem, false⟩)) (setRow w (m.ρ b) c' blk.elem fz) := by
  have hlt := lt_of_heap hc
  have hag := NM.new_agree m n (m.ρ b) (m.κ b)
  have hold : ∀ i x, ((H.upd b none).upd n (some ⟨cells, blk.elem, false⟩)) i = some x → i ≠ n → i ≠ b ∧ H i = some x := fun i x hi hne => by
    rw [Heap.upd_ne _ _ hne] at hi
    by_cases hib : i = b
    · subst hib; rw [Heap.upd_same] at hi; simp at hi
    · rw [Heap.upd_ne _ _ hib] at hi; exact ⟨hib, hi⟩
  refine ⟨⟨?_, ?_, ?_, ?_⟩, ⟨rfl, rfl, rfl, by simp [setRow], ?_, ?_⟩⟩
  · intro i x hi
    by_cases hn : i = n
    · omega
    · have := h.dom i x (hold i x hi hn).2; omega
  · intro i x hi
    by_cases hn : i = n
    · subst hn
      rw [Heap.upd_same] at hi
      simp only [Option.some.injEq] at hi; subst hi
      refine ⟨c', fz, ?_, ?_, fun _ k hk' => hf k (by omega), ?_⟩
      · simp only [NM.new, if_true]; rw [heap_setRow hlt, if_pos rfl]
      · simp only [NM.new, if_true]; omega
      · intro j v hj; rw [hv j v hj, AV.toV_agree hag v (hok v (List.mem_of_getElem? hj)).1]
    · obtain ⟨hib, hi'⟩ := hold i x hi hn
      obtain ⟨ci, fi, hci, hki, hfi, hvi⟩ := h.blk i x hi'
      refine ⟨ci, fi, ?_, ?_, hfi, ?_⟩
      · simp only [NM.new, if_neg hn]
        rw [heap_setRow hlt, if_neg (fun e => h.inj b i blk x hb hi' (fun e' => hib e'.symm) hro e)]
        exact hci
      · simp only [NM.new, if_neg hn]; exact hki
      · intro j v hj; rw [hvi j v hj, AV.toV_agree hag v (h.ok i x hi' v (List.mem_of_getElem? hj)).1]
  · intro i j bi bj hi hj hne hr
    by_cases hni : i = n
    · subst hni
      obtain ⟨hjb, hj'⟩ := hold j bj hj (fun e => hne e.symm)
      simp only [NM.new, if_true]; rw [if_neg (fun e => hne e.symm)]
      exact h.inj b j blk bj hb hj' (fun e => hjb e.symm) hro
    · obtain ⟨hib, hi'⟩ := hold i bi hi hni
      by_cases hnj : j = n
      · subst hnj; simp only [NM.new, if_true]; rw [if_neg hni]
        exact fun e => h.inj b i blk bi hb hi' (fun e => hib e.symm) hro e.symm
      · simp only [NM.new]; rw [if_neg hni, if_neg hnj]; exact h.inj i j bi bj hi' (hold j bj hj hnj).2 hne hr
  · intro i x hi v hv'
    by_cases hn : i = n
    · subst hn
      rw [Heap.upd_same] at hi
      simp only [Option.some.injEq] at hi; subst hi
      exact ⟨AV.ok_mono (by omega) v (hok v hv').1, (hok v hv').2⟩
    · have := h.ok i x (hold i x hi hn).2 v hv'
      exact ⟨AV.ok_mono (by omega) v this.1, this.2⟩
  · intro k hk' hne
    rw [heap_setRow hlt, if_neg (hne b blk hb hro)]
  · intro i x hi
    by_cases hn : i = n
    · subst hn; exact .inl ⟨b, blk, hb, fun _ => hro, by simp [NM.new]⟩
    · exact .inl ⟨i, x, (hold i x hi hn).2, id, by simp [NM.new, hn]⟩

theorem NM.agree_new' (m : NM) (n id size : Nat) : NM.agree n m (m.new n id size) := NM.new_agree m n id size

theorem append_sound {P : Program} {env : Env} {H : Heap} {o : Oper} {s x : Operand} {t t' : TypeId} {n : Nat} {K : AV → Heap → Nat → Prop} (ho : o.op = .call ⟨.builtin .append, #[s, x], #[t, t']⟩)
    (h : appendK P H n t t' (opv env s) (opv env x) K) :
    ∀ (m : NM) (N : Nat) (ac : Act) (w : World), HRel m H n w → ERel m N n env ac → ∃ v H' n', K v H' n' ∧ OpRes m H n w v H' n' ((execOp ac.eval o).run P w) := by
  intro m N ac w hH hE
  generalize hs : opv env s = vs at h
  generalize hx : opv env x = vx at h
  unfold appendK at h
  obtain ⟨hni, h⟩ := h
  split at h <;> try exact h.elim
  rename_i a ha
  obtain ⟨hst, h⟩ := h
  obtain ⟨hel, hz, hzl, he0, hby⟩ := appT_spec ha
  obtain ⟨l, new, h1, hlen, hxj, hlenOf, hsrc⟩ := srcK_spec (P := P) h (fun q hq => by rw [hq] at hst; exact hst)
  clear h
  have h := h1
  clear h1
  have ex := (eval_opv hE x (by rw [hx]; exact hxj)).1
  rw [hx] at ex
  have hsj : vs ≠ .junk := by rintro rfl; exact h
  have es := eval_opv hE s (by rw [hs]; exact hsj)
  rw [hs] at es
  have e3 : (#[s, x].map ac.eval) = #[ac.eval s, ac.eval x] := by simp
  have hnewok := (hsrc m n w hH).1
  have hnew : ∀ w, HRel m H n w → (Builtin.firstCells a.e l (AV.toV m vx)).run P w = .ok (new.map (AV.toV m)).toArray w := fun w hw => by
    have := (hsrc m n w hw).2 l (Nat.le_refl _)
    rwa [List.take_of_length_le (by omega)] at this
  have fin : ∀ {v : AV} {H' : Heap} {n' : Nat} {m' : NM} {w' : World} {r : Value}, K v H' n' → HRel m' H' n' w' → n ≤ n' → NM.agree n m m' → Fr m H w m' H' w' →
      (Builtin.append_ #[t, t'] o.type #[AV.toV m vs, AV.toV m vx]).run P w = .ok r w' → r = AV.toV m' v → v.ok n' = true → ∃ v H' n', K v H' n' ∧ OpRes m H n w v H' n' ((execOp ac.eval o).run P w) := by
    intro v H' n' m' w' r hK h1 h2 h3 h4 h5 h6 h7
    refine ⟨v, H', n', hK, m', w', h1, h2, h3, h4, .inl ⟨r, call_append ho ?_, fun _ => ⟨h6, h7⟩⟩⟩
    rw [e3, es.1, ex]; exact h5
  cases vs <;> simp only at h <;> try exact h.elim
  case sn =>
    rcases Nat.eq_zero_or_pos l with h0 | hpos
    · have hK := h.1 h0
      subst h0
      refine fin hK hH (Nat.le_refl _) (NM.agree.refl _ _) (Fr.refl _ _ _) (r := .slice none 0 0) ?_ rfl rfl
      obtain ⟨hu, hsz, _⟩ := elT_spec hel
      obtain ⟨d', hd0, hdi⟩ := notIntT_spec hni
      have hn0 : new = [] := List.length_eq_zero_iff.1 (by omega)
      have hnw := hnew w hH
      rw [hn0] at hnw
      simp only [Builtin.append_, AV.toV, List.getElem?_toArray, List.getElem?_cons_zero, List.getElem?_cons_succ]
      rw [run_ok_bind (run_underlying hu w)]
      dsimp only
      rw [run_ok_bind (hsz w), run_ok_bind (run_underlying hd0 w)]
      cases d' <;> first | (simp [isIntD] at hdi; done) | skip
      all_goals
        simp only [pure_bind, Bool.false_eq_true, if_false, Bool.not_false, if_true]
        rw [run_ok_bind (hlenOf w m), if_pos (by omega), run_ok_bind hnw]
        rfl
    · obtain ⟨hsm, hK⟩ := h.2 hpos
      obtain ⟨m', w', r, hrun, hH', hag, hF, hr⟩ := append_new (ty := o.type) (base := none) (sl := 0) (sc := 0) (old := []) hH ha hni (by omega) (by omega) (fun w => hlenOf w m)
        (fun w _ => by simp [Builtin.firstCells, run_pure]) hnew (by simp) hlen (by simpa using hnewok)
      simp only [List.nil_append] at hH' hF
      refine fin hK hH' (by omega) hag hF hrun (by rw [hr, Nat.zero_add]) (by simp [AV.ok, he0])
  case sl b off sl c =>
    split at h <;> try exact h.elim
    rename_i blk hb
    obtain ⟨hfit, hin, hout⟩ := h
    have hold : ∀ w, HRel m H n w → (Builtin.firstCells a.e sl (.slice (some ⟨m.ρ b, off, none⟩) sl c)).run P w = .ok (((blk.cells.drop off).take (sl * a.e)).map (AV.toV m)).toArray w := fun w hw => by
      simp only [Builtin.firstCells]
      exact (hw.load_many (P := P) hb hfit).1
    have holdok := (hH.load_many (P := P) hb hfit).2
    rcases Nat.lt_or_ge c (sl + l) with hlt | hge
    · obtain ⟨hsm, hK⟩ := hout hlt
      obtain ⟨m', w', r, hrun, hH', hag, hF, hr⟩ := append_new (ty := o.type) (base := some ⟨m.ρ b, off, none⟩) (sl := sl) (sc := c) (old := (blk.cells.drop off).take (sl * a.e)) hH ha hni hlt hsm (fun w => hlenOf w m)
        hold hnew (by simp; omega) hlen (fun v hv => by
          rcases List.mem_append.1 hv with hv | hv
          · exact holdok v hv
          · exact hnewok v hv)
      exact fin hK hH' (by omega) hag hF hrun hr (by simp [AV.ok, he0])
    · obtain ⟨hro, hsz, hK⟩ := hin hge
      obtain ⟨cc, fz, hc, hk, hle, hf, hv⟩ := hH.row hb
      have hrun := append_fits (P := P) (t := t) (t' := t') (ty := o.type) (B := m.ρ b) (off := off) (sl := sl) (sc := c) (X := AV.toV m vx) (new := new.map (AV.toV m)) ha hni hge (fun w => hlenOf w m) (hnew w hH) (by simpa using hlen) hc (by omega) (hf hro)
        (fun y hy => by obtain ⟨z, hz, rfl⟩ := List.mem_map.1 hy; exact vOne_toV m (hnewok z hz).2)
      have hst := hH.store (P := P) (off := off + sl * a.e) hb hro (vs := new) (by rw [hlen]; rw [Nat.add_mul] at hsz; omega) hnewok
      obtain ⟨w', hr', hH', hF⟩ := hst
      have hsame := run_storeCells (P := P) (off := off + sl * a.e) (new.map (AV.toV m)) 0 w cc hc (by simp [hlen]; rw [Nat.add_mul] at hsz; omega) (hf hro) (fun y hy => by obtain ⟨z, hz, rfl⟩ := List.mem_map.1 hy; exact vOne_toV m (hnewok z hz).2)
      rw [hr'] at hsame
      simp only [Result.ok.injEq, true_and, Nat.add_zero] at hsame
      rw [← hsame] at hrun
      exact fin hK hH' (Nat.le_refl _) (NM.agree.refl _ _) hF hrun rfl (by have := es.2; simpa [AV.ok] using this)
  case su b off sl e =>
    split at h <;> try exact h.elim
    rename_i blk hb
    obtain ⟨rfl, rfl, hro, hel', hfit, hsm, hK⟩ := h
    obtain ⟨cc, fz, hc, hk, hle, hf, hv⟩ := hH.row hb
    have hfit' : 0 + sl * a.e ≤ blk.cells.length := by omega
    have hold : ∀ w, HRel m H n w → (Builtin.firstCells a.e sl (.slice (some ⟨m.ρ b, 0, none⟩) sl ((m.κ b - 0) / a.e))).run P w = .ok ((blk.cells.take (sl * a.e)).map (AV.toV m)).toArray w := fun w hw => by
      simp only [Builtin.firstCells]
      have := (hw.load_many (P := P) hb hfit').1
      rwa [List.drop_zero] at this
    have holdok := (hH.load_many (P := P) hb hfit').2
    rw [List.drop_zero] at holdok
    have hallok : ∀ v ∈ blk.cells.take (sl * a.e) ++ new, v.ok n = true ∧ v.one = true := fun v hv => by
      rcases List.mem_append.1 hv with hv | hv
      · exact holdok v hv
      · exact hnewok v hv
    rcases Nat.lt_or_ge ((m.κ b - 0) / a.e) (sl + l) with hlt | hge
    · obtain ⟨m', w', r, hrun, hH', hag, hF, hr⟩ := append_new (ty := o.type) (base := some ⟨m.ρ b, 0, none⟩) (sl := sl) (sc := (m.κ b - 0) / a.e) (old := blk.cells.take (sl * a.e)) hH ha hni hlt hsm (fun w => hlenOf w m)
        hold hnew (by simp; omega) hlen hallok
      have hle2 : ((H.upd b none).upd n (some ⟨blk.cells.take (sl * a.e) ++ new, a.el, false⟩)).le (H.upd n (some ⟨blk.cells.take (sl * a.e) ++ new, a.el, false⟩)) := fun i y hi => by
        by_cases hn : i = n
        · subst hn; rw [Heap.upd_same] at hi ⊢; exact ⟨y, hi, rfl, rfl, List.prefix_refl _⟩
        · rw [Heap.upd_ne _ _ hn] at hi ⊢
          by_cases hib : i = b
          · subst hib; rw [Heap.upd_same] at hi; simp at hi
          · rw [Heap.upd_ne _ _ hib] at hi; exact ⟨y, hi, rfl, rfl, List.prefix_refl _⟩
      exact fin hK (hH'.weaken hle2) (by omega) hag (hF.weaken hle2) hrun hr (by simp [AV.ok, he0])
    · have hcap : (sl + l) * a.e ≤ cc.size := by
        have := (Nat.le_div_iff_mul_le he0).1 hge
        omega
      have hone : ∀ y ∈ new.map (AV.toV m), vOne y = true := fun y hy => by obtain ⟨z, hz, rfl⟩ := List.mem_map.1 hy; exact vOne_toV m (hnewok z hz).2
      have hrun := append_fits (P := P) (t := t) (t' := t') (ty := o.type) (B := m.ρ b) (off := 0) (sl := sl) (sc := (m.κ b - 0) / a.e) (X := AV.toV m vx) (new := new.map (AV.toV m)) ha hni hge (fun w => hlenOf w m) (hnew w hH) (by simpa using hlen) hc (by omega) (hf hro) hone
      have hmul : (sl + l) * a.e = sl * a.e + l * a.e := Nat.add_mul _ _ _
      have hspl : 0 + sl * a.e + (new.map (AV.toV m)).length ≤ cc.toList.length := by simp [hlen]; omega
      have hG := hH.regrow hb hro (c' := (splice cc.toList (0 + sl * a.e) (new.map (AV.toV m))).toArray) (cells := blk.cells.take (sl * a.e) ++ new) hc hk (hf hro) (by simp only [List.size_toArray]; rw [splice_length hspl]; simp) (fun j v hj => by
        rw [List.getElem?_toArray, splice_get hspl]
        simp only [Nat.zero_add, List.length_map]
        by_cases h1 : j < sl * a.e
        · rw [if_pos h1, Array.getElem?_toList]
          rw [List.getElem?_append_left (by simp; omega), List.getElem?_take, if_pos h1] at hj
          exact hv j v hj
        · rw [if_neg h1]
          rw [List.getElem?_append_right (by simp; omega)] at hj
          have hlt2 : (blk.cells.take (sl * a.e)).length = sl * a.e := by simp; omega
          rw [hlt2] at hj
          have hj2 : j - sl * a.e < new.length := by
            rcases Nat.lt_or_ge (j - sl * a.e) new.length with h | h
            · exact h
            · rw [List.getElem?_eq_none h] at hj; simp at hj
          rw [if_pos (by omega), List.getElem?_map, hj]; rfl) hallok
      rw [hel'] at hG
      rw [hel'] at hrun
      refine fin hK hG.1 (by omega) (NM.new_agree _ _ _ _) hG.2 hrun ?_ (by simp [AV.ok, he0])
      simp [AV.toV, NM.new]

end Go.Ab
