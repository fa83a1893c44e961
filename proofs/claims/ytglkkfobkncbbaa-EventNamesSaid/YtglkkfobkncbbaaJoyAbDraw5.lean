import Derived.Test.YtglkkfobkncbbaaJoyAbDraw4
namespace Go.Ab

section
variable {P : Program} {N : Nat} {l : List Oper} {D : Draw} {k : Env → Heap → Nat → Prop} {m0 : NM} {H0 : Heap} {n0 : Nat} {w0 : World}
variable {pre rest r : List (Nat × List Nat)} {rd : RD} {ers : List ER} {fuel : Nat} {listed : Array Bool} {cs : List (Nat × (World → Prop))} {env : Env} {H : Heap} {n : Nat} {m : NM} {a : Act} {w : World}
variable {i : Nat} {ws : List Nat} {o : Oper}

theorem rel_none (h : HRel m H n w) : H n = none := by
  cases hx : H n with
  | none => rfl
  | some b => exact absurd (h.dom n b hx) (Nat.lt_irrefl n)

theorem early_stop {op : Op} {q} (h : earlyT P op = some q) : lightOp op = false ∧ isLoad op = false := by
  unfold earlyT at h
  split at h <;> first | exact ⟨rfl, rfl⟩ | simp at h

theorem drawOp_stop (hl : lightOp o.op = false) (hld : isLoad o.op = false) {kk : RD → Env → Heap → Nat → Prop} (h : drawOp P o i ws kk rd env H n) : evOp P env H n o.op (stopK P ws rd kk o.dst env) := by
  unfold drawOp at h
  split at h
  · rename_i ho; rw [ho] at hld; simp [isLoad] at hld
  · rw [if_neg (by simp [hl])] at h; exact h

/-- What was made ahead of its turn gets its name. -/
theorem adopt_step (hs : DrawSpec P N l D) (h : St P N l D m0 H0 n0 w0 pre ((i, ws) :: r) rd ers fuel listed cs env H n m a w) (hin : i ∈ ers.map (·.1)) (hk : drawK P l k ((i, ws) :: r) rd env H n) :
    ∃ (env' : Env) (H' : Heap) (n' : Nat) (m' : NM), drawK P l k r rd env' H' n' ∧ St P N l D m0 H0 n0 w0 (pre ++ [(i, ws)]) r rd (ers.filter fun s => s.1 != i) fuel listed cs env' H' n' m' a w := by
  obtain ⟨s, hsm, rfl⟩ := List.mem_map.1 hin
  obtain ⟨o, z, t, f, d, he⟩ := h.ersOk s hsm
  obtain ⟨hl, hld⟩ := early_stop he.early
  unfold drawK at hk
  simp only [he.op, he.guard] at hk
  have hev := early_ev he.early (drawOp_stop hl hld hk)
  obtain ⟨m', hm1, hm2, hag, hI', hE'⟩ := he.adopt h.inv h.erel
  have hmem : ∀ y, y ∈ (ers.filter fun q => q.1 != s.1).map (·.1) ↔ y ∈ ers.map (·.1) ∧ y ≠ s.1 := fun y => by
    simp only [List.mem_map, List.mem_filter, bne_iff_ne, ne_eq]
    constructor
    · rintro ⟨q, ⟨h1, h2⟩, rfl⟩; exact ⟨⟨q, h1, rfl⟩, h2⟩
    · rintro ⟨⟨q, h1, rfl⟩, h2⟩; exact ⟨q, ⟨h1, h2⟩, rfl⟩
  refine ⟨_, _, _, m', hev.2, by rw [h.ord]; simp, hI', hE', ?_, h.siz, h.closed, ?_, ?_, ?_, ?_, ?_, ?_⟩
  · intro x
    rw [h.lst x, hmem]
    simp only [List.map_append, List.map_cons, List.map_nil, List.mem_append, List.mem_singleton]
    constructor
    · rintro (e | e)
      · exact .inl (.inl e)
      · by_cases hx : x = s.1
        · exact .inl (.inr hx)
        · exact .inr ⟨e, hx⟩
    · rintro ((e | e) | e)
      · exact .inl e
      · exact .inr (e ▸ hin)
      · exact .inr e.1
  · have h1 := h.cnt
    rw [List.filter_cons_of_neg (by simpa using hin)] at h1
    refine Nat.le_trans (Nat.le_of_eq ?_) h1
    congr 1
    refine List.filter_congr fun p hp => ?_
    have hne : p.1 ≠ s.1 := fun e => h.head_not_r hs (List.mem_map.2 ⟨p, hp, e⟩)
    rw [Bool.eq_iff_iff]
    simp only [Bool.not_eq_true', List.contains_eq_mem, decide_eq_false_iff_not, hmem]
    exact ⟨fun h2 h3 => h2 ⟨h3, hne⟩, fun h2 h3 => h2 h3.1⟩
  · intro q hq
    simp only [List.mem_filter, bne_iff_ne, ne_eq] at hq
    have := h.ersIn q hq.1
    simp only [List.map_cons, List.mem_cons] at this
    exact this.resolve_left hq.2
  · intro q hq
    simp only [List.mem_filter, bne_iff_ne, ne_eq] at hq
    obtain ⟨o', z', t', f', d', hq'⟩ := h.ersOk q hq.1
    refine ⟨o', z', t', f', d', { hq' with free := fun j b hj => ?_ }⟩
    by_cases hn : j = n
    · subst hn; rw [hm2]; exact h.ersNe s hsm q hq.1 (fun e => hq.2 e.symm)
    · rw [hm1 j hn]; exact hq'.free j b (by rwa [Heap.upd_ne _ _ hn] at hj)
  · intro q hq q' hq' hne
    simp only [List.mem_filter] at hq hq'
    exact h.ersNe q hq.1 q' hq'.1 hne
  · intro p hp hpr
    have hip : s.1 ≠ p.1 := fun e => (h.head_not_r hs) (e ▸ hpr)
    rw [get_putE_ne (dst_ne hs he.op hp hip)]
    exact h.msk p hp (by simp only [List.map_cons]; exact List.mem_cons_of_mem _ hpr)
  · intro c hc
    refine (h.conds c hc).imp id fun ⟨h1, h2, t', adr, v, mc, nc, h3, h4, h5, h6, h7⟩ => ⟨h1, by simp only [List.map_append, List.mem_append]; exact .inl h2, t', adr, v, mc, nc, h3, h4, by omega, h6.trans hag h5, ?_⟩
    exact loadK_upd (rel_none h.inv.rel) h7

theorem wanted_none (hg : o.guard = none) (y : Nat → Option Bool) : Region.wanted o y = true := by simp [Region.wanted, hg]

/-- Whichever comes up: this one, or what may be made ahead of its turn. -/
theorem stop_step (hs : DrawSpec P N l D) (h : St P N l D m0 H0 n0 w0 pre ((i, ws) :: r) rd ers fuel listed cs env H n m a w) (ho : l[i]? = some o) (hne : i ∉ ers.map (·.1)) (hl : lightOp o.op = false) (hld : isLoad o.op = false)
    (hw : Region.wanted o (yielded l.toArray a.tmps) = true) (hk : drawOp P o i ws (drawK P l k r) rd env H n)
    (next : ∀ {f listed' cs' env' H' n' m' a' w'}, St P N l D m0 H0 n0 w0 (pre ++ [(i, ws)]) r rd ers f listed' cs' env' H' n' m' a' w' → f < fuel → drawK P l k r rd env' H' n' →
      wpAnyL P .any l.toArray (drawQ N k m0 H0 n0 w0) D.before f listed' cs' a' w')
    (again : ∀ {f listed' cs' ers' m' a' w'}, St P N l D m0 H0 n0 w0 pre ((i, ws) :: r) rd ers' f listed' cs' env H n m' a' w' → f < fuel →
      wpAnyL P .any l.toArray (drawQ N k m0 H0 n0 w0) D.before f listed' cs' a' w') :
    wpAnyL P .any l.toArray (drawQ N k m0 H0 n0 w0) D.before fuel listed cs a w := by
  obtain ⟨f, rfl, hcnt⟩ := h.cnt_head hne
  have hoA : l.toArray[i]? = some o := by simpa using ho
  have hr := h.head_ready hs ho hne
  have hlt := h.head_lt hs
  refine ⟨fun e => (by rw [e] at hr; cases hr), fun j hj => ?_⟩
  obtain ⟨hjlt, hje, q, hq, hqj⟩ := h.ready_rest hs hj
  by_cases hji : j = i
  · subst hji
    unfold wpOp
    simp only [hoA, hw, if_true]
    refine .inl (evOp_wp (drawOp_stop hl hld hk) h.inv.rel h.erel fun m' v H' n' w' x hK hx h1 h2 h3 h4 => ?_)
    obtain ⟨hchk, hnext⟩ := hK
    have hcond : ∀ c ∈ cs, D.before c.1 j = false → (∀ w, c.2 w) ∨ ((∃ o, l[c.1]? = some o ∧ isLoad o.op = true) ∧ c.1 ∈ pre.map (·.1) ∧ ∃ t adr v mc nc, (c.1, t, adr, v) ∈ rd ∧ c.2 = LC P mc nc t adr v ∧ nc ≤ n' ∧ NM.agree nc mc m' ∧ loadK P H' t adr (· = v)) := fun c hc hb =>
      (h.conds c hc).imp id fun ⟨⟨oc, hoc, hocl⟩, g2, t, adr, v, mc, nc, g3, g4, g5, g6, g7⟩ => by
        obtain ⟨p, hp, hpe⟩ := List.mem_map.1 g2
        have hpair := (h.pairL hs).2.1 p hp
        have := (pairOk_spec hpair (by rw [hpe]; exact hoc) ho (by rw [hpe]; exact hb)).2.2 hocl hl hld
        exact ⟨⟨oc, hoc, hocl⟩, g2, t, adr, v, mc, nc, g3, g4, by omega, g6.trans h3 g5, chk_mem hchk g3 (by rw [← hpe]; exact this)⟩
    refine ⟨fun c hc hb => ?_, next ⟨by rw [h.ord]; simp, h.inv.step h1 h2 h3 h4, (h.erel.agree h3 h2).putE (hs.dsts j o ho) hx, ?_, by simpa using h.siz, h.closed.set hs.anc hr, hcnt, ersIn_r hs h hne, ?_, h.ersNe, ?_, ?_⟩ (Nat.lt_succ_self f) hnext⟩
    · rcases hcond c hc hb with h1 | ⟨_, _, t, adr, v, mc, nc, _, e, g2, g3, g4⟩
      · exact h1 w'
      · rw [e]; exact ⟨m', H', n', h1, g2, g3, g4⟩
    · intro y
      rw [h.lst_set hlt y, h.lst y]
      simp only [List.map_append, List.map_cons, List.map_nil, List.mem_append, List.mem_singleton]
      constructor
      · rintro (e | e | e)
        · exact .inl (.inr e)
        · exact .inl (.inl e)
        · exact .inr e
      · rintro ((e | e) | e)
        · exact .inr (.inl e)
        · exact .inl e
        · exact .inr (.inr e)
    · intro s hsm
      obtain ⟨o', z, t, f, d, he⟩ := h.ersOk s hsm
      exact ⟨o', z, t, f, d, (he.step h4).put (dst_ne hs ho he.es (fun e => hne (List.mem_map.2 ⟨s, hsm, e.symm⟩))) _⟩
    · intro p hp hpr
      have hip : j ≠ p.1 := fun e => (h.head_not_r hs) (e ▸ hpr)
      rw [get_putE_ne (dst_ne hs ho hp hip)]
      exact h.msk p hp (by simp only [List.map_cons]; exact List.mem_cons_of_mem _ hpr)
    · intro c hc
      simp only [List.mem_filter, Bool.not_eq_true'] at hc
      refine (hcond c hc.1 hc.2).imp id fun ⟨g1, g2, g3⟩ => ⟨g1, by simp only [List.map_append, List.mem_append]; exact .inl g2, g3⟩
  · -- made ahead of its turn
    have hqr : q ∈ r := by
      rcases List.mem_cons.1 hq with rfl | hq
      · exact absurd hqj.symm hji
      · exact hq
    have hpair := (h.pairL hs).1 q hqr
    have hnb : D.before i q.1 = false := by
      cases hx : D.before i q.1
      · rfl
      · have := ready_anc hs.anc h.closed hj (x := i) (by rw [← hqj]; exact hx)
        rcases (h.lst i).1 this with e | e
        · exact absurd e (h.head_not_pre hs)
        · exact absurd e hne
    have hoj : l[j]? = some l[j] := List.getElem?_eq_getElem hjlt
    have hany := (pairOk_spec hpair ho (by rw [hqj]; exact hoj) hnb).2.1 hl hld
    simp only [List.any_eq_true, beq_iff_eq] at hany
    obtain ⟨p, hp, hpe⟩ := hany
    rw [hqj] at hpe
    obtain ⟨oj, hoj', hdst, hgd, ⟨⟨z, t, g⟩, het⟩, huni⟩ := hs.es p hp
    rw [hpe] at hoj'
    have hojA : l.toArray[j]? = some oj := by simpa using hoj'
    obtain ⟨m', w', h1, h2, h3, h4, h5⟩ := early_run het (a := a) h.inv.rel h.erel
    obtain ⟨hval, hok, hjk, hz⟩ := early_val het
    rcases h5 with ⟨x, hrun, hx⟩ | ⟨_, hbad⟩
    · obtain ⟨hxv, _⟩ := hx (hjk n)
      have hle : H.le (H.upd n (some ⟨z, t, false⟩)) := fun j b hj => ⟨b, by rw [Heap.upd_ne _ _ (fun e => by subst e; rw [rel_none h.inv.rel] at hj; cases hj)]; exact hj, rfl, rfl, List.prefix_refl _⟩
      have hrel : HRel m' H n w' := (h1.weaken hle).cut h.inv.rel.wf
      have hfr : Fr m H w m' H w' := h4.weaken hle
      have hge : w.heap.size ≤ m'.ρ n := by
        rcases h4.own n ⟨z, t, false⟩ (Heap.upd_same _ _ _) with ⟨y, by_, hy, _, e⟩ | hge
        · exfalso
          have hyn := h.inv.rel.dom y by_ hy
          refine h1.inj n y ⟨z, t, false⟩ by_ (Heap.upd_same _ _ _) (by rw [Heap.upd_ne _ _ (by omega)]; exact hy) (by omega) rfl ?_
          rw [(h3 y hyn).1, e]
        · exact hge
      have hjnp : j ∉ pre.map (·.1) := fun hm => by
        obtain ⟨pp, hpp, e⟩ := List.mem_map.1 hm
        exact (pairOk_ne ((h.pairL hs).2.2 pp hpp q hqr)).1 (e.trans hqj.symm)
      unfold wpOp
      simp only [hojA, wanted_none hgd, if_true, Oper.wp, hrun, Oper.upon]
      refine .inl ⟨fun c hc hb => ?_, again (ers' := (j, m', n) :: ers) (m' := m') ⟨h.ord, h.inv.step hrel (Nat.le_refl n) h3 hfr, ?_, ?_, by simpa using h.siz, h.closed.set hs.anc hj, ?_, ?_, ?_, ?_, h.msk, ?_⟩ (Nat.lt_succ_self f)⟩
      · rcases h.conds c hc with h1 | ⟨_, _, t, adr, v, mc, nc, _, e, g2, g3, g4⟩
        · exact h1 w'
        · rw [e]; exact ⟨m', H, n, hrel, g2, g3.trans h3 g2, g4⟩
      · rw [hdst]
        exact (h.erel.agree h3 (Nat.le_refl n)).put_junk (h.msk p hp (List.mem_map.2 ⟨q, hq, by rw [hqj, hpe]⟩)) _
      · intro y
        rw [h.lst_set hjlt y, h.lst y]
        simp only [List.map_cons, List.mem_cons]
        constructor
        · rintro (e | e | e)
          · exact .inr (.inl e)
          · exact .inl e
          · exact .inr (.inr e)
        · rintro (e | e | e)
          · exact .inr (.inl e)
          · exact .inl e
          · exact .inr (.inr e)
      · have hc := h.cnt
        refine Nat.lt_succ_iff.1 (Nat.lt_of_lt_of_le (filter_lt (fun y hy => ?_) hq ?_ ?_) hc)
        · simp only [List.map_cons, List.contains_cons, Bool.not_eq_true', Bool.or_eq_false_iff] at hy ⊢
          exact hy.2
        · simp only [hqj]; simpa using hje
        · simp [hqj]
      · intro s hsm
        rcases List.mem_cons.1 hsm with rfl | hsm
        · exact List.mem_map.2 ⟨q, hq, hqj⟩
        · exact h.ersIn s hsm
      · intro s hsm
        rcases List.mem_cons.1 hsm with rfl | hsm
        · refine ⟨oj, z, t, g, p.2, ⟨by rw [← hpe]; exact hp, hoj', hdst, hgd, het, ?_, ?_, ?_, ?_, fun y b hy => ?_⟩⟩
          · refine (h1.weaken (H := nilH.upd n (some ⟨z, t, false⟩)) fun y b hy => ?_)
            by_cases hyn : y = n
            · subst hyn; rw [Heap.upd_same] at hy ⊢; exact ⟨b, hy, rfl, rfl, List.prefix_refl _⟩
            · rw [Heap.upd_ne _ _ hyn] at hy; simp [nilH] at hy
          · rw [hdst]
            have hd : p.2 < a.tmps.size := by rw [h.erel.size]; exact hs.dsts j oj hoj' _ hdst
            simp [Act.put, Array.getD_eq_getD_getElem?, hd, hxv]
          · exact Nat.le_trans h.inv.fr.size hge
          · obtain ⟨c, fz, hc, _⟩ := h1.blk n ⟨z, t, false⟩ (Heap.upd_same _ _ _)
            exact lt_of_heap hc
          · have hyn := h.inv.rel.dom y b hy
            intro e
            exact h1.inj n y ⟨z, t, false⟩ b (Heap.upd_same _ _ _) (by rw [Heap.upd_ne _ _ (by omega)]; exact hy) (by omega) rfl e.symm
        · obtain ⟨o', z', t', f', d', he⟩ := h.ersOk s hsm
          have hsj : s.1 ≠ j := fun e => hje (List.mem_map.2 ⟨s, hsm, e⟩)
          exact ⟨o', z', t', f', d', (he.step hfr).put (dst_ne hs hoj' he.es (fun e => hsj e.symm)) _⟩
      · have hold : ∀ s ∈ ers, s.2.1.ρ s.2.2 < w.heap.size := fun s hsm => by
          obtain ⟨o', z', t', f', d', he⟩ := h.ersOk s hsm
          exact he.lt
        intro s hsm s' hsm' hne'
        rcases List.mem_cons.1 hsm with rfl | hsm <;> rcases List.mem_cons.1 hsm' with rfl | hsm'
        · exact absurd rfl hne'
        · have := hold s' hsm'; simp only; omega
        · have := hold s hsm; simp only; omega
        · exact h.ersNe s hsm s' hsm' hne'
      · intro c hc
        simp only [List.mem_filter, Bool.not_eq_true'] at hc
        refine (h.conds c hc.1).imp id fun ⟨g1, g2, t, adr, v, mc, nc, g3, g4, g5, g6, g7⟩ => ⟨g1, g2, t, adr, v, mc, nc, g3, g4, g5, g6.trans h3 g5, g7⟩
    · exact absurd hbad (hjk n)
end
end Go.Ab
