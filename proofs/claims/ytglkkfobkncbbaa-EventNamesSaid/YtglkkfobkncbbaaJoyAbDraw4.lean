import Derived.Test.YtglkkfobkncbbaaJoyAbDraw3
namespace Go.Ab

def drawQ (N : Nat) (k : Env → Heap → Nat → Prop) (m0 : NM) (H0 : Heap) (n0 : Nat) (w0 : World) (e : Exit) (a : Act) (w : World) : Prop :=
  e = .normal ∧ ∃ m env H n, k env H n ∧ Inv m0 H0 n0 w0 m H n w ∧ ERel m N n env a

abbrev ER := Nat × NM × Nat

structure St (P : Program) (N : Nat) (l : List Oper) (D : Draw) (m0 : NM) (H0 : Heap) (n0 : Nat) (w0 : World)
    (pre rest : List (Nat × List Nat)) (rd : RD) (ers : List ER) (fuel : Nat) (listed : Array Bool) (cs : List (Nat × (World → Prop))) (env : Env) (H : Heap) (n : Nat) (m : NM) (a : Act) (w : World) : Prop where
  ord : D.ord = pre ++ rest
  inv : Inv m0 H0 n0 w0 m H n w
  erel : ERel m N n env a
  lst : ∀ x, listed.getD x false = true ↔ (x ∈ pre.map (·.1) ∨ x ∈ ers.map (·.1))
  siz : listed.size = l.length
  closed : Closed D.before listed
  cnt : (rest.filter fun p => !(ers.map (·.1)).contains p.1).length ≤ fuel
  ersIn : ∀ r ∈ ers, r.1 ∈ rest.map (·.1)
  ersOk : ∀ r ∈ ers, ∃ o z t f d, Early P l D w0 m H a w r.1 r.2.1 r.2.2 o z t f d
  ersNe : ∀ r ∈ ers, ∀ s ∈ ers, r.1 ≠ s.1 → r.2.1.ρ r.2.2 ≠ s.2.1.ρ s.2.2
  msk : ∀ p ∈ D.es, p.1 ∈ rest.map (·.1) → env.get p.2 = .junk
  conds : ∀ c ∈ cs, (∀ w, c.2 w) ∨ ((∃ o, l[c.1]? = some o ∧ isLoad o.op = true) ∧ c.1 ∈ pre.map (·.1) ∧ ∃ t adr v mc nc, (c.1, t, adr, v) ∈ rd ∧ c.2 = LC P mc nc t adr v ∧ nc ≤ n ∧ NM.agree nc mc m ∧ loadK P H t adr (· = v))

section
variable {P : Program} {N : Nat} {l : List Oper} {D : Draw} {k : Env → Heap → Nat → Prop} {m0 : NM} {H0 : Heap} {n0 : Nat} {w0 : World}
variable {pre rest r : List (Nat × List Nat)} {rd : RD} {ers : List ER} {fuel : Nat} {listed : Array Bool} {cs : List (Nat × (World → Prop))} {env : Env} {H : Heap} {n : Nat} {m : NM} {a : Act} {w : World}
variable {i : Nat} {ws : List Nat} {o : Oper}

theorem getD_listed {x : Nat} (hs : listed.size = l.length) (hx : x < l.length) : listed.getD x true = listed.getD x false := by
  simp [hs, hx]

theorem St.pairL (hs : DrawSpec P N l D) (h : St P N l D m0 H0 n0 w0 pre ((i, ws) :: r) rd ers fuel listed cs env H n m a w) :
    (∀ q ∈ r, pairOk l D (i, ws) q = true) ∧ (∀ p ∈ pre, pairOk l D p (i, ws) = true) ∧ (∀ p ∈ pre, ∀ q ∈ r, pairOk l D p q = true) := by
  have := hs.pairs
  rw [h.ord, List.pairwise_append] at this
  obtain ⟨_, h2, h3⟩ := this
  rw [List.pairwise_cons] at h2
  exact ⟨h2.1, fun p hp => h3 p hp _ List.mem_cons_self, fun p hp q hq => h3 p hp q (List.mem_cons_of_mem _ hq)⟩

theorem pairOk_ne {p q : Nat × List Nat} (h : pairOk l D p q = true) : p.1 ≠ q.1 ∧ D.before q.1 p.1 = false := by
  simp only [pairOk, Bool.and_eq_true, bne_iff_ne, Bool.not_eq_true'] at h
  exact h.1
theorem pairOk_spec {p q : Nat × List Nat} {oi oj : Oper} (h : pairOk l D p q = true) (hi : l[p.1]? = some oi) (hj : l[q.1]? = some oj) (hb : D.before p.1 q.1 = false) :
    oi.apart l.toArray oj = true ∧ (lightOp oi.op = false → isLoad oi.op = false → D.es.any (·.1 == q.1) = true) ∧ (isLoad oi.op = true → lightOp oj.op = false → isLoad oj.op = false → q.2.contains p.1 = true) := by
  simp only [pairOk, hi, hj, hb, Bool.false_or, Bool.or_false, Bool.and_eq_true, Bool.or_eq_true, Bool.not_eq_true'] at h
  obtain ⟨_, ⟨h1, h2⟩, h3⟩ := h
  refine ⟨h1, fun a b => ?_, fun a b c => ?_⟩
  · rcases h2 with (h2 | h2) | h2
    · rw [a] at h2; cases h2
    · rw [b] at h2; cases h2
    · exact h2
  · rcases h3 with ((h3 | h3) | h3) | h3
    · rw [a] at h3; cases h3
    · rw [b] at h3; cases h3
    · rw [c] at h3; cases h3
    · exact h3

theorem St.head_lt (hs : DrawSpec P N l D) (h : St P N l D m0 H0 n0 w0 pre ((i, ws) :: r) rd ers fuel listed cs env H n m a w) : i < l.length :=
  hs.lt (i, ws) (by rw [h.ord]; simp)

theorem St.head_not_pre (hs : DrawSpec P N l D) (h : St P N l D m0 H0 n0 w0 pre ((i, ws) :: r) rd ers fuel listed cs env H n m a w) : i ∉ pre.map (·.1) := by
  intro hm
  obtain ⟨p, hp, e⟩ := List.mem_map.1 hm
  exact (pairOk_ne ((h.pairL hs).2.1 p hp)).1 e
theorem St.head_not_r (hs : DrawSpec P N l D) (h : St P N l D m0 H0 n0 w0 pre ((i, ws) :: r) rd ers fuel listed cs env H n m a w) : i ∉ r.map (·.1) := by
  intro hm
  obtain ⟨p, hp, e⟩ := List.mem_map.1 hm
  exact (pairOk_ne ((h.pairL hs).1 p hp)).1 e.symm

/-- The next one may come up. -/
theorem St.head_ready (hs : DrawSpec P N l D) (h : St P N l D m0 H0 n0 w0 pre ((i, ws) :: r) rd ers fuel listed cs env H n m a w) (ho : l[i]? = some o) (hne : i ∉ ers.map (·.1)) :
    i ∈ Region.ready .any l.toArray listed := by
  rw [mem_ready]
  refine ⟨?_, o, by simpa using ho, fun e he hb => ?_⟩
  · rw [getD_listed h.siz (h.head_lt hs)]
    cases hx : listed.getD i false
    · rfl
    · rcases (h.lst i).1 hx with h1 | h1
      · exact absurd h1 (h.head_not_pre hs)
      · exact absurd h1 hne
  · obtain ⟨hb', hlt⟩ := hs.edges i o ho e he hb
    obtain ⟨p, hp, hpe⟩ := hs.mem _ hlt
    rw [h.ord] at hp
    refine (h.lst _).2 (.inl ?_)
    rcases List.mem_append.1 hp with hp | hp
    · exact List.mem_map.2 ⟨p, hp, hpe⟩
    · exfalso
      rcases List.mem_cons.1 hp with rfl | hp
      · simp only at hpe
        rw [← hpe, hs.self i (h.head_lt hs)] at hb'; cases hb'
      · have := (pairOk_ne ((h.pairL hs).1 p hp)).2
        rw [hpe] at this; simp only at this; rw [hb'] at this; cases this

/-- Whoever may come up is still to come. -/
theorem St.ready_rest (hs : DrawSpec P N l D) (h : St P N l D m0 H0 n0 w0 pre rest rd ers fuel listed cs env H n m a w) {j : Nat} (hj : j ∈ Region.ready .any l.toArray listed) :
    j < l.length ∧ j ∉ ers.map (·.1) ∧ ∃ q ∈ rest, q.1 = j := by
  obtain ⟨hun, oj, hoj, _⟩ := mem_ready.1 hj
  have hlt : j < l.length := (List.getElem?_eq_some_iff.1 (by simpa using hoj)).1
  rw [getD_listed h.siz hlt] at hun
  have hno : ¬ (j ∈ pre.map (·.1) ∨ j ∈ ers.map (·.1)) := fun e => by rw [(h.lst j).2 e] at hun; cases hun
  refine ⟨hlt, fun e => hno (.inr e), ?_⟩
  obtain ⟨p, hp, hpe⟩ := hs.mem j hlt
  rw [h.ord] at hp
  rcases List.mem_append.1 hp with hp | hp
  · exact absurd (.inl (List.mem_map.2 ⟨p, hp, hpe⟩)) hno
  · exact ⟨p, hp, hpe⟩

theorem St.cnt_head (h : St P N l D m0 H0 n0 w0 pre ((i, ws) :: r) rd ers fuel listed cs env H n m a w) (hne : i ∉ ers.map (·.1)) :
    ∃ f, fuel = f + 1 ∧ (r.filter fun p => !(ers.map (·.1)).contains p.1).length ≤ f := by
  have := h.cnt
  rw [List.filter_cons_of_pos (by simpa using hne)] at this
  simp only [List.length_cons] at this
  exact ⟨fuel - 1, by omega, by omega⟩

theorem St.lst_set (h : St P N l D m0 H0 n0 w0 pre rest rd ers fuel listed cs env H n m a w) {j : Nat} (hj : j < l.length) (x : Nat) :
    (listed.setIfInBounds j true).getD x false = true ↔ (x = j ∨ listed.getD x false = true) := by
  by_cases e : j = x
  · subst e; simp [h.siz, hj]
  · rw [getD_set_ne false e]; simp [Ne.symm e]

theorem ersIn_r (hs : DrawSpec P N l D) (h : St P N l D m0 H0 n0 w0 pre ((i, ws) :: r) rd ers fuel listed cs env H n m a w) (hne : i ∉ ers.map (·.1)) : ∀ s ∈ ers, s.1 ∈ r.map (·.1) := fun s hsm => by
  have := h.ersIn s hsm
  simp only [List.map_cons, List.mem_cons] at this
  rcases this with e | e
  · exact absurd (List.mem_map.2 ⟨s, hsm, e⟩) hne
  · exact e

theorem dst_ne (hs : DrawSpec P N l D) (ho : l[i]? = some o) {p : Nat × Nat} (hp : p ∈ D.es) (hne : i ≠ p.1) : o.dst ≠ some p.2 := by
  obtain ⟨_, _, _, _, _, h⟩ := hs.es p hp
  exact h i o ho hne

theorem get_putE_ne {dst : Option Tmp} {v : AV} {d : Nat} (h : dst ≠ some d) : (putE dst v env).get d = env.get d := by
  cases dst with
  | none => rfl
  | some e =>
    have : e ≠ d := fun h' => h (h' ▸ rfl)
    simp [putE, Env.get, this]

/-- What is taken first: a step on, at memory that stays. -/
theorem light_step (hs : DrawSpec P N l D) {C : World → Prop} {x : Value} {v : AV} {rd' : RD} (h : St P N l D m0 H0 n0 w0 pre ((i, ws) :: r) rd ers fuel listed cs env H n m a w) (ho : l[i]? = some o) (hne : i ∉ ers.map (·.1))
    (hy : YieldsIf P l.toArray C o x a) (hC : C w) (hv : v ≠ .junk → x = AV.toV m v ∧ v.ok n = true)
    (hrd : ∀ y ∈ rd, y ∈ rd') (hnew : (∀ w, C w) ∨ ((∃ o, l[i]? = some o ∧ isLoad o.op = true) ∧ ∃ t adr v mc nc, (i, t, adr, v) ∈ rd' ∧ C = LC P mc nc t adr v ∧ nc ≤ n ∧ NM.agree nc mc m ∧ loadK P H t adr (· = v)))
    (next : ∀ {f listed' cs'}, St P N l D m0 H0 n0 w0 (pre ++ [(i, ws)]) r rd' ers f listed' cs' (putE o.dst v env) H n m (a.put o.dst x) w → f < fuel →
      wpAnyL P .any l.toArray (drawQ N k m0 H0 n0 w0) D.before f listed' cs' (a.put o.dst x) w) :
    wpAnyL P .any l.toArray (drawQ N k m0 H0 n0 w0) D.before fuel listed cs a w := by
  obtain ⟨f, rfl, hcnt⟩ := h.cnt_head hne
  have hoA : l.toArray[i]? = some o := by simpa using ho
  have hr := h.head_ready hs ho hne
  have hlt := h.head_lt hs
  refine wpAnyL_first hs.anc hoA (Region.noSelect_spec hs.nosel) (fun c a w hq => by cases hq.1) f listed cs a w h.closed ?_ hr hy hC ?_ (next ⟨by rw [h.ord]; simp, h.inv, h.erel.putE (hs.dsts i o ho) hv, ?_, by simpa using h.siz, h.closed.set hs.anc hr, hcnt, ersIn_r hs h hne, ?_, h.ersNe, ?_, ?_⟩ (Nat.lt_succ_self f))
  · intro j oj hoj hji hun hanc
    rw [List.getElem?_toArray] at hoj
    have hjlt := (List.getElem?_eq_some_iff.1 hoj).1
    rw [getD_listed h.siz hjlt] at hun
    obtain ⟨p, hp, hpe⟩ := hs.mem j hjlt
    rw [h.ord] at hp
    rcases List.mem_append.1 hp with hp | hp
    · rw [(h.lst j).2 (.inl (List.mem_map.2 ⟨p, hp, hpe⟩))] at hun; cases hun
    · rcases List.mem_cons.1 hp with rfl | hp
      · exact absurd hpe (Ne.symm hji)
      · subst hpe
        exact (pairOk_spec ((h.pairL hs).1 p hp) ho hoj hanc).1
  · intro c hc
    rcases h.conds c hc with h1 | ⟨_, _, t, adr, v, mc, nc, _, e, h2, h3, h4⟩
    · exact h1 w
    · rw [e]; exact ⟨m, H, n, h.inv.rel, h2, h3, h4⟩
  · intro y
    rw [h.lst_set hlt y, h.lst y]
    simp only [List.map_append, List.map_cons, List.map_nil, List.mem_append, List.mem_singleton]
    constructor
    · rintro (e | e | e)
      · exact .inl (.inr e)
      · exact .inl (.inl e)
      · exact .inr e
    · rintro ((e | e) | e)
      · exact .inr (.inl e)
      · exact .inl e
      · exact .inr (.inr e)
  · intro s hsm
    obtain ⟨o', z, t, f, d, he⟩ := h.ersOk s hsm
    refine ⟨o', z, t, f, d, he.put ?_ _⟩
    exact dst_ne hs ho he.es (fun e => hne (List.mem_map.2 ⟨s, hsm, e.symm⟩))
  · intro p hp hpr
    have hip : i ≠ p.1 := fun e => (h.head_not_r hs) (e ▸ hpr)
    rw [get_putE_ne (dst_ne hs ho hp hip)]
    exact h.msk p hp (by simp only [List.map_cons]; exact List.mem_cons_of_mem _ hpr)
  · intro c hc
    rcases List.mem_cons.1 hc with rfl | hc
    · exact hnew.imp id fun ⟨h1, h2⟩ => ⟨h1, by simp, h2⟩
    · refine (h.conds c hc).imp id fun ⟨h1, h2, t, adr, v, mc, nc, h3, h4⟩ => ⟨h1, by simp only [List.map_append, List.mem_append]; exact .inl h2, t, adr, v, mc, nc, hrd _ h3, h4⟩

theorem chk_mem {ws : List Nat} : ∀ {rd : RD} {i t adr v}, chk P H ws rd → (i, t, adr, v) ∈ rd → ws.contains i = true → loadK P H t adr (· = v)
  | (i', t', a', v') :: r, i, t, adr, v, h, hm, hw => by
    simp only [chk] at h
    rcases List.mem_cons.1 hm with e | hm
    · cases e; exact h.1 hw
    · exact chk_mem h.2 hm hw
end
end Go.Ab
