import Derived.Test.YtglkkfobkncbbaaJoyAbDraw2
namespace Go.Ab

theorem filter_lt {α : Type} {p q : α → Bool} (h : ∀ x, p x = true → q x = true) : ∀ {l : List α} {x : α}, x ∈ l → q x = true → p x = false → (l.filter p).length < (l.filter q).length := by
  have le : ∀ l : List α, (l.filter p).length ≤ (l.filter q).length := fun l => by
    induction l with
    | nil => simp
    | cons a r ih =>
      simp only [List.filter_cons]
      cases hp : p a
      · cases q a <;> simp <;> omega
      · rw [h a hp]; simp; omega
  intro l
  induction l with
  | nil => intro x hx; simp at hx
  | cons a r ih =>
    intro x hx hq hp
    simp only [List.filter_cons]
    rcases List.mem_cons.1 hx with rfl | hx
    · rw [hq, hp]; simp; exact Nat.lt_succ_of_le (le r)
    · have := ih hx hq hp
      cases hpa : p a
      · cases q a <;> simp <;> omega
      · rw [h a hpa]; simp; omega

theorem loadK_upd {P : Program} {H : Heap} {t : TypeId} {a : AV} {K : AV → Prop} {n : Nat} {x : Option Blk} (hn : H n = none) (h : loadK P H t a K) : loadK P (H.upd n x) t a K := by
  unfold loadK at *
  split at h <;> try exact h.elim
  rename_i b off
  have hb : H b ≠ none := fun e => by rw [e] at h; exact h
  have hne : b ≠ n := fun e => hb (e ▸ hn)
  simp only [Heap.upd_ne _ _ hne]
  exact h

theorem getD_put_ne {a : Act} {dst : Option Tmp} {x : Value} {d : Nat} (h : dst ≠ some d) : (a.put dst x).tmps.getD d undef = a.tmps.getD d undef := by
  cases dst with
  | none => rfl
  | some e =>
    have hne : e ≠ d := fun h' => h (h' ▸ rfl)
    simp [Act.put, Array.getD_eq_getD_getElem?, Array.getElem?_setIfInBounds_ne hne]

theorem ERel.put_junk {m : NM} {N n : Nat} {env : Env} {a : Act} (h : ERel m N n env a) {d : Nat} (hj : env.get d = .junk) (x : Value) : ERel m N n env (a.put (some d) x) where
  size := by simp [Act.put, h.size]
  defers := by simp [Act.put, h.defers]
  get := fun t ht => by
    rw [getD_put_ne (fun e => ht (by simp only [Option.some.injEq] at e; rw [← e]; exact hj))]
    exact h.get t ht

def LC (P : Program) (m : NM) (n : Nat) (t : TypeId) (adr v : AV) (w : World) : Prop := ∃ m' H' n', HRel m' H' n' w ∧ n ≤ n' ∧ NM.agree n m m' ∧ loadK P H' t adr (· = v)

/-- A block that was made ahead of its turn: nobody has a name for it yet. -/
structure Early (P : Program) (l : List Oper) (D : Draw) (w0 : World) (m : NM) (H : Heap) (a : Act) (w : World) (j : Nat) (mE : NM) (nE : Nat) (o : Oper) (z : List AV) (t : TypeId) (f : Nat → AV) (d : Nat) : Prop where
  es : (j, d) ∈ D.es
  op : l[j]? = some o
  dst : o.dst = some d
  guard : o.guard = none
  early : earlyT P o.op = some (z, t, f)
  blk : HRel mE (nilH.upd nE (some ⟨z, t, false⟩)) (nE + 1) w
  tmp : a.tmps.getD d undef = AV.toV mE (f nE)
  base : w0.heap.size ≤ mE.ρ nE
  lt : mE.ρ nE < w.heap.size
  free : ∀ i b, H i = some b → m.ρ i ≠ mE.ρ nE

theorem HRel.single {mE : NM} {nE : Nat} {b : Blk} {w w' : World} (h : HRel mE (nilH.upd nE (some b)) (nE + 1) w) (hk : w'.heap[mE.ρ nE]? = w.heap[mE.ρ nE]?) : HRel mE (nilH.upd nE (some b)) (nE + 1) w' where
  dom := h.dom
  blk := fun i x hi => by
    have e : i = nE := by
      by_cases hn : i = nE
      · exact hn
      · rw [Heap.upd_ne _ _ hn] at hi; simp [nilH] at hi
    subst e
    obtain ⟨c, fz, hc, r⟩ := h.blk i x hi
    exact ⟨c, fz, by rw [hk]; exact hc, r⟩
  inj := h.inj
  ok := h.ok

section
variable {P : Program} {l : List Oper} {D : Draw} {w0 : World} {m : NM} {H : Heap} {a : Act} {w : World} {j : Nat} {mE : NM} {nE : Nat} {o : Oper} {z : List AV} {t : TypeId} {f : Nat → AV} {d : Nat}

theorem Early.put (h : Early P l D w0 m H a w j mE nE o z t f d) {dst : Option Tmp} (hne : dst ≠ some d) (x : Value) : Early P l D w0 m H (a.put dst x) w j mE nE o z t f d :=
  { h with tmp := by rw [getD_put_ne hne]; exact h.tmp }

theorem Early.step (h : Early P l D w0 m H a w j mE nE o z t f d) {m' : NM} {H' : Heap} {w' : World} (hf : Fr m H w m' H' w') : Early P l D w0 m' H' a w' j mE nE o z t f d :=
  { h with
    blk := h.blk.single (hf.keep _ h.lt fun i b hi _ => h.free i b hi)
    lt := by have := hf.size; have := h.lt; omega
    free := fun i b hi => by
      rcases hf.own i b hi with ⟨j, bj, hj, _, e⟩ | hge
      · rw [← e]; exact h.free j bj hj
      · have := h.lt; omega }

theorem Early.adopt (h : Early P l D w0 m H a w j mE nE o z t f d) {m0 : NM} {H0 : Heap} {n0 n : Nat} (hI : Inv m0 H0 n0 w0 m H n w) {N : Nat} {env : Env} (hE : ERel m N n env a) :
    ∃ m', (∀ i, i ≠ n → m'.ρ i = m.ρ i) ∧ m'.ρ n = mE.ρ nE ∧ NM.agree n m m' ∧ Inv m0 H0 n0 w0 m' (H.upd n (some ⟨z, t, false⟩)) (n + 1) w ∧ ERel m' N (n + 1) (putE o.dst (f n) env) a := by
  obtain ⟨c, fz, hc, hk, hfz, hv⟩ := h.blk.blk nE ⟨z, t, false⟩ (Heap.upd_same _ _ _)
  obtain ⟨hval, hok, hj, hz⟩ := early_val h.early
  have hag := NM.new_agree m n (mE.ρ nE) (mE.κ nE)
  have hold : ∀ i b, (H.upd n (some ⟨z, t, false⟩)) i = some b → i ≠ n → H i = some b := fun i b hi hne => by rwa [Heap.upd_ne _ _ hne] at hi
  refine ⟨m.new n (mE.ρ nE) (mE.κ nE), fun i hi => by simp [NM.new, hi], by simp [NM.new], hag, ⟨⟨?_, ?_, ?_, ?_⟩, by have := hI.le; omega, hI.ag.trans hag hI.le, ?_⟩, ?_⟩
  · intro i b hi
    by_cases hn : i = n
    · omega
    · have := hI.rel.dom i b (hold i b hi hn); omega
  · intro i b hi
    by_cases hn : i = n
    · subst hn
      rw [Heap.upd_same] at hi
      simp only [Option.some.injEq] at hi; subst hi
      refine ⟨c, fz, by simpa [NM.new] using hc, by simpa [NM.new] using hk, hfz, fun q v hq => ?_⟩
      rw [hv q v hq, AV.toV_agree (n := 0) (m := mE) (m' := m.new i (mE.ρ nE) (mE.κ nE)) (fun i hi => absurd hi (Nat.not_lt_zero _)) v ((hz v (List.mem_of_getElem? hq)).1 0)]
    · have hi' := hold i b hi hn
      obtain ⟨c', fz', hc', hk', hf', hv'⟩ := hI.rel.blk i b hi'
      refine ⟨c', fz', by simp only [NM.new, if_neg hn]; exact hc', by simp only [NM.new, if_neg hn]; exact hk', hf', fun q v hq => ?_⟩
      rw [hv' q v hq, AV.toV_agree hag v (hI.rel.ok i b hi' v (List.mem_of_getElem? hq)).1]
  · intro i q bi bq hi hq hne hro
    by_cases hni : i = n
    · subst hni
      have := h.free q bq (hold q bq hq (fun e => hne e.symm))
      simp only [NM.new, if_true]; rw [if_neg (fun e => hne e.symm)]; exact fun e => this e.symm
    · by_cases hnq : q = n
      · subst hnq
        have := h.free i bi (hold i bi hi hni)
        simp only [NM.new, if_true]; rw [if_neg hni]; exact this
      · simp only [NM.new]; rw [if_neg hni, if_neg hnq]; exact hI.rel.inj i q bi bq (hold i bi hi hni) (hold q bq hq hnq) hne hro
  · intro i b hi v hv
    by_cases hn : i = n
    · subst hn
      rw [Heap.upd_same] at hi
      simp only [Option.some.injEq] at hi; subst hi
      exact ⟨(hz v hv).1 _, (hz v hv).2⟩
    · have := hI.rel.ok i b (hold i b hi hn) v hv
      exact ⟨AV.ok_mono (by omega) v this.1, this.2⟩
  · refine ⟨hI.fr.os, hI.fr.tape, hI.fr.output, hI.fr.size, hI.fr.keep, fun i b hi => ?_⟩
    by_cases hn : i = n
    · subst hn; right; simpa [NM.new] using h.base
    · rcases hI.fr.own i b (hold i b hi hn) with ⟨q, bq, hq, hr, e⟩ | hge
      · exact .inl ⟨q, bq, hq, hr, by simpa [NM.new, hn] using e⟩
      · exact .inr (by simpa [NM.new, hn] using hge)
  · have hE' := hE.agree hag (Nat.le_succ n)
    rw [h.dst]
    exact ⟨hE'.size, hE'.defers, fun u hu => by
      simp only [putE, Env.get] at hu ⊢
      split at hu
      · rename_i e; subst e
        rw [if_pos rfl]
        refine ⟨?_, hok n⟩
        rw [h.tmp]
        exact hval _ _ _ _ (by simp [NM.new])
      · rename_i e; rw [if_neg e]; exact hE'.get u hu⟩
end
end Go.Ab
