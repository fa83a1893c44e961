import Derived.Test.YtglkkfobkncbbaaJoyAbMem
namespace Go.Ab

def NM.new (m : NM) (n : Nat) (id size : Nat) : NM := ⟨fun i => if i = n then id else m.ρ i, fun i => if i = n then size else m.κ i⟩

theorem NM.new_agree (m : NM) (n id size : Nat) : NM.agree n m (m.new n id size) := fun i hi => by
  simp only [NM.new]; rw [if_neg (by omega), if_neg (by omega)]; exact ⟨rfl, rfl⟩

/-- A new block under a new name. -/
theorem HRel.alloc {m : NM} {H : Heap} {n : Nat} {w : World} (h : HRel m H n w) {c : Array Value} {fz : Nat × Nat} {blk : Blk} (hf : ∀ k, k < c.size → freeAt fz k)
    (hc : ∀ (j : Nat) (v : AV), blk.cells[j]? = some v → c[j]? = some (AV.toV m v)) (hok : ∀ v ∈ blk.cells, v.ok n = true ∧ v.one = true) :
    HRel (m.new n w.heap.size c.size) (H.upd n (some blk)) (n + 1) { w with heap := w.heap.push (.cells c blk.elem fz) } ∧
      Fr m H w (m.new n w.heap.size c.size) (H.upd n (some blk)) { w with heap := w.heap.push (.cells c blk.elem fz) } := by
  have hag := NM.new_agree m n w.heap.size c.size
  have hlt : ∀ i b, H i = some b → i < n ∧ m.ρ i < w.heap.size := fun i b hi => by
    obtain ⟨c', fz', hc', _⟩ := h.blk i b hi
    exact ⟨h.dom i b hi, lt_of_heap hc'⟩
  have hold : ∀ i b, (H.upd n (some blk)) i = some b → i ≠ n → H i = some b := fun i b hi hne => by rwa [Heap.upd_ne _ _ hne] at hi
  refine ⟨⟨?_, ?_, ?_, ?_⟩, ⟨rfl, rfl, rfl, by simp, ?_, ?_⟩⟩
  · intro i b hi
    by_cases hn : i = n
    · omega
    · have := (hlt i b (hold i b hi hn)).1; omega
  · intro i b hi
    by_cases hn : i = n
    · subst hn
      rw [Heap.upd_same] at hi
      simp only [Option.some.injEq] at hi; subst hi
      refine ⟨c, fz, ?_, ?_, fun _ => hf, ?_⟩
      · simp [NM.new]
      · simp [NM.new]
      · intro j v hj; rw [hc j v hj, AV.toV_agree hag v (hok v (List.mem_of_getElem? hj)).1]
    · have hi' := hold i b hi hn
      obtain ⟨c', fz', hc', hk', hf', hv'⟩ := h.blk i b hi'
      have hl := hlt i b hi'
      refine ⟨c', fz', ?_, ?_, hf', ?_⟩
      · simp only [NM.new, if_neg hn]
        rw [Array.getElem?_push, if_neg (by omega)]; exact hc'
      · simp only [NM.new, if_neg hn]; exact hk'
      · intro j v hj; rw [hv' j v hj, AV.toV_agree hag v (h.ok i b hi' v (List.mem_of_getElem? hj)).1]
  · intro i j bi bj hi hj hne hro
    by_cases hni : i = n
    · subst hni
      have hj' := hold j bj hj (fun e => hne e.symm)
      have := (hlt j bj hj').2
      simp only [NM.new, if_true]; rw [if_neg (fun e => hne e.symm)]; omega
    · have hi' := hold i bi hi hni
      have h1 := (hlt i bi hi').2
      by_cases hnj : j = n
      · subst hnj; simp only [NM.new, if_true]; rw [if_neg hni]; omega
      · simp only [NM.new]; rw [if_neg hni, if_neg hnj]; exact h.inj i j bi bj hi' (hold j bj hj hnj) hne hro
  · intro i b hi v hv
    by_cases hn : i = n
    · subst hn
      rw [Heap.upd_same] at hi
      simp only [Option.some.injEq] at hi; subst hi
      exact ⟨AV.ok_mono (by omega) v (hok v hv).1, (hok v hv).2⟩
    · have := h.ok i b (hold i b hi hn) v hv
      exact ⟨AV.ok_mono (by omega) v this.1, this.2⟩
  · intro k hk _
    show (w.heap.push _)[k]? = _
    rw [Array.getElem?_push, if_neg (by omega)]
  · intro i b hi
    by_cases hn : i = n
    · subst hn; right; simp [NM.new]
    · left; exact ⟨i, b, hold i b hi hn, id, by simp [NM.new, hn]⟩

/-- Other cells in a block that may be written. -/
theorem HRel.write {m : NM} {H : Heap} {n : Nat} {w : World} (h : HRel m H n w) {b : Nat} {blk : Blk} {c c' : Array Value} {fz : Nat × Nat} {cells : List AV} (hb : H b = some blk) (hro : blk.ro = false)
    (hc : w.heap[m.ρ b]? = some (.cells c blk.elem fz)) (hk : m.κ b = c.size) (hf : ∀ k, k < c.size → freeAt fz k) (hsz : c'.size = c.size)
    (hv : ∀ (j : Nat) (v : AV), cells[j]? = some v → c'[j]? = some (AV.toV m v)) (hok : ∀ v ∈ cells, v.ok n = true ∧ v.one = true) :
    HRel m (H.upd b (some { blk with cells := cells })) n (setRow w (m.ρ b) c' blk.elem fz) ∧
      Fr m H w m (H.upd b (some { blk with cells := cells })) (setRow w (m.ρ b) c' blk.elem fz) := by
  have hlt := lt_of_heap hc
  have hold : ∀ i x, (H.upd b (some { blk with cells := cells })) i = some x → i ≠ b → H i = some x := fun i x hi hne => by rwa [Heap.upd_ne _ _ hne] at hi
  refine ⟨⟨?_, ?_, ?_, ?_⟩, ⟨rfl, rfl, rfl, by simp [setRow], ?_, ?_⟩⟩
  · intro i x hi
    by_cases hn : i = b
    · subst hn; exact h.dom i blk hb
    · exact h.dom i x (hold i x hi hn)
  · intro i x hi
    by_cases hn : i = b
    · subst hn
      rw [Heap.upd_same] at hi
      simp only [Option.some.injEq] at hi; subst hi
      exact ⟨c', fz, by rw [heap_setRow hlt, if_pos rfl], by rw [hk, hsz], fun _ k hk' => hf k (by omega), hv⟩
    · have hi' := hold i x hi hn
      obtain ⟨ci, fi, hci, hki, hfi, hvi⟩ := h.blk i x hi'
      refine ⟨ci, fi, ?_, hki, hfi, hvi⟩
      rw [heap_setRow hlt, if_neg (fun e => h.inj b i blk x hb hi' (fun e' => hn e'.symm) hro e)]
      exact hci
  · intro i j bi bj hi hj hne hr
    have e : ∀ k x, (H.upd b (some { blk with cells := cells })) k = some x → ∃ y, H k = some y ∧ y.ro = x.ro := fun k x hx => by
      by_cases hn : k = b
      · subst hn
        rw [Heap.upd_same] at hx
        simp only [Option.some.injEq] at hx; subst hx
        exact ⟨blk, hb, rfl⟩
      · exact ⟨x, hold k x hx hn, rfl⟩
    obtain ⟨yi, hyi, hri⟩ := e i bi hi
    obtain ⟨yj, hyj, _⟩ := e j bj hj
    exact h.inj i j yi yj hyi hyj hne (by rw [hri]; exact hr)
  · intro i x hi v hv'
    by_cases hn : i = b
    · subst hn
      rw [Heap.upd_same] at hi
      simp only [Option.some.injEq] at hi; subst hi
      exact hok v hv'
    · exact h.ok i x (hold i x hi hn) v hv'
  · intro k hk' hne
    rw [heap_setRow hlt, if_neg (hne b blk hb hro)]
  · intro i x hi
    by_cases hn : i = b
    · subst hn; exact .inl ⟨i, blk, hb, fun _ => hro, rfl⟩
    · exact .inl ⟨i, x, hold i x hi hn, id, rfl⟩

def cellsOf : AV → List AV
  | .ag l => l
  | v => [v]

theorem cellsOf_toV (m : NM) (v : AV) (h : v ≠ .junk) (ht : ∀ l, v ≠ .tu l) : (AV.toV m v).cells.toList = (cellsOf v).map (AV.toV m) := by
  cases v <;> first | exact absurd rfl h | exact absurd rfl (ht _) | rfl | simp [AV.toV, Value.cells, cellsOf, AV.toVs_eq]

theorem vOne_toV (m : NM) {v : AV} (h : v.one = true) : vOne (AV.toV m v) = true := by
  cases v <;> first | rfl | simp [AV.one] at h

theorem cellsOf_ok {v : AV} {n : Nat} (h : v.ok n = true) (hj : v ≠ .junk) (ht : ∀ l, v ≠ .tu l) : ∀ x ∈ cellsOf v, x.ok n = true ∧ x.one = true := by
  cases v <;> first | exact absurd rfl hj | exact absurd rfl (ht _) | skip
  case ag l =>
    intro x hx
    simp only [AV.ok, Bool.and_eq_true, AV.oks_eq, List.all_eq_true] at h
    exact ⟨h.1 x hx, h.2 x hx⟩
  all_goals
    intro x hx
    simp only [cellsOf, List.mem_singleton] at hx
    subst hx
    exact ⟨h, rfl⟩

end Go.Ab
