import Derived.Test.YtglkkfobkncbbaaJoyAbSound5
namespace Go.Ab

/-! ### Memory: loads, stores, new blocks -/

def splice {α : Type} (l : List α) (off : Nat) (vs : List α) : List α := l.take off ++ vs ++ l.drop (off + vs.length)

theorem splice_length {α : Type} {l : List α} {off : Nat} {vs : List α} (h : off + vs.length ≤ l.length) : (splice l off vs).length = l.length := by
  simp [splice]; omega
theorem splice_get {α : Type} {l : List α} {off : Nat} {vs : List α} (h : off + vs.length ≤ l.length) (j : Nat) :
    (splice l off vs)[j]? = if j < off then l[j]? else if j < off + vs.length then vs[j - off]? else l[j]? := by
  unfold splice
  by_cases h1 : j < off
  · rw [if_pos h1, List.append_assoc, List.getElem?_append_left (by simp; omega), List.getElem?_take, if_pos h1]
  · rw [if_neg h1]
    by_cases h2 : j < off + vs.length
    · rw [if_pos h2, List.getElem?_append_left (by simp; omega), List.getElem?_append_right (by simp; omega)]
      congr 1; simp; omega
    · rw [if_neg h2, List.getElem?_append_right (by simp; omega), List.getElem?_drop]
      congr 1; simp; omega
theorem splice_nil {α : Type} (l : List α) (off : Nat) : splice l off [] = l := by simp [splice]
theorem splice_cons {α : Type} {l : List α} {off : Nat} {v : α} {vs : List α} (h : off < l.length) : splice l off (v :: vs) = splice (l.set off v) (off + 1) vs := by
  unfold splice
  have e1 : (l.set off v).take (off + 1) = l.take off ++ [v] := by
    rw [List.take_set]
    have : l.take (off + 1) = l.take off ++ [l[off]] := by rw [List.take_add_one, List.getElem?_eq_getElem h]; rfl
    rw [this, List.set_append, if_neg (by simp; omega)]
    simp [Nat.min_eq_left (Nat.le_of_lt h)]
  have e2 : (l.set off v).drop (off + 1 + vs.length) = l.drop (off + 1 + vs.length) := by
    rw [List.drop_set_of_lt (by omega)]
  rw [e1, e2]
  simp only [List.length_cons, List.append_assoc, List.singleton_append]
  congr 3; omega
theorem splice_map {α β : Type} (f : α → β) (l : List α) (off : Nat) (vs : List α) : (splice l off vs).map f = splice (l.map f) off (vs.map f) := by
  simp [splice, List.map_take, List.map_drop]

def vOne : Value → Bool
  | .agg _ | .tuple _ => false
  | _ => true


/-- The world with another row of cells at a block. -/
def setRow (w : World) (b : Nat) (c : Array Value) (e : TypeId) (fz : Nat × Nat) : World := { w with heap := w.heap.setIfInBounds b (.cells c e fz) }

theorem heap_setRow {w : World} {b : Nat} {c : Array Value} {e : TypeId} {fz : Nat × Nat} (hb : b < w.heap.size) (k : Nat) :
    (setRow w b c e fz).heap[k]? = if b = k then some (.cells c e fz) else w.heap[k]? := by
  simp only [setRow, Array.getElem?_setIfInBounds]
  split
  · rename_i h; subst h; simp [hb]
  · rfl
theorem lt_of_heap {w : World} {b : Nat} {o : Obj} (h : w.heap[b]? = some o) : b < w.heap.size := by
  rcases Nat.lt_or_ge b w.heap.size with h' | h'
  · exact h'
  · rw [Array.getElem?_eq_none h'] at h; simp at h

theorem setCell_setRow {w : World} {b off : Nat} {c : Array Value} {e : TypeId} {fz : Nat × Nat} (h : w.heap[b]? = some (.cells c e fz)) (v : Value) :
    w.setCell ⟨b, off, none⟩ v = setRow w b (c.setIfInBounds off v) e fz := by
  have hb := lt_of_heap h
  unfold World.setCell setRow
  congr 1
  apply Array.ext_getElem?
  intro k
  simp only [Array.getElem?_modify, Array.getElem?_setIfInBounds]
  split
  · rename_i hk; subst hk; rw [h]; simp [hb]
  · rfl

theorem run_store {P : Program} {w : World} {b off : Nat} {c : Array Value} {e : TypeId} {fz : Nat × Nat} {v : Value} (h : w.heap[b]? = some (.cells c e fz)) (ho : off < c.size)
    (hf : freeAt fz off) (hv : vOne v = true) : (store ⟨b, off, none⟩ v).run P w = .ok () (setRow w b (c.setIfInBounds off v) e fz) := by
  have hc : w.cell? ⟨b, off, none⟩ = some c[off] := by simp [World.cell?, h, ho]
  have hfr : w.frozen? ⟨b, off, none⟩ = false := by
    simp only [World.frozen?, h]
    unfold freeAt at hf
    simp only [Bool.and_eq_false_iff, decide_eq_false_iff_not]
    omega
  unfold store
  cases v <;> first | (simp [vOne] at hv; done) | skip
  all_goals
    simp only [Sem.run, hc, hfr, Bool.false_eq_true, if_false]
    rw [setCell_setRow h]

theorem setRow_setRow {w : World} {b : Nat} {c c' : Array Value} {e : TypeId} {fz : Nat × Nat} : setRow (setRow w b c e fz) b c' e fz = setRow w b c' e fz := by
  simp [setRow]

theorem run_storeCells {P : Program} {b off : Nat} {e : TypeId} {fz : Nat × Nat} : ∀ (vs : List Value) (i : Nat) (w : World) (c : Array Value), w.heap[b]? = some (.cells c e fz) →
    off + i + vs.length ≤ c.size → (∀ k, k < c.size → freeAt fz k) → (∀ v ∈ vs, vOne v = true) →
    (storeCells ⟨b, off, none⟩ vs i).run P w = .ok () (setRow w b (splice c.toList (off + i) vs).toArray e fz)
  | [], i, w, c, h, _, _, _ => by
    simp only [storeCells, splice_nil, run_pure]
    have hb := lt_of_heap h
    have : setRow w b c.toList.toArray e fz = w := by
      unfold setRow
      have : w.heap.setIfInBounds b (.cells c.toList.toArray e fz) = w.heap := by
        apply Array.ext_getElem?
        intro k
        rw [Array.getElem?_setIfInBounds]
        split
        · rename_i hk; subst hk; rw [h]
        · rfl
      rw [this]
    rw [this]
  | v :: r, i, w, c, h, hl, hf, hv => by
    simp only [List.length_cons] at hl
    simp only [storeCells, add_addr]
    rw [run_ok_bind (run_store h (by omega) (hf _ (by omega)) (hv v (by simp)))]
    have hb := lt_of_heap h
    have h' : (setRow w b (c.setIfInBounds (off + i) v) e fz).heap[b]? = some (.cells (c.setIfInBounds (off + i) v) e fz) := by rw [heap_setRow hb, if_pos rfl]
    rw [run_storeCells r (i + 1) _ _ h' (by simp; omega) (fun k hk => hf k (by simpa using hk)) (fun x hx => hv x (by simp [hx])), setRow_setRow]
    congr 2
    rw [splice_cons (by simp; omega)]
    simp only [Array.toList_setIfInBounds, Nat.add_assoc]

theorem run_load {P : Program} {w : World} {b off : Nat} {c : Array Value} {e : TypeId} {fz : Nat × Nat} {v : Value} (h : w.heap[b]? = some (.cells c e fz)) (hv : c[off]? = some v) :
    (load ⟨b, off, none⟩).run P w = .ok v w := by
  have hc : w.cell? ⟨b, off, none⟩ = some v := by simp [World.cell?, h, hv]
  simp only [load, Sem.run, hc]

theorem run_loadCells {P : Program} {w : World} {b off : Nat} {c : Array Value} {e : TypeId} {fz : Nat × Nat} (h : w.heap[b]? = some (.cells c e fz)) : ∀ (n i : Nat) (acc : Array Value) (vs : List Value),
    vs.length = n → (∀ (k : Nat) (v : Value), vs[k]? = some v → c[off + i + k]? = some v) → (loadCellsFrom ⟨b, off, none⟩ i n acc).run P w = .ok (acc ++ vs.toArray) w
  | 0, i, acc, vs, hl, _ => by
    have : vs = [] := List.length_eq_zero_iff.1 hl
    subst this; simp [loadCellsFrom, run_pure]
  | n + 1, i, acc, vs, hl, hk => by
    cases vs with
    | nil => simp at hl
    | cons v r =>
      simp only [loadCellsFrom, add_addr]
      rw [run_ok_bind (run_load h (by simpa using hk 0 v rfl)), run_loadCells h n (i + 1) _ r (by simpa using hl) (fun k x hx => by
        have := hk (k + 1) x (by simpa using hx)
        rw [show off + (i + 1) + k = off + i + (k + 1) from by omega]; exact this)]
      simp

end Go.Ab
