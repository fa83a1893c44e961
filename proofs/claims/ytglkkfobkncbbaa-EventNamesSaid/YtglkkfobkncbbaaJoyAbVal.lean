import Derived.Tactics
import Derived.LoopN
import Derived.Orders
import Derived.IntWalk
namespace Go.Ab

/-- What a slot or a cell of memory holds, with memory's blocks under names of our own. -/
inductive AV where
  | bo (x : Bool)
  | u8 (x : BitVec 8) | u16 (x : BitVec 16) | u32 (x : BitVec 32) | u64 (x : BitVec 64) | i8 (x : BitVec 8)
  | i64 (n : Int)
  | st (x : List (BitVec 8))
  | pt (blk off : Nat) | pn
  | sl (blk off len cap : Nat) | su (blk off len esz : Nat) | sn
  | ag (l : List AV) | tu (l : List AV)
  | ifc (t : Nat) (v : AV) | ifn
  | fn (f : Nat) (l : List AV) | fnn
  | junk
  deriving Inhabited

/-- Where the names lie: each block's number, and how many cells it has. -/
structure NM where
  ρ : Nat → Nat
  κ : Nat → Nat

mutual
def AV.toV (m : NM) : AV → Value
  | .bo x => .bool x
  | .u8 x => .int .u8 x.toNat
  | .u16 x => .int .u16 x.toNat
  | .u32 x => .int .u32 x.toNat
  | .u64 x => .int .u64 x.toNat
  | .i8 x => .int .i8 x.toInt
  | .i64 n => .int .i64 n
  | .st x => .string ⟨(x.map UInt8.ofBitVec).toArray⟩
  | .pt b o => .pointer (some ⟨m.ρ b, o, none⟩)
  | .pn => .pointer none
  | .sl b o l c => .slice (some ⟨m.ρ b, o, none⟩) l c
  | .su b o l e => .slice (some ⟨m.ρ b, o, none⟩) l ((m.κ b - o) / e)
  | .sn => .slice none 0 0
  | .ag l => .agg (AV.toVs m l).toArray
  | .tu l => .tuple (AV.toVs m l).toArray
  | .ifc t v => .iface t (AV.toV m v)
  | .ifn => .nilIface
  | .fn f l => .func (.func f) #[] (AV.toVs m l).toArray
  | .fnn => .nilFunc
  | .junk => undef
def AV.toVs (m : NM) : List AV → List Value
  | [] => []
  | v :: r => AV.toV m v :: AV.toVs m r
end

/-- A value of one cell. -/
def AV.one : AV → Bool
  | .ag _ | .tu _ | .junk => false
  | _ => true

mutual
/-- All names lie below n; parts are of one cell. -/
def AV.ok (n : Nat) : AV → Bool
  | .pt b _ => decide (b < n)
  | .sl b _ _ _ => decide (b < n)
  | .su b _ _ e => decide (b < n) && decide (0 < e)
  | .ag l => AV.oks n l && l.all AV.one
  | .tu l => AV.oks n l
  | .ifc _ v => AV.ok n v
  | .fn _ l => AV.oks n l
  | _ => true
def AV.oks (n : Nat) : List AV → Bool
  | [] => true
  | v :: r => AV.ok n v && AV.oks n r
end

theorem AV.toVs_eq (m : NM) (l : List AV) : AV.toVs m l = l.map (AV.toV m) := by
  induction l with
  | nil => simp [AV.toVs]
  | cons a r ih => simp [AV.toVs, ih]

theorem AV.oks_eq (n : Nat) (l : List AV) : AV.oks n l = l.all (AV.ok n) := by
  induction l with
  | nil => simp [AV.oks]
  | cons a r ih => simp [AV.oks, ih]

mutual
theorem AV.ok_mono {n n' : Nat} (h : n ≤ n') : ∀ (v : AV), v.ok n = true → v.ok n' = true
  | .pt b _, hv => by simp only [AV.ok, decide_eq_true_eq] at *; omega
  | .sl b _ _ _, hv => by simp only [AV.ok, decide_eq_true_eq] at *; omega
  | .su b _ _ e, hv => by simp only [AV.ok, Bool.and_eq_true, decide_eq_true_eq] at *; omega
  | .ag l, hv => by simp only [AV.ok, Bool.and_eq_true] at *; exact ⟨AV.oks_mono h l hv.1, hv.2⟩
  | .tu l, hv => by simp only [AV.ok] at *; exact AV.oks_mono h l hv
  | .ifc _ v, hv => by simp only [AV.ok] at *; exact AV.ok_mono h v hv
  | .fn _ l, hv => by simp only [AV.ok] at *; exact AV.oks_mono h l hv
  | .bo _, _ => rfl | .u8 _, _ => rfl | .u16 _, _ => rfl | .u32 _, _ => rfl | .u64 _, _ => rfl | .i8 _, _ => rfl | .i64 _, _ => rfl
  | .st _, _ => rfl | .pn, _ => rfl | .sn, _ => rfl | .ifn, _ => rfl | .fnn, _ => rfl | .junk, _ => rfl
theorem AV.oks_mono {n n' : Nat} (h : n ≤ n') : ∀ (l : List AV), AV.oks n l = true → AV.oks n' l = true
  | [], _ => rfl
  | v :: r, hv => by simp only [AV.oks, Bool.and_eq_true] at *; exact ⟨AV.ok_mono h v hv.1, AV.oks_mono h r hv.2⟩
end

/-- Two ways of naming agree below n. -/
def NM.agree (n : Nat) (m m' : NM) : Prop := ∀ i, i < n → m'.ρ i = m.ρ i ∧ m'.κ i = m.κ i

theorem NM.agree.refl (n : Nat) (m : NM) : NM.agree n m m := fun _ _ => ⟨rfl, rfl⟩
theorem NM.agree.trans {n n' : Nat} {m m' m'' : NM} (h : NM.agree n m m') (h' : NM.agree n' m' m'') (hn : n ≤ n') : NM.agree n m m'' :=
  fun i hi => ⟨((h' i (by omega)).1).trans (h i hi).1, ((h' i (by omega)).2).trans (h i hi).2⟩
theorem NM.agree.mono {n n' : Nat} {m m' : NM} (h : NM.agree n' m m') (hn : n ≤ n') : NM.agree n m m' := fun i hi => h i (by omega)

mutual
theorem AV.toV_agree {n : Nat} {m m' : NM} (h : NM.agree n m m') : ∀ (v : AV), v.ok n = true → AV.toV m' v = AV.toV m v
  | .pt b _, hv => by simp only [AV.ok, decide_eq_true_eq] at hv; simp only [AV.toV, (h b hv).1]
  | .sl b _ _ _, hv => by simp only [AV.ok, decide_eq_true_eq] at hv; simp only [AV.toV, (h b hv).1]
  | .su b _ _ e, hv => by simp only [AV.ok, Bool.and_eq_true, decide_eq_true_eq] at hv; simp only [AV.toV, (h b hv.1).1, (h b hv.1).2]
  | .ag l, hv => by simp only [AV.ok, Bool.and_eq_true] at hv; simp only [AV.toV, AV.toVs_agree h l hv.1]
  | .tu l, hv => by simp only [AV.ok] at hv; simp only [AV.toV, AV.toVs_agree h l hv]
  | .ifc _ v, hv => by simp only [AV.ok] at hv; simp only [AV.toV, AV.toV_agree h v hv]
  | .fn _ l, hv => by simp only [AV.ok] at hv; simp only [AV.toV, AV.toVs_agree h l hv]
  | .bo _, _ => rfl | .u8 _, _ => rfl | .u16 _, _ => rfl | .u32 _, _ => rfl | .u64 _, _ => rfl | .i8 _, _ => rfl | .i64 _, _ => rfl
  | .st _, _ => rfl | .pn, _ => rfl | .sn, _ => rfl | .ifn, _ => rfl | .fnn, _ => rfl | .junk, _ => rfl
theorem AV.toVs_agree {n : Nat} {m m' : NM} (h : NM.agree n m m') : ∀ (l : List AV), AV.oks n l = true → AV.toVs m' l = AV.toVs m l
  | [], _ => rfl
  | v :: r, hv => by simp only [AV.oks, Bool.and_eq_true] at hv; simp only [AV.toVs, AV.toV_agree h v hv.1, AV.toVs_agree h r hv.2]
end

/-- A block, as far as it is known: its first cells. -/
structure Blk where
  cells : List AV
  elem : Nat
  ro : Bool := false

abbrev Heap := Nat → Option Blk
def Heap.upd (H : Heap) (i : Nat) (b : Option Blk) : Heap := fun j => if j = i then b else H j

@[simp] theorem Heap.upd_same (H : Heap) (i : Nat) (b : Option Blk) : H.upd i b i = b := by simp [Heap.upd]
theorem Heap.upd_ne (H : Heap) {i j : Nat} (b : Option Blk) (h : j ≠ i) : H.upd i b j = H j := by simp [Heap.upd, h]
@[simp] theorem Heap.upd_upd (H : Heap) (i : Nat) (b c : Option Blk) : (H.upd i b).upd i c = H.upd i c := by
  funext j; simp only [Heap.upd]; split <;> rfl

def freeAt (fz : Nat × Nat) (k : Nat) : Prop := ¬ (fz.1 ≤ k ∧ k < fz.2)

/-- How the named blocks lie in a world. -/
structure HRel (m : NM) (H : Heap) (n : Nat) (w : World) : Prop where
  dom : ∀ i b, H i = some b → i < n
  blk : ∀ i b, H i = some b → ∃ (c : Array Value) (fz : Nat × Nat), w.heap[m.ρ i]? = some (.cells c b.elem fz) ∧ m.κ i = c.size ∧ (b.ro = false → ∀ k, k < c.size → freeAt fz k) ∧ ∀ (j : Nat) (v : AV), b.cells[j]? = some v → c[j]? = some (AV.toV m v)
  inj : ∀ i j bi bj, H i = some bi → H j = some bj → i ≠ j → bi.ro = false → m.ρ i ≠ m.ρ j
  ok : ∀ i b, H i = some b → ∀ v, v ∈ b.cells → v.ok n = true ∧ v.one = true

/-- What a call may have turned in the world: the named blocks that may be written, and new ones. -/
structure Fr (m : NM) (H : Heap) (w : World) (m' : NM) (H' : Heap) (w' : World) : Prop where
  os : w'.os = w.os
  tape : w'.tape = w.tape
  output : w'.output = w.output
  size : w.heap.size ≤ w'.heap.size
  keep : ∀ k, k < w.heap.size → (∀ i b, H i = some b → b.ro = false → m.ρ i ≠ k) → w'.heap[k]? = w.heap[k]?
  own : ∀ i b, H' i = some b → (∃ j bj, H j = some bj ∧ (b.ro = false → bj.ro = false) ∧ m.ρ j = m'.ρ i) ∨ w.heap.size ≤ m'.ρ i

theorem Fr.refl (m : NM) (H : Heap) (w : World) : Fr m H w m H w :=
  ⟨rfl, rfl, rfl, Nat.le_refl _, fun _ _ _ => rfl, fun i b h => .inl ⟨i, b, h, id, rfl⟩⟩

theorem Fr.trans {m m' m'' : NM} {H H' H'' : Heap} {w w' w'' : World} (h : Fr m H w m' H' w') (h' : Fr m' H' w' m'' H'' w'') : Fr m H w m'' H'' w'' where
  os := h'.os.trans h.os
  tape := h'.tape.trans h.tape
  output := h'.output.trans h.output
  size := Nat.le_trans h.size h'.size
  keep := fun k hk hn => by
    rw [h'.keep k (by have := h.size; omega) (fun i b hi hr he => ?_), h.keep k hk hn]
    rcases h.own i b hi with ⟨j, bj, hj, hjr, e⟩ | hge
    · exact hn j bj hj (hjr hr) (e.trans he)
    · omega
  own := fun i b hi => by
    rcases h'.own i b hi with ⟨j, bj, hj, hjr, e⟩ | hge
    · rcases h.own j bj hj with ⟨l, bl, hl, hlr, e'⟩ | hge'
      · exact .inl ⟨l, bl, hl, fun h0 => hlr (hjr h0), e'.trans e⟩
      · exact .inr (by omega)
    · exact .inr (Nat.le_trans h.size hge)

/-- The slots. -/
abbrev Env := List (Nat × AV)
def Env.get : Env → Nat → AV
  | [], _ => .junk
  | (t, v) :: r, u => if t = u then v else Env.get r u

structure ERel (m : NM) (N n : Nat) (env : Env) (a : Act) : Prop where
  size : a.tmps.size = N
  defers : a.defers = []
  get : ∀ t, env.get t ≠ .junk → a.tmps.getD t undef = AV.toV m (env.get t) ∧ (env.get t).ok n = true

theorem ERel.put {m : NM} {N n : Nat} {env : Env} {a : Act} (h : ERel m N n env a) {d : Nat} (hd : d < N) {v : AV} {x : Value} (hv : v ≠ .junk → x = AV.toV m v ∧ v.ok n = true) :
    ERel m N n ((d, v) :: env) (a.put (some d) x) where
  size := by simp [Act.put, h.size]
  defers := by simp [Act.put, h.defers]
  get := fun t ht => by
    simp only [Env.get] at ht ⊢
    split at ht
    · rename_i e; subst e
      simp only [if_true]
      simp only [Act.put, Array.getD_eq_getD_getElem?, Array.getElem?_setIfInBounds, h.size, hd, if_true, Option.getD_some]
      exact hv ht
    · rename_i hne
      simp only [hne, if_false]
      have := h.get t ht
      simp only [Act.put, Array.getD_eq_getD_getElem?, Array.getElem?_setIfInBounds, hne, if_false] at this ⊢
      exact this

theorem ERel.put_none {m : NM} {N n : Nat} {env : Env} {a : Act} (h : ERel m N n env a) (x : Value) : ERel m N n env (a.put none x) := h

theorem ERel.agree {m m' : NM} {N n n' : Nat} {env : Env} {a : Act} (h : ERel m N n env a) (ha : NM.agree n m m') (hn : n ≤ n') : ERel m' N n' env a where
  size := h.size
  defers := h.defers
  get := fun t ht => ⟨by rw [(h.get t ht).1, AV.toV_agree ha _ (h.get t ht).2], AV.ok_mono hn _ (h.get t ht).2⟩

/-- Fewer slots are known. -/
def Env.le (e e' : Env) : Prop := ∀ t, e.get t ≠ .junk → e.get t = e'.get t
theorem ERel.weaken {m : NM} {N n : Nat} {env env' : Env} {a : Act} (h : ERel m N n env' a) (hl : env.le env') : ERel m N n env a where
  size := h.size
  defers := h.defers
  get := fun t ht => by have e := hl t ht; rw [e] at ht ⊢; exact h.get t ht

/-- Fewer blocks are known, or less of one. -/
def Blk.le (b b' : Blk) : Prop := b.elem = b'.elem ∧ b.ro = b'.ro ∧ b.cells <+: b'.cells
def Heap.le (H H' : Heap) : Prop := ∀ i b, H i = some b → ∃ b', H' i = some b' ∧ b.le b'
theorem Heap.le.refl (H : Heap) : H.le H := fun _ b h => ⟨b, h, rfl, rfl, List.prefix_refl _⟩

theorem getElem?_of_prefix {α : Type} {l l' : List α} (h : l <+: l') {j : Nat} {v : α} (hv : l[j]? = some v) : l'[j]? = some v := by
  obtain ⟨r, rfl⟩ := h
  have hj : j < l.length := by
    rcases Nat.lt_or_ge j l.length with h | h
    · exact h
    · simp [List.getElem?_eq_none h] at hv
  rw [List.getElem?_append_left hj]; exact hv

/-- Fewer blocks, no lesser numbers. -/
theorem HRel.weaken {m : NM} {H H' : Heap} {n : Nat} {w : World} (h : HRel m H' n w) (hl : H.le H') : HRel m H n w where
  dom := fun i b hi => let ⟨b', hb', _⟩ := hl i b hi; h.dom i b' hb'
  blk := fun i b hi => by
    obtain ⟨b', hb', he, hr, hp⟩ := hl i b hi
    obtain ⟨c, fz, hc, hk, hf, hv⟩ := h.blk i b' hb'
    exact ⟨c, fz, by rw [he]; exact hc, hk, fun h0 => hf (by rw [← hr]; exact h0), fun j v hj => hv j v (getElem?_of_prefix hp hj)⟩
  inj := fun i j bi bj hi hj hne hr => by
    obtain ⟨bi', hi', _, hr', _⟩ := hl i bi hi
    obtain ⟨bj', hj', _⟩ := hl j bj hj
    exact h.inj i j bi' bj' hi' hj' hne (by rw [← hr']; exact hr)
  ok := fun i b hi v hv => by
    obtain ⟨b', hb', _, _, hp⟩ := hl i b hi
    exact h.ok i b' hb' v (hp.subset hv)

theorem Fr.weaken {m m' : NM} {H H' H'' : Heap} {w w' : World} (h : Fr m H w m' H' w') (hl : H''.le H') : Fr m H w m' H'' w' where
  os := h.os
  tape := h.tape
  output := h.output
  size := h.size
  keep := h.keep
  own := fun i b hi => by
    obtain ⟨b', hb', _, hr', _⟩ := hl i b hi
    rcases h.own i b' hb' with ⟨j, bj, hj, hjr, e⟩ | hge
    · exact .inl ⟨j, bj, hj, fun h0 => hjr (by rw [← hr']; exact h0), e⟩
    · exact .inr hge

/-- Names below n alone. -/
def Heap.wf (n : Nat) (H : Heap) : Prop := ∀ i b, H i = some b → i < n ∧ ∀ v, v ∈ b.cells → v.ok n = true
theorem HRel.wf {m : NM} {H : Heap} {n : Nat} {w : World} (h : HRel m H n w) : H.wf n := fun i b hi => ⟨h.dom i b hi, fun v hv => (h.ok i b hi v hv).1⟩

/-- The numbers begin anew: no name from n on is left. -/
theorem HRel.cut {m : NM} {H : Heap} {n n' : Nat} {w : World} (h : HRel m H n' w) (hw : H.wf n) : HRel m H n w where
  dom := fun i b hi => (hw i b hi).1
  blk := h.blk
  inj := h.inj
  ok := fun i b hi v hv => ⟨(hw i b hi).2 v hv, (h.ok i b hi v hv).2⟩

end Go.Ab
