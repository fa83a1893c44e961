import Derived.Test.YtglkkfobkncbbaaJoyAbMem2
import Derived.Laws.BytesString
namespace Go.Ab

/-- What an operation has come to. -/
def OpRes (m : NM) (H : Heap) (n : Nat) (w : World) (v : AV) (H' : Heap) (n' : Nat) (r : Result Next) : Prop :=
  ∃ (m' : NM) (w' : World), HRel m' H' n' w' ∧ n ≤ n' ∧ NM.agree n m m' ∧ Fr m H w m' H' w' ∧
    ((∃ x, r = .ok (.value x) w' ∧ (v ≠ .junk → x = AV.toV m' v ∧ v.ok n' = true)) ∨ (r = .ok .skip w' ∧ v = .junk))

theorem OpRes.same {m : NM} {H : Heap} {n : Nat} {w : World} {v : AV} {x : Value} (h : HRel m H n w) (hx : v ≠ .junk → x = AV.toV m v ∧ v.ok n = true) :
    OpRes m H n w v H n (.ok (.value x) w) :=
  ⟨m, w, h, Nat.le_refl _, NM.agree.refl _ _, Fr.refl _ _ _, .inl ⟨x, rfl, hx⟩⟩

def zeroT (P : Program) (t : TypeId) : Option (List AV) :=
  match P.info? t with
  | some i => match i.zero with
    | some z => if (z.cells.toList.map ofV).all AV.one then some (z.cells.toList.map ofV) else none
    | none => none
  | none => none

theorem zeroT_spec {P : Program} {t : TypeId} {l : List AV} (h : zeroT P t = some l) :
    ∃ z, (∀ w, (zeroValue t).run P w = .ok z w) ∧ (∀ m : NM, z.cells.toList = l.map (AV.toV m)) ∧ ∀ v ∈ l, (∀ n, v.ok n = true) ∧ v.one = true := by
  unfold zeroT at h
  split at h <;> try (simp at h; done)
  rename_i i hi
  split at h <;> try (simp at h; done)
  rename_i z hz
  split at h <;> try (simp at h; done)
  rename_i hall
  simp only [Option.some.injEq] at h; subst h
  rw [List.all_map, List.all_eq_true] at hall
  refine ⟨z, fun w => ?_, fun m => ?_, fun v hv => ?_⟩
  · simp only [zeroValue]
    rw [run_ok_bind (run_typeInfo hi w)]
    simp only [hz]; rfl
  · rw [List.map_map]
    have : ∀ x ∈ z.cells.toList, (AV.toV m ∘ ofV) x = x := fun x hx => toV_ofV m x (ne_junk_of_ok (hall x hx))
    rw [List.map_congr_left this]; simp
  · obtain ⟨x, hx, rfl⟩ := List.mem_map.1 hv
    exact ⟨fun n => ofV_ok n x, hall x hx⟩

/-! loads -/
def loadK (P : Program) (H : Heap) (t : TypeId) (a : AV) (K : AV → Prop) : Prop :=
  match a with
  | .pt b off => match H b with
    | some blk => match tyA P t with
      | some (false, _) => off < blk.cells.length ∧ K (blk.cells.getD off .junk)
      | some (true, sz) => off + sz ≤ blk.cells.length ∧ K (.ag ((blk.cells.drop off).take sz))
      | none => False
    | none => False
  | _ => False

theorem HRel.row {m : NM} {H : Heap} {n : Nat} {w : World} (h : HRel m H n w) {b : Nat} {blk : Blk} (hb : H b = some blk) :
    ∃ (c : Array Value) (fz : Nat × Nat), w.heap[m.ρ b]? = some (.cells c blk.elem fz) ∧ m.κ b = c.size ∧ blk.cells.length ≤ c.size ∧ (blk.ro = false → ∀ k, k < c.size → freeAt fz k) ∧
      ∀ (j : Nat) (v : AV), blk.cells[j]? = some v → c[j]? = some (AV.toV m v) := by
  obtain ⟨c, fz, hc, hk, hf, hv⟩ := h.blk b blk hb
  refine ⟨c, fz, hc, hk, ?_, hf, hv⟩
  rcases Nat.lt_or_ge c.size blk.cells.length with hlt | hge
  · have := hv c.size _ (List.getElem?_eq_getElem hlt)
    simp at this
  · exact hge

theorem HRel.load_one {P : Program} {m : NM} {H : Heap} {n : Nat} {w : World} (h : HRel m H n w) {b off : Nat} {blk : Blk} (hb : H b = some blk) (ho : off < blk.cells.length) :
    (Go.load ⟨m.ρ b, off, none⟩).run P w = .ok (AV.toV m (blk.cells.getD off .junk)) w ∧ (blk.cells.getD off .junk).ok n = true ∧ (blk.cells.getD off .junk).one = true := by
  obtain ⟨c, fz, hc, _, _, _, hv⟩ := h.row hb
  have e : blk.cells[off]? = some (blk.cells.getD off .junk) := by rw [List.getD_eq_getElem?_getD, List.getElem?_eq_getElem ho]; rfl
  exact ⟨run_load hc (hv off _ e), h.ok b blk hb _ (List.mem_of_getElem? e)⟩

theorem HRel.load_many {P : Program} {m : NM} {H : Heap} {n : Nat} {w : World} (h : HRel m H n w) {b off sz : Nat} {blk : Blk} (hb : H b = some blk) (ho : off + sz ≤ blk.cells.length) :
    (loadCells ⟨m.ρ b, off, none⟩ sz).run P w = .ok (((blk.cells.drop off).take sz).map (AV.toV m)).toArray w ∧ ∀ v ∈ (blk.cells.drop off).take sz, v.ok n = true ∧ v.one = true := by
  obtain ⟨c, fz, hc, _, _, _, hv⟩ := h.row hb
  refine ⟨?_, fun v hm => h.ok b blk hb v (List.mem_of_mem_drop (List.mem_of_mem_take hm))⟩
  simp only [loadCells]
  rw [run_loadCells hc sz 0 #[] (((blk.cells.drop off).take sz).map (AV.toV m)) (by simp; omega) (fun k x hx => ?_)]
  · simp
  · rw [List.getElem?_map, List.getElem?_take] at hx
    split at hx
    · rw [List.getElem?_drop] at hx
      cases hk : blk.cells[off + k]? with
      | none => rw [hk] at hx; simp at hx
      | some y =>
        rw [hk] at hx
        simp only [Option.map_some, Option.some.injEq] at hx
        rw [← hx]; exact hv _ y hk
    · simp at hx

theorem load_sound {P : Program} {env : Env} {H : Heap} {o : Oper} {t : TypeId} {a : Operand} {K : AV → Prop} (ho : o.op = .load t a) (h : loadK P H t (opv env a) K) :
    ∃ v, K v ∧ ∀ (m : NM) (N n : Nat) (ac : Act) (w : World), HRel m H n w → ERel m N n env ac → (execOp ac.eval o).run P w = .ok (.value (AV.toV m v)) w ∧ v.ok n = true := by
  generalize hx : opv env a = va at h
  unfold loadK at h
  split at h <;> try exact h.elim
  rename_i b off
  split at h <;> try exact h.elim
  rename_i blk hb
  split at h <;> try exact h.elim
  · rename_i sz ht
    refine ⟨_, h.2, fun m N n ac w hH hE => ?_⟩
    obtain ⟨h1, h2, _⟩ := hH.load_one (P := P) hb h.1
    refine ⟨?_, h2⟩
    have e := (eval_opv hE a (by rw [hx]; simp)).1
    rw [hx] at e
    simp only [execOp, ho]
    refine run_value ?_
    simp only [Instr.loadAt, e, AV.toV, Instr.sureAddr, pure_bind, loadVar]
    rw [run_ok_bind ((tyA_spec ht).1 w)]
    simp only [Bool.false_eq_true, if_false]
    exact h1
  · rename_i sz ht
    refine ⟨_, h.2, fun m N n ac w hH hE => ?_⟩
    obtain ⟨h1, h2⟩ := hH.load_many (P := P) hb h.1
    refine ⟨?_, ?_⟩
    · have e := (eval_opv hE a (by rw [hx]; simp)).1
      rw [hx] at e
      simp only [execOp, ho]
      refine run_value ?_
      simp only [Instr.loadAt, e, AV.toV, Instr.sureAddr, pure_bind, loadVar]
      rw [run_ok_bind ((tyA_spec ht).1 w)]
      simp only [if_true]
      rw [run_ok_bind ((tyA_spec ht).2 w), run_ok_bind h1]
      simp only [AV.toVs_eq]; rfl
    · simp only [AV.ok, AV.oks_eq, Bool.and_eq_true, List.all_eq_true]
      exact ⟨fun v hv => (h2 v hv).1, fun v hv => (h2 v hv).2⟩

/-! stores -/
def putCells (l : List AV) (off : Nat) (v : AV) : List AV :=
  match v with
  | .ag cs => splice l off cs
  | v => l.set off v
theorem putCells_eq (l : List AV) (off : Nat) (v : AV) (h : off + (cellsOf v).length ≤ l.length) : putCells l off v = splice l off (cellsOf v) := by
  have one : ∀ v : AV, off + 1 ≤ l.length → l.set off v = splice l off [v] := fun v h => by rw [splice_cons (by omega), splice_nil]
  cases v <;> simp only [putCells, cellsOf] at * <;> first | rfl | exact one _ (by simpa using h)

def storeK (P : Program) (H : Heap) (t : TypeId) (a v : AV) (K : Heap → Prop) : Prop :=
  match a with
  | .pt b off => match H b with
    | some blk => match tyA P t with
      | some (_, sz) => blk.ro = false ∧ (match v with | .junk => False | .tu _ => False | _ => True) ∧ (cellsOf v).length = sz ∧ off + sz ≤ blk.cells.length ∧
          K (H.upd b (some { blk with cells := putCells blk.cells off v }))
      | none => False
    | none => False
  | _ => False

theorem HRel.store {P : Program} {m : NM} {H : Heap} {n : Nat} {w : World} (h : HRel m H n w) {b off : Nat} {blk : Blk} (hb : H b = some blk) (hro : blk.ro = false) {vs : List AV}
    (ho : off + vs.length ≤ blk.cells.length) (hok : ∀ v ∈ vs, v.ok n = true ∧ v.one = true) :
    ∃ w', (storeCells ⟨m.ρ b, off, none⟩ (vs.map (AV.toV m))).run P w = .ok () w' ∧ HRel m (H.upd b (some { blk with cells := splice blk.cells off vs })) n w' ∧
      Fr m H w m (H.upd b (some { blk with cells := splice blk.cells off vs })) w' := by
  obtain ⟨c, fz, hc, hk, hl, hf, hv⟩ := h.row hb
  have hrun := run_storeCells (P := P) (off := off) (vs.map (AV.toV m)) 0 w c hc (by simp; omega) (hf hro) (fun x hx => by
    obtain ⟨y, hy, rfl⟩ := List.mem_map.1 hx
    exact vOne_toV m (hok y hy).2)
  refine ⟨_, hrun, ?_⟩
  simp only [Nat.add_zero]
  refine h.write hb hro hc hk (hf hro) (by simp; rw [splice_length (by simp; omega)]; simp) (fun j v hj => ?_) (fun v hm => ?_)
  · rw [splice_get ho] at hj
    rw [List.getElem?_toArray, splice_get (by simp; omega)]
    simp only [List.length_map]
    split at hj
    · rename_i h1; rw [if_pos h1, Array.getElem?_toList]; exact hv j v hj
    · rename_i h1; rw [if_neg h1]
      split at hj
      · rename_i h2; rw [if_pos h2, List.getElem?_map, hj]; rfl
      · rename_i h2; rw [if_neg h2, Array.getElem?_toList]; exact hv j v hj
  · unfold splice at hm
    rcases List.mem_append.1 hm with hm | hm
    · rcases List.mem_append.1 hm with hm | hm
      · exact h.ok b blk hb v (List.mem_of_mem_take hm)
      · exact hok v hm
    · exact h.ok b blk hb v (List.mem_of_mem_drop hm)

theorem store_sound {P : Program} {env : Env} {H : Heap} {o : Oper} {t : TypeId} {a x : Operand} {K : Heap → Prop} (ho : o.op = .store t a x) (h : storeK P H t (opv env a) (opv env x) K) :
    ∃ H', K H' ∧ ∀ (m : NM) (N n : Nat) (ac : Act) (w : World), HRel m H n w → ERel m N n env ac → OpRes m H n w .junk H' n ((execOp ac.eval o).run P w) := by
  generalize ha : opv env a = va at h
  generalize hx : opv env x = vx at h
  unfold storeK at h
  split at h <;> try exact h.elim
  rename_i b off
  split at h <;> try exact h.elim
  rename_i blk hb
  split at h <;> try exact h.elim
  rename_i ag sz ht
  obtain ⟨hro, hj, hlen, hfit, hK⟩ := h
  have hvj : vx ≠ .junk := by rintro rfl; exact hj
  have hvt : ∀ l, vx ≠ .tu l := by rintro l rfl; exact hj
  refine ⟨_, hK, fun m N n ac w hH hE => ?_⟩
  have ea := (eval_opv hE a (by rw [ha]; simp)).1
  have ex := eval_opv hE x (by rw [hx]; exact hvj)
  rw [ha] at ea; rw [hx] at ex
  rw [putCells_eq _ _ _ (by omega)]
  obtain ⟨w', hrun, hH', hF⟩ := hH.store (P := P) (off := off) hb hro (vs := cellsOf vx) (by omega) (cellsOf_ok ex.2 hvj hvt)
  refine ⟨m, w', hH', Nat.le_refl _, NM.agree.refl _ _, hF, .inr ⟨?_, rfl⟩⟩
  have hcl := cellsOf_toV m vx hvj hvt
  have hsz : (AV.toV m vx).cells.size = sz := by rw [← Array.length_toList, hcl]; simpa using hlen
  simp only [execOp, ho]
  rw [run_bind]
  simp only [Instr.storeAt, ea, AV.toV, Instr.sureAddr, pure_bind, storeVar, ex.1]
  rw [run_ok_bind ((tyA_spec ht).2 w)]
  rw [if_neg (by rw [hsz]; simp), hcl, hrun]
  rfl

end Go.Ab
