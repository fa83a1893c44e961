import Derived.Test.YtglkkfobkncbbaaJoyAbMem3
namespace Go.Ab

/-- A new row of cells: its value is the address of a new name. -/
theorem newRow_res {P : Program} {m : NM} {H : Heap} {n : Nat} {w : World} (h : HRel m H n w) {t : TypeId} {cells : List AV} {c : Array Value} (hc : c.toList = cells.map (AV.toV m)) (hok : ∀ v ∈ cells, v.ok n = true ∧ v.one = true) :
    ∃ m' w', (newRow t c).run P w = .ok ⟨m'.ρ n, 0, none⟩ w' ∧ HRel m' (H.upd n (some ⟨cells, t, false⟩)) (n + 1) w' ∧ NM.agree n m m' ∧ Fr m H w m' (H.upd n (some ⟨cells, t, false⟩)) w' ∧ m'.κ n = c.size := by
  have hA := h.alloc (c := c) (fz := (0, 0)) (blk := ⟨cells, t, false⟩) (fun k _ => by unfold freeAt; omega) (fun j v hj => by
    rw [← Array.getElem?_toList, hc, List.getElem?_map]
    simp only at hj
    rw [hj]; rfl) hok
  refine ⟨_, _, ?_, hA.1, NM.new_agree _ _ _ _, hA.2, by simp [NM.new]⟩
  simp [newRow, newObj, NM.new, Sem.run, bind, Sem.bind, pure]

/-! a value of parts -/
def plT (P : Program) (t : TypeId) (i : Nat) : Option (Nat × Nat) :=
  match P.underlying t with
  | some (.struct fs) => match fs[i]? with
    | some f => match P.info? f.type with
      | some ti => some (f.offset, ti.size)
      | none => none
    | none => none
  | some (.array _ e) => match P.info? e with
    | some ti => some (i * ti.size, ti.size)
    | none => none
  | _ => none
def bldT (P : Program) (t : TypeId) : Bool :=
  match P.underlying t with
  | some (.struct fs) => fs.toList.all fun f => (P.info? f.type).isSome
  | some (.array _ e) => (P.info? e).isSome
  | _ => false

def partOk : AV → Bool
  | .junk => false
  | .tu _ => false
  | _ => true

def fillK (pl : Nat → Option (Nat × Nat)) (K : List AV → Prop) : List (Nat × AV) → List AV → Prop
  | [], l => K l
  | (i, v) :: r, l => match pl i with
    | some (off, sz) => partOk v = true ∧ (cellsOf v).length = sz ∧ off + sz ≤ l.length ∧ fillK pl K r (putCells l off v)
    | none => False

theorem fold_set (vs : List Value) : ∀ (cs : Array Value) (off i : Nat), off + i + vs.length ≤ cs.size →
    ((vs.zipIdx i).foldl (fun cs (x : Value × Nat) => cs.setIfInBounds (off + x.2) x.1) cs) = (splice cs.toList (off + i) vs).toArray := by
  induction vs with
  | nil => intro cs off i h; simp [splice_nil]
  | cons v r ih =>
    intro cs off i h
    simp only [List.length_cons] at h
    simp only [List.zipIdx_cons, List.foldl_cons]
    rw [ih _ off (i + 1) (by simp; omega), splice_cons (by simp; omega)]
    simp [Nat.add_assoc]

theorem fill_sound {m : NM} {n : Nat} {pl : Nat → Option (Nat × Nat)} {K : List AV → Prop} : ∀ (ps : List (Nat × AV)) (l : List AV), fillK pl K ps l → (∀ p ∈ ps, p.2.ok n = true) → (∀ v ∈ l, v.ok n = true ∧ v.one = true) →
    ∃ l', K l' ∧ l'.length = l.length ∧ (∀ v ∈ l', v.ok n = true ∧ v.one = true) ∧
      ∀ (m : NM), Instr.fill pl (l.map (AV.toV m)).toArray (ps.map fun p => (p.1, AV.toV m p.2)) = some (l'.map (AV.toV m)).toArray
  | [], l, h, _, hl => ⟨l, h, rfl, hl, fun _ => rfl⟩
  | (i, v) :: r, l, h, hp, hl => by
    unfold fillK at h
    split at h <;> try exact h.elim
    rename_i off sz hpl
    obtain ⟨hpo, hlen, hfit, h⟩ := h
    have hj : v ≠ .junk := by rintro rfl; simp [partOk] at hpo
    have ht : ∀ l, v ≠ .tu l := by rintro l rfl; simp [partOk] at hpo
    have hv := hp (i, v) (by simp)
    have hcok := cellsOf_ok hv hj ht
    rw [putCells_eq _ _ _ (by omega)] at h
    obtain ⟨l', hK, hl', hok', hrun⟩ := fill_sound (n := n) (m := m) r _ h (fun p hp' => hp p (by simp [hp'])) (fun x hx => by
      unfold splice at hx
      rcases List.mem_append.1 hx with hx | hx
      · rcases List.mem_append.1 hx with hx | hx
        · exact hl x (List.mem_of_mem_take hx)
        · exact hcok x hx
      · exact hl x (List.mem_of_mem_drop hx))
    refine ⟨l', hK, by rw [hl', splice_length (by omega)], hok', fun m => ?_⟩
    have hcells := cellsOf_toV m v hj ht
    have hsz : (AV.toV m v).cells.size = sz := by rw [← Array.length_toList, hcells]; simpa using hlen
    simp only [List.map_cons, Instr.fill, hpl, hsz]
    rw [if_neg (by simp; omega)]
    rw [← hrun m]
    congr 1
    have := fold_set (AV.toV m v).cells.toList (l.map (AV.toV m)).toArray off 0 (by rw [hcells]; simp; omega)
    rw [← Array.foldl_toList]
    simp only [Array.toList_zipIdx]
    rw [this, hcells, splice_map]
    rfl

def buildK (P : Program) (t : TypeId) (parts : List (Nat × AV)) (K : AV → Prop) : Prop :=
  bldT P t = true ∧ match zeroT P t with
  | some z => fillK (plT P t) (fun l => K (.ag l)) parts z
  | none => False

theorem ok_parts {m : NM} {N n : Nat} {env : Env} {a : Act} (hE : ERel m N n env a) (parts : List (Nat × Operand)) (hj : ∀ p ∈ parts, opv env p.2 ≠ .junk) :
    (parts.map fun p => (p.1, a.eval p.2)) = ((parts.map fun p => (p.1, opv env p.2)).map fun p => (p.1, AV.toV m p.2)) ∧ ∀ p ∈ (parts.map fun p => (p.1, opv env p.2)), p.2.ok n = true := by
  constructor
  · rw [List.map_map]
    exact List.map_congr_left fun p hp => by simp only [Function.comp]; rw [(eval_opv hE p.2 (hj p hp)).1]
  · intro p hp
    obtain ⟨q, hq, rfl⟩ := List.mem_map.1 hp
    exact (eval_opv hE q.2 (hj q hq)).2

theorem fillK_junk {pl : Nat → Option (Nat × Nat)} {K : List AV → Prop} : ∀ (ps : List (Nat × AV)) (l : List AV), fillK pl K ps l → ∀ p ∈ ps, p.2 ≠ .junk
  | [], _, _, p, hp => by simp at hp
  | (i, v) :: r, l, h, p, hp => by
    unfold fillK at h
    split at h <;> try exact h.elim
    obtain ⟨hpo, _, _, h⟩ := h
    rcases List.mem_cons.1 hp with rfl | hp
    · rintro e; simp only at e; rw [e] at hpo; simp [partOk] at hpo
    · exact fillK_junk r _ h p hp

theorem fillK_det {pl : Nat → Option (Nat × Nat)} {K : List AV → Prop} : ∀ (ps : List (Nat × AV)) (l : List AV), fillK pl K ps l → ∃ l', K l' ∧ fillK pl (fun x => x = l') ps l
  | [], l, h => ⟨l, h, rfl⟩
  | (i, v) :: r, l, h => by
    unfold fillK at h
    split at h <;> try exact h.elim
    rename_i off sz hpl
    obtain ⟨h1, h2, h3, h⟩ := h
    obtain ⟨l', hK, hd⟩ := fillK_det r _ h
    refine ⟨l', hK, ?_⟩
    unfold fillK
    rw [hpl]
    exact ⟨h1, h2, h3, hd⟩

theorem fill_congr {pl pl' : Nat → Option (Nat × Nat)} (h : ∀ i, pl i = pl' i) : ∀ (ps : List (Nat × Value)) (cs : Array Value), Instr.fill pl cs ps = Instr.fill pl' cs ps
  | [], _ => rfl
  | (i, v) :: r, cs => by
    simp only [Instr.fill, h i]
    cases pl' i with
    | none => rfl
    | some p => simp only; split <;> first | rfl | exact fill_congr h r _

theorem run_mapM {P : Program} {α β : Type} (f : α → Sem β) (g : α → β) (w : World) : ∀ (l : List α), (∀ x ∈ l, (f x).run P w = .ok (g x) w) → (l.mapM f).run P w = .ok (l.map g) w
  | [], _ => rfl
  | x :: r, h => by
    rw [List.mapM_cons, run_ok_bind (h x (by simp)), run_ok_bind (run_mapM f g w r fun y hy => h y (by simp [hy]))]
    rfl

theorem build_sound {P : Program} {env : Env} {o : Oper} {t : TypeId} {parts : Array (Nat × Operand)} {K : AV → Prop} (ho : o.op = .build t parts)
    (h : buildK P t (parts.toList.map fun p => (p.1, opv env p.2)) K) : ∃ v, K v ∧ PureOk P env o v := by
  obtain ⟨hb, h⟩ := h
  split at h <;> try exact h.elim
  rename_i z hz
  obtain ⟨zv, hzr, hzm, hzok⟩ := zeroT_spec hz
  have hj := fillK_junk _ _ h
  have hjo : ∀ p ∈ parts.toList, opv env p.2 ≠ .junk := fun p hp => hj (p.1, opv env p.2) (List.mem_map.2 ⟨p, hp, rfl⟩)
  obtain ⟨l', hK, hdet⟩ := fillK_det _ _ h
  refine ⟨.ag l', hK, pureOk_of fun m N n a hE => ?_⟩
  obtain ⟨hpe, hpok⟩ := ok_parts (m := m) hE parts.toList hjo
  obtain ⟨l2, rfl, hlen, hok', hrun⟩ := fill_sound (n := n) (m := m) _ z hdet hpok (fun v hv => ⟨(hzok v hv).1 n, (hzok v hv).2⟩)
  refine ⟨fun w => ?_, by simp only [AV.ok, AV.oks_eq, Bool.and_eq_true, List.all_eq_true]; exact ⟨fun v hv => (hok' v hv).1, fun v hv => (hok' v hv).2⟩⟩
  have hz' : zv.cells = (z.map (AV.toV m)).toArray := by rw [← Array.toList_inj, hzm m]
  have hparts : (parts.map fun x => (x.1, a.eval x.2)).toList = ((parts.toList.map fun p => (p.1, opv env p.2)).map fun p => (p.1, AV.toV m p.2)) := by
    rw [Array.toList_map]; exact hpe
  simp only [execOp, ho]
  refine run_value ?_
  simp only [Instr.build]
  rw [run_ok_bind (hzr w), hz']
  unfold bldT at hb
  split at hb
  · rename_i fs hu
    rw [run_ok_bind (run_underlying hu w)]
    dsimp only
    rw [List.all_eq_true] at hb
    have hmap : (fs.mapM fun f => do pure (f.offset, ← sizeOf f.type) : Sem (Array (Nat × Nat))).run P w = .ok (fs.map fun f => (f.offset, ((P.info? f.type).map (·.size)).getD 0)) w := by
      rw [← Array.toArray_toList (xs := fs), List.mapM_toArray]
      rw [show (fs.toList.toArray.map fun f : Field => (f.offset, ((P.info? f.type).map (·.size)).getD 0)) = (fs.toList.map fun f : Field => (f.offset, ((P.info? f.type).map (·.size)).getD 0)).toArray from by rw [← Array.toList_inj, Array.toList_map]]
      show ((List.toArray <$> fs.toList.mapM fun f : Field => (do pure (f.offset, ← sizeOf f.type) : Sem (Nat × Nat))) : Sem _).run P w = _
      have := run_mapM (P := P) (fun f : Field => (do pure (f.offset, ← sizeOf f.type) : Sem (Nat × Nat))) (fun f => (f.offset, ((P.info? f.type).map (·.size)).getD 0)) w fs.toList (fun f hf => by
        have := hb f hf
        cases hi : P.info? f.type with
        | none => rw [hi] at this; simp at this
        | some ti => rw [run_ok_bind (run_sizeOf hi w)]; rfl)
      rw [map_eq_pure_bind, run_ok_bind this]; rfl
    rw [run_ok_bind hmap]
    have hpl : ∀ i, (fs.map fun f => (f.offset, ((P.info? f.type).map (·.size)).getD 0))[i]? = plT P t i := fun i => by
      simp only [plT, hu, Array.getElem?_map]
      cases hi : fs[i]? with
      | none => rfl
      | some f =>
        have := hb f (by rw [← Array.getElem?_toList] at hi; exact List.mem_of_getElem? hi)
        cases hi2 : P.info? f.type with
        | none => rw [hi2] at this; simp at this
        | some ti => simp [hi2]
    rw [hparts, fill_congr hpl, hrun m]
    simp only [AV.toV, AV.toVs_eq]; rfl
  · rename_i k e hu
    rw [run_ok_bind (run_underlying hu w)]
    dsimp only
    cases hi : P.info? e with
    | none => rw [hi] at hb; simp at hb
    | some ti =>
      rw [run_ok_bind (run_sizeOf hi w)]
      have hpl : ∀ i, (fun i => some (i * ti.size, ti.size)) i = plT P t i := fun i => by simp only [plT, hu, hi]
      rw [hparts, fill_congr hpl, hrun m]
      simp only [AV.toV, AV.toVs_eq]; rfl
  · simp at hb

end Go.Ab
