import Derived.Test.YtglkkfobkncbbaaJoyAbSound3
import Derived.ChangeKeysEq
namespace Go.Ab

theorem fits_length {ks : List EK} : ∀ {l : List AV}, fits ks l = true → l.length = ks.length := by
  induction ks with
  | nil => intro l h; cases l <;> simp_all [fits]
  | cons k ks ih => intro l h; cases l with
    | nil => simp [fits] at h
    | cons v r => simp only [fits, Bool.and_eq_true] at h; simp [ih h.2]
theorem fits_take {a b : List EK} : ∀ {l : List AV}, fits (a ++ b) l = true → fits a (l.take a.length) = true ∧ fits b (l.drop a.length) = true := by
  induction a with
  | nil => intro l h; simpa [fits] using h
  | cons k ks ih => intro l h; cases l with
    | nil => simp [fits] at h
    | cons v r =>
      simp only [List.cons_append, fits, Bool.and_eq_true] at h
      simp only [List.length_cons, List.take_succ_cons, List.drop_succ_cons, fits, Bool.and_eq_true]
      exact ⟨⟨h.1, (ih h.2).1⟩, (ih h.2).2⟩
theorem eqCells_split (n : Nat) : ∀ (l l' : List AV), n ≤ l.length → n ≤ l'.length → eqCells l l' = (eqCells (l.take n) (l'.take n) && eqCells (l.drop n) (l'.drop n)) := by
  induction n with
  | zero => intro l l' _ _; simp [eqCells]
  | succ n ih => intro l l' h h'; cases l with
    | nil => simp at h
    | cons a r => cases l' with
      | nil => simp at h'
      | cons b s =>
        simp only [List.take_succ_cons, List.drop_succ_cons, eqCells]
        rw [ih r s (by simpa using h) (by simpa using h'), Bool.and_assoc]

theorem leaf_eq {P : Program} {k : EK} {x y : AV} (hx : x.fits k = true) (hy : y.fits k = true) {d : Nat} {t : TypeId}
    (hu : k.at P t) (m : NM) (w : World) :
    (Op.equalIn (d + 1) t (AV.toV m x) (AV.toV m y)).run P w = .ok (x.beq y) w := by
  have hb : ∀ {n : Nat} (a b : BitVec n), ((a.toNat : Int) == (b.toNat : Int)) = (a == b) := by
    intro n a b
    rw [Bool.eq_iff_iff]; simp only [beq_iff_eq]
    exact ⟨fun h => BitVec.eq_of_toNat_eq (by exact_mod_cast h), fun h => by rw [h]⟩
  cases k with
  | bool =>
    cases x <;> simp only [AV.fits, Bool.false_eq_true] at hx
    cases y <;> simp only [AV.fits, Bool.false_eq_true] at hy
    exact eqIn_bool w d t _ _ hu
  | str =>
    cases x <;> simp only [AV.fits, Bool.false_eq_true] at hx
    cases y <;> simp only [AV.fits, Bool.false_eq_true] at hy
    simp only [AV.toV]
    rw [Go.run_equalIn_string w d t _ _ hu]
    rename_i a b
    congr 1
    rw [Bool.eq_iff_iff, AV.beq]
    simp only [beq_iff_eq, ByteArray.toList_eq]
    have hinj : Function.Injective UInt8.ofBitVec := fun a b h => by simpa using congrArg UInt8.toBitVec h
    constructor
    · intro h; exact (List.map_inj_right (fun a b h => hinj h)).1 (by simpa using h)
    · intro h; rw [h]
  | int k =>
    cases k <;> cases x <;> simp only [AV.fits, Bool.false_eq_true] at hx <;> cases y <;> simp only [AV.fits, Bool.false_eq_true] at hy <;>
      simp only [AV.toV, AV.beq] <;> rw [Go.run_equalIn_int w d t _ _ _ _ hu] <;> try (first | rw [hb] | skip)
    rename_i a b
    congr 1
    rw [Bool.eq_iff_iff]; simp only [beq_iff_eq]
    exact ⟨fun h => BitVec.eq_of_toInt_eq h, fun h => by rw [h]⟩

def wrapV (ag : Bool) (m : NM) (l : List AV) : Value := if ag then .agg (AV.toVs m l).toArray else AV.toV m (l.getD 0 .junk)

theorem tyA_ag {P : Program} {t : TypeId} {ag : Bool} {sz : Nat} (h : tyA P t = some (ag, sz)) :
    ag = true ↔ (∃ fs, P.underlying t = some (.struct fs)) ∨ ∃ n e, P.underlying t = some (.array n e) := by
  unfold tyA at h
  cases hu : P.underlying t with
  | none => rw [hu] at h; simp at h
  | some d =>
    rw [hu] at h
    cases hi : P.info? t with
    | none => rw [hi] at h; cases d <;> simp at h
    | some i => rw [hi] at h; cases d <;> simp at h <;> simp [← h.1]

theorem part_run {P : Program} {t : TypeId} {ag : Bool} {sz off : Nat} (ht : tyA P t = some (ag, sz)) (h1 : ag = false → sz = 1) (m : NM) {l : List AV} (hl : off + sz ≤ l.length) (w : World) :
    (part t (AV.toVs m l).toArray off).run P w = .ok (wrapV ag m ((l.drop off).take sz)) w := by
  rw [run_part ht]
  cases ag
  · have e := h1 rfl
    subst e
    simp only [Bool.false_eq_true, if_false, wrapV]
    rw [toVs_get m l _ (by omega)]
    simp [List.getD_eq_getElem?_getD, List.getElem?_take]
  · simp only [if_true, wrapV, toVs_part]

theorem leaves_one {P : Program} {d : Nat} {t : TypeId} {ks : List EK} {sz : Nat} (h : leaves P d t = some ks) (ht : tyA P t = some (false, sz)) : ks.length = 1 := by
  have hn := mt (tyA_ag ht).2 (by simp)
  cases d with
  | zero => simp [leaves] at h
  | succ d =>
    unfold leaves at h
    cases hu : P.underlying t with
    | none => rw [hu] at h; simp at h
    | some dd =>
      rw [hu] at h hn
      cases dd <;> simp at h hn <;> subst h <;> rfl

theorem fields_run {P : Program} {d n : Nat} (ih : ∀ t ks, leaves P d t = some ks → ∀ ag, tyA P t = some (ag, ks.length) → ∀ l l', fits ks l = true → fits ks l' = true → ∀ m w,
      (Op.equalIn (d + n) t (wrapV ag m l) (wrapV ag m l')).run P w = .ok (eqCells l l') w) (m : NM) (w : World) (L L' : List AV) :
    ∀ (fs : List Field) (off : Nat) (ks : List EK), leavesF P (leaves P d) fs off = some ks → fits ks (L.drop off) = true → fits ks (L'.drop off) = true →
      (Op.eqFields (d + n) (AV.toVs m L).toArray (AV.toVs m L').toArray fs).run P w = .ok (eqCells (L.drop off) (L'.drop off)) w
  | [], off, ks, h, h1, h2 => by
    simp only [leavesF, Option.some.injEq] at h
    subst h
    have e1 : L.drop off = [] := by cases hl : L.drop off <;> simp_all [fits]
    have e2 : L'.drop off = [] := by cases hl : L'.drop off <;> simp_all [fits]
    rw [e1, e2]; rfl
  | f :: fs, off, ks, h, h1, h2 => by
    unfold leavesF at h
    cases hg : leaves P d f.type with
    | none => rw [hg] at h; simp at h
    | some l =>
      cases ht : tyA P f.type with
      | none => rw [hg, ht] at h; simp at h
      | some q =>
        obtain ⟨ag, sz⟩ := q
        rw [hg, ht] at h
        simp only at h
        split at h
        · rename_i hc
          obtain ⟨c1, c2, c3⟩ := hc
          subst c2 c3
          simp only [Option.map_eq_some_iff] at h
          obtain ⟨ks', h3, rfl⟩ := h
          obtain ⟨a1, a2⟩ := fits_take h1
          obtain ⟨b1, b2⟩ := fits_take h2
          have l1 := fits_length h1
          have l2 := fits_length h2
          simp only [List.length_drop, List.length_append] at l1 l2
          have hne1 : ag = false → l.length = 1 := fun e => leaves_one hg (by rw [ht, e])
          have r := fields_run ih m w L L' fs (f.offset + l.length) ks' h3 (by simpa [List.drop_drop] using a2) (by simpa [List.drop_drop] using b2)
          simp only [Op.eqFields, if_pos c1]
          by_cases hz : l.length = 0
          · -- a field of no cells
            have hl : l = [] := List.length_eq_zero_iff.1 hz
            subst hl
            cases ag with
            | false => simp at hne1
            | true =>
              have p1 : ∀ (Q : List AV), (part f.type (AV.toVs m Q).toArray f.offset).run P w = .ok (wrapV true m ((Q.drop f.offset).take 0)) w := fun Q => by
                rw [run_part ht]; simp only [if_true, wrapV, List.length_nil, toVs_part]
              rw [run_ok_bind (p1 L), run_ok_bind (p1 L'), run_ok_bind (ih _ _ hg true ht _ _ (by simpa using a1) (by simpa using b1) m w)]
              simpa [eqCells] using r
          · have p1 := part_run ht hne1 m (l := L) (off := f.offset) (by omega) w
            have p2 := part_run ht hne1 m (l := L') (off := f.offset) (by omega) w
            rw [run_ok_bind p1, run_ok_bind p2, run_ok_bind (ih _ _ hg ag ht _ _ a1 b1 m w)]
            rw [eqCells_split l.length (L.drop f.offset) (L'.drop f.offset) (by simp; omega) (by simp; omega)]
            simp only [List.drop_drop]
            cases eqCells (List.take l.length (List.drop f.offset L)) (List.take l.length (List.drop f.offset L'))
            · rfl
            · simpa using r
        · simp at h

theorem items_run {P : Program} {d n : Nat} {e : TypeId} {ks : List EK} {ag : Bool} (hk : leaves P d e = some ks) (ht : tyA P e = some (ag, ks.length))
    (ih : ∀ l l', fits ks l = true → fits ks l' = true → ∀ m w, (Op.equalIn (d + n) e (wrapV ag m l) (wrapV ag m l')).run P w = .ok (eqCells l l') w) (m : NM) (w : World) (L L' : List AV) :
    ∀ (len i : Nat), fits (List.replicate len ks).flatten (L.drop (i * ks.length)) = true → fits (List.replicate len ks).flatten (L'.drop (i * ks.length)) = true →
      (Op.eqItems (d + n) e ks.length (AV.toVs m L).toArray (AV.toVs m L').toArray (List.range' i len)).run P w = .ok (eqCells (L.drop (i * ks.length)) (L'.drop (i * ks.length))) w
  | 0, i, h1, h2 => by
    have e1 : L.drop (i * ks.length) = [] := by cases hl : L.drop (i * ks.length) <;> simp_all [fits]
    have e2 : L'.drop (i * ks.length) = [] := by cases hl : L'.drop (i * ks.length) <;> simp_all [fits]
    rw [e1, e2]; rfl
  | len + 1, i, h1, h2 => by
    simp only [List.replicate_succ, List.flatten_cons] at h1 h2
    obtain ⟨a1, a2⟩ := fits_take h1
    obtain ⟨b1, b2⟩ := fits_take h2
    have l1 := fits_length h1
    have l2 := fits_length h2
    simp only [List.length_drop, List.length_append] at l1 l2
    have hne1 : ag = false → ks.length = 1 := fun e => leaves_one hk (by rw [ht, e])
    have e3 : i * ks.length + ks.length = (i + 1) * ks.length := by rw [Nat.add_mul, Nat.one_mul]
    have r := items_run hk ht ih m w L L' len (i + 1) (by rw [← e3, ← List.drop_drop]; exact a2) (by rw [← e3, ← List.drop_drop]; exact b2)
    simp only [List.range'_succ, Op.eqItems]
    by_cases hz : ks.length = 0
    · have hl : ks = [] := List.length_eq_zero_iff.1 hz
      subst hl
      cases ag with
      | false => simp at hne1
      | true =>
        have p1 : ∀ (Q : List AV), (part e (AV.toVs m Q).toArray (i * 0)).run P w = .ok (wrapV true m ((Q.drop (i * 0)).take 0)) w := fun Q => by
          rw [run_part ht]; simp only [if_true, wrapV, List.length_nil, toVs_part]
        simp only [List.length_nil] at *
        rw [run_ok_bind (p1 L), run_ok_bind (p1 L'), run_ok_bind (ih _ _ (by simpa using a1) (by simpa using b1) m w)]
        simpa [eqCells] using r
    · have p1 := part_run ht hne1 m (l := L) (off := i * ks.length) (by omega) w
      have p2 := part_run ht hne1 m (l := L') (off := i * ks.length) (by omega) w
      rw [run_ok_bind p1, run_ok_bind p2, run_ok_bind (ih _ _ a1 b1 m w)]
      rw [eqCells_split ks.length (L.drop (i * ks.length)) (L'.drop (i * ks.length)) (by simp; omega) (by simp; omega)]
      simp only [List.drop_drop, e3]
      cases eqCells (List.take ks.length (List.drop (i * ks.length) L)) (List.take ks.length (List.drop (i * ks.length) L'))
      · rfl
      · simpa using r

theorem fieldsOf_eq {P : Program} {t : TypeId} {fs : Array Field} (h : P.underlying t = some (.struct fs)) : P.fieldsOf t = fs := by
  simp [Program.fieldsOf, h]
theorem cellsOf_eq {P : Program} {t : TypeId} {i : TypeInfo} (h : P.info? t = some i) : P.cellsOf t = i.size := by
  simp [Program.cellsOf, h]
theorem tyA_info {P : Program} {t : TypeId} {i : TypeInfo} {d : TypeDesc} (h : P.info? t = some i) (hu : P.underlying t = some d) : ∃ ag, tyA P t = some (ag, i.size) := by
  unfold tyA; rw [h, hu]; cases d <;> simp

theorem leaves_run {P : Program} (n : Nat) : ∀ (d : Nat) (t : TypeId) (ks : List EK), leaves P d t = some ks → ∀ ag, tyA P t = some (ag, ks.length) → ∀ l l', fits ks l = true → fits ks l' = true → ∀ m w,
      (Op.equalIn (d + n) t (wrapV ag m l) (wrapV ag m l')).run P w = .ok (eqCells l l') w
  | 0, t, ks, h => by simp [leaves] at h
  | d + 1, t, ks, h => by
    intro ag ht l l' h1 h2 m w
    have scal : ∀ k, ks = [k] → ag = false → k.at P t →
        (Op.equalIn (d + 1 + n) t (wrapV ag m l) (wrapV ag m l')).run P w = .ok (eqCells l l') w := by
      intro k hk hag hu
      subst hk hag
      have e1 := fits_length h1
      have e2 := fits_length h2
      match l, l', e1, e2 with
      | [x], [y], _, _ =>
        simp only [fits, Bool.and_true] at h1 h2
        simp only [wrapV, Bool.false_eq_true, if_false, List.getD_cons_zero, eqCells, Bool.and_true]
        rw [show d + 1 + n = d + n + 1 by omega]
        exact leaf_eq h1 h2 hu m w
    have hag := tyA_ag ht
    unfold leaves at h
    cases hu : P.underlying t with
    | none => rw [hu] at h; simp at h
    | some dd =>
      rw [hu] at h hag
      cases dd <;> simp only [Option.some.injEq, reduceCtorEq] at h
      case bool => exact scal _ h.symm (by simpa using hag) hu
      case int k => exact scal _ h.symm (by simpa using hag) hu
      case string => exact scal _ h.symm (by simpa using hag) hu
      case struct fs =>
        have : ag = true := hag.2 (Or.inl ⟨fs, rfl⟩)
        subst this
        split at h
        · simp at h
        · rename_i hst
          simp only [wrapV, if_true]
          rw [show d + 1 + n = d + n + 1 by omega, Go.run_equalIn_struct w (d + n) t _ _ (by rw [fieldsOf_eq hu]; exact hu) (by simpa using hst), fieldsOf_eq hu]
          simpa using fields_run (n := n) (leaves_run n d) m w l l' fs.toList 0 ks h (by simpa using h1) (by simpa using h2)
      case array len e =>
        have : ag = true := hag.2 (Or.inr ⟨len, e, rfl⟩)
        subst this
        cases hk : leaves P d e with
        | none => rw [hk] at h; simp at h
        | some kl =>
          cases hi : P.info? e with
          | none => rw [hk, hi] at h; simp at h
          | some i =>
            rw [hk, hi] at h
            simp only at h
            split at h
            · rename_i hs
              simp only [Option.some.injEq] at h
              subst h
              have hue : ∃ d', P.underlying e = some d' := by
                cases hx : P.underlying e with
                | none => cases d with
                  | zero => simp [leaves] at hk
                  | succ d => unfold leaves at hk; rw [hx] at hk; simp at hk
                | some d' => exact ⟨d', rfl⟩
              obtain ⟨d', hd'⟩ := hue
              obtain ⟨ag', hte⟩ := tyA_info hi hd'
              rw [hs] at hte
              simp only [wrapV, if_true]
              rw [show d + 1 + n = d + n + 1 by omega, Go.run_equalIn_array w (d + n) _ _ hu hi, cellsOf_eq hi, hs, List.range_eq_range']
              simpa using items_run (n := n) hk hte (leaves_run n d e kl hk ag' hte) m w l l' len 0 (by simpa using h1) (by simpa using h2)
            · simp at h

theorem binAgg_sound {P : Program} {env : Env} {o : Oper} {op : BinOp} {t yt : TypeId} {x y : Operand} {K : AV → Prop}
    (ho : o.op = .binOp op t x y yt) (h : binAgg P op t (opv env x) (opv env y) K) : ∃ v, K v ∧ PureOk P env o v := by
  unfold binAgg at h
  split at h
  · exact h.elim
  · rename_i ks hq
    split at h
    · rename_i l l' hx hy
      obtain ⟨h1, h2, h⟩ := h
      unfold eqT at hq
      split at hq
      · simp at hq
      · rename_i hg
        split at hq
        · rename_i ks' sz hk ht
          split at hq
          · rename_i hs
            simp only [Option.some.injEq] at hq
            subst hq hs
            have hrun : ∀ (m : NM) w, (Op.equalIn 10000 t (.agg (AV.toVs m l).toArray) (.agg (AV.toVs m l').toArray)).run P w = .ok (eqCells l l') w := fun m w => by
              have := leaves_run 9980 20 t ks' hk true ht l l' h1 h2 m w
              simpa [wrapV] using this
            have fin : ∀ c : Bool, K (.bo c) → (∀ (m : NM) w, (Go.binOp op t (.agg (AV.toVs m l).toArray) (.agg (AV.toVs m l').toArray)).run P w = .ok (.bool c) w) → ∃ v, K v ∧ PureOk P env o v := fun c hc hr =>
              ⟨.bo c, hc, pureOk_of fun m N n a ha => by
                have e1 := (eval_opv ha x (by rw [hx]; simp)).1
                have e2 := (eval_opv ha y (by rw [hy]; simp)).1
                rw [hx, AV.toV] at e1; rw [hy, AV.toV] at e2
                refine ⟨fun w => ?_, rfl⟩
                simp only [execOp, ho]
                refine run_value ?_
                rw [e1, e2, run_bind, Go.run_eqGuard_agg w op t x y _ _ (by simpa using hg)]
                exact hr m w⟩
            cases op <;> simp only at h <;> first | exact h.elim | skip
            · refine fin _ h fun m w => ?_
              rw [Go.run_eql_struct, hrun m w]; rfl
            · refine fin _ h fun m w => ?_
              rw [Go.run_neq_struct, hrun m w]; rfl
          · simp at hq
        · simp at hq
    · exact h.elim
end Go.Ab
