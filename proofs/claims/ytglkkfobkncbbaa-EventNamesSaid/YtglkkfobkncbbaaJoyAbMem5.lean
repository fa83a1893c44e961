import Derived.Test.YtglkkfobkncbbaaJoyAbMem4
namespace Go.Ab

/-- An operation that makes a block. -/
theorem OpRes.new {P : Program} {m : NM} {H : Heap} {n : Nat} {w : World} (h : HRel m H n w) {t : TypeId} {cells : List AV} {c : Array Value} (hc : c.toList = cells.map (AV.toV m)) (hok : ∀ v ∈ cells, v.ok n = true ∧ v.one = true)
    {v : AV} {s : Sem Value} (f : Addr → Value) (hs : s.run P w = (do pure (f (← newRow t c)) : Sem Value).run P w) (hv : ∀ m' : NM, m'.κ n = c.size → f ⟨m'.ρ n, 0, none⟩ = AV.toV m' v) (hvok : v.ok (n + 1) = true) :
    OpRes m H n w v (H.upd n (some ⟨cells, t, false⟩)) (n + 1) ((do pure (.value (← s)) : Sem Next).run P w) := by
  obtain ⟨m', w', hr, hH, ha, hF, hk⟩ := newRow_res (P := P) h (t := t) hc hok
  refine ⟨m', w', hH, by omega, ha, hF, .inl ⟨f ⟨m'.ρ n, 0, none⟩, ?_, fun _ => ⟨hv m' hk, hvok⟩⟩⟩
  refine run_value ?_
  rw [hs, run_ok_bind hr]; rfl

theorem alloc_sound {P : Program} {H : Heap} {o : Oper} {t : TypeId} {z : List AV} (ho : o.op = .alloc t) (hz : zeroT P t = some z) (m : NM) (n : Nat) (ac : Act) (w : World) (hH : HRel m H n w) :
    OpRes m H n w (.pt n 0) (H.upd n (some ⟨z, t, false⟩)) (n + 1) ((execOp ac.eval o).run P w) := by
  obtain ⟨zv, hzr, hzm, hzok⟩ := zeroT_spec hz
  simp only [execOp, ho]
  refine OpRes.new hH (c := zv.cells) (hzm m) (fun v hv => ⟨(hzok v hv).1 n, (hzok v hv).2⟩) (fun a => .pointer (some a)) ?_ (fun m' _ => rfl) (by simp [AV.ok])
  simp only [Instr.alloc]
  rw [run_ok_bind (hzr w)]
  rfl

theorem box_sound {P : Program} {env : Env} {H : Heap} {o : Oper} {t : TypeId} {x : Operand} (ho : o.op = .box t x) (hp : partOk (opv env x) = true) (m : NM) (N n : Nat) (ac : Act) (w : World) (hH : HRel m H n w)
    (hE : ERel m N n env ac) : OpRes m H n w (.pt n 0) (H.upd n (some ⟨cellsOf (opv env x), t, false⟩)) (n + 1) ((execOp ac.eval o).run P w) := by
  have hj : opv env x ≠ .junk := by intro e; rw [e] at hp; simp [partOk] at hp
  have ht : ∀ l, opv env x ≠ .tu l := by intro l e; rw [e] at hp; simp [partOk] at hp
  have e := eval_opv hE x hj
  simp only [execOp, ho]
  refine OpRes.new hH (c := (AV.toV m (opv env x)).cells) (cellsOf_toV m _ hj ht) (cellsOf_ok e.2 hj ht) (fun a => .pointer (some a)) ?_ (fun m' _ => rfl) (by simp [AV.ok])
  simp only [Instr.box, newVar, e.1]

/-! a slice of parts, a slice that is made -/
def elT (P : Program) (t : TypeId) : Option (TypeId × Nat × Nat) :=
  match P.underlying t with
  | some (.slice e) => match P.info? e with
    | some ti => some (e, ti.size, ti.bytes)
    | none => none
  | _ => none
theorem elT_spec {P : Program} {t e : TypeId} {sz by_ : Nat} (h : elT P t = some (e, sz, by_)) : P.underlying t = some (.slice e) ∧ (∀ w, (sizeOf e).run P w = .ok sz w) ∧ (∃ ti, (∀ w, (typeInfo e).run P w = .ok ti w) ∧ ti.bytes = by_) := by
  unfold elT at h
  split at h <;> try (simp at h; done)
  rename_i e' hu
  split at h <;> try (simp at h; done)
  rename_i ti hi
  simp only [Option.some.injEq, Prod.mk.injEq] at h
  obtain ⟨rfl, rfl, rfl⟩ := h
  exact ⟨hu, run_sizeOf hi, ti, run_typeInfo hi, rfl⟩

def repCells (k : Nat) (z : List AV) : List AV := (List.replicate k z).flatten

theorem rep_length (k : Nat) (z : List AV) : (repCells k z).length = k * z.length := by
  induction k with
  | zero => simp [repCells]
  | succ k ih => simp only [repCells, List.replicate_succ, List.flatten_cons, List.length_append] at *; rw [ih, Nat.succ_mul]; omega
theorem rep_get (k : Nat) (z : List AV) (i : Nat) (h : i < k * z.length) : (repCells k z)[i]? = z[i % z.length]? := by
  induction k generalizing i with
  | zero => omega
  | succ k ih =>
    simp only [repCells, List.replicate_succ, List.flatten_cons] at *
    by_cases hi : i < z.length
    · rw [List.getElem?_append_left hi, Nat.mod_eq_of_lt hi]
    · rw [List.getElem?_append_right (by omega), ih _ (by rw [Nat.succ_mul] at h; omega)]
      rw [← Nat.mod_eq_sub_mod (by omega)]
theorem rep_mem {k : Nat} {z : List AV} {v : AV} (h : v ∈ repCells k z) : v ∈ z := by
  obtain ⟨l, hl, hv⟩ := List.mem_flatten.1 h
  rw [List.eq_of_mem_replicate hl] at hv; exact hv

theorem rep_eq {m : NM} {zv : Array Value} {z : List AV} (hz : zv.toList = z.map (AV.toV m)) (k : Nat) :
    ((Array.range (k * z.length)).map fun i => zv[i % zv.size]!).toList = (repCells k z).map (AV.toV m) := by
  have hsz : zv.size = z.length := by rw [← Array.length_toList, hz]; simp
  rw [Array.toList_map, Array.toList_range]
  apply List.ext_getElem?
  intro i
  rw [List.getElem?_map, List.getElem?_map]
  by_cases hi : i < k * z.length
  · rw [List.getElem?_range hi, rep_get k z i hi]
    have hz0 : 0 < z.length := by
      rcases Nat.eq_zero_or_pos z.length with h | h
      · rw [h] at hi; omega
      · exact h
    have hm := Nat.mod_lt i hz0
    have hg : zv[i % z.length]? = z[i % z.length]?.map (AV.toV m) := by rw [← Array.getElem?_toList, hz, List.getElem?_map]
    rw [List.getElem?_eq_getElem hm] at hg ⊢
    simp only [Option.map_some]
    rw [hsz, getElem!_def, hg]
    rfl
  · rw [List.getElem?_eq_none (by simp; omega), List.getElem?_eq_none (by rw [rep_length]; omega)]
    rfl

theorem makeSlice_sound {P : Program} {env : Env} {H : Heap} {o : Oper} {t e : TypeId} {l c : Operand} {sz by_ : Nat} {z : List AV} {ln cp : Int} (ho : o.op = .makeSlice t l c) (hel : elT P t = some (e, sz, by_))
    (hz : zeroT P e = some z) (hzl : z.length = sz) (hl : opv env l = .i64 ln) (hc : opv env c = .i64 cp) (h0 : 0 ≤ ln) (h1 : ln ≤ cp) (h2 : by_ * cp ≤ 281474976710656) (h3 : cp ≤ 9223372036854775807)
    (m : NM) (N n : Nat) (ac : Act) (w : World) (hH : HRel m H n w) (hE : ERel m N n env ac) :
    OpRes m H n w (.sl n 0 ln.toNat cp.toNat) (H.upd n (some ⟨repCells cp.toNat z, e, false⟩)) (n + 1) ((execOp ac.eval o).run P w) := by
  obtain ⟨hu, hs, ti, hti, hby⟩ := elT_spec hel
  obtain ⟨zv, hzr, hzm, hzok⟩ := zeroT_spec hz
  have el := (eval_opv hE l (by rw [hl]; simp)).1
  have ec := (eval_opv hE c (by rw [hc]; simp)).1
  rw [hl] at el; rw [hc] at ec
  simp only [execOp, ho]
  refine OpRes.new hH (c := ((Array.range (cp.toNat * z.length)).map fun i => zv.cells[i % zv.cells.size]!)) (rep_eq (hzm m) _) (fun v hv => ⟨(hzok v (rep_mem hv)).1 n, (hzok v (rep_mem hv)).2⟩)
    (fun a => .slice (some a) ln.toNat cp.toNat) ?_ (fun m' _ => rfl) (by simp [AV.ok])
  simp only [Instr.makeSlice, el, ec, AV.toV]
  rw [run_ok_bind (run_underlying hu w)]
  have hln : (asInt (.int .i64 ln)).run P w = .ok ln w := rfl
  have hcp : (asInt (.int .i64 cp)).run P w = .ok cp w := rfl
  rw [run_ok_bind hln, run_ok_bind hcp, run_ok_bind (hti w)]
  have w1 : IntKind.i64.wrap ln = ln := wrap64_small _ (by omega) (by omega)
  have w2 : IntKind.i64.wrap cp = cp := wrap64_small _ (by omega) (by omega)
  rw [w1, w2, hby]
  have hbig : ¬ ((by_ : Int) * cp > 2 ^ 48) := by
    have : (2 : Int) ^ 48 = 281474976710656 := rfl
    rw [this]; omega
  have hif : (((decide (cp < 0) || decide ((by_ : Int) * cp > 2 ^ 48)) || decide (ln < 0)) || decide (ln > cp)) = false := by
    simp only [Bool.or_eq_false_iff, decide_eq_false_iff_not]
    exact ⟨⟨⟨by omega, hbig⟩, by omega⟩, by omega⟩
  rw [hif]
  simp only [Bool.false_eq_true, if_false]
  have hroom : ∀ k, (askRoom k).run P w = .ok () w := fun k => by unfold askRoom; split <;> rfl
  rw [run_ok_bind (hroom _), run_ok_bind (hs w)]
  rw [← hzl]
  by_cases h0 : cp.toNat * z.length = 0
  · rw [if_pos h0, h0]
    simp only [pure_bind]
    have e1 : ∀ f : Nat → Value, (Array.range 0).map f = #[] := fun f => by rw [← Array.toList_inj]; simp
    rw [e1, e1]
  · rw [if_neg h0]
    rw [run_ok_bind (hzr w)]
    rfl

end Go.Ab
