import Derived.Test.YtglkkfobkncbbaaJoyAbMem7
namespace Go.Ab

theorem cap_sound {P : Program} {env : Env} {o : Oper} {x : Operand} {t : TypeId} {K : AV → Prop} (ho : o.op = .call ⟨.builtin .cap, #[x], #[t]⟩) (h : capK P t (opv env x) K) : ∃ v, K v ∧ PureOk P env o v := by
  generalize hx : opv env x = vx at h
  have fin : ∀ (k : Nat), K (.i64 k) → (∀ (m : NM) (ac : Act) w, (vx ≠ .junk → ac.eval x = AV.toV m vx) → (Builtin.cap_ #[t] o.type #[ac.eval x]).run P w = .ok (goInt k) w) → ∃ v, K v ∧ PureOk P env o v := fun k hk hr =>
    ⟨_, hk, pureOk_of fun m N n a hE => ⟨fun w => call_cap ho (by
      have e1 : (#[x].map a.eval) = #[a.eval x] := by simp
      rw [e1]
      exact hr m a w fun hj => by have := (eval_opv hE x (by rw [hx]; exact hj)).1; rw [hx] at this; exact this), rfl⟩⟩
  unfold capK at h
  split at h <;> try exact h.elim
  rename_i hl
  obtain ⟨e, hu⟩ : ∃ e, P.underlying t = some (.slice e) := by
    unfold lenT at hl
    split at hl <;> first | exact ⟨_, by assumption⟩ | (simp at hl; done) | (split at hl <;> simp at hl)
  split at h <;> try exact h.elim
  all_goals
    refine fin _ h fun m ac w he => ?_
    rw [he (by simp)]
    simp only [Builtin.cap_, AV.toV, List.getElem?_toArray, List.getElem?_cons_zero]
    rw [run_ok_bind (run_underlying hu w)]
    rfl

def mmK (f : Int → Int → Int) (x y : AV) (K : AV → Prop) : Prop :=
  match x, y with
  | .i64 a, .i64 b => K (.i64 (f a b))
  | _, _ => False

theorem max_sound {P : Program} {env : Env} {o : Oper} {x y : Operand} {ts : Array TypeId} {K : AV → Prop} (ho : o.op = .call ⟨.builtin .max, #[x, y], ts⟩) (h : mmK max (opv env x) (opv env y) K) : ∃ v, K v ∧ PureOk P env o v := by
  generalize hx : opv env x = vx at h
  generalize hy : opv env y = vy at h
  unfold mmK at h
  split at h <;> try exact h.elim
  rename_i a b
  refine ⟨_, h, pureOk_of fun m N n ac hE => ⟨fun w => call_max ho ?_, rfl⟩⟩
  have e1 := (eval_opv hE x (by rw [hx]; simp)).1
  have e2 := (eval_opv hE y (by rw [hy]; simp)).1
  rw [hx] at e1; rw [hy] at e2
  have e3 : (#[x, y].map ac.eval) = #[ac.eval x, ac.eval y] := by simp
  rw [e3, e1, e2]
  simp only [Builtin.max_, AV.toV, List.foldlM_cons, List.foldlM_nil, Builtin.max2, pure_bind, bind_pure, run_pure]
  congr 2
  by_cases hab : b > a
  · rw [if_pos hab]; omega
  · rw [if_neg hab]; omega

theorem min_sound {P : Program} {env : Env} {o : Oper} {x y : Operand} {ts : Array TypeId} {K : AV → Prop} (ho : o.op = .call ⟨.builtin .min, #[x, y], ts⟩) (h : mmK min (opv env x) (opv env y) K) : ∃ v, K v ∧ PureOk P env o v := by
  generalize hx : opv env x = vx at h
  generalize hy : opv env y = vy at h
  unfold mmK at h
  split at h <;> try exact h.elim
  rename_i a b
  refine ⟨_, h, pureOk_of fun m N n ac hE => ⟨fun w => call_min ho ?_, rfl⟩⟩
  have e1 := (eval_opv hE x (by rw [hx]; simp)).1
  have e2 := (eval_opv hE y (by rw [hy]; simp)).1
  rw [hx] at e1; rw [hy] at e2
  have e3 : (#[x, y].map ac.eval) = #[ac.eval x, ac.eval y] := by simp
  rw [e3, e1, e2]
  simp only [Builtin.min_, AV.toV, List.foldlM_cons, List.foldlM_nil, Builtin.min2, pure_bind, bind_pure, run_pure]
  congr 2
  by_cases hab : b < a
  · rw [if_pos hab]; omega
  · rw [if_neg hab]; omega

/-- What is read of a slice or a string: its length, its cells; the model's word for it. -/
def srcK (H : Heap) (e : Nat) (x : AV) (K : Nat → List AV → Prop) : Prop :=
  match x with
  | .st s => K s.length (s.map .u8)
  | x => readK H e x K

theorem srcK_spec {P : Program} {H : Heap} {e : Nat} {x : AV} {K : Nat → List AV → Prop} (h : srcK H e x K) (he : ∀ s, x = .st s → e = 1) :
    ∃ l cells, K l cells ∧ cells.length = l * e ∧ x ≠ .junk ∧ (∀ w, ∀ m : NM, (Builtin.lenOf (AV.toV m x)).run P w = .ok l w) ∧
      ∀ (m : NM) (n : Nat) (w : World), HRel m H n w → (∀ v ∈ cells, v.ok n = true ∧ v.one = true) ∧
        ∀ k, k ≤ l → (Builtin.firstCells e k (AV.toV m x)).run P w = .ok ((cells.take (k * e)).map (AV.toV m)).toArray w := by
  unfold srcK at h
  split at h
  · rename_i s
    refine ⟨_, _, h, by rw [he s rfl]; simp, by simp, fun w m => ?_, fun m n w hH => ⟨?_, fun k hk => ?_⟩⟩
    · simp [AV.toV, Builtin.lenOf, ByteArray.size, run_pure]
    · intro v hv
      obtain ⟨b, _, rfl⟩ := List.mem_map.1 hv
      exact ⟨rfl, rfl⟩
    · simp only [AV.toV, Builtin.firstCells, run_pure]
      congr 1
      rw [he s rfl, ← Array.toList_inj]
      simp only [ByteArray.data_extract, Array.toList_map, List.extract_toArray, List.extract_eq_take_drop, Nat.mul_one, Nat.sub_zero, List.drop_zero, List.map_take, List.map_map]
      congr 1
  · unfold readK at h
    split at h
    · refine ⟨_, _, h, by simp, by simp, fun w m => rfl, fun m n w hH => ⟨by simp, fun k hk => ?_⟩⟩
      simp [AV.toV, Builtin.firstCells, run_pure]
    · split at h <;> try exact h.elim
      rename_i b off l hpl
      split at h <;> try exact h.elim
      rename_i blk hb
      obtain ⟨hfit, hK⟩ := h
      have hxj : x ≠ .junk := by rintro rfl; simp [slicePl] at hpl
      have hform : ∀ m : NM, ∃ c, AV.toV m x = .slice (some ⟨m.ρ b, off, none⟩) l c := by
        intro m
        cases x <;> simp only [slicePl, Option.some.injEq, reduceCtorEq, Prod.mk.injEq] at hpl
        · obtain ⟨rfl, rfl, rfl⟩ := hpl; exact ⟨_, rfl⟩
        · split at hpl
          · simp only [Option.some.injEq, Prod.mk.injEq] at hpl; obtain ⟨rfl, rfl, rfl⟩ := hpl; exact ⟨_, rfl⟩
          · simp at hpl
      refine ⟨_, _, hK, by simp; omega, hxj, fun w m => ?_, fun m n w hH => ⟨(hH.load_many (P := P) hb hfit).2, fun k hk => ?_⟩⟩
      · obtain ⟨c, hc⟩ := hform m
        rw [hc]; rfl
      · obtain ⟨c, hc⟩ := hform m
        rw [hc]
        simp only [Builtin.firstCells]
        have hke : k * e ≤ l * e := Nat.mul_le_mul_right e hk
        rw [(hH.load_many (P := P) hb (show off + k * e ≤ blk.cells.length by omega)).1]
        rw [List.take_take, Nat.min_eq_left hke]

/-! copy -/
def copyK (P : Program) (H : Heap) (t : TypeId) (dst src : AV) (K : AV → Heap → Prop) : Prop :=
  match elT P t with
  | none => False
  | some (_, e, _) => (match src with | .st _ => e = 1 | _ => True) ∧ srcK H e src fun l cells =>
    match slicePl e dst with
    | some (b, off, dl) => match H b with
      | some blk => blk.ro = false ∧ off + min l dl * e ≤ blk.cells.length ∧
          K (.i64 (min l dl : Nat)) (H.upd b (some { blk with cells := splice blk.cells off (cells.take (min l dl * e)) }))
      | none => False
    | none => False

theorem copy_sound {P : Program} {env : Env} {H : Heap} {o : Oper} {x y : Operand} {t t' : TypeId} {K : AV → Heap → Prop} (ho : o.op = .call ⟨.builtin .copy, #[x, y], #[t, t']⟩)
    (h : copyK P H t (opv env x) (opv env y) K) :
    ∃ v H', K v H' ∧ ∀ (m : NM) (N n : Nat) (ac : Act) (w : World), HRel m H n w → ERel m N n env ac → OpRes m H n w v H' n ((execOp ac.eval o).run P w) := by
  generalize hx : opv env x = vx at h
  generalize hy : opv env y = vy at h
  unfold copyK at h
  split at h <;> try exact h.elim
  rename_i el e by_ hel
  obtain ⟨hst, h⟩ := h
  obtain ⟨hu, hs, _⟩ := elT_spec hel
  obtain ⟨l, cells, h, hlen, hyj, hlenOf, hsrc⟩ := srcK_spec (P := P) h (fun s hs => by rw [hs] at hst; exact hst)
  split at h <;> try exact h.elim
  rename_i b off dl hpl
  split at h <;> try exact h.elim
  rename_i blk hb
  obtain ⟨hro, hfit, hK⟩ := h
  refine ⟨_, _, hK, fun m N n ac w hH hE => ?_⟩
  have hxj : vx ≠ .junk := by rintro rfl; simp [slicePl] at hpl
  have ex := (eval_opv hE x (by rw [hx]; exact hxj)).1
  have ey := (eval_opv hE y (by rw [hy]; exact hyj)).1
  rw [hx] at ex; rw [hy] at ey
  obtain ⟨hcok, hfirst⟩ := hsrc m n w hH
  have hform : ∃ c, AV.toV m vx = .slice (some ⟨m.ρ b, off, none⟩) dl c := by
    cases vx <;> simp only [slicePl, Option.some.injEq, reduceCtorEq, Prod.mk.injEq] at hpl
    · obtain ⟨rfl, rfl, rfl⟩ := hpl; exact ⟨_, rfl⟩
    · split at hpl
      · simp only [Option.some.injEq, Prod.mk.injEq] at hpl; obtain ⟨rfl, rfl, rfl⟩ := hpl; exact ⟨_, rfl⟩
      · simp at hpl
  obtain ⟨c, hform⟩ := hform
  have hml : (cells.take (min l dl * e)).length = min l dl * e := by
    rw [List.length_take, hlen]
    have : min l dl * e ≤ l * e := Nat.mul_le_mul_right e (Nat.min_le_left _ _)
    omega
  obtain ⟨w', hrun, hH', hF⟩ := hH.store (P := P) (off := off) hb hro (vs := cells.take (min l dl * e)) (by omega) (fun v hv => hcok v (List.mem_of_mem_take hv))
  refine ⟨m, w', hH', Nat.le_refl _, NM.agree.refl _ _, hF, .inl ⟨goInt (min l dl : Nat), ?_, fun _ => ⟨rfl, rfl⟩⟩⟩
  refine call_copy ho ?_
  have e3 : (#[x, y].map ac.eval) = #[ac.eval x, ac.eval y] := by simp
  rw [e3, ex, ey, hform]
  simp only [Builtin.copy_, List.getElem?_toArray, List.getElem?_cons_zero, List.getElem?_cons_succ]
  rw [run_ok_bind (run_underlying hu w)]
  dsimp only
  rw [run_ok_bind (hlenOf w m), run_ok_bind (hs w)]
  have hmin : Nat.min l dl = min l dl := rfl
  rw [hmin, run_ok_bind (hfirst (min l dl) (Nat.min_le_left _ _))]
  rw [run_ok_bind hrun]
  rfl

end Go.Ab
