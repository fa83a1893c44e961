import Derived.Test.YtglkkfobkncbbaaJoyAbMem6
namespace Go.Ab

/-! slicing where the capacity isn't known -/
def sliceSu (P : Program) (H : Heap) (t : TypeId) (b o l e : Nat) (lo : Option Int) (hi : Option Int) (K : AV → Prop) : Prop :=
  match ixT P t, H b, lo, hi with
  | some (none, _, e'), some blk, some l', some h => e' = e ∧ 0 ≤ l' ∧ l' ≤ h ∧ o + h.toNat * e ≤ blk.cells.length ∧
      (if l' = 0 then K (.su b o h.toNat e) else if l' < h then K (.su b (o + l'.toNat * e) (h.toNat - l'.toNat) e) else K (.sl b o 0 0) ∧ K (.su b (o + l'.toNat * e) 0 e))
  | _, _, _, _ => False

theorem sliceSu_sound {P : Program} {env : Env} {H : Heap} {o : Oper} {t : TypeId} {x : Operand} {lo hi : Option Operand} {b off l e : Nat} {K : AV → Prop} (ho : o.op = .slice t x lo hi none)
    (hx : opv env x = .su b off l e) (h : sliceSu P H t b off l e (bnd env 0 lo) (bnd env l hi) K) :
    ∀ (m : NM) (N n : Nat) (ac : Act) (w : World), HRel m H n w → ERel m N n env ac → ∃ v, K v ∧ (execOp ac.eval o).run P w = .ok (.value (AV.toV m v)) w ∧ v.ok n = true := by
  intro m N n ac w hH hE
  unfold sliceSu at h
  split at h <;> try exact h.elim
  rename_i ag e' blk l' hh ht hb hlo hhi
  obtain ⟨rfl, h0, h1, h2, hK⟩ := h
  obtain ⟨el, hu, hte⟩ := ixT_slice ht
  have ex := eval_opv hE x (by rw [hx]; simp)
  rw [hx] at ex
  have hok := ex.2
  simp only [AV.ok, Bool.and_eq_true, decide_eq_true_eq] at hok
  obtain ⟨c, fz, hc, hk, hle, _, _⟩ := hH.row hb
  have hcap : hh.toNat ≤ (m.κ b - off) / e' := by
    rw [Nat.le_div_iff_mul_le hok.2, hk]; omega
  have hrun : (execOp ac.eval o).run P w = .ok (.value (.slice (some (if (m.κ b - off) / e' = l'.toNat then ⟨m.ρ b, off, none⟩ else ⟨m.ρ b, off + l'.toNat * e', none⟩)) (hh.toNat - l'.toNat) ((m.κ b - off) / e' - l'.toNat))) w := by
    simp only [execOp, ho]
    refine run_value ?_
    rw [ex.1, eval_bnd hE hlo, eval_bnd hE hhi]
    simp only [Option.map_none, Instr.sliceAt]
    rw [run_ok_bind (run_underlying hu w)]
    simp only [AV.toV, Instr.slice]
    rw [run_ok_bind (run_underlying hu w)]
    dsimp only
    have hb2 := run_sliceBounds (P := P) (m := m) (isSlice := true) (len := l) (cap := (m.κ b - off) / e') (mx := none) (bnd_spec hlo) (bnd_spec hhi) rfl (fun _ => rfl) h0 h1 (by omega) (Int.le_refl _) w
    simp only [Option.map_none] at hb2
    rw [run_ok_bind hb2]
    dsimp only
    rw [run_ok_bind ((tyA_spec hte).2 w), run_pure]
    simp only [Int.toNat_natCast]
    split
    · rfl
    · simp only [Option.map_some, add_addr]
  have hdiv : (m.κ b - (off + l'.toNat * e')) / e' = (m.κ b - off) / e' - l'.toNat := by
    rw [← Nat.sub_sub, Nat.mul_comm, Nat.sub_mul_div]
  rw [hrun]
  split at hK
  · rename_i hz
    refine ⟨_, hK, ?_, by simp [AV.ok, hok]⟩
    subst hz
    simp only [AV.toV, Int.toNat_zero, Nat.zero_mul, Nat.add_zero, Nat.sub_zero, ite_self]
  · rename_i hz
    split at hK
    · rename_i hlt
      refine ⟨_, hK, ?_, by simp [AV.ok, hok]⟩
      rw [if_neg (by omega)]
      simp only [AV.toV, hdiv]
    · rename_i hge
      have he : hh = l' := by omega
      subst he
      by_cases hcl : (m.κ b - off) / e' = hh.toNat
      · refine ⟨_, hK.1, ?_, by simp [AV.ok, hok]⟩
        rw [if_pos hcl]
        simp only [AV.toV, Nat.sub_self, hcl]
      · refine ⟨_, hK.2, ?_, by simp [AV.ok, hok]⟩
        rw [if_neg hcl]
        simp only [AV.toV, hdiv, Nat.sub_self]

/-! what Go has of its own -/
inductive LenK where | str | arr (n : Nat) | slice
def lenT (P : Program) (t : TypeId) : Option LenK :=
  match P.underlying t with
  | some .string => some .str
  | some (.slice _) => some .slice
  | some (.array n _) => some (.arr n)
  | some (.pointer a) => match P.underlying a with
    | some (.array n _) => some (.arr n)
    | _ => none
  | _ => none

def lenK (P : Program) (t : TypeId) (x : AV) (K : AV → Prop) : Prop :=
  match lenT P t with
  | some (.arr n) => K (.i64 n)
  | some .str => match x with
    | .st s => K (.i64 s.length)
    | _ => False
  | some .slice => match x with
    | .sl _ _ l _ => K (.i64 l)
    | .su _ _ l _ => K (.i64 l)
    | .sn => K (.i64 0)
    | _ => False
  | none => False
def capK (P : Program) (t : TypeId) (x : AV) (K : AV → Prop) : Prop :=
  match lenT P t with
  | some .slice => match x with
    | .sl _ _ _ c => K (.i64 c)
    | .sn => K (.i64 0)
    | _ => False
  | _ => False

theorem call_append {P : Program} {ρ : Operand → Value} {o : Oper} {args : Array Operand} {ts : Array TypeId} {w w' : World} {x : Value} (ho : o.op = .call ⟨.builtin .append, args, ts⟩)
    (h : (Builtin.append_ ts o.type (args.map ρ)).run P w = .ok x w') : (execOp ρ o).run P w = .ok (.value x) w' := by
  simp only [execOp, ho, resolve, pure_bind, invoke]
  exact run_value h
theorem call_cap {P : Program} {ρ : Operand → Value} {o : Oper} {args : Array Operand} {ts : Array TypeId} {w w' : World} {x : Value} (ho : o.op = .call ⟨.builtin .cap, args, ts⟩)
    (h : (Builtin.cap_ ts o.type (args.map ρ)).run P w = .ok x w') : (execOp ρ o).run P w = .ok (.value x) w' := by
  simp only [execOp, ho, resolve, pure_bind, invoke]
  exact run_value h
theorem call_copy {P : Program} {ρ : Operand → Value} {o : Oper} {args : Array Operand} {ts : Array TypeId} {w w' : World} {x : Value} (ho : o.op = .call ⟨.builtin .copy, args, ts⟩)
    (h : (Builtin.copy_ ts o.type (args.map ρ)).run P w = .ok x w') : (execOp ρ o).run P w = .ok (.value x) w' := by
  simp only [execOp, ho, resolve, pure_bind, invoke]
  exact run_value h
theorem call_len {P : Program} {ρ : Operand → Value} {o : Oper} {args : Array Operand} {ts : Array TypeId} {w w' : World} {x : Value} (ho : o.op = .call ⟨.builtin .len, args, ts⟩)
    (h : (Builtin.len_ ts o.type (args.map ρ)).run P w = .ok x w') : (execOp ρ o).run P w = .ok (.value x) w' := by
  simp only [execOp, ho, resolve, pure_bind, invoke]
  exact run_value h
theorem call_max {P : Program} {ρ : Operand → Value} {o : Oper} {args : Array Operand} {ts : Array TypeId} {w w' : World} {x : Value} (ho : o.op = .call ⟨.builtin .max, args, ts⟩)
    (h : (Builtin.max_ ts o.type (args.map ρ)).run P w = .ok x w') : (execOp ρ o).run P w = .ok (.value x) w' := by
  simp only [execOp, ho, resolve, pure_bind, invoke]
  exact run_value h
theorem call_min {P : Program} {ρ : Operand → Value} {o : Oper} {args : Array Operand} {ts : Array TypeId} {w w' : World} {x : Value} (ho : o.op = .call ⟨.builtin .min, args, ts⟩)
    (h : (Builtin.min_ ts o.type (args.map ρ)).run P w = .ok x w') : (execOp ρ o).run P w = .ok (.value x) w' := by
  simp only [execOp, ho, resolve, pure_bind, invoke]
  exact run_value h
theorem len_sound {P : Program} {env : Env} {o : Oper} {x : Operand} {t : TypeId} {K : AV → Prop} (ho : o.op = .call ⟨.builtin .len, #[x], #[t]⟩) (h : lenK P t (opv env x) K) : ∃ v, K v ∧ PureOk P env o v := by
  generalize hx : opv env x = vx at h
  have fin : ∀ (k : Nat), K (.i64 k) → (∀ (m : NM) (ac : Act) w, (vx ≠ .junk → ac.eval x = AV.toV m vx) → (Builtin.len_ #[t] o.type #[ac.eval x]).run P w = .ok (goInt k) w) → ∃ v, K v ∧ PureOk P env o v := fun k hk hr =>
    ⟨_, hk, pureOk_of fun m N n a hE => ⟨fun w => call_len ho (by
      have e1 : (#[x].map a.eval) = #[a.eval x] := by simp
      rw [e1]
      exact hr m a w fun hj => by have := (eval_opv hE x (by rw [hx]; exact hj)).1; rw [hx] at this; exact this), rfl⟩⟩
  unfold lenK at h
  split at h
  · rename_i n hl
    refine fin _ h fun m ac w _ => ?_
    unfold lenT at hl
    split at hl <;> try (simp at hl; done)
    · rename_i k e hu
      simp only [Option.some.injEq, LenK.arr.injEq] at hl; subst hl
      simp only [Builtin.len_, List.getElem?_toArray, List.getElem?_cons_zero]
      rw [run_ok_bind (run_underlying hu w)]
      rfl
    · rename_i a hu
      split at hl <;> try (simp at hl; done)
      rename_i k e hu2
      simp only [Option.some.injEq, LenK.arr.injEq] at hl; subst hl
      simp only [Builtin.len_, List.getElem?_toArray, List.getElem?_cons_zero]
      rw [run_ok_bind (run_underlying hu w)]
      dsimp only
      rw [run_ok_bind (run_underlying hu2 w)]
      rfl
  · rename_i hl
    have hu : P.underlying t = some .string := by
      unfold lenT at hl
      split at hl <;> first | assumption | (simp at hl; done) | (split at hl <;> simp at hl)
    split at h <;> try exact h.elim
    rename_i s
    refine fin _ h fun m ac w he => ?_
    rw [he (by simp)]
    simp only [Builtin.len_, AV.toV, List.getElem?_toArray, List.getElem?_cons_zero]
    rw [run_ok_bind (run_underlying hu w)]
    simp [ByteArray.size, run_pure]
  · rename_i hl
    obtain ⟨e, hu⟩ : ∃ e, P.underlying t = some (.slice e) := by
      unfold lenT at hl
      split at hl <;> first | exact ⟨_, by assumption⟩ | (simp at hl; done) | (split at hl <;> simp at hl)
    split at h <;> try exact h.elim
    all_goals
      refine fin _ h fun m ac w he => ?_
      rw [he (by simp)]
      simp only [Builtin.len_, AV.toV, List.getElem?_toArray, List.getElem?_cons_zero]
      rw [run_ok_bind (run_underlying hu w)]
      rfl
  · exact h.elim

end Go.Ab
