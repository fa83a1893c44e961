import Derived.Test.YtglkkfobkncbbaaJoyAbOps
import Derived.Lib.Strings
namespace Go.Ab

theorem pureOk_of {P : Program} {env : Env} {o : Oper} {v : AV}
    (h : ∀ (m : NM) (N n : Nat) (a : Act), ERel m N n env a → (∀ w, (execOp a.eval o).run P w = .ok (.value (AV.toV m v)) w) ∧ v.ok n = true) : PureOk P env o v :=
  fun m N n a ha => let ⟨h1, h2⟩ := h m N n a ha; ⟨_, h1, fun _ => ⟨rfl, h2⟩⟩

/-- 'v s': an operation that gives a value. -/
theorem run_value {P : Program} {s : Sem Value} {x : Value} {w w' : World} (h : s.run P w = .ok x w') :
    (do pure (.value (← s)) : Sem Next).run P w = .ok (.value x) w' := by
  rw [run_bind, h]; rfl

theorem move_sound {P : Program} {env : Env} {o : Oper} {x : Operand} (ho : o.op = .move x ∨ o.op = .assign x) : PureOk P env o (opv env x) := by
  intro m N n a ha
  refine ⟨a.eval x, fun w => ?_, fun hx => eval_opv ha x hx⟩
  rcases ho with ho | ho <;> simp only [execOp, ho] <;> rfl

theorem pick_sound {P : Program} {env : Env} {o : Oper} {c a b : Operand} {t : Bool} (ho : o.op = .pick c a b) (hc : opv env c = .bo t) :
    PureOk P env o (if t then opv env a else opv env b) := by
  intro m N n ac ha
  have e := (eval_opv ha c (by rw [hc]; simp)).1
  rw [hc] at e
  refine ⟨if t then ac.eval a else ac.eval b, fun w => ?_, fun hx => ?_⟩
  · simp only [execOp, ho]
    rw [run_bind, e]
    simp only [AV.toV, asBool, run_pure]
  · cases t
    · exact eval_opv ha b hx
    · exact eval_opv ha a hx

theorem eqGuard_run {P : Program} (op : BinOp) (t : TypeId) (x y : Operand) (a b : Value) (w : World) (h1 : a ≠ .nilIface) (h2 : ∀ cs, a ≠ .agg cs) :
    (eqGuard op t x y a b).run P w = .ok () w := by
  unfold eqGuard
  cases op <;> simp only [Bool.not_true, Bool.not_false, Bool.false_eq_true, if_true, if_false, pure_bind] <;> try rfl
  all_goals (cases a <;> first | exact absurd rfl h1 | exact absurd rfl (h2 _) | rfl | (cases b <;> rfl))

theorem binOp_run {P : Program} {o : Oper} {ρ : Operand → Value} {op : BinOp} {t yt : TypeId} {x y : Operand} {r : Value} {w : World} (ho : o.op = .binOp op t x y yt)
    (h1 : ρ x ≠ .nilIface) (h2 : ∀ cs, ρ x ≠ .agg cs) (h : (Go.binOp op t (ρ x) (ρ y)).run P w = .ok r w) :
    (execOp ρ o).run P w = .ok (.value r) w := by
  simp only [execOp, ho]
  refine run_value ?_
  rw [run_bind, eqGuard_run _ _ _ _ _ _ _ h1 h2]
  exact h

theorem knd_ne {m : NM} {v : AV} {i : Int} (h : idx v = some i) : AV.toV m v ≠ .nilIface ∧ ∀ cs, AV.toV m v ≠ .agg cs := by
  rw [toV_idx h]; exact ⟨by simp, fun _ => by simp⟩

theorem ne_junk_of_idx {v : AV} {i : Int} (h : idx v = some i) : v ≠ .junk := by rintro rfl; simp [idx] at h

theorem bin_of_comes {P : Program} {env : Env} {o : Oper} {op : BinOp} {t yt : TypeId} {x y : Operand} {vx vy v : AV} {ix : Value} {iy : Value}
    (ho : o.op = .binOp op t x y yt) (hx : opv env x = vx) (hy : opv env y = vy) (hxj : vx ≠ .junk) (hyj : vy ≠ .junk)
    (ex : ∀ m, AV.toV m vx = ix) (ey : ∀ m, AV.toV m vy = iy) (h1 : ix ≠ .nilIface) (h2 : ∀ cs, ix ≠ .agg cs)
    (h : Comes P (fun _ => Go.binOp op t ix iy) v) : PureOk P env o v :=
  pureOk_of fun m N n a ha => by
    have e1 := (eval_opv ha x (by rw [hx]; exact hxj)).1
    have e2 := (eval_opv ha y (by rw [hy]; exact hyj)).1
    rw [hx, ex] at e1
    rw [hy, ey] at e2
    refine ⟨fun w => binOp_run ho (by rw [e1]; exact h1) (by rw [e1]; exact h2) ?_, h.1 n⟩
    rw [e1, e2]; exact h.2 m w

theorem strings_eq {x y : List (BitVec 8)} :
    ((⟨(x.map UInt8.ofBitVec).toArray⟩ : ByteArray).toList == (⟨(y.map UInt8.ofBitVec).toArray⟩ : ByteArray).toList) = (x == y) := by
  rw [Lib.toList_data, Lib.toList_data, Bool.eq_iff_iff]
  simp only [beq_iff_eq]
  constructor
  · intro h
    have h' := congrArg (List.map UInt8.toBitVec) h
    simpa [List.map_map, Function.comp_def] using h'
  · intro h; rw [h]

theorem binScalar_sound {P : Program} {env : Env} {o : Oper} {op : BinOp} {t yt : TypeId} {x y : Operand} {K : AV → Prop}
    (ho : o.op = .binOp op t x y yt) (hs : isShift op = false) (h : binScalar op (opv env x) (opv env y) K) : ∃ v, K v ∧ PureOk P env o v := by
  generalize hx : opv env x = vx at h
  generalize hy : opv env y = vy at h
  unfold binScalar at h
  split at h
  · obtain ⟨v, hv, hc⟩ := binU_sound (k := .u8) rfl (fun _ _ => rfl) (fun _ _ => rfl) op P t _ _ K h
    exact ⟨v, hv, bin_of_comes ho hx hy (by simp) (by simp) (fun _ => rfl) (fun _ => rfl) (by simp) (fun _ => by simp) hc⟩
  · obtain ⟨v, hv, hc⟩ := binU_sound (k := .u16) rfl (fun _ _ => rfl) (fun _ _ => rfl) op P t _ _ K h
    exact ⟨v, hv, bin_of_comes ho hx hy (by simp) (by simp) (fun _ => rfl) (fun _ => rfl) (by simp) (fun _ => by simp) hc⟩
  · obtain ⟨v, hv, hc⟩ := binU_sound (k := .u32) rfl (fun _ _ => rfl) (fun _ _ => rfl) op P t _ _ K h
    exact ⟨v, hv, bin_of_comes ho hx hy (by simp) (by simp) (fun _ => rfl) (fun _ => rfl) (by simp) (fun _ => by simp) hc⟩
  · obtain ⟨v, hv, hc⟩ := binU_sound (k := .u64) rfl (fun _ _ => rfl) (fun _ _ => rfl) op P t _ _ K h
    exact ⟨v, hv, bin_of_comes ho hx hy (by simp) (by simp) (fun _ => rfl) (fun _ => rfl) (by simp) (fun _ => by simp) hc⟩
  · obtain ⟨v, hv, hc⟩ := binI_sound op P t _ _ K h
    exact ⟨v, hv, bin_of_comes ho hx hy (by simp) (by simp) (fun _ => rfl) (fun _ => rfl) (by simp) (fun _ => by simp) hc⟩
  · rename_i sx sy
    have fin : ∀ v, K v → Comes P (fun _ => Go.binOp op t (.string ⟨(sx.map UInt8.ofBitVec).toArray⟩) (.string ⟨(sy.map UInt8.ofBitVec).toArray⟩)) v → ∃ v, K v ∧ PureOk P env o v :=
      fun v hv hc => ⟨v, hv, bin_of_comes ho hx hy (by simp) (by simp) (fun _ => rfl) (fun _ => rfl) (by simp) (fun _ => by simp) hc⟩
    cases op <;> first | exact h.elim | skip
    · obtain ⟨hl, h⟩ := h
      refine fin _ h ⟨fun _ => rfl, fun m w => ?_⟩
      have hn : ¬ (((⟨(sx.map UInt8.ofBitVec).toArray⟩ : ByteArray).size + (⟨(sy.map UInt8.ofBitVec).toArray⟩ : ByteArray).size : Nat) : Int) > IntKind.i64.max := by
        show ¬ (((sx.map UInt8.ofBitVec).toArray.size + (sy.map UInt8.ofBitVec).toArray.size : Nat) : Int) > 9223372036854775807
        simp only [List.size_toArray, List.length_map]; omega
      simp only [Go.binOp, Op.stringOp, if_neg hn, Sem.run, pure, AV.toV]
      congr 2
      simp [ByteArray.ext_iff]
    · refine fin _ h ⟨fun _ => rfl, fun m w => ?_⟩
      simp only [Go.binOp, Op.stringOp, Sem.run, pure, AV.toV, strings_eq]
    · refine fin _ h ⟨fun _ => rfl, fun m w => ?_⟩
      simp only [Go.binOp, Op.stringOp, Sem.run, pure, AV.toV, bne, strings_eq]
  · exact h.elim

theorem binShift_sound {P : Program} {env : Env} {o : Oper} {op : BinOp} {t yt : TypeId} {x y : Operand} {K : AV → Prop}
    (ho : o.op = .binOp op t x y yt) (h : binShift op (opv env x) (opv env y) K) : ∃ v, K v ∧ PureOk P env o v := by
  generalize hx : opv env x = vx at h
  generalize hy : opv env y = vy at h
  unfold binShift at h
  cases hi : idx vy with
  | none => rw [hi] at h; exact h.elim
  | some c =>
    rw [hi] at h
    have ey : ∀ m, AV.toV m vy = .int (knd vy) c := fun m => toV_idx hi
    have hyj := ne_junk_of_idx hi
    cases vx <;> simp only at h <;> try exact h.elim
    · obtain ⟨v, hv, hc⟩ := shU_sound (k := .u8) rfl (fun _ _ => rfl) (fun _ _ => rfl) op P t _ (knd vy) _ K h
      exact ⟨v, hv, bin_of_comes ho hx hy (by simp) hyj (fun _ => rfl) ey (by simp) (fun _ => by simp) hc⟩
    · obtain ⟨v, hv, hc⟩ := shU_sound (k := .u16) rfl (fun _ _ => rfl) (fun _ _ => rfl) op P t _ (knd vy) _ K h
      exact ⟨v, hv, bin_of_comes ho hx hy (by simp) hyj (fun _ => rfl) ey (by simp) (fun _ => by simp) hc⟩
    · obtain ⟨v, hv, hc⟩ := shU_sound (k := .u32) rfl (fun _ _ => rfl) (fun _ _ => rfl) op P t _ (knd vy) _ K h
      exact ⟨v, hv, bin_of_comes ho hx hy (by simp) hyj (fun _ => rfl) ey (by simp) (fun _ => by simp) hc⟩
    · obtain ⟨v, hv, hc⟩ := shU_sound (k := .u64) rfl (fun _ _ => rfl) (fun _ _ => rfl) op P t _ (knd vy) _ K h
      exact ⟨v, hv, bin_of_comes ho hx hy (by simp) hyj (fun _ => rfl) ey (by simp) (fun _ => by simp) hc⟩
    · obtain ⟨v, hv, hc⟩ := shI_sound op P t _ (knd vy) _ K h
      exact ⟨v, hv, bin_of_comes ho hx hy (by simp) hyj (fun _ => rfl) ey (by simp) (fun _ => by simp) hc⟩

end Go.Ab
