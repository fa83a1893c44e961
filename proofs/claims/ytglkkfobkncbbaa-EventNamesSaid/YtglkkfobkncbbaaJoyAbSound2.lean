import Derived.Test.YtglkkfobkncbbaaJoyAbSound
import Derived.Laws.StructEq
import Derived.Laws.Small
import Derived.Laws.Pointers
namespace Go.Ab

theorem eqIn_bool {P : Program} (w : World) (d : Nat) (t : TypeId) (a b : Bool) (h : P.underlying t = some .bool) : (Op.equalIn (d + 1) t (.bool a) (.bool b)).run P w = .ok (a == b) w := by
  simp [Op.equalIn, Go.run_underlying h]
theorem eqIn_ptr1 {P : Program} (w : World) (d : Nat) (t e : TypeId) (a : Addr) (h : P.underlying t = some (.pointer e)) : (Op.equalIn (d + 1) t (.pointer (some a)) (.pointer none)).run P w = .ok false w := by
  simp [Op.equalIn, Go.run_underlying h]
theorem eqIn_ptr2 {P : Program} (w : World) (d : Nat) (t e : TypeId) (a : Option Addr) (h : P.underlying t = some (.pointer e)) : (Op.equalIn (d + 1) t (.pointer none) (.pointer a)).run P w = .ok a.isNone w := by
  cases a <;> simp [Op.equalIn, Go.run_underlying h]
theorem eqIn_sl1 {P : Program} (w : World) (d : Nat) (t e : TypeId) (a : Addr) (l c : Nat) (h : P.underlying t = some (.slice e)) : (Op.equalIn (d + 1) t (.slice (some a) l c) (.slice none 0 0)).run P w = .ok false w := by
  simp [Op.equalIn, Go.run_underlying h]
theorem eqIn_sl2 {P : Program} (w : World) (d : Nat) (t e : TypeId) (a : Option Addr) (l c : Nat) (h : P.underlying t = some (.slice e)) : (Op.equalIn (d + 1) t (.slice none 0 0) (.slice a l c)).run P w = .ok a.isNone w := by
  cases a <;> simp [Op.equalIn, Go.run_underlying h]
theorem eqIn_fn {P : Program} (w : World) (d : Nat) (t : TypeId) {a b c} (h : P.underlying t = some (.func a b c)) :
   (Op.equalIn (d + 1) t .nilFunc .nilFunc).run P w = .ok true w ∧ (∀ f x y, (Op.equalIn (d + 1) t (.func f x y) .nilFunc).run P w = .ok false w) ∧ (∀ f x y, (Op.equalIn (d + 1) t .nilFunc (.func f x y)).run P w = .ok false w) := by
  refine ⟨?_, fun f x y => ?_, fun f x y => ?_⟩ <;> simp [Op.equalIn, Go.run_underlying h]

theorem run_ok_bind {α β : Type} {P : Program} {s : Sem α} {f : α → Sem β} {x : α} {w w' : World} (h : s.run P w = .ok x w') : (s >>= f).run P w = (f x).run P w' := by
  rw [run_bind, h]

def TK.of : TK → TypeDesc → Prop
  | .bool, d => d = .bool
  | .ptr, d => ∃ e, d = .pointer e
  | .slice, d => ∃ e, d = .slice e
  | .func, d => ∃ a b c, d = .func a b c
theorem kindT_spec {P : Program} {t : TypeId} {k : TK} (h : kindT P t = some k) : ∃ d, P.underlying t = some d ∧ k.of d := by
  unfold kindT at h
  cases hu : P.underlying t with
  | none => simp [hu] at h
  | some d =>
    refine ⟨d, rfl, ?_⟩
    rw [hu] at h
    cases d <;> simp only [Option.some.injEq, reduceCtorEq] at h <;> subst h <;> simp [TK.of]

theorem eqPlain_run {P : Program} {t : TypeId} {k : TK} {d : TypeDesc} (hd : P.underlying t = some d)
    (hkd : k.of d)
    {vx vy : AV} {b : Bool} (he : eqPlain k vx vy = some b) (m : NM) (w : World) (n : Nat) : (Op.equalIn (n + 1) t (AV.toV m vx) (AV.toV m vy)).run P w = .ok b w := by
  cases k <;> simp only [TK.of] at hkd
  · subst hkd
    cases vx <;> cases vy <;> simp only [eqPlain, Option.some.injEq, reduceCtorEq] at he
    subst he; exact eqIn_bool w n t _ _ hd
  · obtain ⟨e, rfl⟩ := hkd
    cases vx <;> cases vy <;> simp only [eqPlain, Option.some.injEq, reduceCtorEq] at he <;> subst he
    · exact eqIn_ptr1 w n t e _ hd
    · exact eqIn_ptr2 w n t e (some _) hd
    · exact eqIn_ptr2 w n t e none hd
  · obtain ⟨e, rfl⟩ := hkd
    cases vx <;> cases vy <;> simp only [eqPlain, Option.some.injEq, reduceCtorEq] at he <;> subst he
    · exact eqIn_sl1 w n t e _ _ _ hd
    · exact eqIn_sl1 w n t e _ _ _ hd
    · exact eqIn_sl2 w n t e (some _) _ _ hd
    · exact eqIn_sl2 w n t e (some _) _ _ hd
    · exact eqIn_sl2 w n t e none _ _ hd
  · obtain ⟨e1, e2, e3, rfl⟩ := hkd
    have h := eqIn_fn w n t hd
    cases vx <;> cases vy <;> simp only [eqPlain, Option.some.injEq, reduceCtorEq] at he <;> subst he
    · exact h.2.1 _ _ _
    · exact h.2.2 _ _ _
    · exact h.1

theorem eqPlain_form {k : TK} {vx vy : AV} {b : Bool} (he : eqPlain k vx vy = some b) : vx ≠ .junk ∧ vy ≠ .junk ∧ ∀ m : NM, (AV.toV m vx ≠ .nilIface ∧ (∀ cs, AV.toV m vx ≠ .agg cs)) ∧
    ∀ (t : TypeId), Go.binOp .eql t (AV.toV m vx) (AV.toV m vy) = (Op.equal t (AV.toV m vx) (AV.toV m vy) >>= fun r => pure (.bool r)) ∧
      Go.binOp .neq t (AV.toV m vx) (AV.toV m vy) = (Op.equal t (AV.toV m vx) (AV.toV m vy) >>= fun r => pure (.bool (!r))) := by
  cases k <;> cases vx <;> cases vy <;> simp only [eqPlain, reduceCtorEq] at he <;>
    exact ⟨by simp, by simp, fun m => ⟨⟨by simp [AV.toV], fun _ => by simp [AV.toV]⟩, fun t => ⟨rfl, rfl⟩⟩⟩

theorem binPlain_sound {P : Program} {env : Env} {o : Oper} {op : BinOp} {t yt : TypeId} {x y : Operand} {K : AV → Prop}
    (ho : o.op = .binOp op t x y yt) (h : binPlain P op t (opv env x) (opv env y) K) : ∃ v, K v ∧ PureOk P env o v := by
  generalize hx : opv env x = vx at h
  generalize hy : opv env y = vy at h
  unfold binPlain at h
  cases hk : kindT P t with
  | none => rw [hk] at h; exact h.elim
  | some k =>
    rw [hk] at h
    dsimp only at h
    cases he : eqPlain k vx vy with
    | none => rw [he] at h; exact h.elim
    | some b =>
      rw [he] at h
      dsimp only at h
      obtain ⟨d, hd, hkd⟩ := kindT_spec hk
      obtain ⟨k2, k3, kf⟩ := eqPlain_form he
      have fin : ∀ c : Bool, K (.bo c) → (∀ (m : NM) w, (Go.binOp op t (AV.toV m vx) (AV.toV m vy)).run P w = .ok (.bool c) w) → ∃ v, K v ∧ PureOk P env o v := fun c hc hr =>
        ⟨.bo c, hc, pureOk_of fun m N n a ha => by
          have e1 := (eval_opv ha x (by rw [hx]; exact k2)).1
          have e2 := (eval_opv ha y (by rw [hy]; exact k3)).1
          rw [hx] at e1; rw [hy] at e2
          refine ⟨fun w => binOp_run ho (by rw [e1]; exact (kf m).1.1) (by rw [e1]; exact (kf m).1.2) ?_, rfl⟩
          rw [e1, e2]; exact hr m w⟩
      have hq : ∀ (m : NM) w, (Op.equal t (AV.toV m vx) (AV.toV m vy)).run P w = .ok b w := fun m w => eqPlain_run hd hkd he m w 9999
      cases op <;> simp only at h <;> first | exact h.elim | skip
      · refine fin _ h fun m w => ?_
        rw [((kf m).2 t).1, run_ok_bind (hq m w)]; rfl
      · refine fin _ h fun m w => ?_
        rw [((kf m).2 t).2, run_ok_bind (hq m w)]; rfl

theorem un_of {P : Program} {env : Env} {o : Oper} {op : UnOp} {t : TypeId} {x : Operand} {vx v : AV} (ho : o.op = .unOp op t x) (hx : opv env x = vx) (hxj : vx ≠ .junk)
    (h : Comes P (fun m => Op.unary op (AV.toV m vx)) v) : PureOk P env o v :=
  pureOk_of fun m N n a ha => by
    have e1 := (eval_opv ha x (by rw [hx]; exact hxj)).1
    rw [hx] at e1
    refine ⟨fun w => ?_, h.1 n⟩
    simp only [execOp, ho]
    refine run_value ?_
    rw [e1]; exact h.2 m w

theorem not_wrap {k : IntKind} (hs : k.signed = false) (x : BitVec k.bits) : Op.intBits .xor k k.max x.toNat = (pure (.int k (~~~ x).toNat) : Sem Value) := by
  have hm : BitVec.ofInt k.bits k.max = BitVec.allOnes k.bits := by
    apply BitVec.eq_of_toNat_eq
    rw [BitVec.toNat_ofInt, BitVec.toNat_allOnes]
    simp only [IntKind.max, hs, Bool.false_eq_true, if_false]
    have h1 : ((2 ^ k.bits : Nat) : Int) = 2 ^ k.bits := by simp
    have h2 : 0 < 2 ^ k.bits := Nat.two_pow_pos _
    rw [← h1, Int.emod_eq_of_lt (by omega) (by omega)]
    omega
  simp only [Op.intBits, ofInt_toNat, hm, BitVec.allOnes_xor]
  rw [wrap_toNat hs]

theorem un_sound {P : Program} {env : Env} {o : Oper} {op : UnOp} {t : TypeId} {x : Operand} {K : AV → Prop} (ho : o.op = .unOp op t x) (h : unK op (opv env x) K) :
    ∃ v, K v ∧ PureOk P env o v := by
  generalize hx : opv env x = vx at h
  unfold unK at h
  split at h
  · exact ⟨_, h, un_of ho hx (by simp) ⟨fun _ => rfl, fun m w => rfl⟩⟩
  · exact ⟨_, h, un_of ho hx (by simp) ⟨fun _ => rfl, fun m w => rfl⟩⟩
  · rename_i z
    exact ⟨_, h, un_of ho hx (by simp) ⟨fun _ => rfl, fun m w => by
      exact congrArg (fun s => Sem.run P s w) (not_wrap (k := .u8) rfl z)⟩⟩
  · rename_i z
    exact ⟨_, h, un_of ho hx (by simp) ⟨fun _ => rfl, fun m w => by
      exact congrArg (fun s => Sem.run P s w) (not_wrap (k := .u16) rfl z)⟩⟩
  · rename_i z
    exact ⟨_, h, un_of ho hx (by simp) ⟨fun _ => rfl, fun m w => by
      exact congrArg (fun s => Sem.run P s w) (not_wrap (k := .u32) rfl z)⟩⟩
  · exact h.elim

theorem convT_int {P : Program} {s d : TypeId} {k : IntKind} (h : convT P s d = some (.int k)) : (∃ x, P.underlying s = some x) ∧ P.underlying d = some (.int k) := by
  unfold convT at h
  cases hs : P.underlying s with
  | none => simp [hs] at h
  | some a =>
    cases hd : P.underlying d with
    | none => rw [hs, hd] at h; cases a <;> simp at h
    | some b =>
      rw [hs, hd] at h
      refine ⟨⟨a, rfl⟩, ?_⟩
      cases b <;> first | (cases a <;> simp at h <;> done) | skip
      · simp only [Option.some.injEq, CK.int.injEq] at h; rw [h]
      · cases a <;> simp only [Option.some.injEq, reduceCtorEq] at h
        · split at h <;> simp at h
      · cases a <;> simp only [Option.some.injEq, reduceCtorEq] at h
        · split at h <;> simp at h

end Go.Ab
