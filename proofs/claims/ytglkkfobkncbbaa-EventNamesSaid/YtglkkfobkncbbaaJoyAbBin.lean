import Derived.Test.YtglkkfobkncbbaaJoyAbPure
namespace Go.Ab
open Go (IntKind)

theorem wrap_unsigned {k : IntKind} (h : k.signed = false) (n : Int) : k.wrap n = n % (2 ^ k.bits : Int) := by
  simp [IntKind.wrap, h]

theorem wrap_toNat {k : IntKind} (h : k.signed = false) (x : BitVec k.bits) : k.wrap (x.toNat : Int) = x.toNat := by
  rw [wrap_unsigned h]
  have := x.isLt
  exact Int.emod_eq_of_lt (by omega) (by exact_mod_cast this)

theorem ofInt_toNat {w : Nat} (x : BitVec w) : BitVec.ofInt w (x.toNat : Int) = x := by
  apply BitVec.eq_of_toNat_eq
  rw [BitVec.toNat_ofInt]
  have := x.isLt
  have e : ((x.toNat : Int) % ((2 ^ w : Nat) : Int)) = x.toNat := Int.emod_eq_of_lt (by omega) (by exact_mod_cast this)
  rw [e]; omega

/-- What a value comes to, in every world and under all names. -/
def Comes (P : Program) (s : NM → Sem Value) (v : AV) : Prop := (∀ n, v.ok n = true) ∧ ∀ m w, (s m).run P w = .ok (AV.toV m v) w

theorem toNat_wrap_add {k : IntKind} (h : k.signed = false) (x y : BitVec k.bits) : k.wrap ((x.toNat : Int) + y.toNat) = ((x + y).toNat : Int) := by
  rw [wrap_unsigned h, BitVec.toNat_add]; simp
theorem toNat_wrap_sub {k : IntKind} (h : k.signed = false) (x y : BitVec k.bits) : k.wrap ((x.toNat : Int) - y.toNat) = ((x - y).toNat : Int) := by
  rw [wrap_unsigned h, BitVec.toNat_sub]
  have hy := y.isLt
  have e : ((2 ^ k.bits - y.toNat + x.toNat : Nat) : Int) = (x.toNat : Int) - y.toNat + (2 ^ k.bits : Nat) := by omega
  rw [Int.natCast_emod, e]
  simp
theorem toNat_wrap_mul {k : IntKind} (h : k.signed = false) (x y : BitVec k.bits) : k.wrap ((x.toNat : Int) * y.toNat) = ((x * y).toNat : Int) := by
  rw [wrap_unsigned h, BitVec.toNat_mul]; simp

theorem binU_sound {k : IntKind} (hs : k.signed = false) {mk : BitVec k.bits → AV} (hmk : ∀ m z, AV.toV m (mk z) = .int k z.toNat) (hok : ∀ n z, (mk z).ok n = true)
    (op : BinOp) (P : Program) (t : TypeId) (x y : BitVec k.bits) (K : AV → Prop) (h : binU op x y mk K) :
    ∃ v, K v ∧ Comes P (fun _ => Go.binOp op t (.int k x.toNat) (.int k y.toNat)) v := by
  have fin : ∀ (z : BitVec k.bits), K (mk z) → (∀ w, (Go.binOp op t (.int k x.toNat) (.int k y.toNat)).run P w = .ok (.int k z.toNat) w) →
      ∃ v, K v ∧ Comes P (fun _ => Go.binOp op t (.int k x.toNat) (.int k y.toNat)) v :=
    fun z hz hr => ⟨mk z, hz, fun n => hok n z, fun m w => by rw [hmk]; exact hr w⟩
  have finb : ∀ (b : Bool), K (.bo b) → (∀ w, (Go.binOp op t (.int k x.toNat) (.int k y.toNat)).run P w = .ok (.bool b) w) →
      ∃ v, K v ∧ Comes P (fun _ => Go.binOp op t (.int k x.toNat) (.int k y.toNat)) v :=
    fun b hz hr => ⟨.bo b, hz, fun n => rfl, fun m w => by rw [AV.toV]; exact hr w⟩
  have eqb : ((x.toNat : Int) == (y.toNat : Int)) = (x == y) := by
    rw [Bool.eq_iff_iff]; simp only [beq_iff_eq]
    exact ⟨fun h => BitVec.eq_of_toNat_eq (by exact_mod_cast h), fun h => by rw [h]⟩
  have bits : ∀ z : BitVec k.bits, (Sem.run P (pure (Value.int k (k.wrap z.toNat))) : World → Result Value) = fun w => .ok (.int k z.toNat) w := by
    intro z; funext w; simp only [Sem.run, pure, wrap_toNat hs]
  cases op <;> simp only [binU] at h
  case add => exact fin _ h fun w => by simp [Go.binOp, Op.intArith, Sem.run, pure, toNat_wrap_add hs]
  case sub => exact fin _ h fun w => by simp [Go.binOp, Op.intArith, Sem.run, pure, toNat_wrap_sub hs]
  case mul => exact fin _ h fun w => by simp [Go.binOp, Op.intArith, Sem.run, pure, toNat_wrap_mul hs]
  case quo =>
    obtain ⟨h0, h⟩ := h
    have hy : (y.toNat : Int) ≠ 0 := fun e => h0 (BitVec.eq_of_toNat_eq (by simpa using e))
    exact fin _ h fun w => by
      simp only [Go.binOp, Op.intDiv, Sem.run, pure, ne_eq, not_true_eq_false, if_false, hy]
      congr 2
      rw [Int.tdiv_eq_ediv_of_nonneg (by omega), ← Int.natCast_ediv, ← BitVec.toNat_udiv, wrap_toNat hs]
  case rem =>
    obtain ⟨h0, h⟩ := h
    have hy : (y.toNat : Int) ≠ 0 := fun e => h0 (BitVec.eq_of_toNat_eq (by simpa using e))
    exact fin _ h fun w => by
      simp only [Go.binOp, Op.intDiv, Sem.run, pure, ne_eq, not_true_eq_false, if_false, hy]
      congr 2
  case and => exact fin _ h fun w => by simp only [Go.binOp, Op.intBits, ne_eq, not_true_eq_false, if_false, ofInt_toNat]; rw [bits]
  case or => exact fin _ h fun w => by simp only [Go.binOp, Op.intBits, ne_eq, not_true_eq_false, if_false, ofInt_toNat]; rw [bits]
  case xor => exact fin _ h fun w => by simp only [Go.binOp, Op.intBits, ne_eq, not_true_eq_false, if_false, ofInt_toNat]; rw [bits]
  case andNot => exact fin _ h fun w => by simp only [Go.binOp, Op.intBits, ne_eq, not_true_eq_false, if_false, ofInt_toNat]; rw [bits]
  case eql => exact finb _ h fun w => by simp only [Go.binOp, Op.intCmp, Sem.run, pure, ne_eq, not_true_eq_false, if_false, eqb]
  case neq => exact finb _ h fun w => by simp only [Go.binOp, Op.intCmp, Sem.run, pure, ne_eq, not_true_eq_false, if_false, bne, eqb]
  case lss => exact finb _ h fun w => by simp [Go.binOp, Op.intCmp, Sem.run, pure, BitVec.lt_def]
  case leq => exact finb _ h fun w => by simp [Go.binOp, Op.intCmp, Sem.run, pure, BitVec.le_def]
  case gtr => exact finb _ h fun w => by simp [Go.binOp, Op.intCmp, Sem.run, pure, BitVec.lt_def]
  case geq => exact finb _ h fun w => by simp [Go.binOp, Op.intCmp, Sem.run, pure, BitVec.le_def]

theorem binI_sound (op : BinOp) (P : Program) (t : TypeId) (x y : Int) (K : AV → Prop) (h : binI op x y K) :
    ∃ v, K v ∧ Comes P (fun _ => Go.binOp op t (.int .i64 x) (.int .i64 y)) v := by
  have fin : ∀ (z : Int), K (.i64 z) → (∀ w, (Go.binOp op t (.int .i64 x) (.int .i64 y)).run P w = .ok (.int .i64 z) w) →
      ∃ v, K v ∧ Comes P (fun _ => Go.binOp op t (.int .i64 x) (.int .i64 y)) v :=
    fun z hz hr => ⟨.i64 z, hz, fun n => rfl, fun m w => by rw [AV.toV]; exact hr w⟩
  have finb : ∀ (b : Bool), K (.bo b) → (∀ w, (Go.binOp op t (.int .i64 x) (.int .i64 y)).run P w = .ok (.bool b) w) →
      ∃ v, K v ∧ Comes P (fun _ => Go.binOp op t (.int .i64 x) (.int .i64 y)) v :=
    fun b hz hr => ⟨.bo b, hz, fun n => rfl, fun m w => by rw [AV.toV]; exact hr w⟩
  cases op <;> simp only [binI] at h
  case add => exact fin _ h fun w => by simp [Go.binOp, Op.intArith, Sem.run, pure, wrap64]
  case sub => exact fin _ h fun w => by simp [Go.binOp, Op.intArith, Sem.run, pure, wrap64]
  case mul => exact fin _ h fun w => by simp [Go.binOp, Op.intArith, Sem.run, pure, wrap64]
  case quo =>
    obtain ⟨h0, h⟩ := h
    exact fin _ h fun w => by simp [Go.binOp, Op.intDiv, Sem.run, pure, h0, wrap64]
  case rem =>
    obtain ⟨h0, h⟩ := h
    exact fin _ h fun w => by simp [Go.binOp, Op.intDiv, Sem.run, pure, h0]
  case and => exact fin _ h fun w => by simp only [Go.binOp, Op.intBits, Sem.run, pure, and64, wrap64, ne_eq, not_true_eq_false, if_false]; rfl
  case or => exact fin _ h fun w => by simp only [Go.binOp, Op.intBits, Sem.run, pure, or64, wrap64, ne_eq, not_true_eq_false, if_false]; rfl
  case xor => exact fin _ h fun w => by simp only [Go.binOp, Op.intBits, Sem.run, pure, xor64, wrap64, ne_eq, not_true_eq_false, if_false]; rfl
  case andNot => exact fin _ h fun w => by simp only [Go.binOp, Op.intBits, Sem.run, pure, andNot64, wrap64, ne_eq, not_true_eq_false, if_false]; rfl
  case eql => exact finb _ h fun w => by simp [Go.binOp, Op.intCmp, Sem.run, pure]
  case neq => exact finb _ h fun w => by simp [Go.binOp, Op.intCmp, Sem.run, pure]
  case lss => exact finb _ h fun w => by simp [Go.binOp, Op.intCmp, Sem.run, pure]
  case leq => exact finb _ h fun w => by simp [Go.binOp, Op.intCmp, Sem.run, pure]
  case gtr => exact finb _ h fun w => by simp [Go.binOp, Op.intCmp, Sem.run, pure]
  case geq => exact finb _ h fun w => by simp [Go.binOp, Op.intCmp, Sem.run, pure]

theorem shU_sound {k : IntKind} (hs : k.signed = false) {mk : BitVec k.bits → AV} (hmk : ∀ m z, AV.toV m (mk z) = .int k z.toNat) (hok : ∀ n z, (mk z).ok n = true)
    (op : BinOp) (P : Program) (t : TypeId) (x : BitVec k.bits) (yk : IntKind) (c : Int) (K : AV → Prop) (h : shU op x c mk K) :
    ∃ v, K v ∧ Comes P (fun _ => Go.binOp op t (.int k x.toNat) (.int yk c)) v := by
  have fin : ∀ (z : BitVec k.bits), K (mk z) → (∀ w, (Go.binOp op t (.int k x.toNat) (.int yk c)).run P w = .ok (.int k z.toNat) w) →
      ∃ v, K v ∧ Comes P (fun _ => Go.binOp op t (.int k x.toNat) (.int yk c)) v :=
    fun z hz hr => ⟨mk z, hz, fun n => hok n z, fun m w => by rw [hmk]; exact hr w⟩
  cases op <;> simp only [shU] at h <;> try exact h.elim
  · obtain ⟨hc, h⟩ := h
    refine fin _ h fun w => ?_
    have hn : ¬ c < 0 := by omega
    simp only [Go.binOp, Op.shift, Sem.run, pure, hn, if_false]
    congr 2
    rw [wrap_unsigned hs, BitVec.toNat_shiftLeft, Nat.shiftLeft_eq]
    have hx := x.isLt
    rcases Nat.le_total c.toNat k.bits with hle | hle
    · rw [Nat.min_eq_left hle]; simp
    · rw [Nat.min_eq_right hle]
      have h1 : (x.toNat : Int) * 2 ^ k.bits % 2 ^ k.bits = 0 := Int.mul_emod_left _ _
      have h2 : x.toNat * 2 ^ c.toNat % 2 ^ k.bits = 0 := by
        have : 2 ^ c.toNat = 2 ^ k.bits * 2 ^ (c.toNat - k.bits) := by rw [← Nat.pow_add]; congr 1; omega
        rw [this, ← Nat.mul_assoc, Nat.mul_comm x.toNat, Nat.mul_assoc]
        exact Nat.mul_mod_right _ _
      rw [h1, h2]; rfl
  · obtain ⟨hc, h⟩ := h
    refine fin _ h fun w => ?_
    have hn : ¬ c < 0 := by omega
    simp only [Go.binOp, Op.shift, Sem.run, pure, hn, if_false]
    congr 2
    rw [BitVec.toNat_ushiftRight, Nat.shiftRight_eq_div_pow]
    have hx := x.isLt
    rw [Int.fdiv_eq_ediv_of_nonneg _ (Int.le_of_lt (Int.pow_pos (by omega)))]
    rcases Nat.le_total c.toNat k.bits with hle | hle
    · rw [Nat.min_eq_left hle]; simp
    · rw [Nat.min_eq_right hle]
      have h2 : x.toNat / 2 ^ c.toNat = 0 := Nat.div_eq_of_lt (Nat.lt_of_lt_of_le hx (Nat.pow_le_pow_right (by omega) hle))
      have h1 : x.toNat / 2 ^ k.bits = 0 := Nat.div_eq_of_lt hx
      rw [h2]
      have : ((2 : Int) ^ k.bits) = ((2 ^ k.bits : Nat) : Int) := by simp
      rw [this, ← Int.natCast_ediv, h1]

theorem shI_sound (op : BinOp) (P : Program) (t : TypeId) (x : Int) (yk : IntKind) (c : Int) (K : AV → Prop) (h : shI op x c K) :
    ∃ v, K v ∧ Comes P (fun _ => Go.binOp op t (.int .i64 x) (.int yk c)) v := by
  have fin : ∀ (z : Int), K (.i64 z) → (∀ w, (Go.binOp op t (.int .i64 x) (.int yk c)).run P w = .ok (.int .i64 z) w) →
      ∃ v, K v ∧ Comes P (fun _ => Go.binOp op t (.int .i64 x) (.int yk c)) v :=
    fun z hz hr => ⟨.i64 z, hz, fun n => rfl, fun m w => by rw [AV.toV]; exact hr w⟩
  cases op <;> simp only [shI] at h <;> try exact h.elim
  · obtain ⟨hc, h⟩ := h
    have hn : ¬ c < 0 := by omega
    exact fin _ h fun w => by simp [Go.binOp, Op.shift, Sem.run, pure, hn, wrap64, IntKind.bits]
  · obtain ⟨hc, h⟩ := h
    have hn : ¬ c < 0 := by omega
    refine fin _ h fun w => ?_
    simp only [Go.binOp, Op.shift, Sem.run, pure, hn, if_false, IntKind.bits]
    rw [Int.fdiv_eq_ediv_of_nonneg _ (Int.le_of_lt (Int.pow_pos (by omega)))]

end Go.Ab
