import Derived.Test.YtglkkfobkncbbaaJoyAbVal
namespace Go.Ab

/-- A constant. -/
def ofV : Value → AV
  | .bool b => .bo b
  | .int .u8 n => if 0 ≤ n ∧ n < 256 then .u8 (BitVec.ofInt 8 n) else .junk
  | .int .u16 n => if 0 ≤ n ∧ n < 65536 then .u16 (BitVec.ofInt 16 n) else .junk
  | .int .u32 n => if 0 ≤ n ∧ n < 4294967296 then .u32 (BitVec.ofInt 32 n) else .junk
  | .int .u64 n => if 0 ≤ n ∧ n < 18446744073709551616 then .u64 (BitVec.ofInt 64 n) else .junk
  | .int .i64 n => .i64 n
  | .string s => .st (s.data.toList.map UInt8.toBitVec)
  | .pointer none => .pn
  | .slice none 0 0 => .sn
  | .nilIface => .ifn
  | .nilFunc => .fnn
  | _ => .junk

def opv (env : Env) : Operand → AV
  | .tmp t => env.get t
  | .const v => ofV v
  | .func f => .fn f []
  | .global _ => .junk

theorem toNat_ofInt (w : Nat) (n : Int) (h0 : 0 ≤ n) (h : n < 2 ^ w) : ((BitVec.ofInt w n).toNat : Int) = n := by
  rw [BitVec.toNat_ofInt]
  have : (2 : Int) ^ w = ((2 ^ w : Nat) : Int) := by simp
  rw [this] at h
  have e : n % ((2 ^ w : Nat) : Int) = n := Int.emod_eq_of_lt h0 h
  rw [e]; omega

theorem toV_ofV (m : NM) (v : Value) (h : ofV v ≠ .junk) : AV.toV m (ofV v) = v := by
  unfold ofV at *
  split at h <;> try (simp only [AV.toV]; done)
  · split at h
    · rename_i hc; simp only [hc, and_self, if_true, AV.toV]; rw [toNat_ofInt 8 _ hc.1 (by omega)]
    · exact absurd rfl h
  · split at h
    · rename_i hc; simp only [hc, and_self, if_true, AV.toV]; rw [toNat_ofInt 16 _ hc.1 (by omega)]
    · exact absurd rfl h
  · split at h
    · rename_i hc; simp only [hc, and_self, if_true, AV.toV]; rw [toNat_ofInt 32 _ hc.1 (by omega)]
    · exact absurd rfl h
  · split at h
    · rename_i hc; simp only [hc, and_self, if_true, AV.toV]; rw [toNat_ofInt 64 _ hc.1 (by omega)]
    · exact absurd rfl h
  · rename_i s; simp only [AV.toV, List.map_map]
    congr 1
    cases s with | mk d => cases d with | mk l => simp [Function.comp_def]
  · exact absurd rfl h

theorem ofV_ok (n : Nat) (v : Value) : (ofV v).ok n = true := by
  unfold ofV; split <;> try rfl
  all_goals (split <;> rfl)

theorem eval_opv {m : NM} {N n : Nat} {env : Env} {a : Act} (h : ERel m N n env a) (x : Operand) (hx : opv env x ≠ .junk) :
    a.eval x = AV.toV m (opv env x) ∧ (opv env x).ok n = true := by
  cases x with
  | tmp t => exact h.get t hx
  | const v => exact ⟨(toV_ofV m v hx).symm, ofV_ok n v⟩
  | func f => simp [opv, Act.eval, AV.toV, AV.toVs, AV.ok, AV.oks]
  | global g => exact absurd rfl hx

/-- The number of a value, whatever its kind. -/
def idx : AV → Option Int
  | .u8 x => some x.toNat
  | .u16 x => some x.toNat
  | .u32 x => some x.toNat
  | .u64 x => some x.toNat
  | .i8 x => some x.toInt
  | .i64 n => some n
  | _ => none

def knd : AV → IntKind
  | .u8 _ => .u8 | .u16 _ => .u16 | .u32 _ => .u32 | .u64 _ => .u64 | .i8 _ => .i8 | _ => .i64

theorem toV_idx {m : NM} {v : AV} {i : Int} (h : idx v = some i) : AV.toV m v = .int (knd v) i := by
  cases v <;> simp only [idx, Option.some.injEq, reduceCtorEq] at h <;> subst h <;> rfl

/-! ### The sums of one kind -/
def binU {w : Nat} (op : BinOp) (x y : BitVec w) (mk : BitVec w → AV) (K : AV → Prop) : Prop :=
  match op with
  | .add => K (mk (x + y))
  | .sub => K (mk (x - y))
  | .mul => K (mk (x * y))
  | .quo => y ≠ 0 ∧ K (mk (x / y))
  | .rem => y ≠ 0 ∧ K (mk (x % y))
  | .and => K (mk (x &&& y))
  | .or => K (mk (x ||| y))
  | .xor => K (mk (x ^^^ y))
  | .andNot => K (mk (x &&& ~~~ y))
  | .eql => K (.bo (x == y))
  | .neq => K (.bo (x != y))
  | .lss => K (.bo (decide (x < y)))
  | .leq => K (.bo (decide (x ≤ y)))
  | .gtr => K (.bo (decide (y < x)))
  | .geq => K (.bo (decide (y ≤ x)))
  | _ => False

def wrap64 (n : Int) : Int := IntKind.i64.wrap n
def and64 (x y : Int) : Int := wrap64 (BitVec.ofInt 64 x &&& BitVec.ofInt 64 y).toNat
def or64 (x y : Int) : Int := wrap64 (BitVec.ofInt 64 x ||| BitVec.ofInt 64 y).toNat
def xor64 (x y : Int) : Int := wrap64 (BitVec.ofInt 64 x ^^^ BitVec.ofInt 64 y).toNat
def andNot64 (x y : Int) : Int := wrap64 (BitVec.ofInt 64 x &&& ~~~ BitVec.ofInt 64 y).toNat

def binI (op : BinOp) (x y : Int) (K : AV → Prop) : Prop :=
  match op with
  | .add => K (.i64 (wrap64 (x + y)))
  | .sub => K (.i64 (wrap64 (x - y)))
  | .mul => K (.i64 (wrap64 (x * y)))
  | .quo => y ≠ 0 ∧ K (.i64 (wrap64 (x.tdiv y)))
  | .rem => y ≠ 0 ∧ K (.i64 (x.tmod y))
  | .and => K (.i64 (and64 x y))
  | .or => K (.i64 (or64 x y))
  | .xor => K (.i64 (xor64 x y))
  | .andNot => K (.i64 (andNot64 x y))
  | .eql => K (.bo (x == y))
  | .neq => K (.bo (x != y))
  | .lss => K (.bo (decide (x < y)))
  | .leq => K (.bo (decide (x ≤ y)))
  | .gtr => K (.bo (decide (y < x)))
  | .geq => K (.bo (decide (y ≤ x)))
  | _ => False

def shU {w : Nat} (op : BinOp) (x : BitVec w) (c : Int) (mk : BitVec w → AV) (K : AV → Prop) : Prop :=
  match op with
  | .shl => 0 ≤ c ∧ K (mk (x <<< c.toNat))
  | .shr => 0 ≤ c ∧ K (mk (x >>> c.toNat))
  | _ => False
def shI (op : BinOp) (x : Int) (c : Int) (K : AV → Prop) : Prop :=
  match op with
  | .shl => 0 ≤ c ∧ K (.i64 (wrap64 (x * 2 ^ min c.toNat 64)))
  | .shr => 0 ≤ c ∧ K (.i64 (x / 2 ^ min c.toNat 64))
  | _ => False

def isShift : BinOp → Bool
  | .shl | .shr => true
  | _ => false

def AV.beq : AV → AV → Bool
  | .bo x, .bo y => x == y
  | .u8 x, .u8 y => x == y
  | .u16 x, .u16 y => x == y
  | .u32 x, .u32 y => x == y
  | .u64 x, .u64 y => x == y
  | .i8 x, .i8 y => x == y
  | .i64 x, .i64 y => x == y
  | .st x, .st y => x == y
  | _, _ => false
def eqCells : List AV → List AV → Bool
  | [], [] => true
  | a :: r, b :: s => a.beq b && eqCells r s
  | _, _ => false

def binScalar (op : BinOp) (x y : AV) (K : AV → Prop) : Prop :=
  match x, y with
  | .u8 x, .u8 y => binU op x y .u8 K
  | .u16 x, .u16 y => binU op x y .u16 K
  | .u32 x, .u32 y => binU op x y .u32 K
  | .u64 x, .u64 y => binU op x y .u64 K
  | .i64 x, .i64 y => binI op x y K
  | .st x, .st y => match op with
    | .eql => K (.bo (x == y))
    | .neq => K (.bo (x != y))
    | .add => x.length + y.length ≤ 9223372036854775807 ∧ K (.st (x ++ y))
    | _ => False
  | _, _ => False
def binShift (op : BinOp) (x y : AV) (K : AV → Prop) : Prop :=
  match idx y with
  | none => False
  | some c => match x with
    | .u8 x => shU op x c .u8 K
    | .u16 x => shU op x c .u16 K
    | .u32 x => shU op x c .u32 K
    | .u64 x => shU op x c .u64 K
    | .i64 x => shI op x c K
    | _ => False

end Go.Ab
