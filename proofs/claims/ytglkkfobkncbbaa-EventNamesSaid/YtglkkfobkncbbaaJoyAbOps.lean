import Derived.Test.YtglkkfobkncbbaaJoyAbBin
namespace Go.Ab

/-! ### What the program's types say, asked once -/
def tyA (P : Program) (t : TypeId) : Option (Bool × Nat) :=
  match P.underlying t, P.info? t with
  | some (.struct _), some i => some (true, i.size)
  | some (.array _ _), some i => some (true, i.size)
  | some _, some i => some (false, i.size)
  | _, _ => none
def fldT (P : Program) (s : TypeId) (f : Nat) : Option (Nat × Bool × Nat) :=
  match P.underlying s with
  | some (.struct fs) => match fs[f]? with
    | some fd => match tyA P fd.type with
      | some (ag, sz) => if sz = 0 then none else some (fd.offset, ag, sz)
      | none => none
    | none => none
  | _ => none
/-- An array's length, or none for a slice; of an element: is it a struct or an array, and its cells. -/
def ixT (P : Program) (t : TypeId) : Option (Option Nat × Bool × Nat) :=
  match P.underlying t with
  | some (.array n e) => match tyA P e with
    | some (a, s) => some (some n, a, s)
    | none => none
  | some (.slice e) => match tyA P e with
    | some (a, s) => some (none, a, s)
    | none => none
  | _ => none
inductive CK where
  | int (k : IntKind) | str | b2s | s2b (e : TypeId)
def convT (P : Program) (s d : TypeId) : Option CK :=
  match P.underlying s, P.underlying d with
  | some _, some (.int k) => some (.int k)
  | some .string, some .string => some .str
  | some .string, some (.slice e) => match P.underlying e with
    | some (.int .u8) => some (.s2b e)
    | _ => none
  | some (.slice e), some .string => match P.underlying e with
    | some (.int .u8) => some .b2s
    | _ => none
  | _, _ => none
def isStrT (P : Program) (t : TypeId) : Bool := match P.underlying t with
  | some .string => true
  | _ => false
def notIface (P : Program) (t : TypeId) : Bool := match P.underlying t with
  | some (.interface _) => false
  | some _ => true
  | none => false

inductive TK where
  | bool | ptr | slice | func
def kindT (P : Program) (t : TypeId) : Option TK := match P.underlying t with
  | some .bool => some .bool
  | some (.pointer _) => some .ptr
  | some (.slice _) => some .slice
  | some (.func _ _ _) => some .func
  | _ => none
def eqPlain : TK → AV → AV → Option Bool
  | .bool, .bo x, .bo y => some (x == y)
  | .ptr, .pn, .pn => some true
  | .ptr, .pt _ _, .pn => some false
  | .ptr, .pn, .pt _ _ => some false
  | .slice, .sn, .sn => some true
  | .slice, .sn, .sl _ _ _ _ => some false
  | .slice, .sn, .su _ _ _ _ => some false
  | .slice, .sl _ _ _ _, .sn => some false
  | .slice, .su _ _ _ _, .sn => some false
  | .func, .fnn, .fnn => some true
  | .func, .fn _ _, .fnn => some false
  | .func, .fnn, .fn _ _ => some false
  | _, _, _ => none

def binPlain (P : Program) (op : BinOp) (t : TypeId) (x y : AV) (K : AV → Prop) : Prop :=
  match kindT P t with
  | none => False
  | some k => match eqPlain k x y with
    | none => False
    | some b => match op with
      | .eql => K (.bo b)
      | .neq => K (.bo (!b))
      | _ => False

/-! Structs and arrays of numbers, bools and strings are compared cell by cell. -/
inductive EK where | bool | int (k : IntKind) | str
def AV.fits : EK → AV → Bool
  | .bool, .bo _ => true
  | .int .u8, .u8 _ => true
  | .int .u16, .u16 _ => true
  | .int .u32, .u32 _ => true
  | .int .u64, .u64 _ => true
  | .int .i8, .i8 _ => true
  | .int .i64, .i64 _ => true
  | .str, .st _ => true
  | _, _ => false
def fits : List EK → List AV → Bool
  | [], [] => true
  | k :: ks, v :: vs => v.fits k && fits ks vs
  | _, _ => false
def leavesF (P : Program) (g : TypeId → Option (List EK)) : List Field → Nat → Option (List EK)
  | [], _ => some []
  | f :: fs, off => match g f.type, tyA P f.type with
    | some l, some (_, sz) => if f.name ≠ "_" ∧ f.offset = off ∧ sz = l.length then (leavesF P g fs (off + sz)).map (l ++ ·) else none
    | _, _ => none
def leaves (P : Program) : Nat → TypeId → Option (List EK)
  | 0, _ => none
  | d + 1, t => match P.underlying t with
    | some .bool => some [.bool]
    | some (.int k) => some [.int k]
    | some .string => some [.str]
    | some (.struct fs) => if P.stoodInHeld t then none else leavesF P (leaves P d) fs.toList 0
    | some (.array n e) => match leaves P d e, P.info? e with
      | some l, some i => if i.size = l.length then some (List.replicate n l).flatten else none
      | _, _ => none
    | _ => none
def eqT (P : Program) (t : TypeId) : Option (List EK) := if P.eqGuardType P.depth t then none else match leaves P 20 t, tyA P t with
  | some ks, some (true, sz) => if sz = ks.length then some ks else none
  | _, _ => none
def EK.at (P : Program) (t : TypeId) : EK → Prop
  | .bool => P.underlying t = some .bool
  | .int k => P.underlying t = some (.int k)
  | .str => P.underlying t = some .string
def binAgg (P : Program) (op : BinOp) (t : TypeId) (x y : AV) (K : AV → Prop) : Prop :=
  match eqT P t with
  | none => False
  | some ks => match x, y with
    | .ag l, .ag l' => fits ks l = true ∧ fits ks l' = true ∧ match op with
      | .eql => K (.bo (eqCells l l'))
      | .neq => K (.bo (!eqCells l l'))
      | _ => False
    | _, _ => False

/-- Is it compared part by part? -/
def isAg : AV → Bool
  | .ag _ => true
  | _ => false
def isScalar : AV → Bool
  | .u8 _ | .u16 _ | .u32 _ | .u64 _ | .i64 _ | .st _ => true
  | _ => false

def convI (k : IntKind) (v : AV) (K : AV → Prop) : Prop :=
  match k, v with
  | .u8, .u8 x => K (.u8 x)
  | .u8, .u16 x => K (.u8 (x.setWidth 8))
  | .u8, .u32 x => K (.u8 (x.setWidth 8))
  | .u8, .u64 x => K (.u8 (x.setWidth 8))
  | .u8, .i64 n => K (.u8 (BitVec.ofInt 8 n))
  | .u16, .u8 x => K (.u16 (x.setWidth 16))
  | .u16, .u16 x => K (.u16 x)
  | .u16, .u32 x => K (.u16 (x.setWidth 16))
  | .u16, .u64 x => K (.u16 (x.setWidth 16))
  | .u16, .i64 n => K (.u16 (BitVec.ofInt 16 n))
  | .u16, .i8 x => K (.u16 (x.signExtend 16))
  | .u32, .u8 x => K (.u32 (x.setWidth 32))
  | .u32, .u16 x => K (.u32 (x.setWidth 32))
  | .u32, .u32 x => K (.u32 x)
  | .u32, .u64 x => K (.u32 (x.setWidth 32))
  | .u32, .i64 n => K (.u32 (BitVec.ofInt 32 n))
  | .u64, .u8 x => K (.u64 (x.setWidth 64))
  | .u64, .u16 x => K (.u64 (x.setWidth 64))
  | .u64, .u32 x => K (.u64 (x.setWidth 64))
  | .u64, .u64 x => K (.u64 x)
  | .u64, .i64 n => K (.u64 (BitVec.ofInt 64 n))
  | .i8, .u8 x => K (.i8 x)
  | .i64, .u8 x => K (.i64 x.toNat)
  | .i64, .u16 x => K (.i64 x.toNat)
  | .i64, .u32 x => K (.i64 x.toNat)
  | .i64, .i8 x => K (.i64 x.toInt)
  | .i64, .i64 n => K (.i64 (wrap64 n))
  | _, _ => False

def unK (op : UnOp) (v : AV) (K : AV → Prop) : Prop :=
  match op, v with
  | .not, .bo x => K (.bo (!x))
  | .neg, .i64 n => K (.i64 (wrap64 (0 - n)))
  | .xor, .u8 x => K (.u8 (~~~ x))
  | .xor, .u16 x => K (.u16 (~~~ x))
  | .xor, .u32 x => K (.u32 (~~~ x))
  | _, _ => False

/-- A bound of a slice's, or what stands for it. -/
def bnd (env : Env) (d : Nat) : Option Operand → Option Int
  | none => some d
  | some x => idx (opv env x)

def sliceK (P : Program) (t : TypeId) (x : AV) (lo : Option Int) (hi : Nat → Option Int) (mx : Nat → Option Int) (full : Bool) (K : AV → Prop) : Prop :=
  match x with
  | .st s => isStrT P t = true ∧ full = false ∧ match lo, hi s.length with
    | some l, some h => 0 ≤ l ∧ l ≤ h ∧ h ≤ s.length ∧ K (.st ((s.drop l.toNat).take (h.toNat - l.toNat)))
    | _, _ => False
  | .pt b o => match ixT P t with
    | some (some n, _, e) => match lo, hi n, mx n with
      | some l, some h, some m => 0 ≤ l ∧ l ≤ h ∧ h ≤ m ∧ m ≤ n ∧ K (.sl b (if m = l then o else o + l.toNat * e) (h.toNat - l.toNat) (m.toNat - l.toNat))
      | _, _, _ => False
    | _ => False
  | .sl b o n c => match ixT P t with
    | some (none, _, e) => match lo, hi n, mx c with
      | some l, some h, some m => 0 ≤ l ∧ l ≤ h ∧ h ≤ m ∧ m ≤ c ∧ K (.sl b (if m = l then o else o + l.toNat * e) (h.toNat - l.toNat) (m.toNat - l.toNat))
      | _, _, _ => False
    | _ => False
  | .sn => match ixT P t with
    | some (none, _, _) => match lo, hi 0, mx 0 with
      | some l, some h, some m => l = 0 ∧ h = 0 ∧ m = 0 ∧ K .sn
      | _, _, _ => False
    | _ => False
  | _ => False

def indexAddrK (P : Program) (t : TypeId) (x i : AV) (K : AV → Prop) : Prop :=
  match ixT P t, idx i with
  | some (some n, _, e), some i => match x with
    | .pt b o => 0 ≤ i ∧ i < n ∧ K (.pt b (o + i.toNat * e))
    | _ => False
  | some (none, _, e), some i => match x with
    | .sl b o n _ => 0 ≤ i ∧ i < n ∧ K (.pt b (o + i.toNat * e))
    | .su b o n _ => 0 ≤ i ∧ i < n ∧ K (.pt b (o + i.toNat * e))
    | _ => False
  | _, _ => False

def indexK (P : Program) (t : TypeId) (x i : AV) (K : AV → Prop) : Prop :=
  match idx i with
  | none => False
  | some i => match x with
    | .st s => isStrT P t = true ∧ 0 ≤ i ∧ i < s.length ∧ K (.u8 (s.getD i.toNat 0))
    | .ag l => match ixT P t with
      | some (some n, false, e) => 0 ≤ i ∧ i < n ∧ i.toNat * e < l.length ∧ K (l.getD (i.toNat * e) .junk)
      | some (some n, true, e) => 0 ≤ i ∧ i < n ∧ i.toNat * e + e ≤ l.length ∧ K (.ag ((l.drop (i.toNat * e)).take e))
      | _ => False
    | _ => False

/-- The operations that leave memory alone. -/
def pureK (P : Program) (env : Env) : Op → (AV → Prop) → Prop
  | .move x, K => K (opv env x)
  | .assign x, K => K (opv env x)
  | .pick c a b, K => match opv env c with
    | .bo t => (t = true → K (opv env a)) ∧ (t = false → K (opv env b))
    | _ => False
  | .nilCheck x, K => match opv env x with
    | .pt b o => K (.pt b o)
    | _ => False
  | .binOp op t x y _, K =>
    if isShift op then binShift op (opv env x) (opv env y) K
    else if isScalar (opv env x) then binScalar op (opv env x) (opv env y) K
    else if isAg (opv env x) then binAgg P op t (opv env x) (opv env y) K
    else binPlain P op t (opv env x) (opv env y) K
  | .unOp op _ x, K => unK op (opv env x) K
  | .convert s d x, K => match convT P s d with
    | some (.int k) => convI k (opv env x) K
    | some .str => match opv env x with
      | .st s => K (.st s)
      | _ => False
    | _ => False
  | .makeInterface t x, K => notIface P t = true ∧ opv env x ≠ .junk ∧ K (.ifc t (opv env x))
  | .makeFunc fn first captured, K => match fn with
    | .func f => first = #[] ∧ (captured.toList.all fun x => match opv env x with | .junk => false | _ => true) = true ∧ K (.fn f (captured.toList.map (opv env)))
    | _ => False
  | .slice t x lo hi mx, K => (hi.isSome || mx.isNone) = true ∧ sliceK P t (opv env x) (bnd env 0 lo) (fun n => bnd env n hi) (fun n => bnd env n mx) mx.isSome K
  | .fieldAddr s x f, K => match opv env x, fldT P s f with
    | .pt b o, some (off, _, _) => K (.pt b (o + off))
    | _, _ => False
  | .field s x f, K => match opv env x, fldT P s f with
    | .ag l, some (off, true, sz) => off + sz ≤ l.length ∧ K (.ag ((l.drop off).take sz))
    | .ag l, some (off, false, _) => off < l.length ∧ K (l.getD off .junk)
    | _, _ => False
  | .indexAddr t x i, K => indexAddrK P t (opv env x) (opv env i) K
  | .index t x i, K => indexK P t (opv env x) (opv env i) K
  | .extract x i, K => match opv env x with
    | .tu l => i < l.length ∧ K (l.getD i .junk)
    | _ => False
  | _, _ => False

/-- An operation that leaves memory alone comes to a value, in every world, under all names. -/
def PureOk (P : Program) (env : Env) (o : Oper) (v : AV) : Prop :=
  ∀ (m : NM) (N n : Nat) (a : Act), ERel m N n env a → ∃ x, (∀ w, (execOp a.eval o).run P w = .ok (.value x) w) ∧ (v ≠ .junk → x = AV.toV m v ∧ v.ok n = true)

theorem run_bind {α β : Type} (P : Program) (s : Sem α) (f : α → Sem β) (w : World) :
    (s >>= f).run P w = match s.run P w with | .ok a w' => (f a).run P w' | .halt h w' => .halt h w' := by
  show (Sem.bind s f).run P w = _
  induction s generalizing w with
  | pure a => rfl
  | load m a k ih => simp only [Sem.bind, Sem.run]; split <;> first | exact ih _ _ | (split <;> first | exact ih _ _ | rfl)
  | store m a v k ih =>
    cases v <;> simp only [Sem.bind, Sem.run] <;> first | rfl | (split <;> first | rfl | (split <;> first | rfl | exact ih _))
  | new o k ih => simp only [Sem.bind, Sem.run]; exact ih _ _
  | shape r k ih => simp only [Sem.bind, Sem.run]; exact ih _ _
  | freeze a n k ih => simp only [Sem.bind, Sem.run]; exact ih _
  | frozen a k ih => simp only [Sem.bind, Sem.run]; exact ih _ _
  | getObj r k ih => simp only [Sem.bind, Sem.run]; split <;> first | exact ih _ _ | rfl
  | setObj r o k ih => simp only [Sem.bind, Sem.run]; split <;> first | exact ih _ | rfl
  | choose q k ih => simp only [Sem.bind, Sem.run]; split <;> exact ih _ _
  | sys c k ih => simp only [Sem.bind, Sem.run]; exact ih _ _
  | program k ih => simp only [Sem.bind, Sem.run]; exact ih _ _
  | mark m k ih => simp only [Sem.bind, Sem.run]; exact ih _
  | halt h => rfl

theorem run_pure {α : Type} (P : Program) (a : α) (w : World) : (pure a : Sem α).run P w = .ok a w := rfl
theorem run_underlying {P : Program} {t : TypeId} {d : TypeDesc} (h : P.underlying t = some d) (w : World) : (underlying t).run P w = .ok d w := by
  simp only [underlying, program, bind, Sem.bind, Sem.run, h, pure]
theorem run_typeInfo {P : Program} {t : TypeId} {i : TypeInfo} (h : P.info? t = some i) (w : World) : (typeInfo t).run P w = .ok i w := by
  simp only [typeInfo, program, bind, Sem.bind, Sem.run, h, pure]
theorem run_sizeOf {P : Program} {t : TypeId} {i : TypeInfo} (h : P.info? t = some i) (w : World) : (sizeOf t).run P w = .ok i.size w := by
  simp only [sizeOf]
  rw [run_bind, run_typeInfo h]; rfl

theorem tyA_spec {P : Program} {t : TypeId} {ag : Bool} {sz : Nat} (h : tyA P t = some (ag, sz)) :
    (∀ w, (isAgg t).run P w = .ok ag w) ∧ ∀ w, (sizeOf t).run P w = .ok sz w := by
  unfold tyA at h
  cases hu : P.underlying t with
  | none => simp [hu] at h
  | some d =>
    cases hi : P.info? t with
    | none => rw [hu, hi] at h; cases d <;> simp at h
    | some i =>
      rw [hu, hi] at h
      cases d <;> simp only [Option.some.injEq, Prod.mk.injEq] at h <;> obtain ⟨rfl, rfl⟩ := h <;>
        exact ⟨fun w => by simp only [isAgg]; rw [run_bind, run_underlying hu]; rfl, run_sizeOf hi⟩

end Go.Ab
