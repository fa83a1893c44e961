import Derived.Test.YtglkkfobkncbbaaJoyAbFun
namespace Go.Ab

@[go_sem] theorem get_same (t : Nat) (v : AV) (e : Env) : Env.get ((t, v) :: e) t = v := by simp [Env.get]
@[go_sem] theorem get_ne {t u : Nat} (h : (t == u) = false) (v : AV) (e : Env) : Env.get ((t, v) :: e) u = Env.get e u := by
  have : t ≠ u := by simpa using h
  simp [Env.get, this]
@[go_sem] theorem get_nil (u : Nat) : Env.get [] u = .junk := rfl
@[go_sem] theorem opv_tmp (env : Env) (t : Tmp) : opv env (.tmp t) = env.get t := rfl
@[go_sem] theorem opv_func (env : Env) (f : FuncId) : opv env (.func f) = .fn f [] := rfl
@[go_sem] theorem opv_const (env : Env) (v : Value) : opv env (.const v) = ofV v := rfl
@[go_sem] theorem ofV_bool (b : Bool) : ofV (.bool b) = .bo b := rfl
@[go_sem] theorem ofV_i64 (n : Int) : ofV (.int .i64 n) = .i64 n := rfl
@[go_sem] theorem ofV_nilp : ofV (.pointer none) = .pn := rfl
@[go_sem] theorem ofV_nils : ofV (.slice none 0 0) = .sn := rfl
@[go_sem] theorem ofV_nili : ofV .nilIface = .ifn := rfl
@[go_sem] theorem ofV_nilf : ofV .nilFunc = .fnn := rfl
@[go_sem] theorem ofV_str (l : List UInt8) : ofV (.string ⟨l.toArray⟩) = .st (l.map UInt8.toBitVec) := rfl

@[go_sem] theorem ofV_u8 (n : Int) (h0 : 0 ≤ n) (h1 : n < 256) : ofV (.int .u8 n) = .u8 (BitVec.ofInt 8 n) := by simp [ofV, h0, h1]
@[go_sem] theorem ofV_u16 (n : Int) (h0 : 0 ≤ n) (h1 : n < 65536) : ofV (.int .u16 n) = .u16 (BitVec.ofInt 16 n) := by simp [ofV, h0, h1]
@[go_sem] theorem ofV_u32 (n : Int) (h0 : 0 ≤ n) (h1 : n < 4294967296) : ofV (.int .u32 n) = .u32 (BitVec.ofInt 32 n) := by simp [ofV, h0, h1]
@[go_sem] theorem ofV_u64 (n : Int) (h0 : 0 ≤ n) (h1 : n < 18446744073709551616) : ofV (.int .u64 n) = .u64 (BitVec.ofInt 64 n) := by simp [ofV, h0, h1]

@[go_sem] theorem upd_aa {H : Heap} {n a b : Nat} {x : Option Blk} (h : (b == a) = false) : (H.upd (n + a) x) (n + b) = H (n + b) :=
  Heap.upd_ne _ _ (by have : b ≠ a := by simpa using h
                      omega)
@[go_sem] theorem upd_na {H : Heap} {n b : Nat} {x : Option Blk} (h : (b == 0) = false) : (H.upd n x) (n + b) = H (n + b) :=
  Heap.upd_ne _ _ (by have : b ≠ 0 := by simpa using h
                      omega)
@[go_sem] theorem upd_an {H : Heap} {n a : Nat} {x : Option Blk} (h : (a == 0) = false) : (H.upd (n + a) x) n = H n :=
  Heap.upd_ne _ _ (by have : a ≠ 0 := by simpa using h
                      omega)
@[go_sem] theorem upd_lt {H : Heap} {n i : Nat} {x : Option Blk} (h : i < n) : (H.upd n x) i = H i := Heap.upd_ne _ _ (by omega)
@[go_sem] theorem upd_lta {H : Heap} {n a i : Nat} {x : Option Blk} (h : i < n) : (H.upd (n + a) x) i = H i := Heap.upd_ne _ _ (by omega)
@[go_sem] theorem upd_gt {H : Heap} {n i : Nat} {x : Option Blk} (h : i < n) : (H.upd i x) n = H n := Heap.upd_ne _ _ (by omega)
@[go_sem] theorem upd_gta {H : Heap} {n a i : Nat} {x : Option Blk} (h : i < n) : (H.upd i x) (n + a) = H (n + a) := Heap.upd_ne _ _ (by omega)
@[go_sem] theorem upd_lit {H : Heap} {i j : Nat} {x : Option Blk} (h : (j == i) = false) : (H.upd i x) j = H j := Heap.upd_ne _ _ (by simpa using h)
attribute [go_sem] Heap.upd_same Heap.upd_upd

/-! simp stays out of what comes later -/
@[congr] theorem evOps_congr  {P : Program} {all : List Oper} {l : List Oper} {k : Env → Heap → Nat → Prop} {env env' : Env} {H H' : Heap} {n n' : Nat} (h_env : env = env') (h_H : H = H') (h_n : n = n') : evOps P all l k env H n = evOps P all l k env' H' n' := by subst h_env h_H h_n; rfl
@[congr] theorem ev_congr  {P : Program} {N : Nat} {T : Nat → Draw} {c : Code} {k : Exit → Env → Heap → Nat → Prop} {env env' : Env} {H H' : Heap} {n n' : Nat} (h_env : env = env') (h_H : H = H') (h_n : n = n') : ev P N T c k env H n = ev P N T c k env' H' n' := by subst h_env h_H h_n; rfl
@[congr] theorem awp_congr  {P : Program} {N : Nat} {c : Code} {k : Exit → Env → Heap → Nat → Prop} {env env' : Env} {H H' : Heap} {n n' : Nat} (h_env : env = env') (h_H : H = H') (h_n : n = n') : awp P N c k env H n = awp P N c k env' H' n' := by subst h_env h_H h_n; rfl
@[congr] theorem evOp_congr  {P : Program} {o : Op} {k : AV → Heap → Nat → Prop} {env env' : Env} {H H' : Heap} {n n' : Nat} (h_env : env = env') (h_H : H = H') (h_n : n = n') : evOp P env H n o k = evOp P env' H' n' o k := by subst h_env h_H h_n; rfl
@[congr] theorem pureK_congr  {P : Program} {o : Op} {k : AV → Prop} {env env' : Env} (h_env : env = env') : pureK P env o k = pureK P env' o k := by subst h_env; rfl
@[congr] theorem ACalls_congr  {P : Program} {f : FuncId} {k : AV → Heap → Nat → Prop} {a a' : List AV} {H H' : Heap} {n n' : Nat} (h_a : a = a') (h_H : H = H') (h_n : n = n') : ACalls P f a H n k = ACalls P f a' H' n' k := by subst h_a h_H h_n; rfl
@[congr] theorem evOpsK_congr  {P : Program} {all : List Oper} {dst : Option Tmp} {evR : Env → Heap → Nat → Prop} {env env' : Env} {v v' : AV} {H H' : Heap} {n n' : Nat} (h_env : env = env') (h_v : v = v') (h_H : H = H') (h_n : n = n') : evOpsK P all dst evR env v H n = evOpsK P all dst evR env' v' H' n' := by subst h_env h_v h_H h_n; rfl
@[congr] theorem seqK_congr  {k : Env → Heap → Nat → Prop} {K : Exit → Env → Heap → Nat → Prop} {e e' : Exit} {env env' : Env} {H H' : Heap} {n n' : Nat} (h_e : e = e') (h_env : env = env') (h_H : H = H') (h_n : n = n') : seqK k K e env H n = seqK k K e' env' H' n' := by subst h_e h_env h_H h_n; rfl
@[congr] theorem blkK_congr  {id : Nat} {K : Exit → Env → Heap → Nat → Prop} {e e' : Exit} {env env' : Env} {H H' : Heap} {n n' : Nat} (h_e : e = e') (h_env : env = env') (h_H : H = H') (h_n : n = n') : blkK id K e env H n = blkK id K e' env' H' n' := by subst h_e h_env h_H h_n; rfl
@[congr] theorem finK_congr  {P : Program} {rs : List ResultVar} {n0 : Nat} {K : AV → Heap → Nat → Prop} {e e' : Exit} {env env' : Env} {H H' : Heap} {n n' : Nat} (h_e : e = e') (h_env : env = env') (h_H : H = H') (h_n : n = n') : finK P rs n0 K e env H n = finK P rs n0 K e' env' H' n' := by subst h_e h_env h_H h_n; rfl
@[congr] theorem atK_congr  {K : AV → Heap → Nat → Prop} {H H' : Heap} {n n' : Nat} {v v' : AV} (h_H : H = H') (h_n : n = n') (h_v : v = v') : atK K H n v = atK K H' n' v' := by subst h_H h_n h_v; rfl
@[congr] theorem atHK_congr  {K : AV → Heap → Nat → Prop} {n n' : Nat} {H H' : Heap} (h_n : n = n') (h_H : H = H') : atHK K n H = atHK K n' H' := by subst h_n h_H; rfl
@[congr] theorem atVHK_congr  {K : AV → Heap → Nat → Prop} {n n' : Nat} {v v' : AV} {H H' : Heap} (h_n : n = n') (h_v : v = v') (h_H : H = H') : atVHK K n v H = atVHK K n' v' H' := by subst h_n h_v h_H; rfl
@[congr] theorem atStK_congr  {K : AV → Heap → Nat → Prop} {H H' : Heap} {n n' : Nat} {l l' : Nat} {c c' : List AV} (h_H : H = H') (h_n : n = n') (h_l : l = l') (h_c : c = c') : atStK K H n l c = atStK K H' n' l' c' := by subst h_H h_n h_l h_c; rfl
@[congr] theorem atRowK_congr  {K : AV → Heap → Nat → Prop} {H H' : Heap} {n n' : Nat} {l l' : Nat} {t t' : TypeId} {c c' : List AV} (h_H : H = H') (h_n : n = n') (h_l : l = l') (h_t : t = t') (h_c : c = c') : atRowK K H n l t c = atRowK K H' n' l' t' c' := by subst h_H h_n h_l h_t h_c; rfl
@[congr] theorem loadK_congr  {P : Program} {K : AV → Prop} {H : Heap} {t : TypeId} {a a' : AV} (h_a : a = a') : loadK P H t a K = loadK P H t a' K := by subst h_a; rfl
@[congr] theorem storeK_congr  {P : Program} {K : Heap → Prop} {H : Heap} {t : TypeId} {a a' : AV} {v v' : AV} (h_a : a = a') (h_v : v = v') : storeK P H t a v K = storeK P H t a' v' K := by subst h_a h_v; rfl
@[congr] theorem fillK_congr  {pl : Nat → Option (Nat × Nat)} {K : List AV → Prop} {ps ps' : List (Nat × AV)} {l l' : List AV} (h_ps : ps = ps') (h_l : l = l') : fillK pl K ps l = fillK pl K ps' l' := by subst h_ps h_l; rfl
@[congr] theorem convI_congr  {k : IntKind} {K : AV → Prop} {v v' : AV} (h_v : v = v') : convI k v K = convI k v' K := by subst h_v; rfl
@[congr] theorem unK_congr  {op : UnOp} {K : AV → Prop} {v v' : AV} (h_v : v = v') : unK op v K = unK op v' K := by subst h_v; rfl
@[congr] theorem lenK_congr  {P : Program} {t : TypeId} {K : AV → Prop} {v v' : AV} (h_v : v = v') : lenK P t v K = lenK P t v' K := by subst h_v; rfl
@[congr] theorem capK_congr  {P : Program} {t : TypeId} {K : AV → Prop} {v v' : AV} (h_v : v = v') : capK P t v K = capK P t v' K := by subst h_v; rfl
@[congr] theorem mmK_congr  {f : Int → Int → Int} {K : AV → Prop} {x x' : AV} {y y' : AV} (h_x : x = x') (h_y : y = y') : mmK f x y K = mmK f x' y' K := by subst h_x h_y; rfl
@[congr] theorem srcK_congr  {H : Heap} {e : Nat} {K : Nat → List AV → Prop} {x x' : AV} (h_x : x = x') : srcK H e x K = srcK H e x' K := by subst h_x; rfl
@[congr] theorem readK_congr  {H : Heap} {e : Nat} {K : Nat → List AV → Prop} {x x' : AV} (h_x : x = x') : readK H e x K = readK H e x' K := by subst h_x; rfl
@[congr] theorem Fin_congr  {K : AV → Heap → Nat → Prop} {n0 n0' : Nat} {v v' : AV} {H H' : Heap} {n n' : Nat} (h_n0 : n0 = n0') (h_v : v = v') (h_H : H = H') (h_n : n = n') : Fin n0 v H n K = Fin n0' v' H' n' K := by subst h_n0 h_v h_H h_n; rfl
@[congr] theorem resK_congr  {P : Program} {H : Heap} {rs : List ResultVar} {K : List AV → Prop} {env env' : Env} (h_env : env = env') : resK P H env rs K = resK P H env' rs K := by subst h_env; rfl

/-! operations -/
@[go_sem] theorem evOps_nil {P : Program} {all : List Oper} {k : Env → Heap → Nat → Prop} {env : Env} {H : Heap} {n : Nat} : evOps P all [] k env H n = k env H n := Eq.trans rfl rfl
@[go_sem] theorem evOps_none {P : Program} {all r : List Oper} {k : Env → Heap → Nat → Prop} {env : Env} {H : Heap} {n : Nat} {d : Option Tmp} {op : Op} {t : TypeId} {p : String} {af : Array Edge} :
    evOps P all (⟨d, op, t, p, af, none⟩ :: r) k env H n = evOp P env H n op (evOpsK P all d (evOps P all r k) env) := Eq.trans rfl rfl
def guard2 (P : Program) (all r : List Oper) (k : Env → Heap → Nat → Prop) (d : Option Tmp) (op : Op) (want : Bool) (t : Tmp) (c : AV) (env : Env) (H : Heap) (n : Nat) : Prop :=
  match c with
  | .bo c => (c = want → evOp P ((t, .bo want) :: env) H n op (evOpsK P all d (evOps P all r k) ((t, .bo want) :: env))) ∧
      (c = (!want) → evOps P all r k (putE d (.tu []) ((t, .bo (!want)) :: env)) H n)
  | .tu [] => evOps P all r k (putE d (.tu []) env) H n
  | _ => False
def guard1 (P : Program) (all r : List Oper) (k : Env → Heap → Nat → Prop) (d : Option Tmp) (op : Op) (want : Bool) (t : Option Tmp) (env : Env) (H : Heap) (n : Nat) : Prop :=
  match t with
  | none => False
  | some t => guard2 P all r k d op want t (env.get t) env H n
@[go_sem] theorem evOps_guard {P : Program} {all r : List Oper} {k : Env → Heap → Nat → Prop} {env : Env} {H : Heap} {n : Nat} {d : Option Tmp} {op : Op} {t : TypeId} {p : String} {af : Array Edge} {j : Nat} {want : Bool} :
    evOps P all (⟨d, op, t, p, af, some (j, want)⟩ :: r) k env H n = guard1 P all r k d op want ((all[j]?).bind (·.dst)) env H n := Eq.trans rfl rfl
@[go_sem] theorem guard1_some {P : Program} {all r : List Oper} {k : Env → Heap → Nat → Prop} {d : Option Tmp} {op : Op} {want : Bool} {t : Tmp} {env : Env} {H : Heap} {n : Nat} :
    guard1 P all r k d op want (some t) env H n = guard2 P all r k d op want t (env.get t) env H n := Eq.trans rfl rfl
@[go_sem] theorem guard2_bo {P : Program} {all r : List Oper} {k : Env → Heap → Nat → Prop} {d : Option Tmp} {op : Op} {want : Bool} {t : Tmp} {c : Bool} {env : Env} {H : Heap} {n : Nat} :
    guard2 P all r k d op want t (.bo c) env H n = ((c = want → evOp P ((t, .bo want) :: env) H n op (evOpsK P all d (evOps P all r k) ((t, .bo want) :: env))) ∧
      (c = (!want) → evOps P all r k (putE d (.tu []) ((t, .bo (!want)) :: env)) H n)) := Eq.trans rfl rfl

@[go_sem high] theorem guard2_true_true {P : Program} {all r : List Oper} {k : Env → Heap → Nat → Prop} {d : Option Tmp} {op : Op} {t : Tmp} {env : Env} {H : Heap} {n : Nat} :
    guard2 P all r k d op true t (.bo true) env H n = (evOp P ((t, .bo true) :: env) H n op (evOpsK P all d (evOps P all r k) ((t, .bo true) :: env))) := by simp [guard2]
@[go_sem high] theorem guard2_true_false {P : Program} {all r : List Oper} {k : Env → Heap → Nat → Prop} {d : Option Tmp} {op : Op} {t : Tmp} {env : Env} {H : Heap} {n : Nat} :
    guard2 P all r k d op true t (.bo false) env H n = (evOps P all r k (putE d (.tu []) ((t, .bo false) :: env)) H n) := by simp [guard2]
@[go_sem high] theorem guard2_false_true {P : Program} {all r : List Oper} {k : Env → Heap → Nat → Prop} {d : Option Tmp} {op : Op} {t : Tmp} {env : Env} {H : Heap} {n : Nat} :
    guard2 P all r k d op false t (.bo true) env H n = (evOps P all r k (putE d (.tu []) ((t, .bo true) :: env)) H n) := by simp [guard2]
@[go_sem high] theorem guard2_false_false {P : Program} {all r : List Oper} {k : Env → Heap → Nat → Prop} {d : Option Tmp} {op : Op} {t : Tmp} {env : Env} {H : Heap} {n : Nat} :
    guard2 P all r k d op false t (.bo false) env H n = (evOp P ((t, .bo false) :: env) H n op (evOpsK P all d (evOps P all r k) ((t, .bo false) :: env))) := by simp [guard2]
@[go_sem] theorem guard2_tu {P : Program} {all r : List Oper} {k : Env → Heap → Nat → Prop} {d : Option Tmp} {op : Op} {want : Bool} {t : Tmp} {env : Env} {H : Heap} {n : Nat} :
    guard2 P all r k d op want t (.tu []) env H n = evOps P all r k (putE d (.tu []) env) H n := Eq.trans rfl rfl
@[congr] theorem guard1_congr  {P : Program} {all : List Oper} {r : List Oper} {k : Env → Heap → Nat → Prop} {d : Option Tmp} {op : Op} {want : Bool} {env : Env} {H : Heap} {n : Nat} {t t' : Option Tmp} (h_t : t = t') : guard1 P all r k d op want t env H n = guard1 P all r k d op want t' env H n := by subst h_t; rfl
@[congr] theorem guard2_congr  {P : Program} {all : List Oper} {r : List Oper} {k : Env → Heap → Nat → Prop} {d : Option Tmp} {op : Op} {want : Bool} {t : Tmp} {env : Env} {H : Heap} {n : Nat} {c c' : AV} (h_c : c = c') : guard2 P all r k d op want t c env H n = guard2 P all r k d op want t c' env H n := by subst h_c; rfl
@[go_sem] theorem evOpsK_eq {P : Program} {all : List Oper} {dst : Option Tmp} {evR : Env → Heap → Nat → Prop} {env : Env} {v : AV} {H : Heap} {n : Nat} : (evOpsK P all dst evR env v H n) = (evR (putE dst v env) H n) := Eq.trans rfl rfl
@[go_sem] theorem putE_some {d : Tmp} {v : AV} {env : Env} : (putE (some d) v env) = ((d, v) :: env) := Eq.trans rfl rfl
@[go_sem] theorem putE_none {v : AV} {env : Env} : (putE none v env) = (env) := Eq.trans rfl rfl
@[go_sem] theorem atK_eq {K : AV → Heap → Nat → Prop} {H : Heap} {n : Nat} {v : AV} : (atK K H n v) = (K v H n) := Eq.trans rfl rfl
@[go_sem] theorem atHK_eq {K : AV → Heap → Nat → Prop} {H : Heap} {n : Nat} : (atHK K n H) = (K .junk H n) := Eq.trans rfl rfl
@[go_sem] theorem atVHK_eq {K : AV → Heap → Nat → Prop} {H : Heap} {n : Nat} {v : AV} : (atVHK K n v H) = (K v H n) := Eq.trans rfl rfl
@[go_sem] theorem atStK_eq {K : AV → Heap → Nat → Prop} {H : Heap} {n l : Nat} {c : List AV} : (atStK K H n l c) = (c.all isU8 = true ∧ K (.st (strOf c)) H n) := Eq.trans rfl rfl
@[go_sem] theorem atRowK_eq {K : AV → Heap → Nat → Prop} {H : Heap} {n l : Nat} {e : TypeId} {c : List AV} : (atRowK K H n l e c) = (K (.sl n 0 l l) (H.upd n (some ⟨c, e, false⟩)) (n + 1)) := Eq.trans rfl rfl
/-! memory -/
def loadB (o : Option Blk) (ty : Option (Bool × Nat)) (off : Nat) (K : AV → Prop) : Prop :=
  match o with
  | some blk => match ty with
    | some (false, _) => off < blk.cells.length ∧ K (blk.cells.getD off .junk)
    | some (true, sz) => off + sz ≤ blk.cells.length ∧ K (.ag ((blk.cells.drop off).take sz))
    | none => False
  | none => False
def storeB (o : Option Blk) (ty : Option (Bool × Nat)) (b off : Nat) (v : AV) (H : Heap) (K : Heap → Prop) : Prop :=
  match o with
  | some blk => match ty with
    | some (_, sz) => blk.ro = false ∧ (match v with | .junk => False | .tu _ => False | _ => True) ∧ (cellsOf v).length = sz ∧ off + sz ≤ blk.cells.length ∧
        K (H.upd b (some { blk with cells := putCells blk.cells off v }))
    | none => False
  | none => False
@[congr] theorem loadB_congr  {K : AV → Prop} {o o' : Option Blk} {ty ty' : Option (Bool × Nat)} {off off' : Nat} (h_o : o = o') (h_ty : ty = ty') (h_off : off = off') : loadB o ty off K = loadB o' ty' off' K := by subst h_o h_ty h_off; rfl
@[congr] theorem storeB_congr  {K : Heap → Prop} {H : Heap} {o o' : Option Blk} {ty ty' : Option (Bool × Nat)} {b b' : Nat} {off off' : Nat} {v v' : AV} (h_o : o = o') (h_ty : ty = ty') (h_b : b = b') (h_off : off = off') (h_v : v = v') : storeB o ty b off v H K = storeB o' ty' b' off' v' H K := by subst h_o h_ty h_b h_off h_v; rfl
@[go_sem] theorem evOp_load {P : Program} {env : Env} {H : Heap} {n : Nat}{K : AV → Heap → Nat → Prop} {t : TypeId} {a : Operand} : (evOp P env H n (.load t a) K) = (loadK P H t (opv env a) (atK K H n)) := Eq.trans rfl rfl
@[go_sem] theorem loadK_pt {P : Program} {H : Heap} {t : TypeId} {b off : Nat} {K : AV → Prop} : (loadK P H t (.pt b off) K) = (loadB (H b) (tyA P t) off K) := Eq.trans rfl rfl
@[go_sem] theorem loadB_one {blk : Blk} {sz off : Nat} {K : AV → Prop} : (loadB (some blk) (some (false, sz)) off K) = (off < blk.cells.length ∧ K (blk.cells.getD off .junk)) := Eq.trans rfl rfl
@[go_sem] theorem loadB_many {blk : Blk} {sz off : Nat} {K : AV → Prop} : (loadB (some blk) (some (true, sz)) off K) = (off + sz ≤ blk.cells.length ∧ K (.ag ((blk.cells.drop off).take sz))) := Eq.trans rfl rfl
@[go_sem] theorem evOp_store {P : Program} {env : Env} {H : Heap} {n : Nat}{K : AV → Heap → Nat → Prop} {t : TypeId} {a x : Operand} : (evOp P env H n (.store t a x) K) = (storeK P H t (opv env a) (opv env x) (atHK K n)) := Eq.trans rfl rfl
@[go_sem] theorem storeK_pt {P : Program} {H : Heap} {t : TypeId} {b off : Nat} {v : AV} {K : Heap → Prop} : (storeK P H t (.pt b off) v K) = (storeB (H b) (tyA P t) b off v H K) := Eq.trans rfl rfl
@[go_sem] theorem storeB_bo {blk : Blk} {sz b off : Nat} {ag : Bool} {H : Heap} {K : Heap → Prop} (x : Bool) : (storeB (some blk) (some (ag, sz)) b off (.bo x) H K) = (blk.ro = false ∧ True ∧ 1 = sz ∧ off + sz ≤ blk.cells.length ∧ K (H.upd b (some ⟨blk.cells.set off (.bo x), blk.elem, blk.ro⟩))) := Eq.trans rfl rfl
@[go_sem] theorem storeB_u8 {blk : Blk} {sz b off : Nat} {ag : Bool} {H : Heap} {K : Heap → Prop} (x : BitVec 8) : (storeB (some blk) (some (ag, sz)) b off (.u8 x) H K) = (blk.ro = false ∧ True ∧ 1 = sz ∧ off + sz ≤ blk.cells.length ∧ K (H.upd b (some ⟨blk.cells.set off (.u8 x), blk.elem, blk.ro⟩))) := Eq.trans rfl rfl
@[go_sem] theorem storeB_u16 {blk : Blk} {sz b off : Nat} {ag : Bool} {H : Heap} {K : Heap → Prop} (x : BitVec 16) : (storeB (some blk) (some (ag, sz)) b off (.u16 x) H K) = (blk.ro = false ∧ True ∧ 1 = sz ∧ off + sz ≤ blk.cells.length ∧ K (H.upd b (some ⟨blk.cells.set off (.u16 x), blk.elem, blk.ro⟩))) := Eq.trans rfl rfl
@[go_sem] theorem storeB_u32 {blk : Blk} {sz b off : Nat} {ag : Bool} {H : Heap} {K : Heap → Prop} (x : BitVec 32) : (storeB (some blk) (some (ag, sz)) b off (.u32 x) H K) = (blk.ro = false ∧ True ∧ 1 = sz ∧ off + sz ≤ blk.cells.length ∧ K (H.upd b (some ⟨blk.cells.set off (.u32 x), blk.elem, blk.ro⟩))) := Eq.trans rfl rfl
@[go_sem] theorem storeB_u64 {blk : Blk} {sz b off : Nat} {ag : Bool} {H : Heap} {K : Heap → Prop} (x : BitVec 64) : (storeB (some blk) (some (ag, sz)) b off (.u64 x) H K) = (blk.ro = false ∧ True ∧ 1 = sz ∧ off + sz ≤ blk.cells.length ∧ K (H.upd b (some ⟨blk.cells.set off (.u64 x), blk.elem, blk.ro⟩))) := Eq.trans rfl rfl
@[go_sem] theorem storeB_i8 {blk : Blk} {sz b off : Nat} {ag : Bool} {H : Heap} {K : Heap → Prop} (x : BitVec 8) : (storeB (some blk) (some (ag, sz)) b off (.i8 x) H K) = (blk.ro = false ∧ True ∧ 1 = sz ∧ off + sz ≤ blk.cells.length ∧ K (H.upd b (some ⟨blk.cells.set off (.i8 x), blk.elem, blk.ro⟩))) := Eq.trans rfl rfl
@[go_sem] theorem storeB_i64 {blk : Blk} {sz b off : Nat} {ag : Bool} {H : Heap} {K : Heap → Prop} (x : Int) : (storeB (some blk) (some (ag, sz)) b off (.i64 x) H K) = (blk.ro = false ∧ True ∧ 1 = sz ∧ off + sz ≤ blk.cells.length ∧ K (H.upd b (some ⟨blk.cells.set off (.i64 x), blk.elem, blk.ro⟩))) := Eq.trans rfl rfl
@[go_sem] theorem storeB_st {blk : Blk} {sz b off : Nat} {ag : Bool} {H : Heap} {K : Heap → Prop} (x : List (BitVec 8)) : (storeB (some blk) (some (ag, sz)) b off (.st x) H K) = (blk.ro = false ∧ True ∧ 1 = sz ∧ off + sz ≤ blk.cells.length ∧ K (H.upd b (some ⟨blk.cells.set off (.st x), blk.elem, blk.ro⟩))) := Eq.trans rfl rfl
@[go_sem] theorem storeB_pt {blk : Blk} {sz b off : Nat} {ag : Bool} {H : Heap} {K : Heap → Prop} (x y : Nat) : (storeB (some blk) (some (ag, sz)) b off (.pt x y) H K) = (blk.ro = false ∧ True ∧ 1 = sz ∧ off + sz ≤ blk.cells.length ∧ K (H.upd b (some ⟨blk.cells.set off (.pt x y), blk.elem, blk.ro⟩))) := Eq.trans rfl rfl
@[go_sem] theorem storeB_pn {blk : Blk} {sz b off : Nat} {ag : Bool} {H : Heap} {K : Heap → Prop}  : (storeB (some blk) (some (ag, sz)) b off (.pn) H K) = (blk.ro = false ∧ True ∧ 1 = sz ∧ off + sz ≤ blk.cells.length ∧ K (H.upd b (some ⟨blk.cells.set off (.pn), blk.elem, blk.ro⟩))) := Eq.trans rfl rfl
@[go_sem] theorem storeB_sl {blk : Blk} {sz b off : Nat} {ag : Bool} {H : Heap} {K : Heap → Prop} (x y z u : Nat) : (storeB (some blk) (some (ag, sz)) b off (.sl x y z u) H K) = (blk.ro = false ∧ True ∧ 1 = sz ∧ off + sz ≤ blk.cells.length ∧ K (H.upd b (some ⟨blk.cells.set off (.sl x y z u), blk.elem, blk.ro⟩))) := Eq.trans rfl rfl
@[go_sem] theorem storeB_su {blk : Blk} {sz b off : Nat} {ag : Bool} {H : Heap} {K : Heap → Prop} (x y z u : Nat) : (storeB (some blk) (some (ag, sz)) b off (.su x y z u) H K) = (blk.ro = false ∧ True ∧ 1 = sz ∧ off + sz ≤ blk.cells.length ∧ K (H.upd b (some ⟨blk.cells.set off (.su x y z u), blk.elem, blk.ro⟩))) := Eq.trans rfl rfl
@[go_sem] theorem storeB_sn {blk : Blk} {sz b off : Nat} {ag : Bool} {H : Heap} {K : Heap → Prop}  : (storeB (some blk) (some (ag, sz)) b off (.sn) H K) = (blk.ro = false ∧ True ∧ 1 = sz ∧ off + sz ≤ blk.cells.length ∧ K (H.upd b (some ⟨blk.cells.set off (.sn), blk.elem, blk.ro⟩))) := Eq.trans rfl rfl
@[go_sem] theorem storeB_ifc {blk : Blk} {sz b off : Nat} {ag : Bool} {H : Heap} {K : Heap → Prop} (t : Nat) (v : AV) : (storeB (some blk) (some (ag, sz)) b off (.ifc t v) H K) = (blk.ro = false ∧ True ∧ 1 = sz ∧ off + sz ≤ blk.cells.length ∧ K (H.upd b (some ⟨blk.cells.set off (.ifc t v), blk.elem, blk.ro⟩))) := Eq.trans rfl rfl
@[go_sem] theorem storeB_ifn {blk : Blk} {sz b off : Nat} {ag : Bool} {H : Heap} {K : Heap → Prop}  : (storeB (some blk) (some (ag, sz)) b off (.ifn) H K) = (blk.ro = false ∧ True ∧ 1 = sz ∧ off + sz ≤ blk.cells.length ∧ K (H.upd b (some ⟨blk.cells.set off (.ifn), blk.elem, blk.ro⟩))) := Eq.trans rfl rfl
@[go_sem] theorem storeB_fn {blk : Blk} {sz b off : Nat} {ag : Bool} {H : Heap} {K : Heap → Prop} (f : Nat) (l : List AV) : (storeB (some blk) (some (ag, sz)) b off (.fn f l) H K) = (blk.ro = false ∧ True ∧ 1 = sz ∧ off + sz ≤ blk.cells.length ∧ K (H.upd b (some ⟨blk.cells.set off (.fn f l), blk.elem, blk.ro⟩))) := Eq.trans rfl rfl
@[go_sem] theorem storeB_fnn {blk : Blk} {sz b off : Nat} {ag : Bool} {H : Heap} {K : Heap → Prop}  : (storeB (some blk) (some (ag, sz)) b off (.fnn) H K) = (blk.ro = false ∧ True ∧ 1 = sz ∧ off + sz ≤ blk.cells.length ∧ K (H.upd b (some ⟨blk.cells.set off (.fnn), blk.elem, blk.ro⟩))) := Eq.trans rfl rfl
@[go_sem] theorem storeB_ag {blk : Blk} {sz b off : Nat} {ag : Bool} {H : Heap} {K : Heap → Prop} {l : List AV} : (storeB (some blk) (some (ag, sz)) b off (.ag l) H K) = (blk.ro = false ∧ True ∧ l.length = sz ∧ off + sz ≤ blk.cells.length ∧ K (H.upd b (some ⟨splice blk.cells off l, blk.elem, blk.ro⟩))) := Eq.trans rfl rfl
def allocB (z : Option (List AV)) (t : TypeId) (H : Heap) (n : Nat) (K : AV → Heap → Nat → Prop) : Prop :=
  match z with
  | some z => K (.pt n 0) (H.upd n (some ⟨z, t, false⟩)) (n + 1)
  | none => False
def rowB (el : Option (TypeId × Nat × Nat)) (P : Program) (len : Nat) (ps : List (Nat × AV)) (H : Heap) (n : Nat) (K : AV → Heap → Nat → Prop) : Prop :=
  match el with
  | some (e, sz, _) => match zeroT P e with
    | some z => z.length = sz ∧ len * sz ≤ 16777216 ∧ fillK (elPl sz) (atRowK K H n len e) ps (repCells len z)
    | none => False
  | none => False
def rowB2 (z : Option (List AV)) (e : TypeId) (sz len : Nat) (ps : List (Nat × AV)) (H : Heap) (n : Nat) (K : AV → Heap → Nat → Prop) : Prop :=
  match z with
  | some z => z.length = sz ∧ len * sz ≤ 16777216 ∧ fillK (elPl sz) (atRowK K H n len e) ps (repCells len z)
  | none => False
def makeB (el : Option (TypeId × Nat × Nat)) (P : Program) (l c : AV) (H : Heap) (n : Nat) (K : AV → Heap → Nat → Prop) : Prop :=
  match el, l, c with
  | some (e, sz, by_), .i64 ln, .i64 cp => match zeroT P e with
    | some z => z.length = sz ∧ 0 ≤ ln ∧ ln ≤ cp ∧ by_ * cp ≤ 281474976710656 ∧ cp ≤ 9223372036854775807 ∧ K (.sl n 0 ln.toNat cp.toNat) (H.upd n (some ⟨repCells cp.toNat z, e, false⟩)) (n + 1)
    | none => False
  | _, _, _ => False
def makeB2 (z : Option (List AV)) (e : TypeId) (sz by_ : Nat) (ln cp : Int) (H : Heap) (n : Nat) (K : AV → Heap → Nat → Prop) : Prop :=
  match z with
    | some z => z.length = sz ∧ 0 ≤ ln ∧ ln ≤ cp ∧ by_ * cp ≤ 281474976710656 ∧ cp ≤ 9223372036854775807 ∧ K (.sl n 0 ln.toNat cp.toNat) (H.upd n (some ⟨repCells cp.toNat z, e, false⟩)) (n + 1)
    | none => False
def bldB (z : Option (List AV)) (pl : Nat → Option (Nat × Nat)) (ps : List (Nat × AV)) (K : AV → Prop) : Prop :=
  match z with
  | some z => fillK pl (fun l => K (.ag l)) ps z
  | none => False
def agK (K : AV → Prop) (l : List AV) : Prop := K (.ag l)
def fillB (p : Option (Nat × Nat)) (pl : Nat → Option (Nat × Nat)) (K : List AV → Prop) (v : AV) (r : List (Nat × AV)) (l : List AV) : Prop :=
  match p with
  | some (off, sz) => partOk v = true ∧ (cellsOf v).length = sz ∧ off + sz ≤ l.length ∧ fillK pl K r (putCells l off v)
  | none => False
@[congr] theorem agK_congr  {K : AV → Prop} {l l' : List AV} (h_l : l = l') : agK K l = agK K l' := by subst h_l; rfl
@[congr] theorem allocB_congr  {t : TypeId} {H : Heap} {n : Nat} {K : AV → Heap → Nat → Prop} {z z' : Option (List AV)} (h_z : z = z') : allocB z t H n K = allocB z' t H n K := by subst h_z; rfl
@[congr] theorem rowB_congr  {P : Program} {len : Nat} {H : Heap} {n : Nat} {K : AV → Heap → Nat → Prop} {el el' : Option (TypeId × Nat × Nat)} {ps ps' : List (Nat × AV)} (h_el : el = el') (h_ps : ps = ps') : rowB el P len ps H n K = rowB el' P len ps' H n K := by subst h_el h_ps; rfl
@[congr] theorem rowB2_congr  {e : TypeId} {sz : Nat} {len : Nat} {ps : List (Nat × AV)} {H : Heap} {n : Nat} {K : AV → Heap → Nat → Prop} {z z' : Option (List AV)} (h_z : z = z') : rowB2 z e sz len ps H n K = rowB2 z' e sz len ps H n K := by subst h_z; rfl
@[congr] theorem makeB_congr  {P : Program} {H : Heap} {n : Nat} {K : AV → Heap → Nat → Prop} {el el' : Option (TypeId × Nat × Nat)} {l l' : AV} {c c' : AV} (h_el : el = el') (h_l : l = l') (h_c : c = c') : makeB el P l c H n K = makeB el' P l' c' H n K := by subst h_el h_l h_c; rfl
@[congr] theorem makeB2_congr  {e : TypeId} {sz : Nat} {by_ : Nat} {ln : Int} {cp : Int} {H : Heap} {n : Nat} {K : AV → Heap → Nat → Prop} {z z' : Option (List AV)} (h_z : z = z') : makeB2 z e sz by_ ln cp H n K = makeB2 z' e sz by_ ln cp H n K := by subst h_z; rfl
@[congr] theorem bldB_congr  {pl : Nat → Option (Nat × Nat)} {ps : List (Nat × AV)} {K : AV → Prop} {z z' : Option (List AV)} (h_z : z = z') : bldB z pl ps K = bldB z' pl ps K := by subst h_z; rfl
@[congr] theorem fillB_congr  {pl : Nat → Option (Nat × Nat)} {K : List AV → Prop} {v : AV} {r : List (Nat × AV)} {l : List AV} {p p' : Option (Nat × Nat)} (h_p : p = p') : fillB p pl K v r l = fillB p' pl K v r l := by subst h_p; rfl
@[go_sem] theorem evOp_alloc {P : Program} {env : Env} {H : Heap} {n : Nat}{K : AV → Heap → Nat → Prop} {t : TypeId} : (evOp P env H n (.alloc t) K) = (allocB (zeroT P t) t H n K) := Eq.trans rfl rfl
@[go_sem] theorem allocB_some {z : List AV} {t : TypeId} {H : Heap} {n : Nat} {K : AV → Heap → Nat → Prop} : (allocB (some z) t H n K) = (K (.pt n 0) (H.upd n (some ⟨z, t, false⟩)) (n + 1)) := Eq.trans rfl rfl
def boxB (v : AV) (t : TypeId) (H : Heap) (n : Nat) (K : AV → Heap → Nat → Prop) : Prop := partOk v = true ∧ K (.pt n 0) (H.upd n (some ⟨cellsOf v, t, false⟩)) (n + 1)
@[congr] theorem boxB_congr  {t : TypeId} {H : Heap} {n : Nat} {K : AV → Heap → Nat → Prop} {v v' : AV} (h_v : v = v') : boxB v t H n K = boxB v' t H n K := by subst h_v; rfl
@[go_sem] theorem evOp_box {P : Program} {env : Env} {H : Heap} {n : Nat}{K : AV → Heap → Nat → Prop} {t : TypeId} {x : Operand} : (evOp P env H n (.box t x) K) = (boxB (opv env x) t H n K) := Eq.trans rfl rfl
@[go_sem] theorem boxB_ag {l : List AV} {t : TypeId} {H : Heap} {n : Nat} {K : AV → Heap → Nat → Prop} : (boxB (.ag l) t H n K) = (K (.pt n 0) (H.upd n (some ⟨l, t, false⟩)) (n + 1)) := by simp [boxB, partOk, cellsOf]
@[go_sem] theorem boxB_bo {t : TypeId} {H : Heap} {n : Nat} {K : AV → Heap → Nat → Prop} (x : Bool) : (boxB (.bo x) t H n K) = (K (.pt n 0) (H.upd n (some ⟨[(.bo x)], t, false⟩)) (n + 1)) := by simp [boxB, partOk, cellsOf]
@[go_sem] theorem cellsOf_bo (x : Bool) : (cellsOf (.bo x)) = ([(.bo x)]) := Eq.trans rfl rfl
@[go_sem] theorem partOk_bo (x : Bool) : (partOk (.bo x)) = (true) := Eq.trans rfl rfl
@[go_sem] theorem putCells_bo (l : List AV) (off : Nat) (x : Bool) : (putCells l off (.bo x)) = (l.set off (.bo x)) := Eq.trans rfl rfl
@[go_sem] theorem boxB_u8 {t : TypeId} {H : Heap} {n : Nat} {K : AV → Heap → Nat → Prop} (x : BitVec 8) : (boxB (.u8 x) t H n K) = (K (.pt n 0) (H.upd n (some ⟨[(.u8 x)], t, false⟩)) (n + 1)) := by simp [boxB, partOk, cellsOf]
@[go_sem] theorem cellsOf_u8 (x : BitVec 8) : (cellsOf (.u8 x)) = ([(.u8 x)]) := Eq.trans rfl rfl
@[go_sem] theorem partOk_u8 (x : BitVec 8) : (partOk (.u8 x)) = (true) := Eq.trans rfl rfl
@[go_sem] theorem putCells_u8 (l : List AV) (off : Nat) (x : BitVec 8) : (putCells l off (.u8 x)) = (l.set off (.u8 x)) := Eq.trans rfl rfl
@[go_sem] theorem boxB_u16 {t : TypeId} {H : Heap} {n : Nat} {K : AV → Heap → Nat → Prop} (x : BitVec 16) : (boxB (.u16 x) t H n K) = (K (.pt n 0) (H.upd n (some ⟨[(.u16 x)], t, false⟩)) (n + 1)) := by simp [boxB, partOk, cellsOf]
@[go_sem] theorem cellsOf_u16 (x : BitVec 16) : (cellsOf (.u16 x)) = ([(.u16 x)]) := Eq.trans rfl rfl
@[go_sem] theorem partOk_u16 (x : BitVec 16) : (partOk (.u16 x)) = (true) := Eq.trans rfl rfl
@[go_sem] theorem putCells_u16 (l : List AV) (off : Nat) (x : BitVec 16) : (putCells l off (.u16 x)) = (l.set off (.u16 x)) := Eq.trans rfl rfl
@[go_sem] theorem boxB_u32 {t : TypeId} {H : Heap} {n : Nat} {K : AV → Heap → Nat → Prop} (x : BitVec 32) : (boxB (.u32 x) t H n K) = (K (.pt n 0) (H.upd n (some ⟨[(.u32 x)], t, false⟩)) (n + 1)) := by simp [boxB, partOk, cellsOf]
@[go_sem] theorem cellsOf_u32 (x : BitVec 32) : (cellsOf (.u32 x)) = ([(.u32 x)]) := Eq.trans rfl rfl
@[go_sem] theorem partOk_u32 (x : BitVec 32) : (partOk (.u32 x)) = (true) := Eq.trans rfl rfl
@[go_sem] theorem putCells_u32 (l : List AV) (off : Nat) (x : BitVec 32) : (putCells l off (.u32 x)) = (l.set off (.u32 x)) := Eq.trans rfl rfl
@[go_sem] theorem boxB_u64 {t : TypeId} {H : Heap} {n : Nat} {K : AV → Heap → Nat → Prop} (x : BitVec 64) : (boxB (.u64 x) t H n K) = (K (.pt n 0) (H.upd n (some ⟨[(.u64 x)], t, false⟩)) (n + 1)) := by simp [boxB, partOk, cellsOf]
@[go_sem] theorem cellsOf_u64 (x : BitVec 64) : (cellsOf (.u64 x)) = ([(.u64 x)]) := Eq.trans rfl rfl
@[go_sem] theorem partOk_u64 (x : BitVec 64) : (partOk (.u64 x)) = (true) := Eq.trans rfl rfl
@[go_sem] theorem putCells_u64 (l : List AV) (off : Nat) (x : BitVec 64) : (putCells l off (.u64 x)) = (l.set off (.u64 x)) := Eq.trans rfl rfl
@[go_sem] theorem boxB_i8 {t : TypeId} {H : Heap} {n : Nat} {K : AV → Heap → Nat → Prop} (x : BitVec 8) : (boxB (.i8 x) t H n K) = (K (.pt n 0) (H.upd n (some ⟨[(.i8 x)], t, false⟩)) (n + 1)) := by simp [boxB, partOk, cellsOf]
@[go_sem] theorem cellsOf_i8 (x : BitVec 8) : (cellsOf (.i8 x)) = ([(.i8 x)]) := Eq.trans rfl rfl
@[go_sem] theorem partOk_i8 (x : BitVec 8) : (partOk (.i8 x)) = (true) := Eq.trans rfl rfl
@[go_sem] theorem putCells_i8 (l : List AV) (off : Nat) (x : BitVec 8) : (putCells l off (.i8 x)) = (l.set off (.i8 x)) := Eq.trans rfl rfl
@[go_sem] theorem boxB_i64 {t : TypeId} {H : Heap} {n : Nat} {K : AV → Heap → Nat → Prop} (x : Int) : (boxB (.i64 x) t H n K) = (K (.pt n 0) (H.upd n (some ⟨[(.i64 x)], t, false⟩)) (n + 1)) := by simp [boxB, partOk, cellsOf]
@[go_sem] theorem cellsOf_i64 (x : Int) : (cellsOf (.i64 x)) = ([(.i64 x)]) := Eq.trans rfl rfl
@[go_sem] theorem partOk_i64 (x : Int) : (partOk (.i64 x)) = (true) := Eq.trans rfl rfl
@[go_sem] theorem putCells_i64 (l : List AV) (off : Nat) (x : Int) : (putCells l off (.i64 x)) = (l.set off (.i64 x)) := Eq.trans rfl rfl
@[go_sem] theorem boxB_st {t : TypeId} {H : Heap} {n : Nat} {K : AV → Heap → Nat → Prop} (x : List (BitVec 8)) : (boxB (.st x) t H n K) = (K (.pt n 0) (H.upd n (some ⟨[(.st x)], t, false⟩)) (n + 1)) := by simp [boxB, partOk, cellsOf]
@[go_sem] theorem cellsOf_st (x : List (BitVec 8)) : (cellsOf (.st x)) = ([(.st x)]) := Eq.trans rfl rfl
@[go_sem] theorem partOk_st (x : List (BitVec 8)) : (partOk (.st x)) = (true) := Eq.trans rfl rfl
@[go_sem] theorem putCells_st (l : List AV) (off : Nat) (x : List (BitVec 8)) : (putCells l off (.st x)) = (l.set off (.st x)) := Eq.trans rfl rfl
@[go_sem] theorem boxB_pt {t : TypeId} {H : Heap} {n : Nat} {K : AV → Heap → Nat → Prop} (x y : Nat) : (boxB (.pt x y) t H n K) = (K (.pt n 0) (H.upd n (some ⟨[(.pt x y)], t, false⟩)) (n + 1)) := by simp [boxB, partOk, cellsOf]
@[go_sem] theorem cellsOf_pt (x y : Nat) : (cellsOf (.pt x y)) = ([(.pt x y)]) := Eq.trans rfl rfl
@[go_sem] theorem partOk_pt (x y : Nat) : (partOk (.pt x y)) = (true) := Eq.trans rfl rfl
@[go_sem] theorem putCells_pt (l : List AV) (off : Nat) (x y : Nat) : (putCells l off (.pt x y)) = (l.set off (.pt x y)) := Eq.trans rfl rfl
@[go_sem] theorem boxB_pn {t : TypeId} {H : Heap} {n : Nat} {K : AV → Heap → Nat → Prop}  : (boxB (.pn) t H n K) = (K (.pt n 0) (H.upd n (some ⟨[(.pn)], t, false⟩)) (n + 1)) := by simp [boxB, partOk, cellsOf]
@[go_sem] theorem cellsOf_pn  : (cellsOf (.pn)) = ([(.pn)]) := Eq.trans rfl rfl
@[go_sem] theorem partOk_pn  : (partOk (.pn)) = (true) := Eq.trans rfl rfl
@[go_sem] theorem putCells_pn (l : List AV) (off : Nat)  : (putCells l off (.pn)) = (l.set off (.pn)) := Eq.trans rfl rfl
@[go_sem] theorem boxB_sl {t : TypeId} {H : Heap} {n : Nat} {K : AV → Heap → Nat → Prop} (x y z u : Nat) : (boxB (.sl x y z u) t H n K) = (K (.pt n 0) (H.upd n (some ⟨[(.sl x y z u)], t, false⟩)) (n + 1)) := by simp [boxB, partOk, cellsOf]
@[go_sem] theorem cellsOf_sl (x y z u : Nat) : (cellsOf (.sl x y z u)) = ([(.sl x y z u)]) := Eq.trans rfl rfl
@[go_sem] theorem partOk_sl (x y z u : Nat) : (partOk (.sl x y z u)) = (true) := Eq.trans rfl rfl
@[go_sem] theorem putCells_sl (l : List AV) (off : Nat) (x y z u : Nat) : (putCells l off (.sl x y z u)) = (l.set off (.sl x y z u)) := Eq.trans rfl rfl
@[go_sem] theorem boxB_su {t : TypeId} {H : Heap} {n : Nat} {K : AV → Heap → Nat → Prop} (x y z u : Nat) : (boxB (.su x y z u) t H n K) = (K (.pt n 0) (H.upd n (some ⟨[(.su x y z u)], t, false⟩)) (n + 1)) := by simp [boxB, partOk, cellsOf]
@[go_sem] theorem cellsOf_su (x y z u : Nat) : (cellsOf (.su x y z u)) = ([(.su x y z u)]) := Eq.trans rfl rfl
@[go_sem] theorem partOk_su (x y z u : Nat) : (partOk (.su x y z u)) = (true) := Eq.trans rfl rfl
@[go_sem] theorem putCells_su (l : List AV) (off : Nat) (x y z u : Nat) : (putCells l off (.su x y z u)) = (l.set off (.su x y z u)) := Eq.trans rfl rfl
@[go_sem] theorem boxB_sn {t : TypeId} {H : Heap} {n : Nat} {K : AV → Heap → Nat → Prop}  : (boxB (.sn) t H n K) = (K (.pt n 0) (H.upd n (some ⟨[(.sn)], t, false⟩)) (n + 1)) := by simp [boxB, partOk, cellsOf]
@[go_sem] theorem cellsOf_sn  : (cellsOf (.sn)) = ([(.sn)]) := Eq.trans rfl rfl
@[go_sem] theorem partOk_sn  : (partOk (.sn)) = (true) := Eq.trans rfl rfl
@[go_sem] theorem putCells_sn (l : List AV) (off : Nat)  : (putCells l off (.sn)) = (l.set off (.sn)) := Eq.trans rfl rfl
@[go_sem] theorem boxB_ifc {t : TypeId} {H : Heap} {n : Nat} {K : AV → Heap → Nat → Prop} (t' : Nat) (v : AV) : (boxB (.ifc t' v) t H n K) = (K (.pt n 0) (H.upd n (some ⟨[(.ifc t' v)], t, false⟩)) (n + 1)) := by simp [boxB, partOk, cellsOf]
@[go_sem] theorem cellsOf_ifc (t' : Nat) (v : AV) : (cellsOf (.ifc t' v)) = ([(.ifc t' v)]) := Eq.trans rfl rfl
@[go_sem] theorem partOk_ifc (t' : Nat) (v : AV) : (partOk (.ifc t' v)) = (true) := Eq.trans rfl rfl
@[go_sem] theorem putCells_ifc (l : List AV) (off : Nat) (t' : Nat) (v : AV) : (putCells l off (.ifc t' v)) = (l.set off (.ifc t' v)) := Eq.trans rfl rfl
@[go_sem] theorem boxB_ifn {t : TypeId} {H : Heap} {n : Nat} {K : AV → Heap → Nat → Prop}  : (boxB (.ifn) t H n K) = (K (.pt n 0) (H.upd n (some ⟨[(.ifn)], t, false⟩)) (n + 1)) := by simp [boxB, partOk, cellsOf]
@[go_sem] theorem cellsOf_ifn  : (cellsOf (.ifn)) = ([(.ifn)]) := Eq.trans rfl rfl
@[go_sem] theorem partOk_ifn  : (partOk (.ifn)) = (true) := Eq.trans rfl rfl
@[go_sem] theorem putCells_ifn (l : List AV) (off : Nat)  : (putCells l off (.ifn)) = (l.set off (.ifn)) := Eq.trans rfl rfl
@[go_sem] theorem boxB_fn {t : TypeId} {H : Heap} {n : Nat} {K : AV → Heap → Nat → Prop} (f : Nat) (l : List AV) : (boxB (.fn f l) t H n K) = (K (.pt n 0) (H.upd n (some ⟨[(.fn f l)], t, false⟩)) (n + 1)) := by simp [boxB, partOk, cellsOf]
@[go_sem] theorem cellsOf_fn (f : Nat) (l : List AV) : (cellsOf (.fn f l)) = ([(.fn f l)]) := Eq.trans rfl rfl
@[go_sem] theorem partOk_fn (f : Nat) (l : List AV) : (partOk (.fn f l)) = (true) := Eq.trans rfl rfl
@[go_sem] theorem putCells_fn (l : List AV) (off f : Nat) (l2 : List AV) : (putCells l off (.fn f l2)) = (l.set off (.fn f l2)) := Eq.trans rfl rfl
@[go_sem] theorem boxB_fnn {t : TypeId} {H : Heap} {n : Nat} {K : AV → Heap → Nat → Prop}  : (boxB (.fnn) t H n K) = (K (.pt n 0) (H.upd n (some ⟨[(.fnn)], t, false⟩)) (n + 1)) := by simp [boxB, partOk, cellsOf]
@[go_sem] theorem cellsOf_fnn  : (cellsOf (.fnn)) = ([(.fnn)]) := Eq.trans rfl rfl
@[go_sem] theorem partOk_fnn  : (partOk (.fnn)) = (true) := Eq.trans rfl rfl
@[go_sem] theorem putCells_fnn (l : List AV) (off : Nat)  : (putCells l off (.fnn)) = (l.set off (.fnn)) := Eq.trans rfl rfl
@[go_sem] theorem cellsOf_ag (l : List AV) : (cellsOf (.ag l)) = (l) := Eq.trans rfl rfl
@[go_sem] theorem partOk_ag (l : List AV) : (partOk (.ag l)) = (true) := Eq.trans rfl rfl
@[go_sem] theorem putCells_ag (l l2 : List AV) (off : Nat) : (putCells l off (.ag l2)) = (splice l off l2) := Eq.trans rfl rfl
@[go_sem] theorem evOp_build {P : Program} {env : Env} {H : Heap} {n : Nat}{K : AV → Heap → Nat → Prop} {t : TypeId} {ps : Array (Nat × Operand)} : (evOp P env H n (.build t ps) K) = (bldT P t = true ∧ bldB (zeroT P t) (plT P t) (ps.toList.map fun p => (p.1, opv env p.2)) (atK K H n)) := Eq.trans rfl rfl
@[go_sem] theorem bldB_some {z : List AV} {pl : Nat → Option (Nat × Nat)} {ps : List (Nat × AV)} {K : AV → Prop} : (bldB (some z) pl ps K) = (fillK pl (agK K) ps z) := Eq.trans rfl rfl
@[go_sem] theorem agK_eq {K : AV → Prop} {l : List AV} : (agK K l) = (K (.ag l)) := Eq.trans rfl rfl
@[go_sem] theorem fillK_nil {pl : Nat → Option (Nat × Nat)} {K : List AV → Prop} {l : List AV} : (fillK pl K [] l) = (K l) := Eq.trans rfl rfl
@[go_sem] theorem fillK_cons {pl : Nat → Option (Nat × Nat)} {K : List AV → Prop} {l : List AV} {i : Nat} {v : AV} {r : List (Nat × AV)} : (fillK pl K ((i, v) :: r) l) = (fillB (pl i) pl K v r l) := Eq.trans rfl rfl
@[go_sem] theorem fillB_some {pl : Nat → Option (Nat × Nat)} {K : List AV → Prop} {l : List AV} {off sz : Nat} {v : AV} {r : List (Nat × AV)} : (fillB (some (off, sz)) pl K v r l) = (partOk v = true ∧ (cellsOf v).length = sz ∧ off + sz ≤ l.length ∧ fillK pl K r (putCells l off v)) := Eq.trans rfl rfl
@[go_sem] theorem elPl_eq {sz i : Nat} : (elPl sz i) = (some (i * sz, sz)) := Eq.trans rfl rfl
@[go_sem] theorem evOp_buildSlice {P : Program} {env : Env} {H : Heap} {n : Nat}{K : AV → Heap → Nat → Prop} {t : TypeId} {len : Nat} {ps : Array (Nat × Operand)} : (evOp P env H n (.buildSlice t len ps) K) = (rowB (elT P t) P len (ps.toList.map fun p => (p.1, opv env p.2)) H n K) := Eq.trans rfl rfl
@[go_sem] theorem rowB_some {P : Program} {e : TypeId} {sz by_ len : Nat} {ps : List (Nat × AV)} {H : Heap} {n : Nat} {K : AV → Heap → Nat → Prop} : (rowB (some (e, sz, by_)) P len ps H n K) = (rowB2 (zeroT P e) e sz len ps H n K) := Eq.trans rfl rfl
@[go_sem] theorem rowB2_some {z : List AV} {e : TypeId} {sz len : Nat} {ps : List (Nat × AV)} {H : Heap} {n : Nat} {K : AV → Heap → Nat → Prop} : (rowB2 (some z) e sz len ps H n K) = (z.length = sz ∧ len * sz ≤ 16777216 ∧ fillK (elPl sz) (atRowK K H n len e) ps (repCells len z)) := Eq.trans rfl rfl
@[go_sem] theorem evOp_makeSlice {P : Program} {env : Env} {H : Heap} {n : Nat}{K : AV → Heap → Nat → Prop} {t : TypeId} {l c : Operand} : (evOp P env H n (.makeSlice t l c) K) = (makeB (elT P t) P (opv env l) (opv env c) H n K) := Eq.trans rfl rfl
@[go_sem] theorem makeB_some {P : Program} {e : TypeId} {sz by_ : Nat} {ln cp : Int} {H : Heap} {n : Nat} {K : AV → Heap → Nat → Prop} : (makeB (some (e, sz, by_)) P (.i64 ln) (.i64 cp) H n K) = (makeB2 (zeroT P e) e sz by_ ln cp H n K) := Eq.trans rfl rfl
@[go_sem] theorem makeB2_some {z : List AV} {e : TypeId} {sz by_ : Nat} {ln cp : Int} {H : Heap} {n : Nat} {K : AV → Heap → Nat → Prop} : (makeB2 (some z) e sz by_ ln cp H n K) = (z.length = sz ∧ 0 ≤ ln ∧ ln ≤ cp ∧ by_ * cp ≤ 281474976710656 ∧ cp ≤ 9223372036854775807 ∧ K (.sl n 0 ln.toNat cp.toNat) (H.upd n (some ⟨repCells cp.toNat z, e, false⟩)) (n + 1)) := Eq.trans rfl rfl
/-! values -/
@[go_sem] theorem evOp_move {P : Program} {env : Env} {H : Heap} {n : Nat}{K : AV → Heap → Nat → Prop} {x : Operand} : (evOp P env H n (.move x) K) = (K (opv env x) H n) := Eq.trans rfl rfl
@[go_sem] theorem evOp_assign {P : Program} {env : Env} {H : Heap} {n : Nat}{K : AV → Heap → Nat → Prop} {x : Operand} : (evOp P env H n (.assign x) K) = (K (opv env x) H n) := Eq.trans rfl rfl
def pickB (c : AV) (a b : AV) (K : AV → Prop) : Prop := match c with
  | .bo t => (t = true → K a) ∧ (t = false → K b)
  | _ => False
@[congr] theorem pickB_congr  {K : AV → Prop} {c c' : AV} {a a' : AV} {b b' : AV} (h_c : c = c') (h_a : a = a') (h_b : b = b') : pickB c a b K = pickB c' a' b' K := by subst h_c h_a h_b; rfl
@[go_sem] theorem evOp_pick {P : Program} {env : Env} {H : Heap} {n : Nat}{K : AV → Heap → Nat → Prop} {c a b : Operand} : (evOp P env H n (.pick c a b) K) = (pickB (opv env c) (opv env a) (opv env b) (atK K H n)) := Eq.trans rfl rfl
@[go_sem] theorem pickB_true {a b : AV} {K : AV → Prop} : (pickB (.bo true) a b K) = (K a) := by simp [pickB]
@[go_sem] theorem pickB_false {a b : AV} {K : AV → Prop} : (pickB (.bo false) a b K) = (K b) := by simp [pickB]
def nilB (c : AV) (K : AV → Prop) : Prop := match c with
  | .pt b o => K (.pt b o)
  | _ => False
@[congr] theorem nilB_congr  {K : AV → Prop} {c c' : AV} (h_c : c = c') : nilB c K = nilB c' K := by subst h_c; rfl
@[go_sem] theorem evOp_nilCheck {P : Program} {env : Env} {H : Heap} {n : Nat}{K : AV → Heap → Nat → Prop} {x : Operand} : (evOp P env H n (.nilCheck x) K) = (nilB (opv env x) (atK K H n)) := Eq.trans rfl rfl
@[go_sem] theorem nilB_pt {b o : Nat} {K : AV → Prop} : (nilB (.pt b o) K) = (K (.pt b o)) := Eq.trans rfl rfl
def binB (op : BinOp) (P : Program) (t : TypeId) (x y : AV) (K : AV → Prop) : Prop :=
  if isShift op then binShift op x y K
    else if isScalar x then binScalar op x y K
    else if isAg x then binAgg P op t x y K
    else binPlain P op t x y K
def aggB (q : Option (List EK)) (op : BinOp) (l l' : List AV) (K : AV → Prop) : Prop :=
  match q with
  | none => False
  | some ks => fits ks l = true ∧ fits ks l' = true ∧ match op with
      | .eql => K (.bo (eqCells l l'))
      | .neq => K (.bo (!eqCells l l'))
      | _ => False
@[congr] theorem aggB_congr  {op : BinOp} {K : AV → Prop} {l : List AV} {l' : List AV} {q q' : Option (List EK)} (h_q : q = q') : aggB q op l l' K = aggB q' op l l' K := by subst h_q; rfl
@[congr] theorem binB_congr  {op : BinOp} {P : Program} {t : TypeId} {K : AV → Prop} {x x' : AV} {y y' : AV} (h_x : x = x') (h_y : y = y') : binB op P t x y K = binB op P t x' y' K := by subst h_x h_y; rfl
@[go_sem] theorem evOp_binOp {P : Program} {env : Env} {H : Heap} {n : Nat}{K : AV → Heap → Nat → Prop} {op : BinOp} {t yt : TypeId} {x y : Operand} : (evOp P env H n (.binOp op t x y yt) K) = (binB op P t (opv env x) (opv env y) (atK K H n)) := Eq.trans rfl rfl
@[go_sem] theorem binB_add_u8 {P : Program} {t : TypeId} {x y : BitVec 8} {K : AV → Prop} : (binB .add P t (.u8 x) (.u8 y) K) = (K (.u8 (x + y))) := Eq.trans rfl rfl
@[go_sem] theorem binB_sub_u8 {P : Program} {t : TypeId} {x y : BitVec 8} {K : AV → Prop} : (binB .sub P t (.u8 x) (.u8 y) K) = (K (.u8 (x - y))) := Eq.trans rfl rfl
@[go_sem] theorem binB_mul_u8 {P : Program} {t : TypeId} {x y : BitVec 8} {K : AV → Prop} : (binB .mul P t (.u8 x) (.u8 y) K) = (K (.u8 (x * y))) := Eq.trans rfl rfl
@[go_sem] theorem binB_and_u8 {P : Program} {t : TypeId} {x y : BitVec 8} {K : AV → Prop} : (binB .and P t (.u8 x) (.u8 y) K) = (K (.u8 (x &&& y))) := Eq.trans rfl rfl
@[go_sem] theorem binB_or_u8 {P : Program} {t : TypeId} {x y : BitVec 8} {K : AV → Prop} : (binB .or P t (.u8 x) (.u8 y) K) = (K (.u8 (x ||| y))) := Eq.trans rfl rfl
@[go_sem] theorem binB_xor_u8 {P : Program} {t : TypeId} {x y : BitVec 8} {K : AV → Prop} : (binB .xor P t (.u8 x) (.u8 y) K) = (K (.u8 (x ^^^ y))) := Eq.trans rfl rfl
@[go_sem] theorem binB_andNot_u8 {P : Program} {t : TypeId} {x y : BitVec 8} {K : AV → Prop} : (binB .andNot P t (.u8 x) (.u8 y) K) = (K (.u8 (x &&& ~~~ y))) := Eq.trans rfl rfl
@[go_sem] theorem binB_quo_u8 {P : Program} {t : TypeId} {x y : BitVec 8} {K : AV → Prop} : (binB .quo P t (.u8 x) (.u8 y) K) = (y ≠ 0 ∧ K (.u8 (x / y))) := Eq.trans rfl rfl
@[go_sem] theorem binB_rem_u8 {P : Program} {t : TypeId} {x y : BitVec 8} {K : AV → Prop} : (binB .rem P t (.u8 x) (.u8 y) K) = (y ≠ 0 ∧ K (.u8 (x % y))) := Eq.trans rfl rfl
@[go_sem] theorem binB_eql_u8 {P : Program} {t : TypeId} {x y : BitVec 8} {K : AV → Prop} : (binB .eql P t (.u8 x) (.u8 y) K) = (K (.bo (x == y))) := Eq.trans rfl rfl
@[go_sem] theorem binB_neq_u8 {P : Program} {t : TypeId} {x y : BitVec 8} {K : AV → Prop} : (binB .neq P t (.u8 x) (.u8 y) K) = (K (.bo (x != y))) := Eq.trans rfl rfl
@[go_sem] theorem binB_lss_u8 {P : Program} {t : TypeId} {x y : BitVec 8} {K : AV → Prop} : (binB .lss P t (.u8 x) (.u8 y) K) = (K (.bo (decide (x < y)))) := Eq.trans rfl rfl
@[go_sem] theorem binB_leq_u8 {P : Program} {t : TypeId} {x y : BitVec 8} {K : AV → Prop} : (binB .leq P t (.u8 x) (.u8 y) K) = (K (.bo (decide (x ≤ y)))) := Eq.trans rfl rfl
@[go_sem] theorem binB_gtr_u8 {P : Program} {t : TypeId} {x y : BitVec 8} {K : AV → Prop} : (binB .gtr P t (.u8 x) (.u8 y) K) = (K (.bo (decide (y < x)))) := Eq.trans rfl rfl
@[go_sem] theorem binB_geq_u8 {P : Program} {t : TypeId} {x y : BitVec 8} {K : AV → Prop} : (binB .geq P t (.u8 x) (.u8 y) K) = (K (.bo (decide (y ≤ x)))) := Eq.trans rfl rfl
@[go_sem] theorem binB_shl_u8_u8 {P : Program} {t : TypeId} {x : BitVec 8} {y : BitVec 8} {K : AV → Prop} : (binB .shl P t (.u8 x) (.u8 y) K) = (K (.u8 (x <<< y.toNat))) := by simp [binB, isShift, binShift, idx, shU]
@[go_sem] theorem binB_shr_u8_u8 {P : Program} {t : TypeId} {x : BitVec 8} {y : BitVec 8} {K : AV → Prop} : (binB .shr P t (.u8 x) (.u8 y) K) = (K (.u8 (x >>> y.toNat))) := by simp [binB, isShift, binShift, idx, shU]
@[go_sem] theorem binB_shl_u8_u16 {P : Program} {t : TypeId} {x : BitVec 8} {y : BitVec 16} {K : AV → Prop} : (binB .shl P t (.u8 x) (.u16 y) K) = (K (.u8 (x <<< y.toNat))) := by simp [binB, isShift, binShift, idx, shU]
@[go_sem] theorem binB_shr_u8_u16 {P : Program} {t : TypeId} {x : BitVec 8} {y : BitVec 16} {K : AV → Prop} : (binB .shr P t (.u8 x) (.u16 y) K) = (K (.u8 (x >>> y.toNat))) := by simp [binB, isShift, binShift, idx, shU]
@[go_sem] theorem binB_shl_u8_u32 {P : Program} {t : TypeId} {x : BitVec 8} {y : BitVec 32} {K : AV → Prop} : (binB .shl P t (.u8 x) (.u32 y) K) = (K (.u8 (x <<< y.toNat))) := by simp [binB, isShift, binShift, idx, shU]
@[go_sem] theorem binB_shr_u8_u32 {P : Program} {t : TypeId} {x : BitVec 8} {y : BitVec 32} {K : AV → Prop} : (binB .shr P t (.u8 x) (.u32 y) K) = (K (.u8 (x >>> y.toNat))) := by simp [binB, isShift, binShift, idx, shU]
@[go_sem] theorem binB_shl_u8_i64 {P : Program} {t : TypeId} {x : BitVec 8} {y : Int} {K : AV → Prop} : (binB .shl P t (.u8 x) (.i64 y) K) = (0 ≤ y ∧ K (.u8 (x <<< y.toNat))) := Eq.trans rfl rfl
@[go_sem] theorem binB_shr_u8_i64 {P : Program} {t : TypeId} {x : BitVec 8} {y : Int} {K : AV → Prop} : (binB .shr P t (.u8 x) (.i64 y) K) = (0 ≤ y ∧ K (.u8 (x >>> y.toNat))) := Eq.trans rfl rfl
@[go_sem] theorem binB_add_u16 {P : Program} {t : TypeId} {x y : BitVec 16} {K : AV → Prop} : (binB .add P t (.u16 x) (.u16 y) K) = (K (.u16 (x + y))) := Eq.trans rfl rfl
@[go_sem] theorem binB_sub_u16 {P : Program} {t : TypeId} {x y : BitVec 16} {K : AV → Prop} : (binB .sub P t (.u16 x) (.u16 y) K) = (K (.u16 (x - y))) := Eq.trans rfl rfl
@[go_sem] theorem binB_mul_u16 {P : Program} {t : TypeId} {x y : BitVec 16} {K : AV → Prop} : (binB .mul P t (.u16 x) (.u16 y) K) = (K (.u16 (x * y))) := Eq.trans rfl rfl
@[go_sem] theorem binB_and_u16 {P : Program} {t : TypeId} {x y : BitVec 16} {K : AV → Prop} : (binB .and P t (.u16 x) (.u16 y) K) = (K (.u16 (x &&& y))) := Eq.trans rfl rfl
@[go_sem] theorem binB_or_u16 {P : Program} {t : TypeId} {x y : BitVec 16} {K : AV → Prop} : (binB .or P t (.u16 x) (.u16 y) K) = (K (.u16 (x ||| y))) := Eq.trans rfl rfl
@[go_sem] theorem binB_xor_u16 {P : Program} {t : TypeId} {x y : BitVec 16} {K : AV → Prop} : (binB .xor P t (.u16 x) (.u16 y) K) = (K (.u16 (x ^^^ y))) := Eq.trans rfl rfl
@[go_sem] theorem binB_andNot_u16 {P : Program} {t : TypeId} {x y : BitVec 16} {K : AV → Prop} : (binB .andNot P t (.u16 x) (.u16 y) K) = (K (.u16 (x &&& ~~~ y))) := Eq.trans rfl rfl
@[go_sem] theorem binB_quo_u16 {P : Program} {t : TypeId} {x y : BitVec 16} {K : AV → Prop} : (binB .quo P t (.u16 x) (.u16 y) K) = (y ≠ 0 ∧ K (.u16 (x / y))) := Eq.trans rfl rfl
@[go_sem] theorem binB_rem_u16 {P : Program} {t : TypeId} {x y : BitVec 16} {K : AV → Prop} : (binB .rem P t (.u16 x) (.u16 y) K) = (y ≠ 0 ∧ K (.u16 (x % y))) := Eq.trans rfl rfl
@[go_sem] theorem binB_eql_u16 {P : Program} {t : TypeId} {x y : BitVec 16} {K : AV → Prop} : (binB .eql P t (.u16 x) (.u16 y) K) = (K (.bo (x == y))) := Eq.trans rfl rfl
@[go_sem] theorem binB_neq_u16 {P : Program} {t : TypeId} {x y : BitVec 16} {K : AV → Prop} : (binB .neq P t (.u16 x) (.u16 y) K) = (K (.bo (x != y))) := Eq.trans rfl rfl
@[go_sem] theorem binB_lss_u16 {P : Program} {t : TypeId} {x y : BitVec 16} {K : AV → Prop} : (binB .lss P t (.u16 x) (.u16 y) K) = (K (.bo (decide (x < y)))) := Eq.trans rfl rfl
@[go_sem] theorem binB_leq_u16 {P : Program} {t : TypeId} {x y : BitVec 16} {K : AV → Prop} : (binB .leq P t (.u16 x) (.u16 y) K) = (K (.bo (decide (x ≤ y)))) := Eq.trans rfl rfl
@[go_sem] theorem binB_gtr_u16 {P : Program} {t : TypeId} {x y : BitVec 16} {K : AV → Prop} : (binB .gtr P t (.u16 x) (.u16 y) K) = (K (.bo (decide (y < x)))) := Eq.trans rfl rfl
@[go_sem] theorem binB_geq_u16 {P : Program} {t : TypeId} {x y : BitVec 16} {K : AV → Prop} : (binB .geq P t (.u16 x) (.u16 y) K) = (K (.bo (decide (y ≤ x)))) := Eq.trans rfl rfl
@[go_sem] theorem binB_shl_u16_u8 {P : Program} {t : TypeId} {x : BitVec 16} {y : BitVec 8} {K : AV → Prop} : (binB .shl P t (.u16 x) (.u8 y) K) = (K (.u16 (x <<< y.toNat))) := by simp [binB, isShift, binShift, idx, shU]
@[go_sem] theorem binB_shr_u16_u8 {P : Program} {t : TypeId} {x : BitVec 16} {y : BitVec 8} {K : AV → Prop} : (binB .shr P t (.u16 x) (.u8 y) K) = (K (.u16 (x >>> y.toNat))) := by simp [binB, isShift, binShift, idx, shU]
@[go_sem] theorem binB_shl_u16_u16 {P : Program} {t : TypeId} {x : BitVec 16} {y : BitVec 16} {K : AV → Prop} : (binB .shl P t (.u16 x) (.u16 y) K) = (K (.u16 (x <<< y.toNat))) := by simp [binB, isShift, binShift, idx, shU]
@[go_sem] theorem binB_shr_u16_u16 {P : Program} {t : TypeId} {x : BitVec 16} {y : BitVec 16} {K : AV → Prop} : (binB .shr P t (.u16 x) (.u16 y) K) = (K (.u16 (x >>> y.toNat))) := by simp [binB, isShift, binShift, idx, shU]
@[go_sem] theorem binB_shl_u16_u32 {P : Program} {t : TypeId} {x : BitVec 16} {y : BitVec 32} {K : AV → Prop} : (binB .shl P t (.u16 x) (.u32 y) K) = (K (.u16 (x <<< y.toNat))) := by simp [binB, isShift, binShift, idx, shU]
@[go_sem] theorem binB_shr_u16_u32 {P : Program} {t : TypeId} {x : BitVec 16} {y : BitVec 32} {K : AV → Prop} : (binB .shr P t (.u16 x) (.u32 y) K) = (K (.u16 (x >>> y.toNat))) := by simp [binB, isShift, binShift, idx, shU]
@[go_sem] theorem binB_shl_u16_i64 {P : Program} {t : TypeId} {x : BitVec 16} {y : Int} {K : AV → Prop} : (binB .shl P t (.u16 x) (.i64 y) K) = (0 ≤ y ∧ K (.u16 (x <<< y.toNat))) := Eq.trans rfl rfl
@[go_sem] theorem binB_shr_u16_i64 {P : Program} {t : TypeId} {x : BitVec 16} {y : Int} {K : AV → Prop} : (binB .shr P t (.u16 x) (.i64 y) K) = (0 ≤ y ∧ K (.u16 (x >>> y.toNat))) := Eq.trans rfl rfl
@[go_sem] theorem binB_add_u32 {P : Program} {t : TypeId} {x y : BitVec 32} {K : AV → Prop} : (binB .add P t (.u32 x) (.u32 y) K) = (K (.u32 (x + y))) := Eq.trans rfl rfl
@[go_sem] theorem binB_sub_u32 {P : Program} {t : TypeId} {x y : BitVec 32} {K : AV → Prop} : (binB .sub P t (.u32 x) (.u32 y) K) = (K (.u32 (x - y))) := Eq.trans rfl rfl
@[go_sem] theorem binB_mul_u32 {P : Program} {t : TypeId} {x y : BitVec 32} {K : AV → Prop} : (binB .mul P t (.u32 x) (.u32 y) K) = (K (.u32 (x * y))) := Eq.trans rfl rfl
@[go_sem] theorem binB_and_u32 {P : Program} {t : TypeId} {x y : BitVec 32} {K : AV → Prop} : (binB .and P t (.u32 x) (.u32 y) K) = (K (.u32 (x &&& y))) := Eq.trans rfl rfl
@[go_sem] theorem binB_or_u32 {P : Program} {t : TypeId} {x y : BitVec 32} {K : AV → Prop} : (binB .or P t (.u32 x) (.u32 y) K) = (K (.u32 (x ||| y))) := Eq.trans rfl rfl
@[go_sem] theorem binB_xor_u32 {P : Program} {t : TypeId} {x y : BitVec 32} {K : AV → Prop} : (binB .xor P t (.u32 x) (.u32 y) K) = (K (.u32 (x ^^^ y))) := Eq.trans rfl rfl
@[go_sem] theorem binB_andNot_u32 {P : Program} {t : TypeId} {x y : BitVec 32} {K : AV → Prop} : (binB .andNot P t (.u32 x) (.u32 y) K) = (K (.u32 (x &&& ~~~ y))) := Eq.trans rfl rfl
@[go_sem] theorem binB_quo_u32 {P : Program} {t : TypeId} {x y : BitVec 32} {K : AV → Prop} : (binB .quo P t (.u32 x) (.u32 y) K) = (y ≠ 0 ∧ K (.u32 (x / y))) := Eq.trans rfl rfl
@[go_sem] theorem binB_rem_u32 {P : Program} {t : TypeId} {x y : BitVec 32} {K : AV → Prop} : (binB .rem P t (.u32 x) (.u32 y) K) = (y ≠ 0 ∧ K (.u32 (x % y))) := Eq.trans rfl rfl
@[go_sem] theorem binB_eql_u32 {P : Program} {t : TypeId} {x y : BitVec 32} {K : AV → Prop} : (binB .eql P t (.u32 x) (.u32 y) K) = (K (.bo (x == y))) := Eq.trans rfl rfl
@[go_sem] theorem binB_neq_u32 {P : Program} {t : TypeId} {x y : BitVec 32} {K : AV → Prop} : (binB .neq P t (.u32 x) (.u32 y) K) = (K (.bo (x != y))) := Eq.trans rfl rfl
@[go_sem] theorem binB_lss_u32 {P : Program} {t : TypeId} {x y : BitVec 32} {K : AV → Prop} : (binB .lss P t (.u32 x) (.u32 y) K) = (K (.bo (decide (x < y)))) := Eq.trans rfl rfl
@[go_sem] theorem binB_leq_u32 {P : Program} {t : TypeId} {x y : BitVec 32} {K : AV → Prop} : (binB .leq P t (.u32 x) (.u32 y) K) = (K (.bo (decide (x ≤ y)))) := Eq.trans rfl rfl
@[go_sem] theorem binB_gtr_u32 {P : Program} {t : TypeId} {x y : BitVec 32} {K : AV → Prop} : (binB .gtr P t (.u32 x) (.u32 y) K) = (K (.bo (decide (y < x)))) := Eq.trans rfl rfl
@[go_sem] theorem binB_geq_u32 {P : Program} {t : TypeId} {x y : BitVec 32} {K : AV → Prop} : (binB .geq P t (.u32 x) (.u32 y) K) = (K (.bo (decide (y ≤ x)))) := Eq.trans rfl rfl
@[go_sem] theorem binB_shl_u32_u8 {P : Program} {t : TypeId} {x : BitVec 32} {y : BitVec 8} {K : AV → Prop} : (binB .shl P t (.u32 x) (.u8 y) K) = (K (.u32 (x <<< y.toNat))) := by simp [binB, isShift, binShift, idx, shU]
@[go_sem] theorem binB_shr_u32_u8 {P : Program} {t : TypeId} {x : BitVec 32} {y : BitVec 8} {K : AV → Prop} : (binB .shr P t (.u32 x) (.u8 y) K) = (K (.u32 (x >>> y.toNat))) := by simp [binB, isShift, binShift, idx, shU]
@[go_sem] theorem binB_shl_u32_u16 {P : Program} {t : TypeId} {x : BitVec 32} {y : BitVec 16} {K : AV → Prop} : (binB .shl P t (.u32 x) (.u16 y) K) = (K (.u32 (x <<< y.toNat))) := by simp [binB, isShift, binShift, idx, shU]
@[go_sem] theorem binB_shr_u32_u16 {P : Program} {t : TypeId} {x : BitVec 32} {y : BitVec 16} {K : AV → Prop} : (binB .shr P t (.u32 x) (.u16 y) K) = (K (.u32 (x >>> y.toNat))) := by simp [binB, isShift, binShift, idx, shU]
@[go_sem] theorem binB_shl_u32_u32 {P : Program} {t : TypeId} {x : BitVec 32} {y : BitVec 32} {K : AV → Prop} : (binB .shl P t (.u32 x) (.u32 y) K) = (K (.u32 (x <<< y.toNat))) := by simp [binB, isShift, binShift, idx, shU]
@[go_sem] theorem binB_shr_u32_u32 {P : Program} {t : TypeId} {x : BitVec 32} {y : BitVec 32} {K : AV → Prop} : (binB .shr P t (.u32 x) (.u32 y) K) = (K (.u32 (x >>> y.toNat))) := by simp [binB, isShift, binShift, idx, shU]
@[go_sem] theorem binB_shl_u32_i64 {P : Program} {t : TypeId} {x : BitVec 32} {y : Int} {K : AV → Prop} : (binB .shl P t (.u32 x) (.i64 y) K) = (0 ≤ y ∧ K (.u32 (x <<< y.toNat))) := Eq.trans rfl rfl
@[go_sem] theorem binB_shr_u32_i64 {P : Program} {t : TypeId} {x : BitVec 32} {y : Int} {K : AV → Prop} : (binB .shr P t (.u32 x) (.i64 y) K) = (0 ≤ y ∧ K (.u32 (x >>> y.toNat))) := Eq.trans rfl rfl
@[go_sem] theorem binB_add_u64 {P : Program} {t : TypeId} {x y : BitVec 64} {K : AV → Prop} : (binB .add P t (.u64 x) (.u64 y) K) = (K (.u64 (x + y))) := Eq.trans rfl rfl
@[go_sem] theorem binB_sub_u64 {P : Program} {t : TypeId} {x y : BitVec 64} {K : AV → Prop} : (binB .sub P t (.u64 x) (.u64 y) K) = (K (.u64 (x - y))) := Eq.trans rfl rfl
@[go_sem] theorem binB_mul_u64 {P : Program} {t : TypeId} {x y : BitVec 64} {K : AV → Prop} : (binB .mul P t (.u64 x) (.u64 y) K) = (K (.u64 (x * y))) := Eq.trans rfl rfl
@[go_sem] theorem binB_and_u64 {P : Program} {t : TypeId} {x y : BitVec 64} {K : AV → Prop} : (binB .and P t (.u64 x) (.u64 y) K) = (K (.u64 (x &&& y))) := Eq.trans rfl rfl
@[go_sem] theorem binB_or_u64 {P : Program} {t : TypeId} {x y : BitVec 64} {K : AV → Prop} : (binB .or P t (.u64 x) (.u64 y) K) = (K (.u64 (x ||| y))) := Eq.trans rfl rfl
@[go_sem] theorem binB_xor_u64 {P : Program} {t : TypeId} {x y : BitVec 64} {K : AV → Prop} : (binB .xor P t (.u64 x) (.u64 y) K) = (K (.u64 (x ^^^ y))) := Eq.trans rfl rfl
@[go_sem] theorem binB_andNot_u64 {P : Program} {t : TypeId} {x y : BitVec 64} {K : AV → Prop} : (binB .andNot P t (.u64 x) (.u64 y) K) = (K (.u64 (x &&& ~~~ y))) := Eq.trans rfl rfl
@[go_sem] theorem binB_quo_u64 {P : Program} {t : TypeId} {x y : BitVec 64} {K : AV → Prop} : (binB .quo P t (.u64 x) (.u64 y) K) = (y ≠ 0 ∧ K (.u64 (x / y))) := Eq.trans rfl rfl
@[go_sem] theorem binB_rem_u64 {P : Program} {t : TypeId} {x y : BitVec 64} {K : AV → Prop} : (binB .rem P t (.u64 x) (.u64 y) K) = (y ≠ 0 ∧ K (.u64 (x % y))) := Eq.trans rfl rfl
@[go_sem] theorem binB_eql_u64 {P : Program} {t : TypeId} {x y : BitVec 64} {K : AV → Prop} : (binB .eql P t (.u64 x) (.u64 y) K) = (K (.bo (x == y))) := Eq.trans rfl rfl
@[go_sem] theorem binB_neq_u64 {P : Program} {t : TypeId} {x y : BitVec 64} {K : AV → Prop} : (binB .neq P t (.u64 x) (.u64 y) K) = (K (.bo (x != y))) := Eq.trans rfl rfl
@[go_sem] theorem binB_lss_u64 {P : Program} {t : TypeId} {x y : BitVec 64} {K : AV → Prop} : (binB .lss P t (.u64 x) (.u64 y) K) = (K (.bo (decide (x < y)))) := Eq.trans rfl rfl
@[go_sem] theorem binB_leq_u64 {P : Program} {t : TypeId} {x y : BitVec 64} {K : AV → Prop} : (binB .leq P t (.u64 x) (.u64 y) K) = (K (.bo (decide (x ≤ y)))) := Eq.trans rfl rfl
@[go_sem] theorem binB_gtr_u64 {P : Program} {t : TypeId} {x y : BitVec 64} {K : AV → Prop} : (binB .gtr P t (.u64 x) (.u64 y) K) = (K (.bo (decide (y < x)))) := Eq.trans rfl rfl
@[go_sem] theorem binB_geq_u64 {P : Program} {t : TypeId} {x y : BitVec 64} {K : AV → Prop} : (binB .geq P t (.u64 x) (.u64 y) K) = (K (.bo (decide (y ≤ x)))) := Eq.trans rfl rfl
@[go_sem] theorem binB_shl_u64_u8 {P : Program} {t : TypeId} {x : BitVec 64} {y : BitVec 8} {K : AV → Prop} : (binB .shl P t (.u64 x) (.u8 y) K) = (K (.u64 (x <<< y.toNat))) := by simp [binB, isShift, binShift, idx, shU]
@[go_sem] theorem binB_shr_u64_u8 {P : Program} {t : TypeId} {x : BitVec 64} {y : BitVec 8} {K : AV → Prop} : (binB .shr P t (.u64 x) (.u8 y) K) = (K (.u64 (x >>> y.toNat))) := by simp [binB, isShift, binShift, idx, shU]
@[go_sem] theorem binB_shl_u64_u16 {P : Program} {t : TypeId} {x : BitVec 64} {y : BitVec 16} {K : AV → Prop} : (binB .shl P t (.u64 x) (.u16 y) K) = (K (.u64 (x <<< y.toNat))) := by simp [binB, isShift, binShift, idx, shU]
@[go_sem] theorem binB_shr_u64_u16 {P : Program} {t : TypeId} {x : BitVec 64} {y : BitVec 16} {K : AV → Prop} : (binB .shr P t (.u64 x) (.u16 y) K) = (K (.u64 (x >>> y.toNat))) := by simp [binB, isShift, binShift, idx, shU]
@[go_sem] theorem binB_shl_u64_u32 {P : Program} {t : TypeId} {x : BitVec 64} {y : BitVec 32} {K : AV → Prop} : (binB .shl P t (.u64 x) (.u32 y) K) = (K (.u64 (x <<< y.toNat))) := by simp [binB, isShift, binShift, idx, shU]
@[go_sem] theorem binB_shr_u64_u32 {P : Program} {t : TypeId} {x : BitVec 64} {y : BitVec 32} {K : AV → Prop} : (binB .shr P t (.u64 x) (.u32 y) K) = (K (.u64 (x >>> y.toNat))) := by simp [binB, isShift, binShift, idx, shU]
@[go_sem] theorem binB_shl_u64_i64 {P : Program} {t : TypeId} {x : BitVec 64} {y : Int} {K : AV → Prop} : (binB .shl P t (.u64 x) (.i64 y) K) = (0 ≤ y ∧ K (.u64 (x <<< y.toNat))) := Eq.trans rfl rfl
@[go_sem] theorem binB_shr_u64_i64 {P : Program} {t : TypeId} {x : BitVec 64} {y : Int} {K : AV → Prop} : (binB .shr P t (.u64 x) (.i64 y) K) = (0 ≤ y ∧ K (.u64 (x >>> y.toNat))) := Eq.trans rfl rfl
@[go_sem] theorem binB_add_i64 {P : Program} {t : TypeId} {x y : Int} {K : AV → Prop} : (binB .add P t (.i64 x) (.i64 y) K) = (K (.i64 (wrap64 (x + y)))) := Eq.trans rfl rfl
@[go_sem] theorem binB_sub_i64 {P : Program} {t : TypeId} {x y : Int} {K : AV → Prop} : (binB .sub P t (.i64 x) (.i64 y) K) = (K (.i64 (wrap64 (x - y)))) := Eq.trans rfl rfl
@[go_sem] theorem binB_mul_i64 {P : Program} {t : TypeId} {x y : Int} {K : AV → Prop} : (binB .mul P t (.i64 x) (.i64 y) K) = (K (.i64 (wrap64 (x * y)))) := Eq.trans rfl rfl
@[go_sem] theorem binB_and_i64 {P : Program} {t : TypeId} {x y : Int} {K : AV → Prop} : (binB .and P t (.i64 x) (.i64 y) K) = (K (.i64 (and64 x y))) := Eq.trans rfl rfl
@[go_sem] theorem binB_or_i64 {P : Program} {t : TypeId} {x y : Int} {K : AV → Prop} : (binB .or P t (.i64 x) (.i64 y) K) = (K (.i64 (or64 x y))) := Eq.trans rfl rfl
@[go_sem] theorem binB_xor_i64 {P : Program} {t : TypeId} {x y : Int} {K : AV → Prop} : (binB .xor P t (.i64 x) (.i64 y) K) = (K (.i64 (xor64 x y))) := Eq.trans rfl rfl
@[go_sem] theorem binB_andNot_i64 {P : Program} {t : TypeId} {x y : Int} {K : AV → Prop} : (binB .andNot P t (.i64 x) (.i64 y) K) = (K (.i64 (andNot64 x y))) := Eq.trans rfl rfl
@[go_sem] theorem binB_quo_i64 {P : Program} {t : TypeId} {x y : Int} {K : AV → Prop} : (binB .quo P t (.i64 x) (.i64 y) K) = (y ≠ 0 ∧ K (.i64 (wrap64 (x.tdiv y)))) := Eq.trans rfl rfl
@[go_sem] theorem binB_rem_i64 {P : Program} {t : TypeId} {x y : Int} {K : AV → Prop} : (binB .rem P t (.i64 x) (.i64 y) K) = (y ≠ 0 ∧ K (.i64 (x.tmod y))) := Eq.trans rfl rfl
@[go_sem] theorem binB_eql_i64 {P : Program} {t : TypeId} {x y : Int} {K : AV → Prop} : (binB .eql P t (.i64 x) (.i64 y) K) = (K (.bo (x == y))) := Eq.trans rfl rfl
@[go_sem] theorem binB_neq_i64 {P : Program} {t : TypeId} {x y : Int} {K : AV → Prop} : (binB .neq P t (.i64 x) (.i64 y) K) = (K (.bo (x != y))) := Eq.trans rfl rfl
@[go_sem] theorem binB_lss_i64 {P : Program} {t : TypeId} {x y : Int} {K : AV → Prop} : (binB .lss P t (.i64 x) (.i64 y) K) = (K (.bo (decide (x < y)))) := Eq.trans rfl rfl
@[go_sem] theorem binB_leq_i64 {P : Program} {t : TypeId} {x y : Int} {K : AV → Prop} : (binB .leq P t (.i64 x) (.i64 y) K) = (K (.bo (decide (x ≤ y)))) := Eq.trans rfl rfl
@[go_sem] theorem binB_gtr_i64 {P : Program} {t : TypeId} {x y : Int} {K : AV → Prop} : (binB .gtr P t (.i64 x) (.i64 y) K) = (K (.bo (decide (y < x)))) := Eq.trans rfl rfl
@[go_sem] theorem binB_geq_i64 {P : Program} {t : TypeId} {x y : Int} {K : AV → Prop} : (binB .geq P t (.i64 x) (.i64 y) K) = (K (.bo (decide (y ≤ x)))) := Eq.trans rfl rfl
@[go_sem] theorem binB_shl_i64 {P : Program} {t : TypeId} {x y : Int} {K : AV → Prop} : (binB .shl P t (.i64 x) (.i64 y) K) = (0 ≤ y ∧ K (.i64 (wrap64 (x * 2 ^ min y.toNat 64)))) := Eq.trans rfl rfl
@[go_sem] theorem binB_shr_i64 {P : Program} {t : TypeId} {x y : Int} {K : AV → Prop} : (binB .shr P t (.i64 x) (.i64 y) K) = (0 ≤ y ∧ K (.i64 (x / 2 ^ min y.toNat 64))) := Eq.trans rfl rfl
@[go_sem] theorem binB_eql_st {P : Program} {t : TypeId} {x y : List (BitVec 8)} {K : AV → Prop} : (binB .eql P t (.st x) (.st y) K) = (K (.bo (x == y))) := Eq.trans rfl rfl
@[go_sem] theorem binB_neq_st {P : Program} {t : TypeId} {x y : List (BitVec 8)} {K : AV → Prop} : (binB .neq P t (.st x) (.st y) K) = (K (.bo (x != y))) := Eq.trans rfl rfl
@[go_sem] theorem binB_add_st {P : Program} {t : TypeId} {x y : List (BitVec 8)} {K : AV → Prop} : (binB .add P t (.st x) (.st y) K) = (x.length + y.length ≤ 9223372036854775807 ∧ K (.st (x ++ y))) := Eq.trans rfl rfl
def plainB (k : Option TK) (op : BinOp) (x y : AV) (K : AV → Prop) : Prop :=
  match k with
  | none => False
  | some k => match eqPlain k x y with
    | none => False
    | some b => match op with
      | .eql => K (.bo b)
      | .neq => K (.bo (!b))
      | _ => False
@[congr] theorem plainB_congr  {op : BinOp} {K : AV → Prop} {x : AV} {y : AV} {k k' : Option TK} (h_k : k = k') : plainB k op x y K = plainB k' op x y K := by subst h_k; rfl
@[go_sem] theorem binB_ag {P : Program} {op : BinOp} {t : TypeId} {K : AV → Prop} {l l' : List AV} (h : isShift op = false) : (binB op P t (.ag l) (.ag l') K) = (aggB (eqT P t) op l l' K) := by simp only [binB, h, isScalar, isAg]; rfl
@[go_sem] theorem aggB_eql {ks : List EK} {K : AV → Prop} {l l' : List AV} : (aggB (some ks) .eql l l' K) = (fits ks l = true ∧ fits ks l' = true ∧ K (.bo (eqCells l l'))) := Eq.trans rfl rfl
@[go_sem] theorem aggB_neq {ks : List EK} {K : AV → Prop} {l l' : List AV} : (aggB (some ks) .neq l l' K) = (fits ks l = true ∧ fits ks l' = true ∧ K (.bo (!eqCells l l'))) := Eq.trans rfl rfl
@[go_sem] theorem fits_nil  : (fits [] []) = (true) := Eq.trans rfl rfl
@[go_sem] theorem eqCells_nil  : (eqCells [] []) = (true) := Eq.trans rfl rfl
@[go_sem] theorem fits_bo {ks : List EK} {r : List AV} {x : Bool} : (fits (.bool :: ks) (.bo x :: r)) = (fits ks r) := by simp [fits, AV.fits]
@[go_sem] theorem eqCells_bo {r s : List AV} {x y : Bool} : (eqCells (.bo x :: r) (.bo y :: s)) = (x == y && eqCells r s) := Eq.trans rfl rfl
@[go_sem] theorem fits_u8 {ks : List EK} {r : List AV} {x : BitVec 8} : (fits (.int .u8 :: ks) (.u8 x :: r)) = (fits ks r) := by simp [fits, AV.fits]
@[go_sem] theorem eqCells_u8 {r s : List AV} {x y : BitVec 8} : (eqCells (.u8 x :: r) (.u8 y :: s)) = (x == y && eqCells r s) := Eq.trans rfl rfl
@[go_sem] theorem fits_u16 {ks : List EK} {r : List AV} {x : BitVec 16} : (fits (.int .u16 :: ks) (.u16 x :: r)) = (fits ks r) := by simp [fits, AV.fits]
@[go_sem] theorem eqCells_u16 {r s : List AV} {x y : BitVec 16} : (eqCells (.u16 x :: r) (.u16 y :: s)) = (x == y && eqCells r s) := Eq.trans rfl rfl
@[go_sem] theorem fits_u32 {ks : List EK} {r : List AV} {x : BitVec 32} : (fits (.int .u32 :: ks) (.u32 x :: r)) = (fits ks r) := by simp [fits, AV.fits]
@[go_sem] theorem eqCells_u32 {r s : List AV} {x y : BitVec 32} : (eqCells (.u32 x :: r) (.u32 y :: s)) = (x == y && eqCells r s) := Eq.trans rfl rfl
@[go_sem] theorem fits_u64 {ks : List EK} {r : List AV} {x : BitVec 64} : (fits (.int .u64 :: ks) (.u64 x :: r)) = (fits ks r) := by simp [fits, AV.fits]
@[go_sem] theorem eqCells_u64 {r s : List AV} {x y : BitVec 64} : (eqCells (.u64 x :: r) (.u64 y :: s)) = (x == y && eqCells r s) := Eq.trans rfl rfl
@[go_sem] theorem fits_i8 {ks : List EK} {r : List AV} {x : BitVec 8} : (fits (.int .i8 :: ks) (.i8 x :: r)) = (fits ks r) := by simp [fits, AV.fits]
@[go_sem] theorem eqCells_i8 {r s : List AV} {x y : BitVec 8} : (eqCells (.i8 x :: r) (.i8 y :: s)) = (x == y && eqCells r s) := Eq.trans rfl rfl
@[go_sem] theorem fits_i64 {ks : List EK} {r : List AV} {x : Int} : (fits (.int .i64 :: ks) (.i64 x :: r)) = (fits ks r) := by simp [fits, AV.fits]
@[go_sem] theorem eqCells_i64 {r s : List AV} {x y : Int} : (eqCells (.i64 x :: r) (.i64 y :: s)) = (x == y && eqCells r s) := Eq.trans rfl rfl
@[go_sem] theorem fits_st {ks : List EK} {r : List AV} {x : List (BitVec 8)} : (fits (.str :: ks) (.st x :: r)) = (fits ks r) := by simp [fits, AV.fits]
@[go_sem] theorem eqCells_st {r s : List AV} {x y : List (BitVec 8)} : (eqCells (.st x :: r) (.st y :: s)) = (x == y && eqCells r s) := Eq.trans rfl rfl
@[go_sem] theorem binB_plain_bo_bo {P : Program} {op : BinOp} {t : TypeId} {K : AV → Prop} (x : Bool) (y : Bool) (h : isShift op = false) : (binB op P t (.bo x) (.bo y) K) = (plainB (kindT P t) op (.bo x) (.bo y) K) := by simp only [binB, h, isScalar, isAg]; rfl
@[go_sem] theorem plainB_eql_bo_bo {K : AV → Prop} (x : Bool) (y : Bool) : (plainB (some .bool) .eql (.bo x) (.bo y) K) = (K (.bo (x == y))) := Eq.trans rfl rfl
@[go_sem] theorem plainB_neq_bo_bo {K : AV → Prop} (x : Bool) (y : Bool) : (plainB (some .bool) .neq (.bo x) (.bo y) K) = (K (.bo (!(x == y)))) := Eq.trans rfl rfl
@[go_sem] theorem binB_plain_pn_pn {P : Program} {op : BinOp} {t : TypeId} {K : AV → Prop}  (h : isShift op = false) : (binB op P t (.pn) (.pn) K) = (plainB (kindT P t) op (.pn) (.pn) K) := by simp only [binB, h, isScalar, isAg]; rfl
@[go_sem] theorem plainB_eql_pn_pn {K : AV → Prop}  : (plainB (some .ptr) .eql (.pn) (.pn) K) = (K (.bo (true))) := Eq.trans rfl rfl
@[go_sem] theorem plainB_neq_pn_pn {K : AV → Prop}  : (plainB (some .ptr) .neq (.pn) (.pn) K) = (K (.bo (false))) := Eq.trans rfl rfl
@[go_sem] theorem binB_plain_pt_pn {P : Program} {op : BinOp} {t : TypeId} {K : AV → Prop} (b o : Nat) (h : isShift op = false) : (binB op P t (.pt b o) (.pn) K) = (plainB (kindT P t) op (.pt b o) (.pn) K) := by simp only [binB, h, isScalar, isAg]; rfl
@[go_sem] theorem plainB_eql_pt_pn {K : AV → Prop} (b o : Nat) : (plainB (some .ptr) .eql (.pt b o) (.pn) K) = (K (.bo (false))) := Eq.trans rfl rfl
@[go_sem] theorem plainB_neq_pt_pn {K : AV → Prop} (b o : Nat) : (plainB (some .ptr) .neq (.pt b o) (.pn) K) = (K (.bo (true))) := Eq.trans rfl rfl
@[go_sem] theorem binB_plain_pn_pt {P : Program} {op : BinOp} {t : TypeId} {K : AV → Prop} (b o : Nat) (h : isShift op = false) : (binB op P t (.pn) (.pt b o) K) = (plainB (kindT P t) op (.pn) (.pt b o) K) := by simp only [binB, h, isScalar, isAg]; rfl
@[go_sem] theorem plainB_eql_pn_pt {K : AV → Prop} (b o : Nat) : (plainB (some .ptr) .eql (.pn) (.pt b o) K) = (K (.bo (false))) := Eq.trans rfl rfl
@[go_sem] theorem plainB_neq_pn_pt {K : AV → Prop} (b o : Nat) : (plainB (some .ptr) .neq (.pn) (.pt b o) K) = (K (.bo (true))) := Eq.trans rfl rfl
@[go_sem] theorem binB_plain_sn_sn {P : Program} {op : BinOp} {t : TypeId} {K : AV → Prop}  (h : isShift op = false) : (binB op P t (.sn) (.sn) K) = (plainB (kindT P t) op (.sn) (.sn) K) := by simp only [binB, h, isScalar, isAg]; rfl
@[go_sem] theorem plainB_eql_sn_sn {K : AV → Prop}  : (plainB (some .slice) .eql (.sn) (.sn) K) = (K (.bo (true))) := Eq.trans rfl rfl
@[go_sem] theorem plainB_neq_sn_sn {K : AV → Prop}  : (plainB (some .slice) .neq (.sn) (.sn) K) = (K (.bo (false))) := Eq.trans rfl rfl
@[go_sem] theorem binB_plain_sn_sl {P : Program} {op : BinOp} {t : TypeId} {K : AV → Prop} (b o l c : Nat) (h : isShift op = false) : (binB op P t (.sn) (.sl b o l c) K) = (plainB (kindT P t) op (.sn) (.sl b o l c) K) := by simp only [binB, h, isScalar, isAg]; rfl
@[go_sem] theorem plainB_eql_sn_sl {K : AV → Prop} (b o l c : Nat) : (plainB (some .slice) .eql (.sn) (.sl b o l c) K) = (K (.bo (false))) := Eq.trans rfl rfl
@[go_sem] theorem plainB_neq_sn_sl {K : AV → Prop} (b o l c : Nat) : (plainB (some .slice) .neq (.sn) (.sl b o l c) K) = (K (.bo (true))) := Eq.trans rfl rfl
@[go_sem] theorem binB_plain_sn_su {P : Program} {op : BinOp} {t : TypeId} {K : AV → Prop} (b o l c : Nat) (h : isShift op = false) : (binB op P t (.sn) (.su b o l c) K) = (plainB (kindT P t) op (.sn) (.su b o l c) K) := by simp only [binB, h, isScalar, isAg]; rfl
@[go_sem] theorem plainB_eql_sn_su {K : AV → Prop} (b o l c : Nat) : (plainB (some .slice) .eql (.sn) (.su b o l c) K) = (K (.bo (false))) := Eq.trans rfl rfl
@[go_sem] theorem plainB_neq_sn_su {K : AV → Prop} (b o l c : Nat) : (plainB (some .slice) .neq (.sn) (.su b o l c) K) = (K (.bo (true))) := Eq.trans rfl rfl
@[go_sem] theorem binB_plain_sl_sn {P : Program} {op : BinOp} {t : TypeId} {K : AV → Prop} (b o l c : Nat) (h : isShift op = false) : (binB op P t (.sl b o l c) (.sn) K) = (plainB (kindT P t) op (.sl b o l c) (.sn) K) := by simp only [binB, h, isScalar, isAg]; rfl
@[go_sem] theorem plainB_eql_sl_sn {K : AV → Prop} (b o l c : Nat) : (plainB (some .slice) .eql (.sl b o l c) (.sn) K) = (K (.bo (false))) := Eq.trans rfl rfl
@[go_sem] theorem plainB_neq_sl_sn {K : AV → Prop} (b o l c : Nat) : (plainB (some .slice) .neq (.sl b o l c) (.sn) K) = (K (.bo (true))) := Eq.trans rfl rfl
@[go_sem] theorem binB_plain_su_sn {P : Program} {op : BinOp} {t : TypeId} {K : AV → Prop} (b o l c : Nat) (h : isShift op = false) : (binB op P t (.su b o l c) (.sn) K) = (plainB (kindT P t) op (.su b o l c) (.sn) K) := by simp only [binB, h, isScalar, isAg]; rfl
@[go_sem] theorem plainB_eql_su_sn {K : AV → Prop} (b o l c : Nat) : (plainB (some .slice) .eql (.su b o l c) (.sn) K) = (K (.bo (false))) := Eq.trans rfl rfl
@[go_sem] theorem plainB_neq_su_sn {K : AV → Prop} (b o l c : Nat) : (plainB (some .slice) .neq (.su b o l c) (.sn) K) = (K (.bo (true))) := Eq.trans rfl rfl
@[go_sem] theorem binB_plain_fnn_fnn {P : Program} {op : BinOp} {t : TypeId} {K : AV → Prop}  (h : isShift op = false) : (binB op P t (.fnn) (.fnn) K) = (plainB (kindT P t) op (.fnn) (.fnn) K) := by simp only [binB, h, isScalar, isAg]; rfl
@[go_sem] theorem plainB_eql_fnn_fnn {K : AV → Prop}  : (plainB (some .func) .eql (.fnn) (.fnn) K) = (K (.bo (true))) := Eq.trans rfl rfl
@[go_sem] theorem plainB_neq_fnn_fnn {K : AV → Prop}  : (plainB (some .func) .neq (.fnn) (.fnn) K) = (K (.bo (false))) := Eq.trans rfl rfl
@[go_sem] theorem binB_plain_fn_fnn {P : Program} {op : BinOp} {t : TypeId} {K : AV → Prop} (f : Nat) (l : List AV) (h : isShift op = false) : (binB op P t (.fn f l) (.fnn) K) = (plainB (kindT P t) op (.fn f l) (.fnn) K) := by simp only [binB, h, isScalar, isAg]; rfl
@[go_sem] theorem plainB_eql_fn_fnn {K : AV → Prop} (f : Nat) (l : List AV) : (plainB (some .func) .eql (.fn f l) (.fnn) K) = (K (.bo (false))) := Eq.trans rfl rfl
@[go_sem] theorem plainB_neq_fn_fnn {K : AV → Prop} (f : Nat) (l : List AV) : (plainB (some .func) .neq (.fn f l) (.fnn) K) = (K (.bo (true))) := Eq.trans rfl rfl
@[go_sem] theorem isShift_eql  : (isShift .eql) = (false) := Eq.trans rfl rfl
@[go_sem] theorem isShift_neq  : (isShift .neq) = (false) := Eq.trans rfl rfl
@[go_sem] theorem evOp_unOp {P : Program} {env : Env} {H : Heap} {n : Nat}{K : AV → Heap → Nat → Prop} {op : UnOp} {t : TypeId} {x : Operand} : (evOp P env H n (.unOp op t x) K) = (unK op (opv env x) (atK K H n)) := Eq.trans rfl rfl
@[go_sem] theorem unK_not {x : Bool} {K : AV → Prop} : (unK .not (.bo x) K) = (K (.bo (!x))) := Eq.trans rfl rfl
@[go_sem] theorem unK_neg {x : Int} {K : AV → Prop} : (unK .neg (.i64 x) K) = (K (.i64 (wrap64 (0 - x)))) := Eq.trans rfl rfl
@[go_sem] theorem unK_xor_u8 {x : BitVec 8} {K : AV → Prop} : (unK .xor (.u8 x) K) = (K (.u8 (~~~ x))) := Eq.trans rfl rfl
@[go_sem] theorem unK_xor_u16 {x : BitVec 16} {K : AV → Prop} : (unK .xor (.u16 x) K) = (K (.u16 (~~~ x))) := Eq.trans rfl rfl
@[go_sem] theorem unK_xor_u32 {x : BitVec 32} {K : AV → Prop} : (unK .xor (.u32 x) K) = (K (.u32 (~~~ x))) := Eq.trans rfl rfl
def convB (c : Option CK) (P : Program) (s d : TypeId) (x : AV) (H : Heap) (n : Nat) (K : AV → Heap → Nat → Prop) : Prop :=
  match c with
  | some .b2s => readK H 1 x (atStK K H n)
  | some (.int k) => convI k x (atK K H n)
  | some .str => match x with
    | .st s => K (.st s) H n
    | _ => False
  | _ => False
@[congr] theorem convB_congr  {P : Program} {s : TypeId} {d : TypeId} {H : Heap} {n : Nat} {K : AV → Heap → Nat → Prop} {c c' : Option CK} {x x' : AV} (h_c : c = c') (h_x : x = x') : convB c P s d x H n K = convB c' P s d x' H n K := by subst h_c h_x; rfl
@[go_sem] theorem evOp_convert {P : Program} {env : Env} {H : Heap} {n : Nat} {K : AV → Heap → Nat → Prop} {s d : TypeId} {x : Operand} : evOp P env H n (.convert s d x) K = convB (convT P s d) P s d (opv env x) H n K := by
  simp only [evOp, pureK]
  cases hc : convT P s d with
  | none => rfl
  | some c => cases c <;> first | rfl | (simp only [convB]; cases opv env x <;> rfl)
@[go_sem] theorem convB_b2s {P : Program} {s d : TypeId} {x : AV} {H : Heap} {n : Nat} {K : AV → Heap → Nat → Prop} : (convB (some .b2s) P s d x H n K) = (readK H 1 x (atStK K H n)) := Eq.trans rfl rfl
@[go_sem] theorem convB_int {P : Program} {s d : TypeId} {x : AV} {H : Heap} {n : Nat} {k : IntKind} {K : AV → Heap → Nat → Prop} : (convB (some (.int k)) P s d x H n K) = (convI k x (atK K H n)) := Eq.trans rfl rfl
@[go_sem] theorem convB_str {P : Program} {s d : TypeId} {x : List (BitVec 8)} {H : Heap} {n : Nat} {K : AV → Heap → Nat → Prop} : (convB (some .str) P s d (.st x) H n K) = (K (.st x) H n) := Eq.trans rfl rfl
@[go_sem] theorem convI_u8_u8 {x : BitVec 8} {K : AV → Prop} : (convI .u8 (.u8 x) K) = (K (.u8 x)) := Eq.trans rfl rfl
@[go_sem] theorem convI_u8_u16 {x : BitVec 16} {K : AV → Prop} : (convI .u8 (.u16 x) K) = (K (.u8 (x.setWidth 8))) := Eq.trans rfl rfl
@[go_sem] theorem convI_u8_u32 {x : BitVec 32} {K : AV → Prop} : (convI .u8 (.u32 x) K) = (K (.u8 (x.setWidth 8))) := Eq.trans rfl rfl
@[go_sem] theorem convI_u8_u64 {x : BitVec 64} {K : AV → Prop} : (convI .u8 (.u64 x) K) = (K (.u8 (x.setWidth 8))) := Eq.trans rfl rfl
@[go_sem] theorem convI_u8_i64 {x : Int} {K : AV → Prop} : (convI .u8 (.i64 x) K) = (K (.u8 (BitVec.ofInt 8 x))) := Eq.trans rfl rfl
@[go_sem] theorem convI_u16_u8 {x : BitVec 8} {K : AV → Prop} : (convI .u16 (.u8 x) K) = (K (.u16 (x.setWidth 16))) := Eq.trans rfl rfl
@[go_sem] theorem convI_u16_u16 {x : BitVec 16} {K : AV → Prop} : (convI .u16 (.u16 x) K) = (K (.u16 x)) := Eq.trans rfl rfl
@[go_sem] theorem convI_u16_u32 {x : BitVec 32} {K : AV → Prop} : (convI .u16 (.u32 x) K) = (K (.u16 (x.setWidth 16))) := Eq.trans rfl rfl
@[go_sem] theorem convI_u16_u64 {x : BitVec 64} {K : AV → Prop} : (convI .u16 (.u64 x) K) = (K (.u16 (x.setWidth 16))) := Eq.trans rfl rfl
@[go_sem] theorem convI_u16_i64 {x : Int} {K : AV → Prop} : (convI .u16 (.i64 x) K) = (K (.u16 (BitVec.ofInt 16 x))) := Eq.trans rfl rfl
@[go_sem] theorem convI_u32_u8 {x : BitVec 8} {K : AV → Prop} : (convI .u32 (.u8 x) K) = (K (.u32 (x.setWidth 32))) := Eq.trans rfl rfl
@[go_sem] theorem convI_u32_u16 {x : BitVec 16} {K : AV → Prop} : (convI .u32 (.u16 x) K) = (K (.u32 (x.setWidth 32))) := Eq.trans rfl rfl
@[go_sem] theorem convI_u32_u32 {x : BitVec 32} {K : AV → Prop} : (convI .u32 (.u32 x) K) = (K (.u32 x)) := Eq.trans rfl rfl
@[go_sem] theorem convI_u32_u64 {x : BitVec 64} {K : AV → Prop} : (convI .u32 (.u64 x) K) = (K (.u32 (x.setWidth 32))) := Eq.trans rfl rfl
@[go_sem] theorem convI_u32_i64 {x : Int} {K : AV → Prop} : (convI .u32 (.i64 x) K) = (K (.u32 (BitVec.ofInt 32 x))) := Eq.trans rfl rfl
@[go_sem] theorem convI_u64_u8 {x : BitVec 8} {K : AV → Prop} : (convI .u64 (.u8 x) K) = (K (.u64 (x.setWidth 64))) := Eq.trans rfl rfl
@[go_sem] theorem convI_u64_u16 {x : BitVec 16} {K : AV → Prop} : (convI .u64 (.u16 x) K) = (K (.u64 (x.setWidth 64))) := Eq.trans rfl rfl
@[go_sem] theorem convI_u64_u32 {x : BitVec 32} {K : AV → Prop} : (convI .u64 (.u32 x) K) = (K (.u64 (x.setWidth 64))) := Eq.trans rfl rfl
@[go_sem] theorem convI_u64_u64 {x : BitVec 64} {K : AV → Prop} : (convI .u64 (.u64 x) K) = (K (.u64 x)) := Eq.trans rfl rfl
@[go_sem] theorem convI_u64_i64 {x : Int} {K : AV → Prop} : (convI .u64 (.i64 x) K) = (K (.u64 (BitVec.ofInt 64 x))) := Eq.trans rfl rfl
@[go_sem] theorem convI_u16_i8 {x : BitVec 8} {K : AV → Prop} : (convI .u16 (.i8 x) K) = (K (.u16 (x.signExtend 16))) := Eq.trans rfl rfl
@[go_sem] theorem convI_i8_u8 {x : BitVec 8} {K : AV → Prop} : (convI .i8 (.u8 x) K) = (K (.i8 x)) := Eq.trans rfl rfl
@[go_sem] theorem convI_i64_u8 {x : BitVec 8} {K : AV → Prop} : (convI .i64 (.u8 x) K) = (K (.i64 x.toNat)) := Eq.trans rfl rfl
@[go_sem] theorem convI_i64_u16 {x : BitVec 16} {K : AV → Prop} : (convI .i64 (.u16 x) K) = (K (.i64 x.toNat)) := Eq.trans rfl rfl
@[go_sem] theorem convI_i64_u32 {x : BitVec 32} {K : AV → Prop} : (convI .i64 (.u32 x) K) = (K (.i64 x.toNat)) := Eq.trans rfl rfl
@[go_sem] theorem convI_i64_i8 {x : BitVec 8} {K : AV → Prop} : (convI .i64 (.i8 x) K) = (K (.i64 x.toInt)) := Eq.trans rfl rfl
@[go_sem] theorem convI_i64_i64 {x : Int} {K : AV → Prop} : (convI .i64 (.i64 x) K) = (K (.i64 (wrap64 x))) := Eq.trans rfl rfl
@[go_sem] theorem evOp_makeInterface {P : Program} {env : Env} {H : Heap} {n : Nat}{K : AV → Heap → Nat → Prop} {t : TypeId} {x : Operand} : (evOp P env H n (.makeInterface t x) K) = (notIface P t = true ∧ opv env x ≠ .junk ∧ K (.ifc t (opv env x)) H n) := Eq.trans rfl rfl
@[go_sem] theorem evOp_makeFunc {P : Program} {env : Env} {H : Heap} {n : Nat}{K : AV → Heap → Nat → Prop} {f : FuncId} {first caps : Array Operand} : (evOp P env H n (.makeFunc (.func f) first caps) K) = (first = #[] ∧ (caps.toList.all fun x => match opv env x with | .junk => false | _ => true) = true ∧ K (.fn f (caps.toList.map (opv env))) H n) := Eq.trans rfl rfl
def fieldB (x : AV) (f : Option (Nat × Bool × Nat)) (K : AV → Prop) : Prop := match x, f with
  | .pt b o, some (off, _, _) => K (.pt b (o + off))
  | _, _ => False
def fieldVB (x : AV) (f : Option (Nat × Bool × Nat)) (K : AV → Prop) : Prop := match x, f with
  | .ag l, some (off, true, sz) => off + sz ≤ l.length ∧ K (.ag ((l.drop off).take sz))
  | .ag l, some (off, false, _) => off < l.length ∧ K (l.getD off .junk)
  | _, _ => False
@[congr] theorem fieldB_congr  {K : AV → Prop} {x x' : AV} {f f' : Option (Nat × Bool × Nat)} (h_x : x = x') (h_f : f = f') : fieldB x f K = fieldB x' f' K := by subst h_x h_f; rfl
@[congr] theorem fieldVB_congr  {K : AV → Prop} {x x' : AV} {f f' : Option (Nat × Bool × Nat)} (h_x : x = x') (h_f : f = f') : fieldVB x f K = fieldVB x' f' K := by subst h_x h_f; rfl
@[go_sem] theorem evOp_fieldAddr {P : Program} {env : Env} {H : Heap} {n : Nat}{K : AV → Heap → Nat → Prop} {s : TypeId} {x : Operand} {f : Nat} : (evOp P env H n (.fieldAddr s x f) K) = (fieldB (opv env x) (fldT P s f) (atK K H n)) := Eq.trans rfl rfl
@[go_sem] theorem fieldB_pt {b o off sz : Nat} {ag : Bool} {K : AV → Prop} : (fieldB (.pt b o) (some (off, ag, sz)) K) = (K (.pt b (o + off))) := Eq.trans rfl rfl
@[go_sem] theorem evOp_field {P : Program} {env : Env} {H : Heap} {n : Nat}{K : AV → Heap → Nat → Prop} {s : TypeId} {x : Operand} {f : Nat} : (evOp P env H n (.field s x f) K) = (fieldVB (opv env x) (fldT P s f) (atK K H n)) := Eq.trans rfl rfl
@[go_sem] theorem fieldVB_many {l : List AV} {off sz : Nat} {K : AV → Prop} : (fieldVB (.ag l) (some (off, true, sz)) K) = (off + sz ≤ l.length ∧ K (.ag ((l.drop off).take sz))) := Eq.trans rfl rfl
@[go_sem] theorem fieldVB_one {l : List AV} {off sz : Nat} {K : AV → Prop} : (fieldVB (.ag l) (some (off, false, sz)) K) = (off < l.length ∧ K (l.getD off .junk)) := Eq.trans rfl rfl
def ixB (ix : Option (Option Nat × Bool × Nat)) (x : AV) (i : Option Int) (K : AV → Prop) : Prop :=
  match ix, i with
  | some (some n, _, e), some i => match x with
    | .pt b o => 0 ≤ i ∧ i < n ∧ K (.pt b (o + i.toNat * e))
    | _ => False
  | some (none, _, e), some i => match x with
    | .sl b o n _ => 0 ≤ i ∧ i < n ∧ K (.pt b (o + i.toNat * e))
    | .su b o n _ => 0 ≤ i ∧ i < n ∧ K (.pt b (o + i.toNat * e))
    | _ => False
  | _, _ => False
def ixVB (ix : Option (Option Nat × Bool × Nat)) (str : Bool) (x : AV) (i : Option Int) (K : AV → Prop) : Prop :=
  match i with
  | none => False
  | some i => match x with
    | .st s => str = true ∧ 0 ≤ i ∧ i < s.length ∧ K (.u8 (s.getD i.toNat 0))
    | .ag l => match ix with
      | some (some n, false, e) => 0 ≤ i ∧ i < n ∧ i.toNat * e < l.length ∧ K (l.getD (i.toNat * e) .junk)
      | some (some n, true, e) => 0 ≤ i ∧ i < n ∧ i.toNat * e + e ≤ l.length ∧ K (.ag ((l.drop (i.toNat * e)).take e))
      | _ => False
    | _ => False
@[congr] theorem ixB_congr  {K : AV → Prop} {ix ix' : Option (Option Nat × Bool × Nat)} {x x' : AV} {i i' : Option Int} (h_ix : ix = ix') (h_x : x = x') (h_i : i = i') : ixB ix x i K = ixB ix' x' i' K := by subst h_ix h_x h_i; rfl
@[congr] theorem ixVB_congr  {K : AV → Prop} {ix ix' : Option (Option Nat × Bool × Nat)} {str str' : Bool} {x x' : AV} {i i' : Option Int} (h_ix : ix = ix') (h_str : str = str') (h_x : x = x') (h_i : i = i') : ixVB ix str x i K = ixVB ix' str' x' i' K := by subst h_ix h_str h_x h_i; rfl
@[go_sem] theorem evOp_indexAddr {P : Program} {env : Env} {H : Heap} {n : Nat}{K : AV → Heap → Nat → Prop} {t : TypeId} {x i : Operand} : (evOp P env H n (.indexAddr t x i) K) = (ixB (ixT P t) (opv env x) (idx (opv env i)) (atK K H n)) := Eq.trans rfl rfl
@[go_sem] theorem ixB_arr {n e b o : Nat} {ag : Bool} {i : Int} {K : AV → Prop} : (ixB (some (some n, ag, e)) (.pt b o) (some i) K) = (0 ≤ i ∧ i < n ∧ K (.pt b (o + i.toNat * e))) := Eq.trans rfl rfl
@[go_sem] theorem ixB_sl {e b o l c : Nat} {ag : Bool} {i : Int} {K : AV → Prop} : (ixB (some (none, ag, e)) (.sl b o l c) (some i) K) = (0 ≤ i ∧ i < l ∧ K (.pt b (o + i.toNat * e))) := Eq.trans rfl rfl
@[go_sem] theorem ixB_su {e b o l c : Nat} {ag : Bool} {i : Int} {K : AV → Prop} : (ixB (some (none, ag, e)) (.su b o l c) (some i) K) = (0 ≤ i ∧ i < l ∧ K (.pt b (o + i.toNat * e))) := Eq.trans rfl rfl
@[go_sem] theorem evOp_index {P : Program} {env : Env} {H : Heap} {n : Nat}{K : AV → Heap → Nat → Prop} {t : TypeId} {x i : Operand} : (evOp P env H n (.index t x i) K) = (ixVB (ixT P t) (isStrT P t) (opv env x) (idx (opv env i)) (atK K H n)) := Eq.trans rfl rfl
@[go_sem] theorem ixVB_st {ix : Option (Option Nat × Bool × Nat)} {str : Bool} {s : List (BitVec 8)} {i : Int} {K : AV → Prop} : (ixVB ix str (.st s) (some i) K) = (str = true ∧ 0 ≤ i ∧ i < s.length ∧ K (.u8 (s.getD i.toNat 0))) := Eq.trans rfl rfl
@[go_sem] theorem ixVB_one {str : Bool} {l : List AV} {n e : Nat} {i : Int} {K : AV → Prop} : (ixVB (some (some n, false, e)) str (.ag l) (some i) K) = (0 ≤ i ∧ i < n ∧ i.toNat * e < l.length ∧ K (l.getD (i.toNat * e) .junk)) := Eq.trans rfl rfl
@[go_sem] theorem ixVB_many {str : Bool} {l : List AV} {n e : Nat} {i : Int} {K : AV → Prop} : (ixVB (some (some n, true, e)) str (.ag l) (some i) K) = (0 ≤ i ∧ i < n ∧ i.toNat * e + e ≤ l.length ∧ K (.ag ((l.drop (i.toNat * e)).take e))) := Eq.trans rfl rfl
@[go_sem] theorem idx_u8 {x : BitVec 8} : (idx (.u8 x)) = (some (x.toNat : Int)) := Eq.trans rfl rfl
@[go_sem] theorem idx_u16 {x : BitVec 16} : (idx (.u16 x)) = (some (x.toNat : Int)) := Eq.trans rfl rfl
@[go_sem] theorem idx_u32 {x : BitVec 32} : (idx (.u32 x)) = (some (x.toNat : Int)) := Eq.trans rfl rfl
@[go_sem] theorem idx_u64 {x : BitVec 64} : (idx (.u64 x)) = (some (x.toNat : Int)) := Eq.trans rfl rfl
@[go_sem] theorem idx_i64 {x : Int} : (idx (.i64 x)) = (some x) := Eq.trans rfl rfl
def extB (x : AV) (i : Nat) (K : AV → Prop) : Prop := match x with
  | .tu l => i < l.length ∧ K (l.getD i .junk)
  | _ => False
@[congr] theorem extB_congr  {K : AV → Prop} {x x' : AV} {i i' : Nat} (h_x : x = x') (h_i : i = i') : extB x i K = extB x' i' K := by subst h_x h_i; rfl
@[go_sem] theorem evOp_extract {P : Program} {env : Env} {H : Heap} {n : Nat}{K : AV → Heap → Nat → Prop} {x : Operand} {i : Nat} : (evOp P env H n (.extract x i) K) = (extB (opv env x) i (atK K H n)) := Eq.trans rfl rfl
@[go_sem] theorem extB_tu {l : List AV} {i : Nat} {K : AV → Prop} : (extB (.tu l) i K) = (i < l.length ∧ K (l.getD i .junk)) := Eq.trans rfl rfl
/-! slices -/
def slB (x : AV) (P : Program) (t : TypeId) (lo : Option Int) (hi mx : Nat → Option Int) (full ok : Bool) (H : Heap) (n : Nat) (K : AV → Heap → Nat → Prop) : Prop :=
  match x with
  | .su b o l e => full = false ∧ sliceSu P H t b o l e lo (hi l) (atK K H n)
  | x => ok = true ∧ sliceK P t x lo hi mx full (atK K H n)
@[congr] theorem slB_congr  {P : Program} {t : TypeId} {H : Heap} {n : Nat} {K : AV → Heap → Nat → Prop} {x x' : AV} {lo lo' : Option Int} {hi hi' : Nat → Option Int} {mx mx' : Nat → Option Int} {full full' : Bool} {ok ok' : Bool} (h_x : x = x') (h_lo : lo = lo') (h_hi : hi = hi') (h_mx : mx = mx') (h_full : full = full') (h_ok : ok = ok') : slB x P t lo hi mx full ok H n K = slB x' P t lo' hi' mx' full' ok' H n K := by subst h_x h_lo h_hi h_mx h_full h_ok; rfl
@[go_sem] theorem evOp_slice {P : Program} {env : Env} {H : Heap} {n : Nat} {K : AV → Heap → Nat → Prop} {t : TypeId} {x : Operand} {lo hi mx : Option Operand} :
    evOp P env H n (.slice t x lo hi mx) K = slB (opv env x) P t (bnd env 0 lo) (fun n => bnd env n hi) (fun n => bnd env n mx) mx.isSome (hi.isSome || mx.isNone) H n K := by
  simp only [evOp, pureK]
  cases hx : opv env x <;> first | rfl | (cases mx <;> simp [slB])
@[go_sem] theorem bnd_none {env : Env} {d : Nat} : (bnd env d none) = (some (d : Int)) := Eq.trans rfl rfl
@[go_sem] theorem bnd_some {env : Env} {d : Nat} {x : Operand} : (bnd env d (some x)) = (idx (opv env x)) := Eq.trans rfl rfl
def arrB (ix : Option (Option Nat × Bool × Nat)) (b o : Nat) (lo : Option Int) (hi mx : Nat → Option Int) (K : AV → Prop) : Prop :=
  match ix with
  | some (some n, _, e) => match lo, hi n, mx n with
      | some l, some h, some m => 0 ≤ l ∧ l ≤ h ∧ h ≤ m ∧ m ≤ n ∧ K (.sl b (if m = l then o else o + l.toNat * e) (h.toNat - l.toNat) (m.toNat - l.toNat))
      | _, _, _ => False
  | _ => False
def arrB2 (b o n e : Nat) (lo hi mx : Option Int) (K : AV → Prop) : Prop :=
  match lo, hi, mx with
      | some l, some h, some m => 0 ≤ l ∧ l ≤ h ∧ h ≤ m ∧ m ≤ n ∧ K (.sl b (if m = l then o else o + l.toNat * e) (h.toNat - l.toNat) (m.toNat - l.toNat))
      | _, _, _ => False
def slcB (ix : Option (Option Nat × Bool × Nat)) (b o n c : Nat) (lo : Option Int) (hi mx : Nat → Option Int) (K : AV → Prop) : Prop :=
  match ix with
  | some (none, _, e) => match lo, hi n, mx c with
      | some l, some h, some m => 0 ≤ l ∧ l ≤ h ∧ h ≤ m ∧ m ≤ c ∧ K (.sl b (if m = l then o else o + l.toNat * e) (h.toNat - l.toNat) (m.toNat - l.toNat))
      | _, _, _ => False
  | _ => False
def snB (ix : Option (Option Nat × Bool × Nat)) (lo : Option Int) (hi mx : Nat → Option Int) (K : AV → Prop) : Prop :=
  match ix with
  | some (none, _, _) => match lo, hi 0, mx 0 with
      | some l, some h, some m => l = 0 ∧ h = 0 ∧ m = 0 ∧ K .sn
      | _, _, _ => False
  | _ => False
def snB2 (lo hi mx : Option Int) (K : AV → Prop) : Prop := match lo, hi, mx with
      | some l, some h, some m => l = 0 ∧ h = 0 ∧ m = 0 ∧ K .sn
      | _, _, _ => False
def strB (str : Bool) (s : List (BitVec 8)) (lo hi : Option Int) (full : Bool) (K : AV → Prop) : Prop :=
  str = true ∧ full = false ∧ match lo, hi with
    | some l, some h => 0 ≤ l ∧ l ≤ h ∧ h ≤ s.length ∧ K (.st ((s.drop l.toNat).take (h.toNat - l.toNat)))
    | _, _ => False
def suB (ix : Option (Option Nat × Bool × Nat)) (blk : Option Blk) (b o l e : Nat) (lo hi : Option Int) (K : AV → Prop) : Prop :=
  match ix, blk, lo, hi with
  | some (none, _, e'), some blk, some l', some h => e' = e ∧ 0 ≤ l' ∧ l' ≤ h ∧ o + h.toNat * e ≤ blk.cells.length ∧
      (if l' = 0 then K (.su b o h.toNat e) else if l' < h then K (.su b (o + l'.toNat * e) (h.toNat - l'.toNat) e) else K (.sl b o 0 0) ∧ K (.su b (o + l'.toNat * e) 0 e))
  | _, _, _, _ => False
@[congr] theorem arrB_congr  {b : Nat} {o : Nat} {K : AV → Prop} {lo : Option Int} {hi : Nat → Option Int} {mx : Nat → Option Int} {ix ix' : Option (Option Nat × Bool × Nat)} (h_ix : ix = ix') : arrB ix b o lo hi mx K = arrB ix' b o lo hi mx K := by subst h_ix; rfl
@[congr] theorem arrB2_congr  {b : Nat} {o : Nat} {n : Nat} {e : Nat} {K : AV → Prop} {lo lo' : Option Int} {hi hi' : Option Int} {mx mx' : Option Int} (h_lo : lo = lo') (h_hi : hi = hi') (h_mx : mx = mx') : arrB2 b o n e lo hi mx K = arrB2 b o n e lo' hi' mx' K := by subst h_lo h_hi h_mx; rfl
@[congr] theorem slcB_congr  {b : Nat} {o : Nat} {n : Nat} {c : Nat} {K : AV → Prop} {lo : Option Int} {hi : Nat → Option Int} {mx : Nat → Option Int} {ix ix' : Option (Option Nat × Bool × Nat)} (h_ix : ix = ix') : slcB ix b o n c lo hi mx K = slcB ix' b o n c lo hi mx K := by subst h_ix; rfl
@[congr] theorem snB_congr  {K : AV → Prop} {lo : Option Int} {hi : Nat → Option Int} {mx : Nat → Option Int} {ix ix' : Option (Option Nat × Bool × Nat)} (h_ix : ix = ix') : snB ix lo hi mx K = snB ix' lo hi mx K := by subst h_ix; rfl
@[congr] theorem snB2_congr  {K : AV → Prop} {lo lo' : Option Int} {hi hi' : Option Int} {mx mx' : Option Int} (h_lo : lo = lo') (h_hi : hi = hi') (h_mx : mx = mx') : snB2 lo hi mx K = snB2 lo' hi' mx' K := by subst h_lo h_hi h_mx; rfl
@[congr] theorem strB_congr  {K : AV → Prop} {str str' : Bool} {s s' : List (BitVec 8)} {lo lo' : Option Int} {hi hi' : Option Int} {full full' : Bool} (h_str : str = str') (h_s : s = s') (h_lo : lo = lo') (h_hi : hi = hi') (h_full : full = full') : strB str s lo hi full K = strB str' s' lo' hi' full' K := by subst h_str h_s h_lo h_hi h_full; rfl
@[congr] theorem suB_congr  {K : AV → Prop} {ix ix' : Option (Option Nat × Bool × Nat)} {blk blk' : Option Blk} {b b' : Nat} {o o' : Nat} {l l' : Nat} {e e' : Nat} {lo lo' : Option Int} {hi hi' : Option Int} (h_ix : ix = ix') (h_blk : blk = blk') (h_b : b = b') (h_o : o = o') (h_l : l = l') (h_e : e = e') (h_lo : lo = lo') (h_hi : hi = hi') : suB ix blk b o l e lo hi K = suB ix' blk' b' o' l' e' lo' hi' K := by subst h_ix h_blk h_b h_o h_l h_e h_lo h_hi; rfl
@[go_sem] theorem slB_pt {P : Program} {t : TypeId} {lo : Option Int} {hi mx : Nat → Option Int} {full ok : Bool} {H : Heap} {n : Nat} {K : AV → Heap → Nat → Prop} {b o : Nat} : (slB (.pt b o) P t lo hi mx full ok H n K) = (ok = true ∧ arrB (ixT P t) b o lo hi mx (atK K H n)) := Eq.trans rfl rfl
@[go_sem] theorem slB_sl {P : Program} {t : TypeId} {lo : Option Int} {hi mx : Nat → Option Int} {full ok : Bool} {H : Heap} {n : Nat} {K : AV → Heap → Nat → Prop} {b o l c : Nat} : (slB (.sl b o l c) P t lo hi mx full ok H n K) = (ok = true ∧ slcB (ixT P t) b o l c lo hi mx (atK K H n)) := Eq.trans rfl rfl
@[go_sem] theorem slB_sn {P : Program} {t : TypeId} {lo : Option Int} {hi mx : Nat → Option Int} {full ok : Bool} {H : Heap} {n : Nat} {K : AV → Heap → Nat → Prop} : (slB .sn P t lo hi mx full ok H n K) = (ok = true ∧ snB (ixT P t) lo hi mx (atK K H n)) := Eq.trans rfl rfl
@[go_sem] theorem slB_st {P : Program} {t : TypeId} {lo : Option Int} {hi mx : Nat → Option Int} {full ok : Bool} {H : Heap} {n : Nat} {K : AV → Heap → Nat → Prop} {s : List (BitVec 8)} : (slB (.st s) P t lo hi mx full ok H n K) = (ok = true ∧ strB (isStrT P t) s lo (hi s.length) full (atK K H n)) := Eq.trans rfl rfl
@[go_sem] theorem slB_su {P : Program} {t : TypeId} {lo : Option Int} {hi mx : Nat → Option Int} {full ok : Bool} {H : Heap} {n : Nat} {K : AV → Heap → Nat → Prop} {b o l e : Nat} : (slB (.su b o l e) P t lo hi mx full ok H n K) = (full = false ∧ suB (ixT P t) (H b) b o l e lo (hi l) (atK K H n)) := Eq.trans rfl rfl
@[go_sem] theorem arrB_some {n e b o : Nat} {ag : Bool} {lo : Option Int} {hi mx : Nat → Option Int} {K : AV → Prop} : (arrB (some (some n, ag, e)) b o lo hi mx K) = (arrB2 b o n e lo (hi n) (mx n) K) := Eq.trans rfl rfl
@[go_sem] theorem arrB2_some {n e b o : Nat} {l h m : Int} {K : AV → Prop} : (arrB2 b o n e (some l) (some h) (some m) K) = (0 ≤ l ∧ l ≤ h ∧ h ≤ m ∧ m ≤ n ∧ K (.sl b (if m = l then o else o + l.toNat * e) (h.toNat - l.toNat) (m.toNat - l.toNat))) := Eq.trans rfl rfl
@[go_sem] theorem slcB_some {e b o n c : Nat} {ag : Bool} {lo : Option Int} {hi mx : Nat → Option Int} {K : AV → Prop} : (slcB (some (none, ag, e)) b o n c lo hi mx K) = (arrB2 b o c e lo (hi n) (mx c) K) := Eq.trans rfl rfl
@[go_sem] theorem snB_some {e : Nat} {ag : Bool} {lo : Option Int} {hi mx : Nat → Option Int} {K : AV → Prop} : (snB (some (none, ag, e)) lo hi mx K) = (snB2 lo (hi 0) (mx 0) K) := Eq.trans rfl rfl
@[go_sem] theorem snB2_some {l h m : Int} {K : AV → Prop} : (snB2 (some l) (some h) (some m) K) = (l = 0 ∧ h = 0 ∧ m = 0 ∧ K .sn) := Eq.trans rfl rfl
@[go_sem] theorem strB_some {str full : Bool} {s : List (BitVec 8)} {l h : Int} {K : AV → Prop} : (strB str s (some l) (some h) full K) = (str = true ∧ full = false ∧ 0 ≤ l ∧ l ≤ h ∧ h ≤ s.length ∧ K (.st ((s.drop l.toNat).take (h.toNat - l.toNat)))) := Eq.trans rfl rfl
@[go_sem] theorem suB_some {blk : Blk} {b o l e e' : Nat} {ag : Bool} {l' h : Int} {K : AV → Prop} : (suB (some (none, ag, e')) (some blk) b o l e (some l') (some h) K) = (e' = e ∧ 0 ≤ l' ∧ l' ≤ h ∧ o + h.toNat * e ≤ blk.cells.length ∧ (if l' = 0 then K (.su b o h.toNat e) else if l' < h then K (.su b (o + l'.toNat * e) (h.toNat - l'.toNat) e) else K (.sl b o 0 0) ∧ K (.su b (o + l'.toNat * e) 0 e))) := Eq.trans rfl rfl
/-! calls -/
def callB (f : AV) (P : Program) (args : List AV) (H : Heap) (n : Nat) (K : AV → Heap → Nat → Prop) : Prop := match f with
  | .fn k caps => ACalls P k (args ++ caps) H n K
  | _ => False
def callJ (f : Option FuncId) (P : Program) (args : List AV) (H : Heap) (n : Nat) (K : AV → Heap → Nat → Prop) : Prop := match f with
  | some k => ACalls P k args H n K
  | none => False
def callI (f : AV) (name : String) (P : Program) (args : List AV) (H : Heap) (n : Nat) (K : AV → Heap → Nat → Prop) : Prop := match f with
  | .ifc t v => callJ (mthT P t name) P (v :: args) H n K
  | _ => False
@[congr] theorem callB_congr  {P : Program} {H : Heap} {n : Nat} {K : AV → Heap → Nat → Prop} {f f' : AV} {args args' : List AV} (h_f : f = f') (h_args : args = args') : callB f P args H n K = callB f' P args' H n K := by subst h_f h_args; rfl
@[congr] theorem callJ_congr  {P : Program} {H : Heap} {n : Nat} {K : AV → Heap → Nat → Prop} {f f' : Option FuncId} {args args' : List AV} (h_f : f = f') (h_args : args = args') : callJ f P args H n K = callJ f' P args' H n K := by subst h_f h_args; rfl
@[congr] theorem callI_congr  {name : String} {P : Program} {H : Heap} {n : Nat} {K : AV → Heap → Nat → Prop} {f f' : AV} {args args' : List AV} (h_f : f = f') (h_args : args = args') : callI f name P args H n K = callI f' name P args' H n K := by subst h_f h_args; rfl
@[go_sem] theorem evOp_call {P : Program} {env : Env} {H : Heap} {n : Nat}{K : AV → Heap → Nat → Prop} {f : Operand} {args : Array Operand} {ts : Array TypeId} : (evOp P env H n (.call ⟨.value f, args, ts⟩) K) = (callB (opv env f) P (args.toList.map (opv env)) H n K) := Eq.trans rfl rfl
@[go_sem] theorem evOp_invoke {P : Program} {env : Env} {H : Heap} {n : Nat}{K : AV → Heap → Nat → Prop} {r : Operand} {name : String} {args : Array Operand} {ts : Array TypeId} : (evOp P env H n (.call ⟨.invoke r name, args, ts⟩) K) = (callI (opv env r) name P (args.toList.map (opv env)) H n K) := Eq.trans rfl rfl
@[go_sem] theorem callB_fn {P : Program} {args : List AV} {H : Heap} {n k : Nat} {caps : List AV} {K : AV → Heap → Nat → Prop} : (callB (.fn k caps) P args H n K) = (ACalls P k (args ++ caps) H n K) := Eq.trans rfl rfl
@[go_sem] theorem callI_ifc {P : Program} {args : List AV} {H : Heap} {n t : Nat} {v : AV} {name : String} {K : AV → Heap → Nat → Prop} : (callI (.ifc t v) name P args H n K) = (callJ (mthT P t name) P (v :: args) H n K) := Eq.trans rfl rfl
@[go_sem] theorem callJ_some {P : Program} {args : List AV} {H : Heap} {n k : Nat} {K : AV → Heap → Nat → Prop} : (callJ (some k) P args H n K) = (ACalls P k args H n K) := Eq.trans rfl rfl
def lenB (k : Option LenK) (x : AV) (K : AV → Prop) : Prop := match k with
  | some (.arr n) => K (.i64 n)
  | some .str => match x with
    | .st s => K (.i64 s.length)
    | _ => False
  | some .slice => match x with
    | .sl _ _ l _ => K (.i64 l)
    | .su _ _ l _ => K (.i64 l)
    | .sn => K (.i64 0)
    | _ => False
  | none => False
def capB (k : Option LenK) (x : AV) (K : AV → Prop) : Prop := match k with
  | some .slice => match x with
    | .sl _ _ _ c => K (.i64 c)
    | .sn => K (.i64 0)
    | _ => False
  | _ => False
@[congr] theorem lenB_congr  {K : AV → Prop} {k k' : Option LenK} {x x' : AV} (h_k : k = k') (h_x : x = x') : lenB k x K = lenB k' x' K := by subst h_k h_x; rfl
@[congr] theorem capB_congr  {K : AV → Prop} {k k' : Option LenK} {x x' : AV} (h_k : k = k') (h_x : x = x') : capB k x K = capB k' x' K := by subst h_k h_x; rfl
@[go_sem] theorem evOp_len {P : Program} {env : Env} {H : Heap} {n : Nat}{K : AV → Heap → Nat → Prop} {x : Operand} {t : TypeId} : (evOp P env H n (.call ⟨.builtin .len, [x].toArray, [t].toArray⟩) K) = (lenB (lenT P t) (opv env x) (atK K H n)) := Eq.trans rfl rfl
@[go_sem] theorem evOp_cap {P : Program} {env : Env} {H : Heap} {n : Nat}{K : AV → Heap → Nat → Prop} {x : Operand} {t : TypeId} : (evOp P env H n (.call ⟨.builtin .cap, [x].toArray, [t].toArray⟩) K) = (capB (lenT P t) (opv env x) (atK K H n)) := Eq.trans rfl rfl
@[go_sem] theorem lenB_arr {n : Nat} {x : AV} {K : AV → Prop} : (lenB (some (.arr n)) x K) = (K (.i64 n)) := Eq.trans rfl rfl
@[go_sem] theorem lenB_str {s : List (BitVec 8)} {K : AV → Prop} : (lenB (some .str) (.st s) K) = (K (.i64 s.length)) := Eq.trans rfl rfl
@[go_sem] theorem lenB_sl {b o l c : Nat} {K : AV → Prop} : (lenB (some .slice) (.sl b o l c) K) = (K (.i64 l)) := Eq.trans rfl rfl
@[go_sem] theorem lenB_su {b o l c : Nat} {K : AV → Prop} : (lenB (some .slice) (.su b o l c) K) = (K (.i64 l)) := Eq.trans rfl rfl
@[go_sem] theorem lenB_sn {K : AV → Prop} : (lenB (some .slice) .sn K) = (K (.i64 0)) := Eq.trans rfl rfl
@[go_sem] theorem capB_sl {b o l c : Nat} {K : AV → Prop} : (capB (some .slice) (.sl b o l c) K) = (K (.i64 c)) := Eq.trans rfl rfl
@[go_sem] theorem capB_sn {K : AV → Prop} : (capB (some .slice) .sn K) = (K (.i64 0)) := Eq.trans rfl rfl
@[go_sem] theorem evOp_max {P : Program} {env : Env} {H : Heap} {n : Nat}{K : AV → Heap → Nat → Prop} {x y : Operand} {ts : Array TypeId} : (evOp P env H n (.call ⟨.builtin .max, [x, y].toArray, ts⟩) K) = (mmK max (opv env x) (opv env y) (atK K H n)) := Eq.trans rfl rfl
@[go_sem] theorem evOp_min {P : Program} {env : Env} {H : Heap} {n : Nat}{K : AV → Heap → Nat → Prop} {x y : Operand} {ts : Array TypeId} : (evOp P env H n (.call ⟨.builtin .min, [x, y].toArray, ts⟩) K) = (mmK min (opv env x) (opv env y) (atK K H n)) := Eq.trans rfl rfl
@[go_sem] theorem mmK_eq {f : Int → Int → Int} {x y : Int} {K : AV → Prop} : (mmK f (.i64 x) (.i64 y) K) = (K (.i64 (f x y))) := Eq.trans rfl rfl
def copyB (el : Option (TypeId × Nat × Nat)) (H : Heap) (dst src : AV) (K : AV → Heap → Prop) : Prop :=
  match el with
  | none => False
  | some (_, e, _) => (match src with | .st _ => e = 1 | _ => True) ∧ srcK H e src fun l cells =>
    match slicePl e dst with
    | some (b, off, dl) => match H b with
      | some blk => blk.ro = false ∧ off + min l dl * e ≤ blk.cells.length ∧
          K (.i64 (min l dl : Nat)) (H.upd b (some { blk with cells := splice blk.cells off (cells.take (min l dl * e)) }))
      | none => False
    | none => False
/-- What is read of a slice, as far as it is known. -/
def rdB (blk : Option Blk) (o e l : Nat) (K : Nat → List AV → Prop) : Prop := match blk with
  | some blk => o + l * e ≤ blk.cells.length ∧ K l ((blk.cells.drop o).take (l * e))
  | none => False
def cpB (blk : Option Blk) (b off dl e : Nat) (H : Heap) (K : AV → Heap → Prop) (l : Nat) (cells : List AV) : Prop := match blk with
  | some blk => blk.ro = false ∧ off + min l dl * e ≤ blk.cells.length ∧ K (.i64 (min l dl : Nat)) (H.upd b (some ⟨splice blk.cells off (cells.take (min l dl * e)), blk.elem, blk.ro⟩))
  | none => False
@[congr] theorem copyB_congr  {H : Heap} {K : AV → Heap → Prop} {el el' : Option (TypeId × Nat × Nat)} {dst dst' : AV} {src src' : AV} (h_el : el = el') (h_dst : dst = dst') (h_src : src = src') : copyB el H dst src K = copyB el' H dst' src' K := by subst h_el h_dst h_src; rfl
@[congr] theorem rdB_congr  {K : Nat → List AV → Prop} {blk blk' : Option Blk} {o o' : Nat} {e e' : Nat} {l l' : Nat} (h_blk : blk = blk') (h_o : o = o') (h_e : e = e') (h_l : l = l') : rdB blk o e l K = rdB blk' o' e' l' K := by subst h_blk h_o h_e h_l; rfl
@[congr] theorem cpB_congr  {H : Heap} {K : AV → Heap → Prop} {blk blk' : Option Blk} {b b' : Nat} {off off' : Nat} {dl dl' : Nat} {e e' : Nat} {l l' : Nat} {cells cells' : List AV} (h_blk : blk = blk') (h_b : b = b') (h_off : off = off') (h_dl : dl = dl') (h_e : e = e') (h_l : l = l') (h_cells : cells = cells') : cpB blk b off dl e H K l cells = cpB blk' b' off' dl' e' H K l' cells' := by subst h_blk h_b h_off h_dl h_e h_l h_cells; rfl
@[go_sem] theorem evOp_copy {P : Program} {env : Env} {H : Heap} {n : Nat}{K : AV → Heap → Nat → Prop} {x y : Operand} {t t' : TypeId} : (evOp P env H n (.call ⟨.builtin .copy, [x, y].toArray, [t, t'].toArray⟩) K) = (copyB (elT P t) H (opv env x) (opv env y) (atVHK K n)) := Eq.trans rfl rfl
@[go_sem] theorem readK_sn {H : Heap} {e : Nat} {K : Nat → List AV → Prop} : (readK H e .sn K) = (K 0 []) := Eq.trans rfl rfl
@[go_sem] theorem readK_sl {H : Heap} {e : Nat} {K : Nat → List AV → Prop} {b o l c : Nat} : (readK H e (.sl b o l c) K) = (rdB (H b) o e l K) := Eq.trans rfl rfl
@[go_sem] theorem readK_su {H : Heap} {e : Nat} {K : Nat → List AV → Prop} {b o l : Nat} : (readK H e (.su b o l e) K) = (rdB (H b) o e l K) := by simp [readK, slicePl, rdB]; rfl
@[go_sem] theorem srcK_sn {H : Heap} {e : Nat} {K : Nat → List AV → Prop} : (srcK H e .sn K) = (K 0 []) := Eq.trans rfl rfl
@[go_sem] theorem srcK_st {H : Heap} {e : Nat} {K : Nat → List AV → Prop} {s : List (BitVec 8)} : (srcK H e (.st s) K) = (K s.length (s.map .u8)) := Eq.trans rfl rfl
@[go_sem] theorem srcK_sl {H : Heap} {e : Nat} {K : Nat → List AV → Prop} {b o l c : Nat} : (srcK H e (.sl b o l c) K) = (rdB (H b) o e l K) := Eq.trans rfl rfl
@[go_sem] theorem srcK_su {H : Heap} {e : Nat} {K : Nat → List AV → Prop} {b o l : Nat} : (srcK H e (.su b o l e) K) = (rdB (H b) o e l K) := by simp [srcK, readK, slicePl, rdB]; rfl
@[go_sem] theorem rdB_some {blk : Blk} {o e l : Nat} {K : Nat → List AV → Prop} : (rdB (some blk) o e l K) = (o + l * e ≤ blk.cells.length ∧ K l ((blk.cells.drop o).take (l * e))) := Eq.trans rfl rfl
@[go_sem] theorem copyB_sl_sl {H : Heap} {K : AV → Heap → Prop} {el : TypeId} {e by_ : Nat} {b o l c : Nat} {b2 o2 l2 c2 : Nat} : (copyB (some (el, e, by_)) H (.sl b o l c) (.sl b2 o2 l2 c2) K) = (srcK H e (.sl b2 o2 l2 c2) (cpB (H b) b o l e H K)) := by simp only [copyB, true_and]; rfl
@[go_sem] theorem copyB_su_sl {H : Heap} {K : AV → Heap → Prop} {el : TypeId} {e by_ : Nat} {b o l : Nat} {b2 o2 l2 c2 : Nat} : (copyB (some (el, e, by_)) H (.su b o l e) (.sl b2 o2 l2 c2) K) = (srcK H e (.sl b2 o2 l2 c2) (cpB (H b) b o l e H K)) := by simp only [copyB, slicePl, if_true, true_and]; rfl
@[go_sem] theorem copyB_sl_su {H : Heap} {K : AV → Heap → Prop} {el : TypeId} {e by_ : Nat} {b o l c : Nat} {b2 o2 l2 e2 : Nat} : (copyB (some (el, e, by_)) H (.sl b o l c) (.su b2 o2 l2 e2) K) = (srcK H e (.su b2 o2 l2 e2) (cpB (H b) b o l e H K)) := by simp only [copyB, true_and]; rfl
@[go_sem] theorem copyB_su_su {H : Heap} {K : AV → Heap → Prop} {el : TypeId} {e by_ : Nat} {b o l : Nat} {b2 o2 l2 e2 : Nat} : (copyB (some (el, e, by_)) H (.su b o l e) (.su b2 o2 l2 e2) K) = (srcK H e (.su b2 o2 l2 e2) (cpB (H b) b o l e H K)) := by simp only [copyB, slicePl, if_true, true_and]; rfl
@[go_sem] theorem copyB_sl_sn {H : Heap} {K : AV → Heap → Prop} {el : TypeId} {e by_ : Nat} {b o l c : Nat}  : (copyB (some (el, e, by_)) H (.sl b o l c) .sn K) = (srcK H e .sn (cpB (H b) b o l e H K)) := by simp only [copyB, true_and]; rfl
@[go_sem] theorem copyB_su_sn {H : Heap} {K : AV → Heap → Prop} {el : TypeId} {e by_ : Nat} {b o l : Nat}  : (copyB (some (el, e, by_)) H (.su b o l e) .sn K) = (srcK H e .sn (cpB (H b) b o l e H K)) := by simp only [copyB, slicePl, if_true, true_and]; rfl
@[go_sem] theorem cpB_some {blk : Blk} {b off dl e l : Nat} {H : Heap} {K : AV → Heap → Prop} {cells : List AV} : (cpB (some blk) b off dl e H K l cells) = (blk.ro = false ∧ off + min l dl * e ≤ blk.cells.length ∧ K (.i64 (min l dl : Nat)) (H.upd b (some ⟨splice blk.cells off (cells.take (min l dl * e)), blk.elem, blk.ro⟩))) := Eq.trans rfl rfl
def appB (a : Option AppT) (ni : Bool) (H : Heap) (n : Nat) (s x : AV) (K : AV → Heap → Nat → Prop) : Prop :=
  ni = true ∧ match a with
  | none => False
  | some a => (match x with | .st _ => a.e = 1 | _ => True) ∧ srcK H a.e x fun l new =>
    match s with
    | .sn => (l = 0 → K .sn H n) ∧ (0 < l → l ≤ 4294967296 ∧ K (.su n 0 l a.e) (H.upd n (some ⟨new, a.el, false⟩)) (n + 1))
    | .sl b o sl c => match H b with
      | some blk => o + sl * a.e ≤ blk.cells.length ∧
          (sl + l ≤ c → blk.ro = false ∧ o + (sl + l) * a.e ≤ blk.cells.length ∧ K (.sl b o (sl + l) c) (H.upd b (some { blk with cells := splice blk.cells (o + sl * a.e) new })) n) ∧
          (c < sl + l → sl + l ≤ 4294967296 ∧ K (.su n 0 (sl + l) a.e) (H.upd n (some ⟨(blk.cells.drop o).take (sl * a.e) ++ new, a.el, false⟩)) (n + 1))
      | none => False
    | .su b o sl e => match H b with
      | some blk => e = a.e ∧ o = 0 ∧ blk.ro = false ∧ blk.elem = a.el ∧ sl * a.e ≤ blk.cells.length ∧ sl + l ≤ 4294967296 ∧
          K (.su n 0 (sl + l) a.e) ((H.upd b none).upd n (some ⟨blk.cells.take (sl * a.e) ++ new, a.el, false⟩)) (n + 1)
      | none => False
    | _ => False
def appSn (a : AppT) (H : Heap) (n : Nat) (K : AV → Heap → Nat → Prop) (l : Nat) (new : List AV) : Prop :=
  (l = 0 → K .sn H n) ∧ (0 < l → l ≤ 4294967296 ∧ K (.su n 0 l a.e) (H.upd n (some ⟨new, a.el, false⟩)) (n + 1))
def appSl (blk : Option Blk) (a : AppT) (b o sl c : Nat) (H : Heap) (n : Nat) (K : AV → Heap → Nat → Prop) (l : Nat) (new : List AV) : Prop := match blk with
  | some blk => o + sl * a.e ≤ blk.cells.length ∧
          (sl + l ≤ c → blk.ro = false ∧ o + (sl + l) * a.e ≤ blk.cells.length ∧ K (.sl b o (sl + l) c) (H.upd b (some ⟨splice blk.cells (o + sl * a.e) new, blk.elem, blk.ro⟩)) n) ∧
          (c < sl + l → sl + l ≤ 4294967296 ∧ K (.su n 0 (sl + l) a.e) (H.upd n (some ⟨(blk.cells.drop o).take (sl * a.e) ++ new, a.el, false⟩)) (n + 1))
  | none => False
def appSu (blk : Option Blk) (a : AppT) (b o sl e : Nat) (H : Heap) (n : Nat) (K : AV → Heap → Nat → Prop) (l : Nat) (new : List AV) : Prop := match blk with
  | some blk => e = a.e ∧ o = 0 ∧ blk.ro = false ∧ blk.elem = a.el ∧ sl * a.e ≤ blk.cells.length ∧ sl + l ≤ 4294967296 ∧
          K (.su n 0 (sl + l) a.e) ((H.upd b none).upd n (some ⟨blk.cells.take (sl * a.e) ++ new, a.el, false⟩)) (n + 1)
  | none => False
def appX (a : AppT) (x : AV) : Prop := match x with
  | .st _ => a.e = 1
  | _ => True
@[congr] theorem appB_congr  {H : Heap} {n : Nat} {K : AV → Heap → Nat → Prop} {a a' : Option AppT} {ni ni' : Bool} {s s' : AV} {x x' : AV} (h_a : a = a') (h_ni : ni = ni') (h_s : s = s') (h_x : x = x') : appB a ni H n s x K = appB a' ni' H n s' x' K := by subst h_a h_ni h_s h_x; rfl
@[congr] theorem appSn_congr  {a : AppT} {H : Heap} {n : Nat} {K : AV → Heap → Nat → Prop} {l l' : Nat} {new new' : List AV} (h_l : l = l') (h_new : new = new') : appSn a H n K l new = appSn a H n K l' new' := by subst h_l h_new; rfl
@[congr] theorem appSl_congr  {a : AppT} {b : Nat} {o : Nat} {sl : Nat} {c : Nat} {H : Heap} {n : Nat} {K : AV → Heap → Nat → Prop} {blk blk' : Option Blk} {l l' : Nat} {new new' : List AV} (h_blk : blk = blk') (h_l : l = l') (h_new : new = new') : appSl blk a b o sl c H n K l new = appSl blk' a b o sl c H n K l' new' := by subst h_blk h_l h_new; rfl
@[congr] theorem appSu_congr  {a : AppT} {b : Nat} {o : Nat} {sl : Nat} {e : Nat} {H : Heap} {n : Nat} {K : AV → Heap → Nat → Prop} {blk blk' : Option Blk} {l l' : Nat} {new new' : List AV} (h_blk : blk = blk') (h_l : l = l') (h_new : new = new') : appSu blk a b o sl e H n K l new = appSu blk' a b o sl e H n K l' new' := by subst h_blk h_l h_new; rfl
@[go_sem] theorem evOp_append {P : Program} {env : Env} {H : Heap} {n : Nat}{K : AV → Heap → Nat → Prop} {x y : Operand} {t t' : TypeId} : (evOp P env H n (.call ⟨.builtin .append, [x, y].toArray, [t, t'].toArray⟩) K) = (appB (appT P t) (notIntT P t') H n (opv env x) (opv env y) K) := Eq.trans rfl rfl
@[go_sem] theorem appB_sn {a : AppT} {H : Heap} {n : Nat} {x : AV} {K : AV → Heap → Nat → Prop} : (appB (some a) true H n .sn x K) = (appX a x ∧ srcK H a.e x (appSn a H n K)) := by simp only [appB, true_and]; rfl
@[go_sem] theorem appB_sl {a : AppT} {H : Heap} {n : Nat} {x : AV} {K : AV → Heap → Nat → Prop} {b o l c : Nat} : (appB (some a) true H n (.sl b o l c) x K) = (appX a x ∧ srcK H a.e x (appSl (H b) a b o l c H n K)) := by simp only [appB, true_and]; rfl
@[go_sem] theorem appB_su {a : AppT} {H : Heap} {n : Nat} {x : AV} {K : AV → Heap → Nat → Prop} {b o l e : Nat} : (appB (some a) true H n (.su b o l e) x K) = (appX a x ∧ srcK H a.e x (appSu (H b) a b o l e H n K)) := by simp only [appB, true_and]; rfl
@[go_sem] theorem appX_sn {a : AppT}  : (appX a (.sn)) = (True) := Eq.trans rfl rfl
@[go_sem] theorem appX_sl {a : AppT} {b o l c : Nat} : (appX a (.sl b o l c)) = (True) := Eq.trans rfl rfl
@[go_sem] theorem appX_su {a : AppT} {b o l c : Nat} : (appX a (.su b o l c)) = (True) := Eq.trans rfl rfl
@[go_sem] theorem appX_st {a : AppT} {s : List (BitVec 8)} : (appX a (.st s)) = (a.e = 1) := Eq.trans rfl rfl
@[go_sem] theorem appSn_eq {a : AppT} {H : Heap} {n : Nat} {K : AV → Heap → Nat → Prop}{l : Nat} {new : List AV} : (appSn a H n K l new) = ((l = 0 → K .sn H n) ∧ (0 < l → l ≤ 4294967296 ∧ K (.su n 0 l a.e) (H.upd n (some ⟨new, a.el, false⟩)) (n + 1))) := Eq.trans rfl rfl
@[go_sem] theorem appSl_some {blk : Blk} {a : AppT} {b o sl c : Nat} {H : Heap} {n : Nat} {K : AV → Heap → Nat → Prop}{l : Nat} {new : List AV} : (appSl (some blk) a b o sl c H n K l new) = (o + sl * a.e ≤ blk.cells.length ∧ (sl + l ≤ c → blk.ro = false ∧ o + (sl + l) * a.e ≤ blk.cells.length ∧ K (.sl b o (sl + l) c) (H.upd b (some ⟨splice blk.cells (o + sl * a.e) new, blk.elem, blk.ro⟩)) n) ∧ (c < sl + l → sl + l ≤ 4294967296 ∧ K (.su n 0 (sl + l) a.e) (H.upd n (some ⟨(blk.cells.drop o).take (sl * a.e) ++ new, a.el, false⟩)) (n + 1))) := Eq.trans rfl rfl
@[go_sem] theorem appSu_some {blk : Blk} {a : AppT} {b o sl e : Nat} {H : Heap} {n : Nat} {K : AV → Heap → Nat → Prop}{l : Nat} {new : List AV} : (appSu (some blk) a b o sl e H n K l new) = (e = a.e ∧ o = 0 ∧ blk.ro = false ∧ blk.elem = a.el ∧ sl * a.e ≤ blk.cells.length ∧ sl + l ≤ 4294967296 ∧ K (.su n 0 (sl + l) a.e) ((H.upd b none).upd n (some ⟨blk.cells.take (sl * a.e) ++ new, a.el, false⟩)) (n + 1)) := Eq.trans rfl rfl
/-! regions whose order is drawn -/
@[congr] theorem drawK_congr  {P : Program} {all : List Oper} {k : Env → Heap → Nat → Prop} {ord ord' : List (Nat × List Nat)} {rd rd' : RD} {env env' : Env} {H H' : Heap} {n n' : Nat} (h_ord : ord = ord') (h_rd : rd = rd') (h_env : env = env') (h_H : H = H') (h_n : n = n') : drawK P all k ord rd env H n = drawK P all k ord' rd' env' H' n' := by subst h_ord h_rd h_env h_H h_n; rfl
@[congr] theorem litK_congr  {k : Env → Heap → Nat → Prop} {dst dst' : Option Tmp} {env env' : Env} {H H' : Heap} {n n' : Nat} {v v' : AV} {H2 H2' : Heap} {n2 n2' : Nat} (h_dst : dst = dst') (h_env : env = env') (h_H : H = H') (h_n : n = n') (h_v : v = v') (h_H2 : H2 = H2') (h_n2 : n2 = n2') : litK k dst env H n v H2 n2 = litK k dst' env' H' n' v' H2' n2' := by subst h_dst h_env h_H h_n h_v h_H2 h_n2; rfl
@[congr] theorem stopK_congr  {P : Program} {k : RD → Env → Heap → Nat → Prop} {ws ws' : List Nat} {rd rd' : RD} {dst dst' : Option Tmp} {env env' : Env} {v v' : AV} {H H' : Heap} {n n' : Nat} (h_ws : ws = ws') (h_rd : rd = rd') (h_dst : dst = dst') (h_env : env = env') (h_v : v = v') (h_H : H = H') (h_n : n = n') : stopK P ws rd k dst env v H n = stopK P ws' rd' k dst' env' v' H' n' := by subst h_ws h_rd h_dst h_env h_v h_H h_n; rfl
@[congr] theorem ldK_congr  {k : RD → Env → Heap → Nat → Prop} {i i' : Nat} {t t' : TypeId} {a a' : AV} {rd rd' : RD} {dst dst' : Option Tmp} {env env' : Env} {H H' : Heap} {n n' : Nat} {v v' : AV} (h_i : i = i') (h_t : t = t') (h_a : a = a') (h_rd : rd = rd') (h_dst : dst = dst') (h_env : env = env') (h_H : H = H') (h_n : n = n') (h_v : v = v') : ldK k i t a rd dst env H n v = ldK k i' t' a' rd' dst' env' H' n' v' := by subst h_i h_t h_a h_rd h_dst h_env h_H h_n h_v; rfl
def drawO (P : Program) (op : Op) (d : Option Tmp) (i : Nat) (ws : List Nat) (k : RD → Env → Heap → Nat → Prop) (rd : RD) (env : Env) (H : Heap) (n : Nat) : Prop :=
  match op with
  | .load t a => loadK P H t (opv env a) (ldK k i t (opv env a) rd d env H n)
  | op => if lightOp op then evOp P env nilH n op (litK (k rd) d env H n) else evOp P env H n op (stopK P ws rd k d env)
def drawG2 (c : AV) (P : Program) (all : List Oper) (k : Env → Heap → Nat → Prop) (op : Op) (d : Option Tmp) (want : Bool) (t : Tmp) (i : Nat) (ws : List Nat) (r : List (Nat × List Nat)) (rd : RD) (env : Env) (H : Heap) (n : Nat) : Prop :=
  match c with
  | .bo c => (c = want → drawO P op d i ws (drawK P all k r) rd ((t, .bo want) :: env) H n) ∧ (c = (!want) → drawK P all k r rd (putE d (.tu []) ((t, .bo (!want)) :: env)) H n)
  | .tu [] => drawK P all k r rd (putE d (.tu []) env) H n
  | _ => False
def drawG1 (t : Option Tmp) (P : Program) (all : List Oper) (k : Env → Heap → Nat → Prop) (op : Op) (d : Option Tmp) (want : Bool) (i : Nat) (ws : List Nat) (r : List (Nat × List Nat)) (rd : RD) (env : Env) (H : Heap) (n : Nat) : Prop :=
  match t with
  | none => False
  | some t => drawG2 (env.get t) P all k op d want t i ws r rd env H n
def drawB (o : Option Oper) (P : Program) (all : List Oper) (k : Env → Heap → Nat → Prop) (i : Nat) (ws : List Nat) (r : List (Nat × List Nat)) (rd : RD) (env : Env) (H : Heap) (n : Nat) : Prop :=
  match o with
  | none => False
  | some o => match o.guard with
    | none => drawO P o.op o.dst i ws (drawK P all k r) rd env H n
    | some (j, want) => drawG1 ((all[j]?).bind (·.dst)) P all k o.op o.dst want i ws r rd env H n
@[congr] theorem drawO_congr  {P : Program} {op : Op} {d : Option Tmp} {i : Nat} {ws : List Nat} {k : RD → Env → Heap → Nat → Prop} {rd rd' : RD} {env env' : Env} {H H' : Heap} {n n' : Nat} (h_rd : rd = rd') (h_env : env = env') (h_H : H = H') (h_n : n = n') : drawO P op d i ws k rd env H n = drawO P op d i ws k rd' env' H' n' := by subst h_rd h_env h_H h_n; rfl
@[congr] theorem drawG2_congr  {P : Program} {all : List Oper} {k : Env → Heap → Nat → Prop} {op : Op} {d : Option Tmp} {want : Bool} {t : Tmp} {i : Nat} {ws : List Nat} {r : List (Nat × List Nat)} {c c' : AV} {rd rd' : RD} {env env' : Env} {H H' : Heap} {n n' : Nat} (h_c : c = c') (h_rd : rd = rd') (h_env : env = env') (h_H : H = H') (h_n : n = n') : drawG2 c P all k op d want t i ws r rd env H n = drawG2 c' P all k op d want t i ws r rd' env' H' n' := by subst h_c h_rd h_env h_H h_n; rfl
@[congr] theorem drawG1_congr  {P : Program} {all : List Oper} {k : Env → Heap → Nat → Prop} {op : Op} {d : Option Tmp} {want : Bool} {i : Nat} {ws : List Nat} {r : List (Nat × List Nat)} {t t' : Option Tmp} {rd rd' : RD} {env env' : Env} {H H' : Heap} {n n' : Nat} (h_t : t = t') (h_rd : rd = rd') (h_env : env = env') (h_H : H = H') (h_n : n = n') : drawG1 t P all k op d want i ws r rd env H n = drawG1 t' P all k op d want i ws r rd' env' H' n' := by subst h_t h_rd h_env h_H h_n; rfl
@[congr] theorem drawB_congr  {P : Program} {all : List Oper} {k : Env → Heap → Nat → Prop} {i : Nat} {ws : List Nat} {r : List (Nat × List Nat)} {o o' : Option Oper} {rd rd' : RD} {env env' : Env} {H H' : Heap} {n n' : Nat} (h_o : o = o') (h_rd : rd = rd') (h_env : env = env') (h_H : H = H') (h_n : n = n') : drawB o P all k i ws r rd env H n = drawB o' P all k i ws r rd' env' H' n' := by subst h_o h_rd h_env h_H h_n; rfl
@[go_sem] theorem drawK_nil {P : Program} {all : List Oper} {k : Env → Heap → Nat → Prop} {rd : RD} {env : Env} {H : Heap} {n : Nat} : (drawK P all k [] rd env H n) = (k env H n) := Eq.trans rfl rfl
@[go_sem] theorem drawK_cons {P : Program} {all : List Oper} {k : Env → Heap → Nat → Prop} {rd : RD} {env : Env} {H : Heap} {n : Nat} {i : Nat} {ws : List Nat} {r : List (Nat × List Nat)} : (drawK P all k ((i, ws) :: r) rd env H n) = (drawB (all[i]?) P all k i ws r rd env H n) := Eq.trans rfl rfl
@[go_sem] theorem drawB_none {P : Program} {all : List Oper} {k : Env → Heap → Nat → Prop} {rd : RD} {env : Env} {H : Heap} {n : Nat} {i : Nat} {ws : List Nat} {r : List (Nat × List Nat)} {d : Option Tmp} {op : Op} {t : TypeId} {p : String} {af : Array Edge} : (drawB (some ⟨d, op, t, p, af, none⟩) P all k i ws r rd env H n) = (drawO P op d i ws (drawK P all k r) rd env H n) := Eq.trans rfl rfl
@[go_sem] theorem drawB_some {P : Program} {all : List Oper} {k : Env → Heap → Nat → Prop} {rd : RD} {env : Env} {H : Heap} {n : Nat} {i : Nat} {ws : List Nat} {r : List (Nat × List Nat)} {d : Option Tmp} {op : Op} {t : TypeId} {p : String} {af : Array Edge} {j : Nat} {want : Bool} : (drawB (some ⟨d, op, t, p, af, some (j, want)⟩) P all k i ws r rd env H n) = (drawG1 ((all[j]?).bind (·.dst)) P all k op d want i ws r rd env H n) := Eq.trans rfl rfl
@[go_sem] theorem drawG1_some {P : Program} {all : List Oper} {k : Env → Heap → Nat → Prop} {rd : RD} {env : Env} {H : Heap} {n : Nat} {i : Nat} {ws : List Nat} {r : List (Nat × List Nat)} {d : Option Tmp} {op : Op} {want : Bool} {t : Tmp} : (drawG1 (some t) P all k op d want i ws r rd env H n) = (drawG2 (env.get t) P all k op d want t i ws r rd env H n) := Eq.trans rfl rfl
@[go_sem] theorem drawG2_bo {P : Program} {all : List Oper} {k : Env → Heap → Nat → Prop} {rd : RD} {env : Env} {H : Heap} {n : Nat} {i : Nat} {ws : List Nat} {r : List (Nat × List Nat)} {d : Option Tmp} {op : Op} {want : Bool} {t : Tmp} {c : Bool} : (drawG2 (.bo c) P all k op d want t i ws r rd env H n) = ((c = want → drawO P op d i ws (drawK P all k r) rd ((t, .bo want) :: env) H n) ∧ (c = (!want) → drawK P all k r rd (putE d (.tu []) ((t, .bo (!want)) :: env)) H n)) := Eq.trans rfl rfl
@[go_sem high] theorem drawG2_true_true {P : Program} {all : List Oper} {k : Env → Heap → Nat → Prop} {rd : RD} {env : Env} {H : Heap} {n : Nat} {i : Nat} {ws : List Nat} {r : List (Nat × List Nat)} {d : Option Tmp} {op : Op} {t : Tmp} : drawG2 (.bo true) P all k op d true t i ws r rd env H n = (drawO P op d i ws (drawK P all k r) rd ((t, .bo true) :: env) H n) := by simp [drawG2]
@[go_sem high] theorem drawG2_true_false {P : Program} {all : List Oper} {k : Env → Heap → Nat → Prop} {rd : RD} {env : Env} {H : Heap} {n : Nat} {i : Nat} {ws : List Nat} {r : List (Nat × List Nat)} {d : Option Tmp} {op : Op} {t : Tmp} : drawG2 (.bo false) P all k op d true t i ws r rd env H n = (drawK P all k r rd (putE d (.tu []) ((t, .bo false) :: env)) H n) := by simp [drawG2]
@[go_sem high] theorem drawG2_false_true {P : Program} {all : List Oper} {k : Env → Heap → Nat → Prop} {rd : RD} {env : Env} {H : Heap} {n : Nat} {i : Nat} {ws : List Nat} {r : List (Nat × List Nat)} {d : Option Tmp} {op : Op} {t : Tmp} : drawG2 (.bo true) P all k op d false t i ws r rd env H n = (drawK P all k r rd (putE d (.tu []) ((t, .bo true) :: env)) H n) := by simp [drawG2]
@[go_sem high] theorem drawG2_false_false {P : Program} {all : List Oper} {k : Env → Heap → Nat → Prop} {rd : RD} {env : Env} {H : Heap} {n : Nat} {i : Nat} {ws : List Nat} {r : List (Nat × List Nat)} {d : Option Tmp} {op : Op} {t : Tmp} : drawG2 (.bo false) P all k op d false t i ws r rd env H n = (drawO P op d i ws (drawK P all k r) rd ((t, .bo false) :: env) H n) := by simp [drawG2]
@[go_sem] theorem drawG2_tu {P : Program} {all : List Oper} {k : Env → Heap → Nat → Prop} {rd : RD} {env : Env} {H : Heap} {n : Nat} {i : Nat} {ws : List Nat} {r : List (Nat × List Nat)} {d : Option Tmp} {op : Op} {want : Bool} {t : Tmp} : (drawG2 (.tu []) P all k op d want t i ws r rd env H n) = (drawK P all k r rd (putE d (.tu []) env) H n) := Eq.trans rfl rfl
@[go_sem] theorem drawO_move {P : Program} {k : RD → Env → Heap → Nat → Prop} {rd : RD} {env : Env} {H : Heap} {n : Nat} {i : Nat} {ws : List Nat} {d : Option Tmp} {x : Operand} : (drawO P (.move x) d i ws k rd env H n) = (evOp P env nilH n (.move x) (litK (k rd) d env H n)) := Eq.trans rfl rfl
@[go_sem] theorem drawO_assign {P : Program} {k : RD → Env → Heap → Nat → Prop} {rd : RD} {env : Env} {H : Heap} {n : Nat} {i : Nat} {ws : List Nat} {d : Option Tmp} {x : Operand} : (drawO P (.assign x) d i ws k rd env H n) = (evOp P env nilH n (.assign x) (litK (k rd) d env H n)) := Eq.trans rfl rfl
@[go_sem] theorem drawO_pick {P : Program} {k : RD → Env → Heap → Nat → Prop} {rd : RD} {env : Env} {H : Heap} {n : Nat} {i : Nat} {ws : List Nat} {d : Option Tmp} {x y z : Operand} : (drawO P (.pick x y z) d i ws k rd env H n) = (evOp P env nilH n (.pick x y z) (litK (k rd) d env H n)) := Eq.trans rfl rfl
@[go_sem] theorem drawO_nilCheck {P : Program} {k : RD → Env → Heap → Nat → Prop} {rd : RD} {env : Env} {H : Heap} {n : Nat} {i : Nat} {ws : List Nat} {d : Option Tmp} {x : Operand} : (drawO P (.nilCheck x) d i ws k rd env H n) = (evOp P env nilH n (.nilCheck x) (litK (k rd) d env H n)) := Eq.trans rfl rfl
@[go_sem] theorem drawO_binOp {P : Program} {k : RD → Env → Heap → Nat → Prop} {rd : RD} {env : Env} {H : Heap} {n : Nat} {i : Nat} {ws : List Nat} {d : Option Tmp} {o : BinOp} {t t' : TypeId} {x y : Operand} : (drawO P (.binOp o t x y t') d i ws k rd env H n) = (evOp P env nilH n (.binOp o t x y t') (litK (k rd) d env H n)) := Eq.trans rfl rfl
@[go_sem] theorem drawO_unOp {P : Program} {k : RD → Env → Heap → Nat → Prop} {rd : RD} {env : Env} {H : Heap} {n : Nat} {i : Nat} {ws : List Nat} {d : Option Tmp} {o : UnOp} {t : TypeId} {x : Operand} : (drawO P (.unOp o t x) d i ws k rd env H n) = (evOp P env nilH n (.unOp o t x) (litK (k rd) d env H n)) := Eq.trans rfl rfl
@[go_sem] theorem drawO_convert {P : Program} {k : RD → Env → Heap → Nat → Prop} {rd : RD} {env : Env} {H : Heap} {n : Nat} {i : Nat} {ws : List Nat} {d : Option Tmp} {s t : TypeId} {x : Operand} : (drawO P (.convert s t x) d i ws k rd env H n) = (evOp P env nilH n (.convert s t x) (litK (k rd) d env H n)) := Eq.trans rfl rfl
@[go_sem] theorem drawO_makeInterface {P : Program} {k : RD → Env → Heap → Nat → Prop} {rd : RD} {env : Env} {H : Heap} {n : Nat} {i : Nat} {ws : List Nat} {d : Option Tmp} {t : TypeId} {x : Operand} : (drawO P (.makeInterface t x) d i ws k rd env H n) = (evOp P env nilH n (.makeInterface t x) (litK (k rd) d env H n)) := Eq.trans rfl rfl
@[go_sem] theorem drawO_makeFunc {P : Program} {k : RD → Env → Heap → Nat → Prop} {rd : RD} {env : Env} {H : Heap} {n : Nat} {i : Nat} {ws : List Nat} {d : Option Tmp} {f : Fn} {a b : Array Operand} : (drawO P (.makeFunc f a b) d i ws k rd env H n) = (evOp P env nilH n (.makeFunc f a b) (litK (k rd) d env H n)) := Eq.trans rfl rfl
@[go_sem] theorem drawO_slice {P : Program} {k : RD → Env → Heap → Nat → Prop} {rd : RD} {env : Env} {H : Heap} {n : Nat} {i : Nat} {ws : List Nat} {d : Option Tmp} {t : TypeId} {x : Operand} {a b c : Option Operand} : (drawO P (.slice t x a b c) d i ws k rd env H n) = (evOp P env nilH n (.slice t x a b c) (litK (k rd) d env H n)) := Eq.trans rfl rfl
@[go_sem] theorem drawO_fieldAddr {P : Program} {k : RD → Env → Heap → Nat → Prop} {rd : RD} {env : Env} {H : Heap} {n : Nat} {i : Nat} {ws : List Nat} {d : Option Tmp} {t : TypeId} {x : Operand} {f : Nat} : (drawO P (.fieldAddr t x f) d i ws k rd env H n) = (evOp P env nilH n (.fieldAddr t x f) (litK (k rd) d env H n)) := Eq.trans rfl rfl
@[go_sem] theorem drawO_field {P : Program} {k : RD → Env → Heap → Nat → Prop} {rd : RD} {env : Env} {H : Heap} {n : Nat} {i : Nat} {ws : List Nat} {d : Option Tmp} {t : TypeId} {x : Operand} {f : Nat} : (drawO P (.field t x f) d i ws k rd env H n) = (evOp P env nilH n (.field t x f) (litK (k rd) d env H n)) := Eq.trans rfl rfl
@[go_sem] theorem drawO_indexAddr {P : Program} {k : RD → Env → Heap → Nat → Prop} {rd : RD} {env : Env} {H : Heap} {n : Nat} {i : Nat} {ws : List Nat} {d : Option Tmp} {t : TypeId} {x y : Operand} : (drawO P (.indexAddr t x y) d i ws k rd env H n) = (evOp P env nilH n (.indexAddr t x y) (litK (k rd) d env H n)) := Eq.trans rfl rfl
@[go_sem] theorem drawO_index {P : Program} {k : RD → Env → Heap → Nat → Prop} {rd : RD} {env : Env} {H : Heap} {n : Nat} {i : Nat} {ws : List Nat} {d : Option Tmp} {t : TypeId} {x y : Operand} : (drawO P (.index t x y) d i ws k rd env H n) = (evOp P env nilH n (.index t x y) (litK (k rd) d env H n)) := Eq.trans rfl rfl
@[go_sem] theorem drawO_extract {P : Program} {k : RD → Env → Heap → Nat → Prop} {rd : RD} {env : Env} {H : Heap} {n : Nat} {i : Nat} {ws : List Nat} {d : Option Tmp} {x : Operand} {j : Nat} : (drawO P (.extract x j) d i ws k rd env H n) = (evOp P env nilH n (.extract x j) (litK (k rd) d env H n)) := Eq.trans rfl rfl
@[go_sem] theorem drawO_build {P : Program} {k : RD → Env → Heap → Nat → Prop} {rd : RD} {env : Env} {H : Heap} {n : Nat} {i : Nat} {ws : List Nat} {d : Option Tmp} {t : TypeId} {ps : Array (Nat × Operand)} : (drawO P (.build t ps) d i ws k rd env H n) = (evOp P env nilH n (.build t ps) (litK (k rd) d env H n)) := Eq.trans rfl rfl
@[go_sem] theorem drawO_len {P : Program} {k : RD → Env → Heap → Nat → Prop} {rd : RD} {env : Env} {H : Heap} {n : Nat} {i : Nat} {ws : List Nat} {d : Option Tmp} {a : Array Operand} {b : Array TypeId} : (drawO P (.call ⟨.builtin .len, a, b⟩) d i ws k rd env H n) = (evOp P env nilH n (.call ⟨.builtin .len, a, b⟩) (litK (k rd) d env H n)) := Eq.trans rfl rfl
@[go_sem] theorem drawO_cap {P : Program} {k : RD → Env → Heap → Nat → Prop} {rd : RD} {env : Env} {H : Heap} {n : Nat} {i : Nat} {ws : List Nat} {d : Option Tmp} {a : Array Operand} {b : Array TypeId} : (drawO P (.call ⟨.builtin .cap, a, b⟩) d i ws k rd env H n) = (evOp P env nilH n (.call ⟨.builtin .cap, a, b⟩) (litK (k rd) d env H n)) := Eq.trans rfl rfl
@[go_sem] theorem drawO_max {P : Program} {k : RD → Env → Heap → Nat → Prop} {rd : RD} {env : Env} {H : Heap} {n : Nat} {i : Nat} {ws : List Nat} {d : Option Tmp} {a : Array Operand} {b : Array TypeId} : (drawO P (.call ⟨.builtin .max, a, b⟩) d i ws k rd env H n) = (evOp P env nilH n (.call ⟨.builtin .max, a, b⟩) (litK (k rd) d env H n)) := Eq.trans rfl rfl
@[go_sem] theorem drawO_min {P : Program} {k : RD → Env → Heap → Nat → Prop} {rd : RD} {env : Env} {H : Heap} {n : Nat} {i : Nat} {ws : List Nat} {d : Option Tmp} {a : Array Operand} {b : Array TypeId} : (drawO P (.call ⟨.builtin .min, a, b⟩) d i ws k rd env H n) = (evOp P env nilH n (.call ⟨.builtin .min, a, b⟩) (litK (k rd) d env H n)) := Eq.trans rfl rfl
@[go_sem] theorem drawO_load {P : Program} {k : RD → Env → Heap → Nat → Prop} {rd : RD} {env : Env} {H : Heap} {n : Nat} {i : Nat} {ws : List Nat} {d : Option Tmp} {t : TypeId} {a : Operand} : (drawO P (.load t a) d i ws k rd env H n) = (loadK P H t (opv env a) (ldK k i t (opv env a) rd d env H n)) := Eq.trans rfl rfl
@[go_sem] theorem drawO_store {P : Program} {k : RD → Env → Heap → Nat → Prop} {rd : RD} {env : Env} {H : Heap} {n : Nat} {i : Nat} {ws : List Nat} {d : Option Tmp} {t : TypeId} {a x : Operand} : (drawO P (.store t a x) d i ws k rd env H n) = (evOp P env H n (.store t a x) (stopK P ws rd k d env)) := Eq.trans rfl rfl
@[go_sem] theorem drawO_alloc {P : Program} {k : RD → Env → Heap → Nat → Prop} {rd : RD} {env : Env} {H : Heap} {n : Nat} {i : Nat} {ws : List Nat} {d : Option Tmp} {t : TypeId} : (drawO P (.alloc t) d i ws k rd env H n) = (evOp P env H n (.alloc t) (stopK P ws rd k d env)) := Eq.trans rfl rfl
@[go_sem] theorem drawO_box {P : Program} {k : RD → Env → Heap → Nat → Prop} {rd : RD} {env : Env} {H : Heap} {n : Nat} {i : Nat} {ws : List Nat} {d : Option Tmp} {t : TypeId} {x : Operand} : (drawO P (.box t x) d i ws k rd env H n) = (evOp P env H n (.box t x) (stopK P ws rd k d env)) := Eq.trans rfl rfl
@[go_sem] theorem drawO_buildSlice {P : Program} {k : RD → Env → Heap → Nat → Prop} {rd : RD} {env : Env} {H : Heap} {n : Nat} {i : Nat} {ws : List Nat} {d : Option Tmp} {t : TypeId} {l : Nat} {ps : Array (Nat × Operand)} : (drawO P (.buildSlice t l ps) d i ws k rd env H n) = (evOp P env H n (.buildSlice t l ps) (stopK P ws rd k d env)) := Eq.trans rfl rfl
@[go_sem] theorem drawO_makeSlice {P : Program} {k : RD → Env → Heap → Nat → Prop} {rd : RD} {env : Env} {H : Heap} {n : Nat} {i : Nat} {ws : List Nat} {d : Option Tmp} {t : TypeId} {a b : Operand} : (drawO P (.makeSlice t a b) d i ws k rd env H n) = (evOp P env H n (.makeSlice t a b) (stopK P ws rd k d env)) := Eq.trans rfl rfl
@[go_sem] theorem drawO_callv {P : Program} {k : RD → Env → Heap → Nat → Prop} {rd : RD} {env : Env} {H : Heap} {n : Nat} {i : Nat} {ws : List Nat} {d : Option Tmp} {f : Operand} {a : Array Operand} {b : Array TypeId} : (drawO P (.call ⟨.value f, a, b⟩) d i ws k rd env H n) = (evOp P env H n (.call ⟨.value f, a, b⟩) (stopK P ws rd k d env)) := Eq.trans rfl rfl
@[go_sem] theorem drawO_calli {P : Program} {k : RD → Env → Heap → Nat → Prop} {rd : RD} {env : Env} {H : Heap} {n : Nat} {i : Nat} {ws : List Nat} {d : Option Tmp} {f : Operand} {nm : String} {a : Array Operand} {b : Array TypeId} : (drawO P (.call ⟨.invoke f nm, a, b⟩) d i ws k rd env H n) = (evOp P env H n (.call ⟨.invoke f nm, a, b⟩) (stopK P ws rd k d env)) := Eq.trans rfl rfl
@[go_sem] theorem drawO_copy {P : Program} {k : RD → Env → Heap → Nat → Prop} {rd : RD} {env : Env} {H : Heap} {n : Nat} {i : Nat} {ws : List Nat} {d : Option Tmp} {a : Array Operand} {b : Array TypeId} : (drawO P (.call ⟨.builtin .copy, a, b⟩) d i ws k rd env H n) = (evOp P env H n (.call ⟨.builtin .copy, a, b⟩) (stopK P ws rd k d env)) := Eq.trans rfl rfl
@[go_sem] theorem drawO_append {P : Program} {k : RD → Env → Heap → Nat → Prop} {rd : RD} {env : Env} {H : Heap} {n : Nat} {i : Nat} {ws : List Nat} {d : Option Tmp} {a : Array Operand} {b : Array TypeId} : (drawO P (.call ⟨.builtin .append, a, b⟩) d i ws k rd env H n) = (evOp P env H n (.call ⟨.builtin .append, a, b⟩) (stopK P ws rd k d env)) := Eq.trans rfl rfl
@[go_sem] theorem litK_eq {k : Env → Heap → Nat → Prop} {d : Option Tmp} {env : Env} {H H2 : Heap} {n n2 : Nat} {v : AV} : (litK k d env H n v H2 n2) = (k (putE d v env) H n) := Eq.trans rfl rfl
@[go_sem] theorem ldK_eq {k : RD → Env → Heap → Nat → Prop} {i : Nat} {t : TypeId} {a : AV} {rd : RD} {d : Option Tmp} {env : Env} {H : Heap} {n : Nat} {v : AV} : (ldK k i t a rd d env H n v) = (k ((i, t, a, v) :: rd) (putE d v env) H n) := Eq.trans rfl rfl
@[go_sem] theorem stopK_eq {P : Program} {ws : List Nat} {rd : RD} {k : RD → Env → Heap → Nat → Prop} {d : Option Tmp} {env : Env} {H : Heap} {n : Nat} {v : AV} : (stopK P ws rd k d env v H n) = (chk P H ws rd ∧ k rd (putE d v env) H n) := Eq.trans rfl rfl
@[go_sem] theorem chk_nil {P : Program} {H : Heap} {ws : List Nat} : (chk P H ws []) = (True) := Eq.trans rfl rfl
@[go_sem] theorem chk_none {P : Program} {H : Heap} {rd : RD} : (chk P H [] rd) = (True) := by
  induction rd with
  | nil => rfl
  | cons c r ih => obtain ⟨i, t, a, v⟩ := c; simp [chk, ih]
@[go_sem] theorem chk_cons {P : Program} {H : Heap} {w : Nat} {ws : List Nat} {i : Nat} {t : TypeId} {a v : AV} {r : RD} : (chk P H (w :: ws) ((i, t, a, v) :: r)) = (((w :: ws).contains i = true → loadK P H t a (· = v)) ∧ chk P H (w :: ws) r) := Eq.trans rfl rfl
@[go_sem] theorem maskE_nil {env : Env} : (maskE [] env) = (env) := Eq.trans rfl rfl
@[go_sem] theorem maskE_cons {j d : Nat} {r : List (Nat × Nat)} {env : Env} : (maskE ((j, d) :: r) env) = ((d, .junk) :: maskE r env) := Eq.trans rfl rfl
/-! code -/
@[go_sem] theorem ev_skip {P : Program} {N : Nat} {T : Nat → Draw} {K : Exit → Env → Heap → Nat → Prop} {env : Env} {H : Heap} {n : Nat} : (ev P N T .skip K env H n) = (K .normal env H n) := Eq.trans rfl rfl
@[go_sem] theorem ev_ret {P : Program} {N : Nat} {T : Nat → Draw} {K : Exit → Env → Heap → Nat → Prop} {env : Env} {H : Heap} {n : Nat} : (ev P N T .ret K env H n) = (K .ret env H n) := Eq.trans rfl rfl
@[go_sem] theorem ev_exit {P : Program} {N : Nat} {T : Nat → Draw} {K : Exit → Env → Heap → Nat → Prop} {env : Env} {H : Heap} {n : Nat} {id : Nat} : (ev P N T (.exit id) K env H n) = (K (.exit id) env H n) := Eq.trans rfl rfl
@[go_sem] theorem ev_label {P : Program} {N : Nat} {T : Nat → Draw} {K : Exit → Env → Heap → Nat → Prop} {env : Env} {H : Heap} {n : Nat} {id : Nat} : (ev P N T (.label id) K env H n) = (K .normal env H n) := Eq.trans rfl rfl
@[go_sem] theorem ev_seq {P : Program} {N : Nat} {T : Nat → Draw} {K : Exit → Env → Heap → Nat → Prop} {env : Env} {H : Heap} {n : Nat} {a b : Code} : (ev P N T (.seq a b) K env H n) = (ev P N T a (seqK (ev P N T b K) K) env H n) := Eq.trans rfl rfl
@[go_sem] theorem ev_block {P : Program} {N : Nat} {T : Nat → Draw} {K : Exit → Env → Heap → Nat → Prop} {env : Env} {H : Heap} {n : Nat} {id : Nat} {b : Code} : (ev P N T (.block id b) K env H n) = (ev P N T b (blkK id K) env H n) := Eq.trans rfl rfl
@[go_sem] theorem ev_region {P : Program} {N : Nat} {T : Nat → Draw} {K : Exit → Env → Heap → Nat → Prop} {env : Env} {H : Heap} {n : Nat} {id : Nat} {l : List Oper} : (ev P N T (.region id l.toArray false) K env H n) = (evOps P l l (K .normal) env H n) := Eq.trans rfl rfl
@[go_sem] theorem ev_draw {P : Program} {N : Nat} {T : Nat → Draw} {K : Exit → Env → Heap → Nat → Prop} {env : Env} {H : Heap} {n : Nat} {id : Nat} {l : List Oper} : (ev P N T (.region id l.toArray true) K env H n) = (drawK P l (K .normal) (T id).ord [] (maskE (T id).es env) H n) := Eq.trans rfl rfl
@[go_sem] theorem ev_loop {P : Program} {N : Nat} {T : Nat → Draw} {K : Exit → Env → Heap → Nat → Prop} {env : Env} {H : Heap} {n : Nat} {b : Code} : (ev P N T (.loop b) K env H n) = (awp P N (.loop b) K env H n) := Eq.trans rfl rfl
@[go_sem] theorem ev_scope {P : Program} {N : Nat} {T : Nat → Draw} {K : Exit → Env → Heap → Nat → Prop} {env : Env} {H : Heap} {n : Nat} {b : Code} : (ev P N T (.scope b) K env H n) = (awp P N (.scope b) K env H n) := Eq.trans rfl rfl
def condB (c : AV) (P : Program) (N : Nat) (T : Nat → Draw) (x y : Code) (K : Exit → Env → Heap → Nat → Prop) (env : Env) (H : Heap) (n : Nat) : Prop := match c with
  | .bo t => (t = true → ev P N T x K env H n) ∧ (t = false → ev P N T y K env H n)
  | _ => False
@[congr] theorem condB_congr  {P : Program} {N : Nat} {T : Nat → Draw} {x : Code} {y : Code} {K : Exit → Env → Heap → Nat → Prop} {env : Env} {H : Heap} {n : Nat} {c c' : AV} (h_c : c = c') : condB c P N T x y K env H n = condB c' P N T x y K env H n := by subst h_c; rfl
@[go_sem] theorem ev_cond {P : Program} {N : Nat} {T : Nat → Draw} {K : Exit → Env → Heap → Nat → Prop} {env : Env} {H : Heap} {n : Nat} {c : Operand} {x y : Code} : (ev P N T (.cond c x y) K env H n) = (condB (opv env c) P N T x y K env H n) := Eq.trans rfl rfl
@[go_sem] theorem condB_bo {P : Program} {N : Nat} {T : Nat → Draw} {K : Exit → Env → Heap → Nat → Prop} {env : Env} {H : Heap} {n : Nat} {t : Bool} {x y : Code} : (condB (.bo t) P N T x y K env H n) = ((t = true → ev P N T x K env H n) ∧ (t = false → ev P N T y K env H n)) := Eq.trans rfl rfl
@[go_sem high] theorem condB_true {P : Program} {N : Nat} {T : Nat → Draw} {K : Exit → Env → Heap → Nat → Prop} {env : Env} {H : Heap} {n : Nat} {x y : Code} : condB (.bo true) P N T x y K env H n = ev P N T x K env H n := by simp [condB]
@[go_sem high] theorem condB_false {P : Program} {N : Nat} {T : Nat → Draw} {K : Exit → Env → Heap → Nat → Prop} {env : Env} {H : Heap} {n : Nat} {x y : Code} : condB (.bo false) P N T x y K env H n = ev P N T y K env H n := by simp [condB]
@[go_sem] theorem seqK_normal {k : Env → Heap → Nat → Prop} {K : Exit → Env → Heap → Nat → Prop} {env : Env} {H : Heap} {n : Nat} : (seqK k K .normal env H n) = (k env H n) := Eq.trans rfl rfl
@[go_sem] theorem seqK_ret {k : Env → Heap → Nat → Prop} {K : Exit → Env → Heap → Nat → Prop} {env : Env} {H : Heap} {n : Nat} : (seqK k K .ret env H n) = (K .ret env H n) := Eq.trans rfl rfl
@[go_sem] theorem seqK_exit {k : Env → Heap → Nat → Prop} {K : Exit → Env → Heap → Nat → Prop} {env : Env} {H : Heap} {n : Nat} {i : Nat} : (seqK k K (.exit i) env H n) = (K (.exit i) env H n) := Eq.trans rfl rfl
@[go_sem] theorem blkK_normal {id : Nat} {K : Exit → Env → Heap → Nat → Prop} {env : Env} {H : Heap} {n : Nat} : (blkK id K .normal env H n) = (K .normal env H n) := Eq.trans rfl rfl
@[go_sem] theorem blkK_ret {id : Nat} {K : Exit → Env → Heap → Nat → Prop} {env : Env} {H : Heap} {n : Nat} : (blkK id K .ret env H n) = (K .ret env H n) := Eq.trans rfl rfl
@[go_sem] theorem blkK_same {id : Nat} {K : Exit → Env → Heap → Nat → Prop} {env : Env} {H : Heap} {n : Nat} : (blkK id K (.exit id) env H n) = (K .normal env H n) := by simp [blkK]
@[go_sem] theorem blkK_ne {id : Nat} {K : Exit → Env → Heap → Nat → Prop} {env : Env} {H : Heap} {n : Nat} {i : Nat} (h : (i == id) = false) : (blkK id K (.exit i) env H n) = (K (.exit i) env H n) := by simp [blkK, show ¬ i = id by simpa using h]
def packK (n0 : Nat) (H : Heap) (n : Nat) (K : AV → Heap → Nat → Prop) (vs : List AV) : Prop := Fin n0 (pack vs) H n K
def consK (k : List AV → Prop) (v : AV) (l : List AV) : Prop := k (v :: l)
def res1K (P : Program) (H : Heap) (env : Env) (rs : List ResultVar) (k : List AV → Prop) (v : AV) : Prop := resK P H env rs (consK k v)
@[congr] theorem packK_congr  {n0 : Nat} {H : Heap} {n : Nat} {K : AV → Heap → Nat → Prop} {vs vs' : List AV} (h_vs : vs = vs') : packK n0 H n K vs = packK n0 H n K vs' := by subst h_vs; rfl
@[congr] theorem consK_congr  {k : List AV → Prop} {v v' : AV} {l l' : List AV} (h_v : v = v') (h_l : l = l') : consK k v l = consK k v' l' := by subst h_v h_l; rfl
@[congr] theorem res1K_congr  {P : Program} {H : Heap} {env : Env} {rs : List ResultVar} {k : List AV → Prop} {v v' : AV} (h_v : v = v') : res1K P H env rs k v = res1K P H env rs k v' := by subst h_v; rfl
@[go_sem] theorem finK_normal {P : Program} {rs : List ResultVar} {n0 : Nat} {K : AV → Heap → Nat → Prop} {env : Env} {H : Heap} {n : Nat} : (finK P rs n0 K .normal env H n) = (resK P H env rs (packK n0 H n K)) := Eq.trans rfl rfl
@[go_sem] theorem finK_ret {P : Program} {rs : List ResultVar} {n0 : Nat} {K : AV → Heap → Nat → Prop} {env : Env} {H : Heap} {n : Nat} : (finK P rs n0 K .ret env H n) = (resK P H env rs (packK n0 H n K)) := Eq.trans rfl rfl
@[go_sem] theorem resK_nil {P : Program} {H : Heap} {env : Env} {k : List AV → Prop} : (resK P H env [] k) = (k []) := Eq.trans rfl rfl
def resT (v : AV) (P : Program) (H : Heap) (env : Env) (rs : List ResultVar) (k : List AV → Prop) : Prop := v ≠ .junk ∧ resK P H env rs (consK k v)
@[congr] theorem resT_congr  {P : Program} {H : Heap} {env : Env} {rs : List ResultVar} {k : List AV → Prop} {v v' : AV} (h_v : v = v') : resT v P H env rs k = resT v' P H env rs k := by subst h_v; rfl
@[go_sem] theorem resK_tmp {P : Program} {H : Heap} {env : Env} {r : List ResultVar} {k : List AV → Prop} {t : Tmp} : (resK P H env (.tmp t :: r) k) = (resT (env.get t) P H env r k) := Eq.trans rfl rfl
@[go_sem] theorem resT_eq {P : Program} {H : Heap} {env : Env} {r : List ResultVar} {k : List AV → Prop} {v : AV} : (resT v P H env r k) = (v ≠ .junk ∧ resK P H env r (consK k v)) := Eq.trans rfl rfl
@[go_sem] theorem resK_cell {P : Program} {H : Heap} {env : Env} {r : List ResultVar} {k : List AV → Prop} {a : Tmp} {t : TypeId} : (resK P H env (.cell a t :: r) k) = (loadK P H t (env.get a) (res1K P H env r k)) := Eq.trans rfl rfl
@[go_sem] theorem res1K_eq {P : Program} {H : Heap} {env : Env} {r : List ResultVar} {k : List AV → Prop} {v : AV} : (res1K P H env r k v) = (resK P H env r (consK k v)) := Eq.trans rfl rfl
@[go_sem] theorem consK_eq {k : List AV → Prop} {v : AV} {l : List AV} : (consK k v l) = (k (v :: l)) := Eq.trans rfl rfl
@[go_sem] theorem packK_nil {n0 : Nat} {H : Heap} {n : Nat} {K : AV → Heap → Nat → Prop} : (packK n0 H n K []) = (Fin n0 (.tu []) H n K) := Eq.trans rfl rfl
@[go_sem] theorem packK_one {n0 : Nat} {H : Heap} {n : Nat} {v : AV} {K : AV → Heap → Nat → Prop} : (packK n0 H n K [v]) = (Fin n0 v H n K) := Eq.trans rfl rfl
@[go_sem] theorem packK_two {n0 : Nat} {H : Heap} {n : Nat} {v v' : AV} {r : List AV} {K : AV → Heap → Nat → Prop} : (packK n0 H n K (v :: v' :: r)) = (Fin n0 (.tu (v :: v' :: r)) H n K) := Eq.trans rfl rfl

attribute [go_sem] List.contains_cons List.contains_nil Bool.or_false Bool.false_or Bool.true_or Bool.or_true Bool.false_eq_true false_implies true_implies Bool.not_true Bool.not_false decide_eq_true_eq decide_eq_false_iff_not Bool.or_self Bool.and_self Bool.and_true Bool.true_and Bool.and_false Bool.false_and
attribute [go_sem] envFrom List.getElem?_cons_zero List.getElem?_cons_succ Option.bind_some Option.bind_none List.length_cons List.length_nil List.getD_cons_zero List.getD_cons_succ
  List.set_cons_zero List.set_cons_succ if_true if_false beq_self_eq_true true_and and_true List.map_cons List.map_nil List.append_nil List.cons_append List.nil_append forall_const
  Nat.reduceAdd Nat.reduceBEq Nat.reduceLT Nat.reduceSub Nat.reduceMul Nat.add_assoc Nat.reduceLeDiff Int.reduceToNat Int.toNat_natCast List.drop_zero List.take_succ_cons List.take_zero List.drop_succ_cons Nat.le_refl Int.reduceLE Int.reduceLT and_self BitVec.reduceOfInt ne_eq reduceCtorEq not_false_eq_true not_true_eq_false
  List.take_nil List.drop_nil

@[go_sem] theorem splice_zero_nil (l : List AV) : splice l 0 [] = l := by simp [splice]
@[go_sem] theorem splice_zero_cons (b : AV) (l : List AV) (a : AV) (r : List AV) : splice (b :: l) 0 (a :: r) = a :: splice l 0 r := by simp [splice]
@[go_sem] theorem splice_succ_cons (b : AV) (l : List AV) (k : Nat) (r : List AV) : splice (b :: l) (k + 1) r = b :: splice l k r := by
  simp only [splice, List.take_succ_cons, List.cons_append, List.cons.injEq, true_and]
  rw [Nat.add_right_comm, List.drop_succ_cons]
theorem Blk.le.refl (b : Blk) : b.le b := ⟨rfl, rfl, List.prefix_refl _⟩
/-- The end of a call that leaves all old memory as it was, and hands on nothing new. -/
theorem Fin.back {n0 : Nat} {v : AV} {H H0 : Heap} {n : Nat} {K : AV → Heap → Nat → Prop} (wf : H0.wf n0) (h : K v H0 n0) (hd : ∀ i, i < n0 → H i = H0 i) (hv : v.ok n0 = true) : Fin n0 v H n K :=
  Fin.drop h (fun i b hb => ⟨b, by rw [hd i (wf i b hb).1]; exact hb, Blk.le.refl b⟩) wf hv
end Go.Ab
