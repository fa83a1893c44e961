import Derived.Test.YtglkkfobkncbbaaJoyAbDraw
namespace Go.Ab

def nilH : Heap := fun _ => none
theorem nilH_rel (m : NM) (n : Nat) (w : World) : HRel m nilH n w := ⟨fun _ _ h => by simp [nilH] at h, fun _ _ h => by simp [nilH] at h, fun _ _ _ _ h => by simp [nilH] at h, fun _ _ h => by simp [nilH] at h⟩

/-- Operations that leave memory alone, and do not ask it. -/
def lightOp : Op → Bool
  | .move _ | .assign _ | .pick _ _ _ | .nilCheck _ | .binOp _ _ _ _ _ | .unOp _ _ _ | .convert _ _ _ | .makeInterface _ _ | .makeFunc _ _ _ | .slice _ _ _ _ _ | .fieldAddr _ _ _ | .field _ _ _
  | .indexAddr _ _ _ | .index _ _ _ | .extract _ _ | .build _ _ => true
  | .call ⟨.builtin .len, _, _⟩ | .call ⟨.builtin .cap, _, _⟩ | .call ⟨.builtin .max, _, _⟩ | .call ⟨.builtin .min, _, _⟩ => true
  | _ => false
def isLoad : Op → Bool
  | .load _ _ => true
  | _ => false

theorem light_sound {P : Program} {env : Env} {n : Nat} {o : Oper} (hc : lightOp o.op = true) {K : AV → Prop} (h : evOp P env nilH n o.op (fun v _ _ => K v)) : ∃ v, K v ∧ PureOk P env o v := by
  have pure : pureK P env o.op (atK (fun v _ _ => K v) nilH n) → ∃ v, K v ∧ PureOk P env o v := fun h => pure_sound h
  cases ho : o.op <;> rw [ho] at h hc pure <;> simp only [lightOp, Bool.false_eq_true] at hc <;> simp only [evOp] at h <;> try exact pure h
  case build t parts => exact build_sound ho h
  case convert s d x =>
    split at h
    · rename_i hc
      obtain ⟨v, hv, hr⟩ := b2s_sound (K := K) ho hc h
      exact ⟨v, hv, pureOk_of fun m N n a ha => ⟨fun w => (hr m N n a w (nilH_rel m n w) ha).1, (hr m N n a (default : World) (nilH_rel m n _) ha).2⟩⟩
    · exact pure h
  case slice t x lo hi mx =>
    split at h
    · exfalso
      obtain ⟨_, h⟩ := h
      unfold sliceSu at h
      split at h
      · rename_i hb _ _; simp [nilH] at hb
      · exact h
    · exact pure h
  case call c =>
    obtain ⟨callee, args, ts⟩ := c
    cases callee <;> first | (simp only [lightOp, Bool.false_eq_true] at hc; done) | skip
    rename_i b
    simp only [evCall] at h
    split at h <;> try exact h.elim
    all_goals rename_i hargs hts
    · rw [array_one hargs, array_one hts] at ho; exact len_sound ho h
    · rw [array_one hargs, array_one hts] at ho; exact cap_sound ho h
    · rw [array_two hts] at ho; exact max_sound ho h
    · rw [array_two hts] at ho; exact min_sound ho h
    · simp only [lightOp, Bool.false_eq_true] at hc
    · simp only [lightOp, Bool.false_eq_true] at hc

/-! What may be made ahead of its turn: a new block whose cells are known. -/
def earlyT (P : Program) : Op → Option (List AV × TypeId × (Nat → AV))
  | .alloc t => match zeroT P t with
    | some z => some (z, t, fun n => .pt n 0)
    | none => none
  | .makeSlice t (.const (.int .i64 ln)) (.const (.int .i64 cp)) => match elT P t with
    | some (e, sz, by_) => match zeroT P e with
      | some z => if z.length = sz ∧ 0 ≤ ln ∧ ln ≤ cp ∧ by_ * cp ≤ 281474976710656 ∧ cp ≤ 9223372036854775807 then some (repCells cp.toNat z, e, fun n => .sl n 0 ln.toNat cp.toNat) else none
      | none => none
    | none => none
  | _ => none

theorem repCells_mem {k : Nat} {z : List AV} {v : AV} (h : v ∈ repCells k z) : v ∈ z := by
  simp only [repCells] at h
  simp only [List.mem_flatten, List.mem_replicate] at h
  obtain ⟨l, ⟨_, rfl⟩, hv⟩ := h
  exact hv

theorem early_val {P : Program} {op : Op} {z : List AV} {t : TypeId} {f : Nat → AV} (h : earlyT P op = some (z, t, f)) :
    (∀ (m m' : NM) (i j : Nat), m.ρ i = m'.ρ j → AV.toV m (f i) = AV.toV m' (f j)) ∧ (∀ n, (f n).ok (n + 1) = true) ∧ (∀ n, f n ≠ .junk) ∧ ∀ v ∈ z, (∀ n, v.ok n = true) ∧ v.one = true := by
  unfold earlyT at h
  split at h
  · split at h <;> simp only [Option.some.injEq, Prod.mk.injEq, reduceCtorEq] at h
    rename_i z' hz
    obtain ⟨rfl, rfl, rfl⟩ := h
    obtain ⟨zv, hzr, hzm, hzok⟩ := zeroT_spec hz
    exact ⟨fun m m' i j e => by simp [AV.toV, e], fun n => by simp [AV.ok], fun n => by simp, hzok⟩
  · split at h
    · split at h
      · split at h <;> simp only [Option.some.injEq, Prod.mk.injEq, reduceCtorEq] at h
        rename_i z' hz _
        obtain ⟨rfl, rfl, rfl⟩ := h
        obtain ⟨zv, hzr, hzm, hzok⟩ := zeroT_spec hz
        exact ⟨fun m m' i j e => by simp [AV.toV, e], fun n => by simp [AV.ok], fun n => by simp, fun v hv => hzok v (repCells_mem hv)⟩
      · simp at h
    · simp at h
  · simp at h

theorem early_run {P : Program} {o : Oper} {z : List AV} {t : TypeId} {f : Nat → AV} (h : earlyT P o.op = some (z, t, f)) {m : NM} {N n : Nat} {H : Heap} {env : Env} {a : Act} {w : World} (hH : HRel m H n w) (hE : ERel m N n env a) :
    OpRes m H n w (f n) (H.upd n (some ⟨z, t, false⟩)) (n + 1) ((execOp a.eval o).run P w) := by
  unfold earlyT at h
  split at h
  · rename_i t' ho
    split at h <;> simp only [Option.some.injEq, Prod.mk.injEq, reduceCtorEq] at h
    rename_i z' hz
    obtain ⟨rfl, rfl, rfl⟩ := h
    exact alloc_sound ho hz m n a w hH
  · rename_i t' ln cp ho
    split at h
    · rename_i e sz by_ hel
      split at h
      · rename_i z' hz
        split at h <;> simp only [Option.some.injEq, Prod.mk.injEq, reduceCtorEq] at h
        rename_i hc
        obtain ⟨h0, h1, h2, h3, h4⟩ := hc
        obtain ⟨rfl, rfl, rfl⟩ := h
        exact makeSlice_sound (env := env) ho hel hz h0 rfl rfl h1 h2 h3 h4 m N n a w hH hE
      · simp at h
    · simp at h
  · simp at h

theorem early_ev {P : Program} {op : Op} {z : List AV} {t : TypeId} {f : Nat → AV} (h : earlyT P op = some (z, t, f)) {n : Nat} {H : Heap} {env : Env} {K : AV → Heap → Nat → Prop} (he : evOp P env H n op K) :
    K (f n) (H.upd n (some ⟨z, t, false⟩)) (n + 1) := by
  unfold earlyT at h
  split at h
  · split at h <;> simp only [Option.some.injEq, Prod.mk.injEq, reduceCtorEq] at h
    rename_i z' hz
    obtain ⟨rfl, rfl, rfl⟩ := h
    simp only [evOp, hz] at he
    exact he
  · split at h
    · rename_i e sz by_ hel
      split at h
      · rename_i z' hz
        split at h <;> simp only [Option.some.injEq, Prod.mk.injEq, reduceCtorEq] at h
        obtain ⟨rfl, rfl, rfl⟩ := h
        simp only [evOp, hel, hz, opv, ofV] at he
        exact he.2.2.2.2.2
      · simp at h
    · simp at h
  · simp at h

/-! ### The region, evaluated in one order -/
abbrev RD := List (Nat × TypeId × AV × AV)
def litK (k : Env → Heap → Nat → Prop) (dst : Option Tmp) (env : Env) (H : Heap) (n : Nat) (v : AV) (_ : Heap) (_ : Nat) : Prop := k (putE dst v env) H n
def chk (P : Program) (H : Heap) (ws : List Nat) : RD → Prop
  | [] => True
  | (i, t, a, v) :: r => (ws.contains i = true → loadK P H t a (· = v)) ∧ chk P H ws r
def stopK (P : Program) (ws : List Nat) (rd : RD) (k : RD → Env → Heap → Nat → Prop) (dst : Option Tmp) (env : Env) (v : AV) (H : Heap) (n : Nat) : Prop := chk P H ws rd ∧ k rd (putE dst v env) H n
def ldK (k : RD → Env → Heap → Nat → Prop) (i : Nat) (t : TypeId) (a : AV) (rd : RD) (dst : Option Tmp) (env : Env) (H : Heap) (n : Nat) (v : AV) : Prop := k ((i, t, a, v) :: rd) (putE dst v env) H n

def drawOp (P : Program) (o : Oper) (i : Nat) (ws : List Nat) (k : RD → Env → Heap → Nat → Prop) (rd : RD) (env : Env) (H : Heap) (n : Nat) : Prop :=
  match o.op with
  | .load t a => loadK P H t (opv env a) (ldK k i t (opv env a) rd o.dst env H n)
  | op => if lightOp op then evOp P env nilH n op (litK (k rd) o.dst env H n) else evOp P env H n op (stopK P ws rd k o.dst env)

def drawK (P : Program) (all : List Oper) (k : Env → Heap → Nat → Prop) : List (Nat × List Nat) → RD → Env → Heap → Nat → Prop
  | [], _, env, H, n => k env H n
  | (i, ws) :: r, rd, env, H, n => match all[i]? with
    | none => False
    | some o => match o.guard with
      | none => drawOp P o i ws (drawK P all k r) rd env H n
      | some (j, want) => match (all[j]?).bind (·.dst) with
        | none => False
        | some t => match env.get t with
          | .bo c => (c = want → drawOp P o i ws (drawK P all k r) rd ((t, .bo want) :: env) H n) ∧ (c = (!want) → drawK P all k r rd (putE o.dst (.tu []) ((t, .bo (!want)) :: env)) H n)
          | .tu [] => drawK P all k r rd (putE o.dst (.tu []) env) H n
          | _ => False

/-- How a region is looked at: whom each waits for; an order, with the loads that each is to leave alone; what may be made ahead of its turn. -/
structure Draw where
  anc : List Nat := []
  ord : List (Nat × List Nat) := []
  es : List (Nat × Nat) := []

def Draw.before (D : Draw) (x j : Nat) : Bool := (D.anc.getD j 0).testBit x
def edgesOf (o : Oper) : List Nat := (o.after.toList.filter fun e => Region.binds .any e).map (·.on)
def maskOf (A : List Nat) (l : List Nat) : Nat := l.foldl (fun acc e => acc ||| (1 <<< e ||| A.getD e 0)) 0

def pairOk (l : List Oper) (D : Draw) (p q : Nat × List Nat) : Bool :=
  p.1 != q.1 && !D.before q.1 p.1 &&
  match l[p.1]?, l[q.1]? with
  | some oi, some oj =>
    (D.before p.1 q.1 || oi.apart l.toArray oj) &&
    (lightOp oi.op || isLoad oi.op || D.before p.1 q.1 || D.es.any (·.1 == q.1)) &&
    (!isLoad oi.op || lightOp oj.op || isLoad oj.op || D.before p.1 q.1 || q.2.contains p.1)
  | _, _ => false
def pairsOk (l : List Oper) (D : Draw) : List (Nat × List Nat) → Bool
  | [] => true
  | p :: r => r.all (pairOk l D p) && pairsOk l D r
def ancsOk (l : List Oper) (D : Draw) : Bool := (List.range l.length).all fun i => match l[i]? with
  | some o => D.anc.getD i 0 == maskOf D.anc (edgesOf o) && (edgesOf o).all (fun e => decide (e < l.length)) && !D.before i i
  | none => false
def earlyOk (P : Program) (l : List Oper) (D : Draw) : Bool := D.es.all fun p => (match l[p.1]? with
  | some o => o.dst == some p.2 && o.guard.isNone && (earlyT P o.op).isSome
  | none => false) && (List.range l.length).all fun i => i == p.1 || match l[i]? with
    | some o => o.dst != some p.2
    | none => false
def drawOk (P : Program) (N : Nat) (l : List Oper) (D : Draw) : Bool :=
  dstsOk N l && Region.noSelect l.toArray && ancsOk l D && pairsOk l D D.ord && earlyOk P l D &&
  (List.range l.length).all (fun i => D.ord.any (·.1 == i)) && D.ord.all (fun p => decide (p.1 < l.length))

theorem testBit_maskOf (A l : List Nat) (x : Nat) : (maskOf A l).testBit x = l.any fun e => e == x || (A.getD e 0).testBit x := by
  have key : ∀ (l : List Nat) (acc : Nat), (l.foldl (fun acc e => acc ||| (1 <<< e ||| A.getD e 0)) acc).testBit x = (acc.testBit x || l.any fun e => e == x || (A.getD e 0).testBit x) := by
    intro l
    induction l with
    | nil => intro acc; simp
    | cons e r ih =>
      intro acc
      simp only [List.foldl_cons, List.any_cons]
      rw [ih, Nat.testBit_or, Nat.testBit_or, Nat.one_shiftLeft, Nat.testBit_two_pow]
      have : decide (e = x) = (e == x) := rfl
      rw [this]
      simp only [Bool.or_assoc]
  rw [maskOf, key]
  simp only [Nat.zero_testBit, Bool.false_or]

structure DrawSpec (P : Program) (N : Nat) (l : List Oper) (D : Draw) : Prop where
  mem : ∀ x, x < l.length → ∃ p ∈ D.ord, p.1 = x
  lt : ∀ p ∈ D.ord, p.1 < l.length
  pairs : D.ord.Pairwise (fun p q => pairOk l D p q = true)
  edges : ∀ (i : Nat) (o : Oper), l[i]? = some o → ∀ e ∈ o.after, Region.binds .any e = true → D.before e.on i = true ∧ e.on < l.length
  self : ∀ i, i < l.length → D.before i i = false
  anc : AncOk .any l.toArray D.before
  dsts : ∀ (i : Nat) (o : Oper), l[i]? = some o → ∀ d, o.dst = some d → d < N
  nosel : Region.noSelect l.toArray = true
  es : ∀ p ∈ D.es, ∃ o : Oper, l[p.1]? = some o ∧ o.dst = some p.2 ∧ o.guard = none ∧ (∃ q, earlyT P o.op = some q) ∧ ∀ (i : Nat) (oi : Oper), l[i]? = some oi → i ≠ p.1 → oi.dst ≠ some p.2

theorem pairsOk_spec {l : List Oper} {D : Draw} : ∀ {r : List (Nat × List Nat)}, pairsOk l D r = true → r.Pairwise (fun p q => pairOk l D p q = true)
  | [], _ => .nil
  | p :: r, h => by
    simp only [pairsOk, Bool.and_eq_true, List.all_eq_true] at h
    exact .cons h.1 (pairsOk_spec h.2)

theorem drawOk_spec {P : Program} {N : Nat} {l : List Oper} {D : Draw} (h : drawOk P N l D = true) : DrawSpec P N l D := by
  simp only [drawOk, Bool.and_eq_true] at h
  obtain ⟨⟨⟨⟨⟨⟨h1, h2⟩, h3⟩, h4⟩, h5⟩, h6⟩, h7⟩ := h
  have hanc : ∀ i o, l[i]? = some o → D.anc.getD i 0 = maskOf D.anc (edgesOf o) ∧ (∀ e ∈ edgesOf o, e < l.length) ∧ D.before i i = false := fun i o ho => by
    simp only [ancsOk, List.all_eq_true, List.mem_range] at h3
    have := h3 i (List.getElem?_eq_some_iff.1 ho).1
    rw [ho] at this
    simp only [Bool.and_eq_true, beq_iff_eq, List.all_eq_true, decide_eq_true_eq, Bool.not_eq_true'] at this
    exact ⟨this.1.1, this.1.2, this.2⟩
  have hmem : ∀ (o : Oper) (e : Edge), e ∈ o.after → Region.binds .any e = true → e.on ∈ edgesOf o := fun o e he hb => by
    simp only [edgesOf, List.mem_map, List.mem_filter]
    exact ⟨e, ⟨by simpa using he, hb⟩, rfl⟩
  refine ⟨fun x hx => ?_, fun p hp => ?_, pairsOk_spec h4, fun i o ho e he hb => ?_, fun i hi => ?_, fun j x o ho hx => ?_, fun i o ho d hd => ?_, h2, fun p hp => ?_⟩
  · simp only [List.all_eq_true, List.mem_range, List.any_eq_true, beq_iff_eq] at h6
    exact h6 x hx
  · simp only [List.all_eq_true, decide_eq_true_eq] at h7
    exact h7 p hp
  · obtain ⟨a1, a2, _⟩ := hanc i o ho
    refine ⟨?_, a2 _ (hmem o e he hb)⟩
    simp only [Draw.before, a1, testBit_maskOf, List.any_eq_true]
    exact ⟨e.on, hmem o e he hb, by simp⟩
  · exact (hanc i _ (List.getElem?_eq_getElem hi)).2.2
  · rw [List.getElem?_toArray] at ho
    obtain ⟨a1, _, _⟩ := hanc j o ho
    simp only [Draw.before, a1, testBit_maskOf, List.any_eq_true] at hx
    obtain ⟨e, he, hx⟩ := hx
    simp only [edgesOf, List.mem_map, List.mem_filter] at he
    obtain ⟨e', ⟨he', hb⟩, rfl⟩ := he
    refine ⟨e', by simpa using he', hb, ?_⟩
    simp only [Bool.or_eq_true, beq_iff_eq] at hx
    exact hx.imp Eq.symm id
  · have := List.all_eq_true.1 h1 o (List.mem_of_getElem? ho)
    rw [hd] at this
    simpa using this
  · have := List.all_eq_true.1 h5 p hp
    simp only [Bool.and_eq_true] at this
    obtain ⟨t1, t2⟩ := this
    cases ho : l[p.1]? with
    | none => rw [ho] at t1; simp at t1
    | some o =>
      rw [ho] at t1
      simp only [Bool.and_eq_true, beq_iff_eq, Option.isNone_iff_eq_none, Option.isSome_iff_exists] at t1
      refine ⟨o, rfl, t1.1.1, t1.1.2, t1.2, fun i oi hi hne => ?_⟩
      have := List.all_eq_true.1 t2 i (List.mem_range.2 (List.getElem?_eq_some_iff.1 hi).1)
      rw [hi] at this
      simpa [hne] using this
end Go.Ab
