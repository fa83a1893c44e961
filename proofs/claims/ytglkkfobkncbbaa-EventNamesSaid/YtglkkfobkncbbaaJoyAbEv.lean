import Derived.Test.YtglkkfobkncbbaaJoyAbApp2
namespace Go.Ab

/-- A continuation, at memory that stays. -/
def atK (K : AV → Heap → Nat → Prop) (H : Heap) (n : Nat) (v : AV) : Prop := K v H n
def atHK (K : AV → Heap → Nat → Prop) (n : Nat) (H : Heap) : Prop := K .junk H n
def atVHK (K : AV → Heap → Nat → Prop) (n : Nat) (v : AV) (H : Heap) : Prop := K v H n
def atStK (K : AV → Heap → Nat → Prop) (H : Heap) (n : Nat) (_ : Nat) (cells : List AV) : Prop := cells.all isU8 = true ∧ K (.st (strOf cells)) H n
def atRowK (K : AV → Heap → Nat → Prop) (H : Heap) (n len : Nat) (e : TypeId) (l : List AV) : Prop := K (.sl n 0 len len) (H.upd n (some ⟨l, e, false⟩)) (n + 1)

/-- What a call comes to: a function of Go's text is entered; another one answers at once. -/
def CallRes (P : Program) (r : Result Next) (R : Value → World → Prop) : Prop :=
  match r with
  | .ok (.enter f args) w => Calls P f args w fun e w' => ∃ x, e = .returned x ∧ R x w'
  | .ok (.value x) w => R x w
  | _ => False

/-- A CONTRACT: of whatever memory in which the named blocks lie: the call returns a value, leaves the named blocks so, and nothing else has turned. -/
def ACalls (P : Program) (f : FuncId) (args : List AV) (H : Heap) (n : Nat) (K : AV → Heap → Nat → Prop) : Prop :=
  (∀ v ∈ args, v ≠ .junk) ∧ ∀ (m : NM) (w : World), HRel m H n w → (∀ v ∈ args, v.ok n = true) →
    CallRes P ((callFunc f (args.map (AV.toV m)).toArray).run P w) fun x w' =>
      ∃ (m' : NM) (v : AV) (H' : Heap) (n' : Nat), (v ≠ .junk → x = AV.toV m' v ∧ v.ok n' = true) ∧ HRel m' H' n' w' ∧ n ≤ n' ∧ NM.agree n m m' ∧ Fr m H w m' H' w' ∧ K v H' n'

theorem CallRes.mono {P : Program} {r : Result Next} {R R' : Value → World → Prop} (h : CallRes P r R) (hr : ∀ x w, R x w → R' x w) : CallRes P r R' := by
  unfold CallRes at *
  split at h <;> first | exact h.mono (fun e w' ⟨x, he, hx⟩ => ⟨x, he, hr _ _ hx⟩) | exact hr _ _ h | exact h.elim

theorem ACalls.mono {P : Program} {f : FuncId} {args : List AV} {H : Heap} {n : Nat} {K K' : AV → Heap → Nat → Prop} (h : ACalls P f args H n K) (hk : ∀ v H n, K v H n → K' v H n) : ACalls P f args H n K' :=
  ⟨h.1, fun m w hH ha => (h.2 m w hH ha).mono fun _ _ ⟨m', v, H', n', h1, h2, h3, h4, h5, h6⟩ => ⟨m', v, H', n', h1, h2, h3, h4, h5, hk _ _ _ h6⟩⟩

/-- Which function a method's name means for a type. -/
def mthT (P : Program) (t : TypeId) (name : String) : Option FuncId :=
  match P.info? t with
  | some i => match i.methods.find? (·.name == name) with
    | some m => if m.path.isEmpty then (match m.func, P.underlying t with
      | some (f, true), some (.pointer _) => some f
      | some (_, false), some (.pointer _) => none
      | some (f, false), some _ => some f
      | _, _ => none) else none
    | none => none
  | none => none

def evCall (P : Program) (env : Env) (H : Heap) (n : Nat) (c : Call) (K : AV → Heap → Nat → Prop) : Prop :=
  match c.callee with
  | .value f => match opv env f with
    | .fn k caps => ACalls P k (c.args.toList.map (opv env) ++ caps) H n K
    | _ => False
  | .invoke r name => match opv env r with
    | .ifc t v => match mthT P t name with
      | some k => ACalls P k (v :: c.args.toList.map (opv env)) H n K
      | none => False
    | _ => False
  | .builtin b => match b, c.args.toList, c.argTypes.toList with
    | .len, [x], [t] => lenK P t (opv env x) (atK K H n)
    | .cap, [x], [t] => capK P t (opv env x) (atK K H n)
    | .max, [x, y], _ => mmK max (opv env x) (opv env y) (atK K H n)
    | .min, [x, y], _ => mmK min (opv env x) (opv env y) (atK K H n)
    | .copy, [x, y], [t, _] => copyK P H t (opv env x) (opv env y) (atVHK K n)
    | .append, [x, y], [t, t'] => appendK P H n t t' (opv env x) (opv env y) K
    | _, _, _ => False

/-- ONE OPERATION. -/
def evOp (P : Program) (env : Env) (H : Heap) (n : Nat) : Op → (AV → Heap → Nat → Prop) → Prop
  | .load t a, K => loadK P H t (opv env a) (atK K H n)
  | .store t a x, K => storeK P H t (opv env a) (opv env x) (atHK K n)
  | .alloc t, K => match zeroT P t with
    | some z => K (.pt n 0) (H.upd n (some ⟨z, t, false⟩)) (n + 1)
    | none => False
  | .box t x, K => partOk (opv env x) = true ∧ K (.pt n 0) (H.upd n (some ⟨cellsOf (opv env x), t, false⟩)) (n + 1)
  | .build t parts, K => buildK P t (parts.toList.map fun p => (p.1, opv env p.2)) (atK K H n)
  | .buildSlice t len parts, K => match elT P t with
    | some (e, sz, _) => match zeroT P e with
      | some z => z.length = sz ∧ len * sz ≤ 16777216 ∧ fillK (elPl sz) (atRowK K H n len e) (parts.toList.map fun p => (p.1, opv env p.2)) (repCells len z)
      | none => False
    | none => False
  | .makeSlice t l c, K => match elT P t, opv env l, opv env c with
    | some (e, sz, by_), .i64 ln, .i64 cp => match zeroT P e with
      | some z => z.length = sz ∧ 0 ≤ ln ∧ ln ≤ cp ∧ by_ * cp ≤ 281474976710656 ∧ cp ≤ 9223372036854775807 ∧ K (.sl n 0 ln.toNat cp.toNat) (H.upd n (some ⟨repCells cp.toNat z, e, false⟩)) (n + 1)
      | none => False
    | _, _, _ => False
  | .convert s d x, K => match convT P s d with
    | some .b2s => readK H 1 (opv env x) (atStK K H n)
    | _ => pureK P env (.convert s d x) (atK K H n)
  | .slice t x lo hi mx, K => match opv env x with
    | .su b o l e => mx = none ∧ sliceSu P H t b o l e (bnd env 0 lo) (bnd env l hi) (atK K H n)
    | _ => pureK P env (.slice t x lo hi mx) (atK K H n)
  | .call c, K => evCall P env H n c K
  | op, K => pureK P env op (atK K H n)

theorem pure_res {P : Program} {env : Env} {H : Heap} {n : Nat} {o : Oper} {K : AV → Heap → Nat → Prop} (h : pureK P env o.op (atK K H n)) (m : NM) (N : Nat) (a : Act) (w : World) (hH : HRel m H n w) (hE : ERel m N n env a) :
    ∃ v H' n', K v H' n' ∧ OpRes m H n w v H' n' ((execOp a.eval o).run P w) := by
  obtain ⟨v, hv, hp⟩ := pure_sound h
  obtain ⟨x, hx, hxv⟩ := hp m N n a hE
  exact ⟨v, H, n, hv, by rw [hx]; exact OpRes.same hH hxv⟩
theorem pureOk_res {P : Program} {env : Env} {H : Heap} {n : Nat} {o : Oper} {K : AV → Heap → Nat → Prop} (h : ∃ v, atK K H n v ∧ PureOk P env o v) (m : NM) (N : Nat) (a : Act) (w : World) (hH : HRel m H n w) (hE : ERel m N n env a) :
    ∃ v H' n', K v H' n' ∧ OpRes m H n w v H' n' ((execOp a.eval o).run P w) := by
  obtain ⟨v, hv, hp⟩ := h
  obtain ⟨x, hx, hxv⟩ := hp m N n a hE
  exact ⟨v, H, n, hv, by rw [hx]; exact OpRes.same hH hxv⟩

def isGoCall : Op → Bool
  | .call ⟨.builtin _, _, _⟩ => false
  | .call _ => true
  | _ => false

theorem array_one {α : Type} {a : Array α} {x : α} (h : a.toList = [x]) : a = #[x] := by rw [← Array.toList_inj, h]
theorem array_two {α : Type} {a : Array α} {x y : α} (h : a.toList = [x, y]) : a = #[x, y] := by rw [← Array.toList_inj, h]

theorem op_res {P : Program} {env : Env} {H : Heap} {n : Nat} {o : Oper} {K : AV → Heap → Nat → Prop} (h : evOp P env H n o.op K) (hg : isGoCall o.op = false) (m : NM) (N : Nat) (a : Act) (w : World) (hH : HRel m H n w) (hE : ERel m N n env a) :
    ∃ v H' n', K v H' n' ∧ OpRes m H n w v H' n' ((execOp a.eval o).run P w) := by
  cases ho : o.op <;> rw [ho] at h hg <;> simp only [evOp] at h <;> try exact pure_res (by rw [ho]; exact h) m N a w hH hE
  case load t x =>
    obtain ⟨v, hv, hr⟩ := load_sound ho h
    obtain ⟨h1, h2⟩ := hr m N n a w hH hE
    exact ⟨v, H, n, hv, by rw [h1]; exact OpRes.same hH fun _ => ⟨rfl, h2⟩⟩
  case store t x y =>
    obtain ⟨H', hK, hr⟩ := store_sound ho h
    exact ⟨.junk, H', n, hK, hr m N n a w hH hE⟩
  case alloc t =>
    split at h <;> try exact h.elim
    rename_i z hz
    exact ⟨_, _, _, h, alloc_sound ho hz m n a w hH⟩
  case box t x => exact ⟨_, _, _, h.2, box_sound ho h.1 m N n a w hH hE⟩
  case build t parts => exact pureOk_res (build_sound ho h) m N a w hH hE
  case buildSlice t len parts =>
    split at h <;> try exact h.elim
    rename_i e sz by_ hel
    split at h <;> try exact h.elim
    rename_i z hz
    obtain ⟨hzl, hsm, hf⟩ := h
    obtain ⟨l', hK, hd⟩ := fillK_det _ _ hf
    exact ⟨_, _, _, hK, buildSlice_sound ho hel hz hzl hsm hd m N n a w hH hE⟩
  case makeSlice t l c =>
    split at h <;> try exact h.elim
    rename_i e sz by_ ln cp hel hl hc
    split at h <;> try exact h.elim
    rename_i z hz
    obtain ⟨hzl, h0, h1, h2, h3, hK⟩ := h
    exact ⟨_, _, _, hK, makeSlice_sound ho hel hz hzl hl hc h0 h1 h2 h3 m N n a w hH hE⟩
  case convert s d x =>
    split at h
    · rename_i hc
      obtain ⟨v, hv, hr⟩ := b2s_sound (K := atK K H n) ho hc h
      obtain ⟨h1, h2⟩ := hr m N n a w hH hE
      exact ⟨v, H, n, hv, by rw [h1]; exact OpRes.same hH fun _ => ⟨rfl, h2⟩⟩
    · exact pure_res (by rw [ho]; exact h) m N a w hH hE
  case slice t x lo hi mx =>
    split at h
    · rename_i b off l e hx
      obtain ⟨rfl, h⟩ := h
      obtain ⟨v, hv, h1, h2⟩ := sliceSu_sound ho hx h m N n a w hH hE
      exact ⟨v, H, n, hv, by rw [h1]; exact OpRes.same hH fun _ => ⟨rfl, h2⟩⟩
    · exact pure_res (by rw [ho]; exact h) m N a w hH hE
  case call c =>
    obtain ⟨callee, args, ts⟩ := c
    cases callee <;> first | (simp [isGoCall] at hg; done) | skip
    rename_i b
    simp only [evCall] at h
    split at h <;> try exact h.elim
    all_goals rename_i hargs hts
    · rw [array_one hargs, array_one hts] at ho; exact pureOk_res (len_sound ho h) m N a w hH hE
    · rw [array_one hargs, array_one hts] at ho; exact pureOk_res (cap_sound ho h) m N a w hH hE
    · rw [array_two hts] at ho; exact pureOk_res (max_sound ho h) m N a w hH hE
    · rw [array_two hts] at ho; exact pureOk_res (min_sound ho h) m N a w hH hE
    · rw [array_two hargs, array_two hts] at ho
      obtain ⟨v, H', hK, hr⟩ := copy_sound ho h
      exact ⟨v, H', n, hK, hr m N n a w hH hE⟩
    · rw [array_two hargs, array_two hts] at ho
      exact append_sound ho h m N a w hH hE

end Go.Ab
