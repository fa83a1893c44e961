import Derived.Test.YtglkkfobkncbbaaJoyAbEv
namespace Go.Ab

theorem run_callFunc {P : Program} {f : FuncId} {fn : Func} (hf : P.funcs[f]? = some fn) (hn : (fn.name == "runtime.NumGoroutine") = false) (hb : fn.body.isNone = false) (args : Array Value) (w : World) :
    (callFunc f args).run P w = .ok (.enter f args) w := by
  simp only [callFunc, program, bind, Sem.bind, Sem.run, hf, hn, hb, Bool.false_eq_true, if_false, pure]

theorem upon_of_callRes {P : Program} {o : Oper} {a : Act} {next : Act → World → Prop} {Q : Exit → Act → World → Prop} {r : Result Next} {R : Value → World → Prop} (h : CallRes P r R)
    (hn : ∀ x w, R x w → next (a.put o.dst x) w) : o.upon P a next Q r := by
  unfold CallRes at h
  split at h <;> try exact h.elim
  · simp only [Oper.upon]
    exact h.mono fun e w' ⟨x, he, hx⟩ => by subst he; exact hn _ _ hx
  · exact hn _ _ h

/-- The slots behind an operation. -/
def putE (dst : Option Tmp) (v : AV) (env : Env) : Env := match dst with
  | some d => (d, v) :: env
  | none => env

theorem ERel.putE {m : NM} {N n : Nat} {env : Env} {a : Act} (h : ERel m N n env a) {dst : Option Tmp} (hd : ∀ d, dst = some d → d < N) {v : AV} {x : Value} (hv : v ≠ .junk → x = AV.toV m v ∧ v.ok n = true) :
    ERel m N n (putE dst v env) (a.put dst x) := by
  cases dst with
  | none => exact h
  | some d => exact h.put (hd d rfl) hv

/-- What holds of a run, from a function's entry on. -/
structure Inv (m0 : NM) (H0 : Heap) (n0 : Nat) (w0 : World) (m : NM) (H : Heap) (n : Nat) (w : World) : Prop where
  rel : HRel m H n w
  le : n0 ≤ n
  ag : NM.agree n0 m0 m
  fr : Fr m0 H0 w0 m H w

theorem Inv.step {m0 m m' : NM} {H0 H H' : Heap} {n0 n n' : Nat} {w0 w w' : World} (h : Inv m0 H0 n0 w0 m H n w) (hr : HRel m' H' n' w') (hle : n ≤ n') (hag : NM.agree n m m') (hf : Fr m H w m' H' w') :
    Inv m0 H0 n0 w0 m' H' n' w' :=
  ⟨hr, Nat.le_trans h.le hle, h.ag.trans hag h.le, h.fr.trans hf⟩

def evOpsK (P : Program) (ops : List Oper) (dst : Option Tmp) (evR : Env → Heap → Nat → Prop) (env : Env) (v : AV) (H : Heap) (n : Nat) : Prop := evR (putE dst v env) H n

/-- OPERATIONS, ONE BEHIND THE OTHER. -/
def evOps (P : Program) (all : List Oper) : List Oper → (Env → Heap → Nat → Prop) → Env → Heap → Nat → Prop
  | [], k, env, H, n => k env H n
  | o :: r, k, env, H, n =>
    match o.guard with
    | none => evOp P env H n o.op (evOpsK P all o.dst (evOps P all r k) env)
    | some (j, want) =>
      match (all[j]?).bind (·.dst) with
      | none => False
      | some t => match env.get t with
        | .bo c => (c = want → evOp P ((t, .bo want) :: env) H n o.op (evOpsK P all o.dst (evOps P all r k) ((t, .bo want) :: env))) ∧
            (c = (!want) → evOps P all r k (putE o.dst (.tu []) ((t, .bo (!want)) :: env)) H n)
        | .tu [] => evOps P all r k (putE o.dst (.tu []) env) H n
        | _ => False

def dstsOk (N : Nat) (ops : List Oper) : Bool := ops.all fun o => match o.dst with | some d => decide (d < N) | none => true

theorem call_wp {P : Program} {env : Env} {H : Heap} {n : Nat} {o : Oper} {K : AV → Heap → Nat → Prop} (hg : isGoCall o.op = true) (h : evOp P env H n o.op K) {m : NM} {N : Nat} {a : Act} {w : World} (hH : HRel m H n w) (hE : ERel m N n env a)
    {next : Act → World → Prop} {Q : Exit → Act → World → Prop}
    (hn : ∀ (m' : NM) (v : AV) (H' : Heap) (n' : Nat) (w' : World) (x : Value), K v H' n' → (v ≠ .junk → x = AV.toV m' v ∧ v.ok n' = true) → HRel m' H' n' w' → n ≤ n' → NM.agree n m m' → Fr m H w m' H' w' → next (a.put o.dst x) w') :
    o.wp P a w next Q := by
  cases ho : o.op <;> rw [ho] at hg h <;> first | (simp [isGoCall] at hg; done) | skip
  rename_i c
  obtain ⟨callee, args, ts⟩ := c
  simp only [evOp, evCall] at h
  have hargs : ∀ (l : List Operand), (∀ v ∈ l.map (opv env), v ≠ .junk) → l.map a.eval = (l.map (opv env)).map (AV.toV m) ∧ ∀ v ∈ l.map (opv env), v.ok n = true := fun l hl => by
    have hj : ∀ x ∈ l, opv env x ≠ .junk := fun x hx => hl _ (List.mem_map.2 ⟨x, hx, rfl⟩)
    refine ⟨?_, fun v hv => ?_⟩
    · rw [List.map_map]; exact List.map_congr_left fun x hx => (eval_opv hE x (hj x hx)).1
    · obtain ⟨x, hx, rfl⟩ := List.mem_map.1 hv; exact (eval_opv hE x (hj x hx)).2
  unfold Oper.wp
  cases callee with
  | builtin b => simp [isGoCall] at hg
  | value f =>
    simp only at h
    split at h <;> try exact h.elim
    rename_i k caps hf
    obtain ⟨hj, hc⟩ := h
    have ef := eval_opv hE f (by rw [hf]; simp)
    rw [hf] at ef
    have hA := hargs args.toList (fun v hv => hj v (List.mem_append_left _ hv))
    have hok2 : ∀ v ∈ caps, v.ok n = true := by
      have := ef.2
      simp only [AV.ok, AV.oks_eq, List.all_eq_true] at this
      exact this
    have hrun : (execOp a.eval o).run P w = (callFunc k ((args.toList.map (opv env) ++ caps).map (AV.toV m)).toArray).run P w := by
      simp only [execOp, ho, resolve, ef.1, AV.toV, Deferred.ofValue, pure_bind, invoke]
      congr 2
      rw [← Array.toList_inj]
      simp only [Array.toList_append, Array.toList_map, List.map_append, hA.1, AV.toVs_eq]
      simp
    rw [hrun]
    refine upon_of_callRes (hc m w hH fun v hv => ?_) fun x w' ⟨m', v, H', n', h1, h2, h3, h4, h5, h6⟩ => hn m' v H' n' w' x h6 h1 h2 h3 h4 h5
    rcases List.mem_append.1 hv with hv | hv
    · exact hA.2 v hv
    · exact hok2 v hv
  | invoke r name =>
    simp only at h
    split at h <;> try exact h.elim
    rename_i t v hr
    split at h <;> try exact h.elim
    rename_i k hk
    obtain ⟨hj, hc⟩ := h
    have er := eval_opv hE r (by rw [hr]; simp)
    rw [hr] at er
    have hA := hargs args.toList (fun v hv => hj v (List.mem_cons_of_mem _ hv))
    have hvok : v.ok n = true := by have := er.2; simpa [AV.ok] using this
    have hm : (method (P.types.size + Made.depth) t (AV.toV m v) name).run P w = .ok (k, AV.toV m v) w := by
      unfold mthT at hk
      split at hk <;> try (simp at hk; done)
      rename_i i hi
      split at hk <;> try (simp at hk; done)
      rename_i mt hmt
      split at hk <;> try (simp at hk; done)
      rename_i hpath
      have hp0 : mt.path.toList = [] := by simpa using hpath
      have hfuel : P.types.size + Made.depth = (P.types.size + (Made.depth - 1)) + 1 := by
        have : Made.depth ≥ 1 := by decide
        omega
      rw [hfuel]
      simp only [method]
      rw [run_ok_bind (run_typeInfo hi w)]
      simp only [hmt, hp0, follow, pure_bind]
      split at hk <;> try (simp at hk; done)
      · rename_i f e hfn hu
        simp only [Option.some.injEq] at hk; subst hk
        simp only [hfn, receiverAt]
        rw [run_bind, run_ok_bind (run_underlying hu w)]
        rfl
      · rename_i f d hns hfn hu
        simp only [Option.some.injEq] at hk; subst hk
        simp only [hfn, receiverAt]
        rw [run_bind, run_ok_bind (run_underlying hu w)]
        cases d <;> first | rfl | (exfalso; simp_all; done)
    have hrun : (execOp a.eval o).run P w = (callFunc k ((v :: args.toList.map (opv env)).map (AV.toV m)).toArray).run P w := by
      simp only [execOp, ho, resolve, er.1, AV.toV, pure_bind, invoke]
      have e0 : ∀ (z : Value) (l : Array Value), (#[z] ++ l)[0]? = some z := fun z l => by
        rw [Array.getElem?_append_left (by simp)]; rfl
      have e1 : ∀ (z : Value) (l : Array Value), (#[z] ++ l).extract 1 (#[z] ++ l).size = l := fun z l => by
        rw [← Array.toList_inj]; simp
      rw [e0]
      simp only [callMethod, program, e1]
      show Sem.run P (do
        let r ← method (P.types.size + Made.depth) t (AV.toV m v) name
        callFunc r.1 (#[r.2] ++ args.map a.eval)) w = _
      rw [run_ok_bind hm]
      congr 2
      rw [← Array.toList_inj]
      simp only [Array.toList_append, Array.toList_map, List.map_cons, hA.1]
      rfl
    rw [hrun]
    refine upon_of_callRes (hc m w hH fun v' hv => ?_) fun x w' ⟨m', v, H', n', h1, h2, h3, h4, h5, h6⟩ => hn m' v H' n' w' x h6 h1 h2 h3 h4 h5
    rcases List.mem_cons.1 hv with rfl | hv
    · exact hvok
    · exact hA.2 v' hv

end Go.Ab
