import Derived.Test.YtglkkfobkncbbaaJoyAbDraw6
namespace Go.Ab

/-- CODE, as far as it goes straight; loops stand as they are. -/
def ev (P : Program) (N : Nat) (T : Nat → Draw) : Code → (Exit → Env → Heap → Nat → Prop) → Env → Heap → Nat → Prop
  | .skip, K, env, H, n => K .normal env H n
  | .label _, K, env, H, n => K .normal env H n
  | .ret, K, env, H, n => K .ret env H n
  | .exit id, K, env, H, n => K (.exit id) env H n
  | .seq a b, K, env, H, n => ev P N T a (seqK (ev P N T b K) K) env H n
  | .block id b, K, env, H, n => ev P N T b (blkK id K) env H n
  | .cond c x y, K, env, H, n => match opv env c with
    | .bo t => (t = true → ev P N T x K env H n) ∧ (t = false → ev P N T y K env H n)
    | _ => False
  | .region _ ops false, K, env, H, n => evOps P ops.toList ops.toList (K .normal) env H n
  | .region id ops true, K, env, H, n => drawK P ops.toList (K .normal) (T id).ord [] (maskE (T id).es env) H n
  | c, K, env, H, n => awp P N c K env H n

def codeOk (P : Program) (N : Nat) (T : Nat → Draw) : Code → Bool
  | .region id ops draw => dstsOk N ops.toList && (!draw || (P.follows .mixedOrders && drawOk P N ops.toList (T id)))
  | .seq a b => codeOk P N T a && codeOk P N T b
  | .cond _ a b => codeOk P N T a && codeOk P N T b
  | .block _ a => codeOk P N T a
  | _ => true

theorem ev_sound {P : Program} {N : Nat} {T : Nat → Draw} : ∀ (c : Code) (K : Exit → Env → Heap → Nat → Prop) (env : Env) (H : Heap) (n : Nat), codeOk P N T c = true → ev P N T c K env H n → awp P N c K env H n
  | .skip, _, _, _, _, _, h => awp_skip h
  | .label _, _, _, _, _, _, h => awp_label h
  | .ret, _, _, _, _, _, h => awp_ret h
  | .exit _, _, _, _, _, _, h => awp_exit h
  | .seq a b, K, env, H, n, hc, h => by
    simp only [codeOk, Bool.and_eq_true] at hc
    refine awp_seq ((ev_sound a _ env H n hc.1 h).mono fun e env' H' n' hk => ?_)
    cases e <;> first | exact ev_sound b K env' H' n' hc.2 hk | exact hk
  | .block id b, K, env, H, n, hc, h => awp_block (ev_sound b _ env H n hc h)
  | .cond c x y, K, env, H, n, hc, h => by
    simp only [codeOk, Bool.and_eq_true] at hc
    unfold ev at h
    split at h <;> try exact h.elim
    rename_i t ht
    exact awp_cond ht (fun e => ev_sound x K env H n hc.1 (h.1 e)) (fun e => ev_sound y K env H n hc.2 (h.2 e))
  | .region id ops draw, K, env, H, n, hc, h => by
    simp only [codeOk, Bool.and_eq_true] at hc
    cases draw with
    | true =>
      have h2 : P.follows .mixedOrders = true ∧ drawOk P N ops.toList (T id) = true := by simpa using hc.2
      have := awp_draw (id := id) (l := ops.toList) (N := N) (P := P) (K := K) h2.1 h2.2 h
      rwa [Array.toArray_toList] at this
    | false =>
      have := awp_region (id := id) (l := ops.toList) (N := N) (P := P) (K := K) hc.1 h
      rwa [Array.toArray_toList] at this
  | .loop _, _, _, _, _, _, h => h
  | .rangeFunc .., _, _, _, _, _, h => h
  | .scope _, _, _, _, _, _, h => h
  | .goto _, _, _, _, _, _, h => h
  | .refuse _, _, _, _, _, _, h => h

/-- A loop, its body evaluated. -/
theorem ev_loop_ok {P : Program} {N : Nat} {T : Nat → Draw} {c : Code} {K : Exit → Env → Heap → Nat → Prop} {S : Type} (I : S → Env → Heap → Nat → Prop) (μ : S → Nat) (hok : codeOk P N T c = true)
    (round : ∀ s env H n, I s env H n → ev P N T c (seqK (fun env' H' n' => ∃ s', μ s' < μ s ∧ ∃ e2 H2, e2.le env' ∧ H2.le H' ∧ I s' e2 H2 n') K) env H n)
    {env : Env} {H : Heap} {n : Nat} (s0 : S) (h0 : ∃ e2 H2, e2.le env ∧ H2.le H ∧ I s0 e2 H2 n) : awp P N (.loop c) K env H n :=
  awp_loop I μ (fun s env H n hi => ev_sound c _ env H n hok (round s env H n hi)) s0 h0

/-! ### Functions -/
def resK (P : Program) (H : Heap) (env : Env) : List ResultVar → (List AV → Prop) → Prop
  | [], k => k []
  | .tmp t :: r, k => env.get t ≠ .junk ∧ resK P H env r fun l => k (env.get t :: l)
  | .cell a t :: r, k => loadK P H t (env.get a) fun v => resK P H env r fun l => k (v :: l)

def pack : List AV → AV
  | [v] => v
  | l => .tu l

/-- The end of a call: the numbers of names go on, or begin anew where nothing new is handed on. -/
def Fin (n0 : Nat) (v : AV) (H : Heap) (n : Nat) (K : AV → Heap → Nat → Prop) : Prop :=
  ∃ H' n', H'.le H ∧ (n' = n ∨ (n' = n0 ∧ H'.wf n0 ∧ v.ok n0 = true)) ∧ K v H' n'

theorem Fin.keep {n0 : Nat} {v : AV} {H : Heap} {n : Nat} {K : AV → Heap → Nat → Prop} (h : K v H n) : Fin n0 v H n K := ⟨H, n, Heap.le.refl H, .inl rfl, h⟩
theorem Fin.less {n0 : Nat} {v : AV} {H H' : Heap} {n : Nat} {K : AV → Heap → Nat → Prop} (hl : H'.le H) (h : K v H' n) : Fin n0 v H n K := ⟨H', n, hl, .inl rfl, h⟩
theorem Fin.drop {n0 : Nat} {v : AV} {H H' : Heap} {n : Nat} {K : AV → Heap → Nat → Prop} (h : K v H' n0) (hl : H'.le H) (hw : H'.wf n0) (hv : v.ok n0 = true) : Fin n0 v H n K := ⟨H', n0, hl, .inr ⟨rfl, hw, hv⟩, h⟩

def finK (P : Program) (res : List ResultVar) (n0 : Nat) (K : AV → Heap → Nat → Prop) : Exit → Env → Heap → Nat → Prop
  | .normal, env, H, n => resK P H env res fun vs => Fin n0 (pack vs) H n K
  | .ret, env, H, n => resK P H env res fun vs => Fin n0 (pack vs) H n K
  | _, _, _, _ => False

def envFrom : Nat → List AV → Env
  | _, [] => []
  | i, v :: r => (i, v) :: envFrom (i + 1) r

theorem envFrom_get : ∀ (l : List AV) (i t : Nat), (envFrom i l).get t ≠ .junk → i ≤ t ∧ l[t - i]? = some ((envFrom i l).get t)
  | [], i, t, h => absurd rfl h
  | v :: r, i, t, h => by
    simp only [envFrom, Env.get] at h ⊢
    split at h
    · rename_i e; subst e; simp
    · rename_i e
      obtain ⟨h1, h2⟩ := envFrom_get r (i + 1) t h
      refine ⟨by omega, ?_⟩
      rw [if_neg e, ← h2, show t - i = (t - (i + 1)) + 1 from by omega]; simp

def resG (tmps : Array Value) : ResultVar → Sem Value
  | .tmp t => pure (tmps.getD t undef)
  | .cell a t => do loadVar t (← asAddr (tmps.getD a undef))
theorem results_eq (fn : Func) (tmps : Array Value) : results fn tmps = (fn.results.mapM (resG tmps) >>= fun vs => pure (if h : vs.size = 1 then vs[0] else .tuple vs)) := by
  unfold results
  congr 1

theorem resK_sound {P : Program} {H : Heap} {env : Env} {m : NM} {N n : Nat} {a : Act} {w : World} (hH : HRel m H n w) (hE : ERel m N n env a) : ∀ (rs : List ResultVar) (k : List AV → Prop), resK P H env rs k →
    ∃ vs, k vs ∧ (∀ v ∈ vs, v.ok n = true) ∧ (rs.mapM (resG a.tmps)).run P w = .ok (vs.map (AV.toV m)) w
  | [], k, h => ⟨[], h, by simp, rfl⟩
  | .tmp t :: r, k, h => by
    obtain ⟨hj, h⟩ := h
    obtain ⟨vs, hk, hok, hr⟩ := resK_sound hH hE r _ h
    have e := hE.get t hj
    refine ⟨_, hk, fun v hv => ?_, ?_⟩
    · rcases List.mem_cons.1 hv with rfl | hv
      · exact e.2
      · exact hok v hv
    · rw [List.mapM_cons]
      have h1 : (resG a.tmps (.tmp t)).run P w = .ok (AV.toV m (env.get t)) w := by simp only [resG]; rw [e.1]; rfl
      rw [run_ok_bind h1, run_ok_bind hr]; rfl
  | .cell x t :: r, k, h => by
    unfold resK at h
    have hx : ∃ b off, env.get x = .pt b off := by
      unfold loadK at h
      split at h <;> first | exact ⟨_, _, by assumption⟩ | exact h.elim
    obtain ⟨b, off, hx⟩ := hx
    obtain ⟨v, hv, hl⟩ := load_sound (P := P) (env := env) (o := { dst := none, op := .load t (.tmp x), type := 0, pos := "", after := #[], guard := none }) rfl h
    obtain ⟨hrun, hok⟩ := hl m N n a w hH hE
    obtain ⟨vs, hk, hoks, hr⟩ := resK_sound hH hE r _ hv
    have e := hE.get x (by rw [hx]; simp)
    rw [hx, AV.toV] at e
    refine ⟨_, hk, fun y hy => ?_, ?_⟩
    · rcases List.mem_cons.1 hy with rfl | hy
      · exact hok
      · exact hoks y hy
    · rw [List.mapM_cons]
      have h1 : (resG a.tmps (.cell x t)).run P w = .ok (AV.toV m v) w := by
        simp only [resG]
        rw [e.1]
        have h2 : (loadVar t ⟨m.ρ b, off, none⟩ >>= fun r => pure (Next.value r)).run P w = .ok (.value (AV.toV m v)) w := by
          have := hrun
          simp only [execOp, Act.eval, e.1, Instr.loadAt, Instr.sureAddr, pure_bind] at this
          exact this
        rw [run_bind] at h2
        show (loadVar t ⟨m.ρ b, off, none⟩).run P w = _
        split at h2
        · rename_i y w' hy
          rw [hy]
          simp only [run_pure, Result.ok.injEq, Next.value.injEq] at h2
          rw [h2.1, h2.2]
        · simp at h2
      rw [run_ok_bind h1, run_ok_bind hr]; rfl

theorem ACalls.of_awp {P : Program} {f : FuncId} {fn : Func} {body : Code} {args : List AV} {H : Heap} {n : Nat} {K : AV → Heap → Nat → Prop} (hf : P.funcs[f]? = some fn) (hb : fn.body = some body)
    (hname : (fn.name == "runtime.NumGoroutine") = false) (hlen : args.length ≤ fn.ntmps) (hj : ∀ v ∈ args, v ≠ .junk)
    (h : H.wf n → awp P fn.ntmps body (finK P fn.results.toList n K) (envFrom 0 args) H n) : ACalls P f args H n K := by
  refine ⟨hj, fun m w hH hargs => ?_⟩
  rw [run_callFunc hf hname (by rw [hb]; rfl)]
  refine calls_of_wp hf hb ?_
  have hE : ERel m fn.ntmps n (envFrom 0 args) { tmps := (args.map (AV.toV m)).toArray ++ Array.replicate (fn.ntmps - (args.map (AV.toV m)).toArray.size) undef, defers := [] } := by
    refine ⟨by simp; omega, rfl, fun t ht => ?_⟩
    obtain ⟨_, hg⟩ := envFrom_get args 0 t ht
    rw [Nat.sub_zero] at hg
    have htl : t < args.length := by
      rcases Nat.lt_or_ge t args.length with h | h
      · exact h
      · rw [List.getElem?_eq_none h] at hg; simp at hg
    refine ⟨?_, hargs _ (List.mem_of_getElem? hg)⟩
    rw [Array.getD_eq_getD_getElem?, Array.getElem?_append_left (by simpa using htl), List.getElem?_toArray, List.getElem?_map, hg]
    rfl
  have hI : Inv m H n w m H n w := ⟨hH, Nat.le_refl _, NM.agree.refl _ _, Fr.refl _ _ _⟩
  refine wp_mono (h hH.wf m H n w m _ w hI hE) fun e a' w' ⟨m', env', H', n', hI', hE', hq⟩ => ?_
  have main : (resK P H' env' fn.results.toList fun vs => Fin n (pack vs) H' n' K) → a'.defers = [] ∧ ∃ v, (results fn a'.tmps).run P w' = .ok v w' ∧ ∃ x, Ending.returned v = .returned x ∧
      ∃ (m'' : NM) (v : AV) (H'' : Heap) (n'' : Nat), (v ≠ .junk → x = AV.toV m'' v ∧ v.ok n'' = true) ∧ HRel m'' H'' n'' w' ∧ n ≤ n'' ∧ NM.agree n m m'' ∧ Fr m H w m'' H'' w' ∧ K v H'' n'' := by
    intro hr
    obtain ⟨vs, ⟨H2, n2, hle, hn2, hK⟩, hvok, hrun⟩ := resK_sound hI'.rel hE' _ _ hr
    have hpack : (results fn a'.tmps).run P w' = .ok (AV.toV m' (pack vs)) w' := by
      rw [results_eq]
      have h1 : (fn.results.mapM (resG a'.tmps)).run P w' = .ok (vs.map (AV.toV m')).toArray w' := by
        rw [← Array.toArray_toList (xs := fn.results), List.mapM_toArray, map_eq_pure_bind, run_ok_bind hrun]; rfl
      rw [run_ok_bind h1, run_pure]
      congr 1
      cases vs with
      | nil => rfl
      | cons v r => cases r with
        | nil => rfl
        | cons v2 r2 => simp [pack, AV.toV, AV.toVs_eq]
    have hpok : (pack vs).ok n' = true := by
      cases vs with
      | nil => rfl
      | cons v r => cases r with
        | nil => exact hvok v (by simp)
        | cons v2 r2 => simp only [pack, AV.ok, AV.oks_eq, List.all_eq_true]; exact hvok
    refine ⟨hE'.defers, _, hpack, _, rfl, m', pack vs, H2, n2, fun _ => ⟨rfl, ?_⟩, ?_, ?_, hI'.ag, hI'.fr.weaken hle, hK⟩
    · rcases hn2 with rfl | ⟨rfl, _, hv⟩
      · exact hpok
      · exact hv
    · rcases hn2 with rfl | ⟨rfl, hw, _⟩
      · exact hI'.rel.weaken hle
      · exact (hI'.rel.weaken hle).cut hw
    · rcases hn2 with rfl | ⟨rfl, _, _⟩
      · exact hI'.le
      · exact Nat.le_refl _
  cases e <;> first | exact main hq | exact hq.elim

theorem ACalls.of_ev {P : Program} (T : Nat → Draw) {f : FuncId} {fn : Func} {body : Code} {args : List AV} {H : Heap} {n : Nat} {K : AV → Heap → Nat → Prop} (hf : P.funcs[f]? = some fn) (hb : fn.body = some body)
    (hname : (fn.name == "runtime.NumGoroutine") = false) (hok : codeOk P fn.ntmps T body = true) (hlen : args.length ≤ fn.ntmps) (hj : ∀ v ∈ args, v ≠ .junk)
    (h : H.wf n → ev P fn.ntmps T body (finK P fn.results.toList n K) (envFrom 0 args) H n) : ACalls P f args H n K :=
  .of_awp hf hb hname hlen hj fun hw => ev_sound body _ _ H n hok (h hw)

/-- A statement, evaluated; what is known behind it is chosen anew. -/
theorem awp_cut {P : Program} {N : Nat} (T : Nat → Draw) (Q : Env → Heap → Nat → Prop) {a b : Code} {K : Exit → Env → Heap → Nat → Prop} {env : Env} {H : Heap} {n : Nat} (hok : codeOk P N T a = true)
    (h1 : ev P N T a (seqK (fun env' H' n' => ∃ e2 H2, e2.le env' ∧ H2.le H' ∧ Q e2 H2 n') K) env H n) (h2 : ∀ e H n, Q e H n → awp P N b K e H n) : awp P N (.seq a b) K env H n :=
  awp_seq ((ev_sound a _ _ _ _ hok h1).mono fun e env' H' n' hk => by
    cases e <;> first | exact hk | skip
    obtain ⟨e2, H2, he, hh, hq⟩ := hk
    exact (h2 e2 H2 n' hq).weaken he hh)
theorem awp_step {P : Program} {N : Nat} (T : Nat → Draw) {a b : Code} {K : Exit → Env → Heap → Nat → Prop} {env : Env} {H : Heap} {n : Nat} (hok : codeOk P N T a = true)
    (h1 : ev P N T a (seqK (awp P N b K) K) env H n) : awp P N (.seq a b) K env H n :=
  awp_seq (ev_sound a _ _ _ _ hok h1)
theorem Env.le_nil (e : Env) : Env.le [] e := fun _ h => absurd rfl h
theorem Env.le_cons {t : Nat} {v : AV} {e e' : Env} (h : e'.get t = v) (h' : e.le e') : Env.le ((t, v) :: e) e' := fun u hu => by
  simp only [Env.get] at hu ⊢
  split
  · rename_i c; rw [← c, h]
  · rename_i c; rw [if_neg c] at hu; exact h' u hu

end Go.Ab
