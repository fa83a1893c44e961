import Derived.Test.YtglkkfobkncbbaaJoyAbCode
namespace Go.Ab

theorem evOp_wp {P : Program} {env : Env} {H : Heap} {n : Nat} {o : Oper} {K : AV → Heap → Nat → Prop} (h : evOp P env H n o.op K) {m : NM} {N : Nat} {a : Act} {w : World} (hH : HRel m H n w) (hE : ERel m N n env a)
    {next : Act → World → Prop} {Q : Exit → Act → World → Prop}
    (hn : ∀ (m' : NM) (v : AV) (H' : Heap) (n' : Nat) (w' : World) (x : Value), K v H' n' → (v ≠ .junk → x = AV.toV m' v ∧ v.ok n' = true) → HRel m' H' n' w' → n ≤ n' → NM.agree n m m' → Fr m H w m' H' w' → next (a.put o.dst x) w') :
    o.wp P a w next Q := by
  by_cases hg : isGoCall o.op = true
  · exact call_wp hg h hH hE hn
  · obtain ⟨v, H', n', hK, m', w', h1, h2, h3, h4, h5⟩ := op_res h (by simpa using hg) m N a w hH hE
    unfold Oper.wp
    rcases h5 with ⟨x, hr, hx⟩ | ⟨hr, hv⟩
    · rw [hr]; exact hn m' v H' n' w' x hK hx h1 h2 h3 h4
    · rw [hr]; exact hn m' v H' n' w' undef hK (fun hj => absurd hv hj) h1 h2 h3 h4

theorem yielded_of {m : NM} {N n : Nat} {env : Env} {a : Act} {ops : List Oper} {j : Nat} {t : Tmp} {c : Bool} (hE : ERel m N n env a) (ht : (ops[j]?).bind (·.dst) = some t) (hc : env.get t = .bo c) :
    yielded ops.toArray a.tmps j = some c := by
  have h1 := (hE.get t (by rw [hc]; simp)).1
  rw [hc, AV.toV] at h1
  have h2 : a.tmps[t]? = some (.bool c) := by
    rw [Array.getD_eq_getD_getElem?] at h1
    cases hq : a.tmps[t]? with
    | none => rw [hq] at h1; simp [undef] at h1
    | some y => rw [hq] at h1; simp at h1; rw [h1]
  simp only [yielded, List.getElem?_toArray, ht, Option.bind_some, h2]

theorem yielded_none {m : NM} {N n : Nat} {env : Env} {a : Act} {ops : List Oper} {j : Nat} {t : Tmp} (hE : ERel m N n env a) (ht : (ops[j]?).bind (·.dst) = some t) (hc : env.get t = .tu []) :
    yielded ops.toArray a.tmps j = none := by
  have h1 := (hE.get t (by rw [hc]; simp)).1
  rw [hc, AV.toV] at h1
  simp only [yielded, List.getElem?_toArray, ht, Option.bind_some]
  rw [Array.getD_eq_getD_getElem?] at h1
  cases hq : a.tmps[t]? with
  | none => rfl
  | some y => rw [hq] at h1; simp only [Option.getD_some] at h1; rw [h1]

theorem undef_tu (m : NM) (n : Nat) : undef = AV.toV m (.tu []) ∧ AV.ok n (.tu []) = true := ⟨rfl, rfl⟩

theorem get_cons_same {m : NM} {N n : Nat} {env : Env} {a : Act} (hE : ERel m N n env a) {t : Tmp} {v : AV} (hv : env.get t = v) : ERel m N n ((t, v) :: env) a where
  size := hE.size
  defers := hE.defers
  get := fun u hu => by
    simp only [Env.get] at hu ⊢
    split at hu
    · rename_i e; subst e; simp only [if_true]; rw [← hv] at hu ⊢; exact hE.get t hu
    · rename_i e; simp only [if_neg e]; exact hE.get u hu

theorem evOps_sound {P : Program} {all : List Oper} {N : Nat} {m0 : NM} {H0 : Heap} {n0 : Nat} {w0 : World} {k : Env → Heap → Nat → Prop} {Q : Exit → Act → World → Prop}
    (hQ : ∀ m env H n a w, k env H n → Inv m0 H0 n0 w0 m H n w → ERel m N n env a → Q .normal a w) :
    ∀ (l : List Oper) (env : Env) (H : Heap) (n : Nat) (m : NM) (a : Act) (w : World), evOps P all l k env H n → dstsOk N l = true → Inv m0 H0 n0 w0 m H n w → ERel m N n env a → wpList P all.toArray Q l a w
  | [], env, H, n, m, a, w, h, _, hI, hE => hQ m env H n a w h hI hE
  | o :: r, env, H, n, m, a, w, h, hd, hI, hE => by
    simp only [dstsOk, List.all_cons, Bool.and_eq_true] at hd
    have hdo : ∀ d, o.dst = some d → d < N := fun d e => by have := hd.1; rw [e] at this; simpa using this
    have hr : dstsOk N r = true := hd.2
    have go : ∀ (env' : Env), ERel m N n env' a → evOp P env' H n o.op (evOpsK P all o.dst (evOps P all r k) env') → o.wp P a w (wpList P all.toArray Q r) Q := fun env' hE' he =>
      evOp_wp he hI.rel hE' fun m' v H' n' w' x hK hx h1 h2 h3 h4 =>
        evOps_sound hQ r _ H' n' m' _ w' hK hr (hI.step h1 h2 h3 h4) ((hE'.agree h3 h2).putE hdo hx)
    unfold evOps at h
    unfold wpList
    split at h
    · rename_i hg
      have hw : Region.wanted o (yielded all.toArray a.tmps) = true := by simp [Region.wanted, hg]
      rw [if_pos hw]
      exact .inl (go env hE h)
    · rename_i j want hg
      split at h <;> try exact h.elim
      rename_i t ht
      split at h <;> try exact h.elim
      · rename_i c hc
        have hy := yielded_of (ops := all) hE ht hc
        by_cases hcw : c = want
        · have hw : Region.wanted o (yielded all.toArray a.tmps) = true := by simp [Region.wanted, hg, hy, hcw]
          rw [if_pos hw]
          exact .inl (go _ (get_cons_same hE (by rw [hc, hcw])) (h.1 hcw))
        · have hw : ¬ Region.wanted o (yielded all.toArray a.tmps) = true := by simp [Region.wanted, hg, hy, hcw]
          rw [if_neg hw]
          have hcn : c = !want := by cases c <;> cases want <;> simp_all
          exact evOps_sound hQ r _ H n m _ w (h.2 hcn) hr hI ((get_cons_same hE (by rw [hc, hcn])).putE hdo (fun _ => undef_tu m n))
      · rename_i hc
        have hy := yielded_none (ops := all) hE ht hc
        have hw : ¬ Region.wanted o (yielded all.toArray a.tmps) = true := by simp [Region.wanted, hg, hy]
        rw [if_neg hw]
        exact evOps_sound hQ r _ H n m _ w h hr hI (hE.putE hdo (fun _ => undef_tu m n))

/-! ### Code -/
def seqK (k : Env → Heap → Nat → Prop) (K : Exit → Env → Heap → Nat → Prop) : Exit → Env → Heap → Nat → Prop
  | .normal, env, H, n => k env H n
  | e, env, H, n => K e env H n
def blkK (id : Nat) (K : Exit → Env → Heap → Nat → Prop) : Exit → Env → Heap → Nat → Prop
  | .exit i, env, H, n => if i = id then K .normal env H n else K (.exit i) env H n
  | e, env, H, n => K e env H n

/-- What a piece of code does, said by its meaning: for loops, and where the evaluator stops. -/
def awp (P : Program) (N : Nat) (c : Code) (K : Exit → Env → Heap → Nat → Prop) (env : Env) (H : Heap) (n : Nat) : Prop :=
  ∀ (m0 : NM) (H0 : Heap) (n0 : Nat) (w0 : World) (m : NM) (a : Act) (w : World), Inv m0 H0 n0 w0 m H n w → ERel m N n env a →
    c.wp P (fun e a' w' => ∃ m' env' H' n', Inv m0 H0 n0 w0 m' H' n' w' ∧ ERel m' N n' env' a' ∧ K e env' H' n') a w

theorem awp.mono {P : Program} {N : Nat} {c : Code} {K K' : Exit → Env → Heap → Nat → Prop} {env : Env} {H : Heap} {n : Nat} (h : awp P N c K env H n) (hk : ∀ e env H n, K e env H n → K' e env H n) : awp P N c K' env H n :=
  fun m0 H0 n0 w0 m a w hI hE => wp_mono (h m0 H0 n0 w0 m a w hI hE) fun e a' w' ⟨m', env', H', n', h1, h2, h3⟩ => ⟨m', env', H', n', h1, h2, hk _ _ _ _ h3⟩

/-- Less is known: fewer slots, fewer blocks. -/
theorem awp.weaken {P : Program} {N : Nat} {c : Code} {K : Exit → Env → Heap → Nat → Prop} {env env' : Env} {H H' : Heap} {n : Nat} (h : awp P N c K env H n) (he : env.le env') (hh : H.le H') : awp P N c K env' H' n :=
  fun m0 H0 n0 w0 m a w hI hE => h m0 H0 n0 w0 m a w ⟨hI.rel.weaken hh, hI.le, hI.ag, hI.fr.weaken hh⟩ (hE.weaken he)

theorem awp_skip {P : Program} {N : Nat} {K : Exit → Env → Heap → Nat → Prop} {env : Env} {H : Heap} {n : Nat} (h : K .normal env H n) : awp P N .skip K env H n :=
  fun _ _ _ _ m _ _ hI hE => wp_skip ⟨m, env, H, n, hI, hE, h⟩
theorem awp_label {P : Program} {N l : Nat} {K : Exit → Env → Heap → Nat → Prop} {env : Env} {H : Heap} {n : Nat} (h : K .normal env H n) : awp P N (.label l) K env H n :=
  fun _ _ _ _ m _ _ hI hE => wp_label ⟨m, env, H, n, hI, hE, h⟩
theorem awp_ret {P : Program} {N : Nat} {K : Exit → Env → Heap → Nat → Prop} {env : Env} {H : Heap} {n : Nat} (h : K .ret env H n) : awp P N .ret K env H n :=
  fun _ _ _ _ m _ _ hI hE => wp_ret ⟨m, env, H, n, hI, hE, h⟩
theorem awp_exit {P : Program} {N id : Nat} {K : Exit → Env → Heap → Nat → Prop} {env : Env} {H : Heap} {n : Nat} (h : K (.exit id) env H n) : awp P N (.exit id) K env H n :=
  fun _ _ _ _ m _ _ hI hE => wp_exit ⟨m, env, H, n, hI, hE, h⟩
theorem awp_seq {P : Program} {N : Nat} {x y : Code} {K : Exit → Env → Heap → Nat → Prop} {env : Env} {H : Heap} {n : Nat} (h : awp P N x (seqK (awp P N y K) K) env H n) : awp P N (.seq x y) K env H n :=
  fun m0 H0 n0 w0 m a w hI hE => wp_seq (wp_mono (h m0 H0 n0 w0 m a w hI hE) fun e a' w' ⟨m', env', H', n', h1, h2, h3⟩ => by
    cases e <;> first | exact h3 m0 H0 n0 w0 m' a' w' h1 h2 | exact ⟨m', env', H', n', h1, h2, h3⟩)
theorem awp_block {P : Program} {N id : Nat} {x : Code} {K : Exit → Env → Heap → Nat → Prop} {env : Env} {H : Heap} {n : Nat} (h : awp P N x (blkK id K) env H n) : awp P N (.block id x) K env H n :=
  fun m0 H0 n0 w0 m a w hI hE => wp_block (wp_mono (h m0 H0 n0 w0 m a w hI hE) fun e a' w' ⟨m', env', H', n', h1, h2, h3⟩ => by
    cases e <;> first | exact ⟨m', env', H', n', h1, h2, h3⟩ | skip
    rename_i i
    simp only [blkK] at h3
    simp only [Exit.inBlock]
    split at h3
    · rename_i hi; rw [if_pos hi]; exact ⟨m', env', H', n', h1, h2, h3⟩
    · rename_i hi; rw [if_neg hi]; exact ⟨m', env', H', n', h1, h2, h3⟩)
theorem awp_cond {P : Program} {N : Nat} {c : Operand} {x y : Code} {K : Exit → Env → Heap → Nat → Prop} {env : Env} {H : Heap} {n : Nat} {t : Bool} (hc : opv env c = .bo t)
    (h1 : t = true → awp P N x K env H n) (h2 : t = false → awp P N y K env H n) : awp P N (.cond c x y) K env H n :=
  fun m0 H0 n0 w0 m a w hI hE => by
    have e := (eval_opv hE c (by rw [hc]; simp)).1
    rw [hc, AV.toV] at e
    exact wp_cond_split e (fun ht => h1 ht m0 H0 n0 w0 m a w hI hE) (fun ht => h2 ht m0 H0 n0 w0 m a w hI hE)

theorem awp_region {P : Program} {N id : Nat} {l : List Oper} {K : Exit → Env → Heap → Nat → Prop} {env : Env} {H : Heap} {n : Nat} (hd : dstsOk N l = true) (h : evOps P l l (K .normal) env H n) :
    awp P N (.region id l.toArray false) K env H n :=
  fun m0 H0 n0 w0 m a w hI hE => wp_region_lit (evOps_sound (all := l) (fun m env H n a w hk hI hE => ⟨m, env, H, n, hI, hE, hk⟩) l env H n m a w h hd hI hE)

/-- A LOOP, by states of a kind of one's own. -/
theorem awp_loop {P : Program} {N : Nat} {c : Code} {K : Exit → Env → Heap → Nat → Prop} {S : Type} (I : S → Env → Heap → Nat → Prop) (μ : S → Nat)
    (round : ∀ s env H n, I s env H n → awp P N c (seqK (fun env' H' n' => ∃ s', μ s' < μ s ∧ ∃ e2 H2, e2.le env' ∧ H2.le H' ∧ I s' e2 H2 n') K) env H n)
    {env : Env} {H : Heap} {n : Nat} (s0 : S) (h0 : ∃ e2 H2, e2.le env ∧ H2.le H ∧ I s0 e2 H2 n) : awp P N (.loop c) K env H n := by
  intro m0 H0 n0 w0 m a w hI hE b k cs
  have key : ∀ (j : Nat) (s : S) (env : Env) (H : Heap) (n : Nat) (m : NM) (a : Act) (w : World), μ s = j → I s env H n → Inv m0 H0 n0 w0 m H n w → ERel m N n env a →
      ∃ e a' w', (∃ m' env' H' n', Inv m0 H0 n0 w0 m' H' n' w' ∧ ERel m' N n' env' a' ∧ K e env' H' n') ∧ Arrives P (lone (b.at a (.code c :: .inLoop c :: k)) cs w) b k cs e a' w' := by
    intro j
    induction j using Nat.strongRecOn with
    | _ j ih =>
      intro s env H n m a w hj hs hI hE
      obtain ⟨e, a₁, w₁, ⟨m₁, env₁, H₁, n₁, hI₁, hE₁, hq⟩, harr⟩ := round s env H n hs m0 H0 n0 w0 m a w hI hE b (.inLoop c :: k) cs
      cases e with
      | normal =>
        obtain ⟨s', hlt, e2, H2, he, hh, hs'⟩ := hq
        obtain ⟨e₂, a₂, w₂, hq₂, harr₂⟩ := ih (μ s') (hj ▸ hlt) s' e2 H2 n₁ m₁ a₁ w₁ rfl hs' ⟨hI₁.rel.weaken hh, hI₁.le, hI₁.ag, hI₁.fr.weaken hh⟩ (hE₁.weaken he)
        exact ⟨e₂, a₂, w₂, hq₂, .of_steps (Steps.trans harr (.one step_inLoop)) harr₂⟩
      | exit id => exact ⟨_, a₁, w₁, ⟨m₁, env₁, H₁, n₁, hI₁, hE₁, hq⟩, .pass (x := .inLoop c) rfl (fun _ _ => .inl (by simp)) harr⟩
      | goto l => exact ⟨_, a₁, w₁, ⟨m₁, env₁, H₁, n₁, hI₁, hE₁, hq⟩, .pass (x := .inLoop c) rfl (fun _ _ => .inl (by simp)) harr⟩
      | ret => exact ⟨_, a₁, w₁, ⟨m₁, env₁, H₁, n₁, hI₁, hE₁, hq⟩, .pass (x := .inLoop c) rfl (fun _ _ => .inl (by simp)) harr⟩
      | panic ch => exact ⟨_, a₁, w₁, ⟨m₁, env₁, H₁, n₁, hI₁, hE₁, hq⟩, .pass (x := .inLoop c) rfl (fun _ _ => .inl (by simp)) harr⟩
      | outgrown => exact ⟨_, a₁, w₁, ⟨m₁, env₁, H₁, n₁, hI₁, hE₁, hq⟩, .pass (x := .inLoop c) rfl (fun _ _ => .inl (by simp)) harr⟩
  obtain ⟨e2, H2, he, hh, hs⟩ := h0
  obtain ⟨e, a', w', hq, harr⟩ := key _ s0 e2 H2 n m a w rfl hs ⟨hI.rel.weaken hh, hI.le, hI.ag, hI.fr.weaken hh⟩ (hE.weaken he)
  exact ⟨e, a', w', hq, .of_steps (.one step_loop) harr⟩

end Go.Ab
