/- Parts of the proof: the evaluator and its soundness. -/
import Derived.Test.YtofkkcflpkcdaaaJoyW0
import Derived.OrdersHeld
set_option linter.unusedSimpArgs false
set_option linter.unusedVariables false
namespace Go.Ab

theorem evOp_wp {P : Program} {env : Env} {H : Heap} {n : Nat} {o : Oper} {K : AV → Heap → Nat → Prop} (h : evOp P env H n o.op K) {m : NM} {N : Nat} {a : Act} {w : World} (hH : HRel m H n w) (hE : ERel m N n env a)
    {next : Act → World → Prop} {Q : Exit → Act → World → Prop}
    (hn : ∀ (m' : NM) (v : AV) (H' : Heap) (n' : Nat) (w' : World) (x : Value), K v H' n' → (v ≠ .junk → x = AV.toV m' v ∧ v.ok n' = true) → HRel m' H' n' w' → n ≤ n' → NM.agree n m m' → Fr m H w m' H' w' → next (a.put o.dst x) w') :
    o.wp P a w next Q := by
  by_cases hg : isGoCall o.op = true
  · exact call_wp hg h hH hE hn
  · obtain ⟨v, H', n', hK, m', w', h1, h2, h3, h4, h5⟩ := op_res h (by simpa using hg) m N a w hH hE
    unfold Oper.wp
    rcases h5 with ⟨x, hr, hx⟩ | ⟨hr, hv⟩
    · rw [hr]; exact hn m' v H' n' w' x hK hx h1 h2 h3 h4
    · rw [hr]; exact hn m' v H' n' w' undef hK (fun hj => absurd hv hj) h1 h2 h3 h4

theorem yielded_of {m : NM} {N n : Nat} {env : Env} {a : Act} {ops : List Oper} {j : Nat} {t : Tmp} {c : Bool} (hE : ERel m N n env a) (ht : (ops[j]?).bind (·.dst) = some t) (hc : env.get t = .bo c) :
    yielded ops.toArray a.tmps j = some c := by
  have h1 := (hE.get t (by rw [hc]; simp)).1
  rw [hc, AV.toV] at h1
  have h2 : a.tmps[t]? = some (.bool c) := by
    rw [Array.getD_eq_getD_getElem?] at h1
    cases hq : a.tmps[t]? with
    | none => rw [hq] at h1; simp [undef] at h1
    | some y => rw [hq] at h1; simp at h1; rw [h1]
  simp only [yielded, List.getElem?_toArray, ht, Option.bind_some, h2]

theorem yielded_none {m : NM} {N n : Nat} {env : Env} {a : Act} {ops : List Oper} {j : Nat} {t : Tmp} (hE : ERel m N n env a) (ht : (ops[j]?).bind (·.dst) = some t) (hc : env.get t = .tu []) :
    yielded ops.toArray a.tmps j = none := by
  have h1 := (hE.get t (by rw [hc]; simp)).1
  rw [hc, AV.toV] at h1
  simp only [yielded, List.getElem?_toArray, ht, Option.bind_some]
  rw [Array.getD_eq_getD_getElem?] at h1
  cases hq : a.tmps[t]? with
  | none => rfl
  | some y => rw [hq] at h1; simp only [Option.getD_some] at h1; rw [h1]

theorem undef_tu (m : NM) (n : Nat) : undef = AV.toV m (.tu []) ∧ AV.ok n (.tu []) = true := ⟨rfl, rfl⟩

theorem get_cons_same {m : NM} {N n : Nat} {env : Env} {a : Act} (hE : ERel m N n env a) {t : Tmp} {v : AV} (hv : env.get t = v) : ERel m N n ((t, v) :: env) a where
  size := hE.size
  defers := hE.defers
  get := fun u hu => by
    simp only [Env.get] at hu ⊢
    split at hu
    · rename_i e; subst e; simp only [if_true]; rw [← hv] at hu ⊢; exact hE.get t hu
    · rename_i e; simp only [if_neg e]; exact hE.get u hu

theorem evOps_sound {P : Program} {all : List Oper} {N : Nat} {m0 : NM} {H0 : Heap} {n0 : Nat} {w0 : World} {k : Env → Heap → Nat → Prop} {Q : Exit → Act → World → Prop}
    (hQ : ∀ m env H n a w, k env H n → Inv m0 H0 n0 w0 m H n w → ERel m N n env a → Q .normal a w) :
    ∀ (l : List Oper) (env : Env) (H : Heap) (n : Nat) (m : NM) (a : Act) (w : World), evOps P all l k env H n → dstsOk N l = true → Inv m0 H0 n0 w0 m H n w → ERel m N n env a → wpList P all.toArray Q l a w
  | [], env, H, n, m, a, w, h, _, hI, hE => hQ m env H n a w h hI hE
  | o :: r, env, H, n, m, a, w, h, hd, hI, hE => by
    simp only [dstsOk, List.all_cons, Bool.and_eq_true] at hd
    have hdo : ∀ d, o.dst = some d → d < N := fun d e => by have := hd.1; rw [e] at this; simpa using this
    have hr : dstsOk N r = true := hd.2
    have go : ∀ (env' : Env), ERel m N n env' a → evOp P env' H n o.op (evOpsK P all o.dst (evOps P all r k) env') → o.wp P a w (wpList P all.toArray Q r) Q := fun env' hE' he =>
      evOp_wp he hI.rel hE' fun m' v H' n' w' x hK hx h1 h2 h3 h4 =>
        evOps_sound hQ r _ H' n' m' _ w' hK hr (hI.step h1 h2 h3 h4) ((hE'.agree h3 h2).putE hdo hx)
    unfold evOps at h
    unfold wpList
    split at h
    · rename_i hg
      have hw : Region.wanted o (yielded all.toArray a.tmps) = true := by simp [Region.wanted, hg]
      rw [if_pos hw]
      exact .inl (go env hE h)
    · rename_i j want hg
      split at h <;> try exact h.elim
      rename_i t ht
      split at h <;> try exact h.elim
      · rename_i c hc
        have hy := yielded_of (ops := all) hE ht hc
        by_cases hcw : c = want
        · have hw : Region.wanted o (yielded all.toArray a.tmps) = true := by simp [Region.wanted, hg, hy, hcw]
          rw [if_pos hw]
          exact .inl (go _ (get_cons_same hE (by rw [hc, hcw])) (h.1 hcw))
        · have hw : ¬ Region.wanted o (yielded all.toArray a.tmps) = true := by simp [Region.wanted, hg, hy, hcw]
          rw [if_neg hw]
          have hcn : c = !want := by cases c <;> cases want <;> simp_all
          exact evOps_sound hQ r _ H n m _ w (h.2 hcn) hr hI ((get_cons_same hE (by rw [hc, hcn])).putE hdo (fun _ => undef_tu m n))
      · rename_i hc
        have hy := yielded_none (ops := all) hE ht hc
        have hw : ¬ Region.wanted o (yielded all.toArray a.tmps) = true := by simp [Region.wanted, hg, hy]
        rw [if_neg hw]
        exact evOps_sound hQ r _ H n m _ w h hr hI (hE.putE hdo (fun _ => undef_tu m n))

/-! ### Code -/
def seqK (k : Env → Heap → Nat → Prop) (K : Exit → Env → Heap → Nat → Prop) : Exit → Env → Heap → Nat → Prop
  | .normal, env, H, n => k env H n
  | e, env, H, n => K e env H n
def blkK (id : Nat) (K : Exit → Env → Heap → Nat → Prop) : Exit → Env → Heap → Nat → Prop
  | .exit i, env, H, n => if i = id then K .normal env H n else K (.exit i) env H n
  | e, env, H, n => K e env H n

/-- What a piece of code does, said by its meaning: for loops, and where the evaluator stops. -/
def awp (P : Program) (N : Nat) (c : Code) (K : Exit → Env → Heap → Nat → Prop) (env : Env) (H : Heap) (n : Nat) : Prop :=
  ∀ (m0 : NM) (H0 : Heap) (n0 : Nat) (w0 : World) (m : NM) (a : Act) (w : World), Inv m0 H0 n0 w0 m H n w → ERel m N n env a →
    c.wp P (fun e a' w' => ∃ m' env' H' n', Inv m0 H0 n0 w0 m' H' n' w' ∧ ERel m' N n' env' a' ∧ K e env' H' n') a w

theorem awp.mono {P : Program} {N : Nat} {c : Code} {K K' : Exit → Env → Heap → Nat → Prop} {env : Env} {H : Heap} {n : Nat} (h : awp P N c K env H n) (hk : ∀ e env H n, K e env H n → K' e env H n) : awp P N c K' env H n :=
  fun m0 H0 n0 w0 m a w hI hE => wp_mono (h m0 H0 n0 w0 m a w hI hE) fun e a' w' ⟨m', env', H', n', h1, h2, h3⟩ => ⟨m', env', H', n', h1, h2, hk _ _ _ _ h3⟩

/-- Less is known: fewer slots, fewer blocks. -/
theorem awp.weaken {P : Program} {N : Nat} {c : Code} {K : Exit → Env → Heap → Nat → Prop} {env env' : Env} {H H' : Heap} {n : Nat} (h : awp P N c K env H n) (he : env.le env') (hh : H.le H') : awp P N c K env' H' n :=
  fun m0 H0 n0 w0 m a w hI hE => h m0 H0 n0 w0 m a w ⟨hI.rel.weaken hh, hI.le, hI.ag, hI.fr.weaken hh⟩ (hE.weaken he)

theorem awp_skip {P : Program} {N : Nat} {K : Exit → Env → Heap → Nat → Prop} {env : Env} {H : Heap} {n : Nat} (h : K .normal env H n) : awp P N .skip K env H n :=
  fun _ _ _ _ m _ _ hI hE => wp_skip ⟨m, env, H, n, hI, hE, h⟩
theorem awp_label {P : Program} {N l : Nat} {K : Exit → Env → Heap → Nat → Prop} {env : Env} {H : Heap} {n : Nat} (h : K .normal env H n) : awp P N (.label l) K env H n :=
  fun _ _ _ _ m _ _ hI hE => wp_label ⟨m, env, H, n, hI, hE, h⟩
theorem awp_ret {P : Program} {N : Nat} {K : Exit → Env → Heap → Nat → Prop} {env : Env} {H : Heap} {n : Nat} (h : K .ret env H n) : awp P N .ret K env H n :=
  fun _ _ _ _ m _ _ hI hE => wp_ret ⟨m, env, H, n, hI, hE, h⟩
theorem awp_exit {P : Program} {N id : Nat} {K : Exit → Env → Heap → Nat → Prop} {env : Env} {H : Heap} {n : Nat} (h : K (.exit id) env H n) : awp P N (.exit id) K env H n :=
  fun _ _ _ _ m _ _ hI hE => wp_exit ⟨m, env, H, n, hI, hE, h⟩
theorem awp_seq {P : Program} {N : Nat} {x y : Code} {K : Exit → Env → Heap → Nat → Prop} {env : Env} {H : Heap} {n : Nat} (h : awp P N x (seqK (awp P N y K) K) env H n) : awp P N (.seq x y) K env H n :=
  fun m0 H0 n0 w0 m a w hI hE => wp_seq (wp_mono (h m0 H0 n0 w0 m a w hI hE) fun e a' w' ⟨m', env', H', n', h1, h2, h3⟩ => by
    cases e <;> first | exact h3 m0 H0 n0 w0 m' a' w' h1 h2 | exact ⟨m', env', H', n', h1, h2, h3⟩)
theorem awp_block {P : Program} {N id : Nat} {x : Code} {K : Exit → Env → Heap → Nat → Prop} {env : Env} {H : Heap} {n : Nat} (h : awp P N x (blkK id K) env H n) : awp P N (.block id x) K env H n :=
  fun m0 H0 n0 w0 m a w hI hE => wp_block (wp_mono (h m0 H0 n0 w0 m a w hI hE) fun e a' w' ⟨m', env', H', n', h1, h2, h3⟩ => by
    cases e <;> first | exact ⟨m', env', H', n', h1, h2, h3⟩ | skip
    rename_i i
    simp only [blkK] at h3
    simp only [Exit.inBlock]
    split at h3
    · rename_i hi; rw [if_pos hi]; exact ⟨m', env', H', n', h1, h2, h3⟩
    · rename_i hi; rw [if_neg hi]; exact ⟨m', env', H', n', h1, h2, h3⟩)
theorem awp_cond {P : Program} {N : Nat} {c : Operand} {x y : Code} {K : Exit → Env → Heap → Nat → Prop} {env : Env} {H : Heap} {n : Nat} {t : Bool} (hc : opv env c = .bo t)
    (h1 : t = true → awp P N x K env H n) (h2 : t = false → awp P N y K env H n) : awp P N (.cond c x y) K env H n :=
  fun m0 H0 n0 w0 m a w hI hE => by
    have e := (eval_opv hE c (by rw [hc]; simp)).1
    rw [hc, AV.toV] at e
    exact wp_cond_split e (fun ht => h1 ht m0 H0 n0 w0 m a w hI hE) (fun ht => h2 ht m0 H0 n0 w0 m a w hI hE)

theorem awp_region {P : Program} {N id : Nat} {l : List Oper} {K : Exit → Env → Heap → Nat → Prop} {env : Env} {H : Heap} {n : Nat} (hd : dstsOk N l = true) (h : evOps P l l (K .normal) env H n) :
    awp P N (.region id l.toArray false) K env H n :=
  fun m0 H0 n0 w0 m a w hI hE => wp_region_lit (evOps_sound (all := l) (fun m env H n a w hk hI hE => ⟨m, env, H, n, hI, hE, hk⟩) l env H n m a w h hd hI hE)

/-- A LOOP, by states of a kind of one's own. -/
theorem awp_loop {P : Program} {N : Nat} {c : Code} {K : Exit → Env → Heap → Nat → Prop} {S : Type} (I : S → Env → Heap → Nat → Prop) (μ : S → Nat)
    (round : ∀ s env H n, I s env H n → awp P N c (seqK (fun env' H' n' => ∃ s', μ s' < μ s ∧ ∃ e2 H2, e2.le env' ∧ H2.le H' ∧ I s' e2 H2 n') K) env H n)
    {env : Env} {H : Heap} {n : Nat} (s0 : S) (h0 : ∃ e2 H2, e2.le env ∧ H2.le H ∧ I s0 e2 H2 n) : awp P N (.loop c) K env H n := by
  intro m0 H0 n0 w0 m a w hI hE b k cs
  have key : ∀ (j : Nat) (s : S) (env : Env) (H : Heap) (n : Nat) (m : NM) (a : Act) (w : World), μ s = j → I s env H n → Inv m0 H0 n0 w0 m H n w → ERel m N n env a →
      ∃ e a' w', (∃ m' env' H' n', Inv m0 H0 n0 w0 m' H' n' w' ∧ ERel m' N n' env' a' ∧ K e env' H' n') ∧ Arrives P (lone (b.at a (.code c :: .inLoop c :: k)) cs w) b k cs e a' w' := by
    intro j
    induction j using Nat.strongRecOn with
    | _ j ih =>
      intro s env H n m a w hj hs hI hE
      obtain ⟨e, a₁, w₁, ⟨m₁, env₁, H₁, n₁, hI₁, hE₁, hq⟩, harr⟩ := round s env H n hs m0 H0 n0 w0 m a w hI hE b (.inLoop c :: k) cs
      cases e with
      | normal =>
        obtain ⟨s', hlt, e2, H2, he, hh, hs'⟩ := hq
        obtain ⟨e₂, a₂, w₂, hq₂, harr₂⟩ := ih (μ s') (hj ▸ hlt) s' e2 H2 n₁ m₁ a₁ w₁ rfl hs' ⟨hI₁.rel.weaken hh, hI₁.le, hI₁.ag, hI₁.fr.weaken hh⟩ (hE₁.weaken he)
        exact ⟨e₂, a₂, w₂, hq₂, .of_steps (Steps.trans harr (.one step_inLoop)) harr₂⟩
      | exit id => exact ⟨_, a₁, w₁, ⟨m₁, env₁, H₁, n₁, hI₁, hE₁, hq⟩, .pass (x := .inLoop c) rfl (fun _ _ => .inl (by simp)) harr⟩
      | goto l => exact ⟨_, a₁, w₁, ⟨m₁, env₁, H₁, n₁, hI₁, hE₁, hq⟩, .pass (x := .inLoop c) rfl (fun _ _ => .inl (by simp)) harr⟩
      | ret => exact ⟨_, a₁, w₁, ⟨m₁, env₁, H₁, n₁, hI₁, hE₁, hq⟩, .pass (x := .inLoop c) rfl (fun _ _ => .inl (by simp)) harr⟩
      | panic ch => exact ⟨_, a₁, w₁, ⟨m₁, env₁, H₁, n₁, hI₁, hE₁, hq⟩, .pass (x := .inLoop c) rfl (fun _ _ => .inl (by simp)) harr⟩
      | outgrown => exact ⟨_, a₁, w₁, ⟨m₁, env₁, H₁, n₁, hI₁, hE₁, hq⟩, .pass (x := .inLoop c) rfl (fun _ _ => .inl (by simp)) harr⟩
  obtain ⟨e2, H2, he, hh, hs⟩ := h0
  obtain ⟨e, a', w', hq, harr⟩ := key _ s0 e2 H2 n m a w rfl hs ⟨hI.rel.weaken hh, hI.le, hI.ag, hI.fr.weaken hh⟩ (hE.weaken he)
  exact ⟨e, a', w', hq, .of_steps (.one step_loop) harr⟩

end Go.Ab
namespace Go.Ab

/-! ### Regions whose order is drawn: at the machine's own level -/
section
variable {P : Program} {ops : Array Oper} {Q : Exit → Act → World → Prop} {md : Region.Mode} {anc : Nat → Nat → Bool}

/-- Whatever order is picked, with conditions on the world that what was taken first needs. -/
def wpAnyL (P : Program) (md : Region.Mode) (ops : Array Oper) (Q : Exit → Act → World → Prop) (anc : Nat → Nat → Bool) : Nat → Array Bool → List (Nat × (World → Prop)) → Act → World → Prop
  | 0, listed, _, a, w => Region.ready md ops listed = [] ∧ Q .normal a w
  | fuel + 1, listed, cs, a, w =>
    (Region.ready md ops listed = [] → Q .normal a w) ∧
    ∀ i ∈ Region.ready md ops listed, wpOp P ops Q i (fun a' w' => (∀ c ∈ cs, anc c.1 i = false → c.2 w') ∧ wpAnyL P md ops Q anc fuel (listed.setIfInBounds i true) (cs.filter fun c => !anc c.1 i) a' w') a w

theorem wpAny_of_L : ∀ (fuel : Nat) (listed : Array Bool) (cs : List (Nat × (World → Prop))) (a : Act) (w : World), wpAnyL P md ops Q anc fuel listed cs a w → wpAny P md ops Q fuel listed a w
  | 0, _, _, _, _, h => h
  | fuel + 1, _, _, _, _, h => ⟨h.1, fun i hi => wpOp_mono (fun a' w' h' => wpAny_of_L fuel _ _ a' w' h'.2) (h.2 i hi)⟩

theorem wpAnyL_sub : ∀ (fuel : Nat) (listed : Array Bool) (cs cs' : List (Nat × (World → Prop))) (a : Act) (w : World), (∀ c ∈ cs', c ∈ cs) → wpAnyL P md ops Q anc fuel listed cs a w → wpAnyL P md ops Q anc fuel listed cs' a w
  | 0, _, _, _, _, _, _, h => h
  | fuel + 1, _, cs, cs', _, _, hs, h => ⟨h.1, fun i hi => wpOp_mono (fun a' w' h' => ⟨fun c hc => h'.1 c (hs c hc), wpAnyL_sub fuel _ _ _ a' w' (fun c hc => by
      simp only [List.mem_filter] at hc ⊢
      exact ⟨hs c hc.1, hc.2⟩) h'.2⟩) (h.2 i hi)⟩

def Closed (anc : Nat → Nat → Bool) (listed : Array Bool) : Prop := ∀ j, listed.getD j false = true → ∀ x, anc x j = true → listed.getD x false = true

/-- An ancestor is a direct one, or one of a direct one. -/
def AncOk (md : Region.Mode) (ops : Array Oper) (anc : Nat → Nat → Bool) : Prop := ∀ j x o, ops[j]? = some o → anc x j = true → ∃ e ∈ o.after, Region.binds md e = true ∧ (x = e.on ∨ anc x e.on = true)

theorem ready_anc (ha : AncOk md ops anc) {listed : Array Bool} (hc : Closed anc listed) {j : Nat} (hj : j ∈ Region.ready md ops listed) {x : Nat} (hx : anc x j = true) : listed.getD x false = true := by
  obtain ⟨_, o, ho, hall⟩ := mem_ready.1 hj
  obtain ⟨e, he, hb, hx⟩ := ha j x o ho hx
  have h1 := hall e he hb
  rcases hx with rfl | hx
  · exact h1
  · exact hc _ h1 _ hx

theorem Closed.set (ha : AncOk md ops anc) {listed : Array Bool} (hc : Closed anc listed) {j : Nat} (hj : j ∈ Region.ready md ops listed) : Closed anc (listed.setIfInBounds j true) := by
  intro i hi x hx
  by_cases e : i = j
  · subst e; exact getD_set_true (ready_anc ha hc hj hx)
  · rw [getD_set_ne false (Ne.symm e)] at hi
    exact getD_set_true (hc i hi x hx)

theorem unlisted_of {listed : Array Bool} {i : Nat} (h : listed.getD i true = false) : listed.getD i false = false := by
  rcases Nat.lt_or_ge i listed.size with h' | h'
  · simpa [h'] using h
  · simp [Array.getElem?_eq_none h'] at h

theorem wpAnyL_first (ha : AncOk md ops anc) {i : Nat} {oi : Oper} {v : Value} {C : World → Prop} (hi : ops[i]? = some oi) (hsel : ∀ (j : Nat) (o : Oper) cs b, ops[j]? = some o → o.op ≠ .select cs b)
    (hQ : ∀ c a w, Q (.panic c) (a.put oi.dst v) w → Q (.panic c) a w) :
    ∀ (fuel : Nat) (listed : Array Bool) (cs : List (Nat × (World → Prop))) (a : Act) (w : World), Closed anc listed →
      (∀ j oj, ops[j]? = some oj → j ≠ i → listed.getD j true = false → anc i j = false → oi.apart ops oj = true) →
      i ∈ Region.ready md ops listed → YieldsIf P ops C oi v a → C w → (∀ c ∈ cs, c.2 w) →
      wpAnyL P md ops Q anc fuel (listed.setIfInBounds i true) ((i, C) :: cs) (a.put oi.dst v) w → wpAnyL P md ops Q anc (fuel + 1) listed cs a w := by
  intro fuel
  induction fuel with
  | zero =>
    intro listed cs a w hcl _ hr hy hS hcs H
    refine ⟨fun h => (by rw [h] at hr; cases hr), fun j hj => ?_⟩
    by_cases hji : j = i
    · subst hji; exact hy.wpOp hi hS ⟨fun c hc _ => hcs c hc, H⟩
    · have := ready_mono hj hji
      rw [H.1] at this
      cases this
  | succ fuel ih =>
    intro listed cs a w hcl hfree hr hy hS hcs H
    refine ⟨fun h => (by rw [h] at hr; cases hr), fun j hj => ?_⟩
    by_cases hji : j = i
    · subst hji
      refine hy.wpOp hi hS ⟨fun c hc _ => hcs c hc, wpAnyL_sub _ _ _ _ _ _ (fun c hc => ?_) H⟩
      exact List.mem_cons_of_mem _ (List.mem_filter.1 hc).1
    · have h1 := H.2 j (ready_mono hj hji)
      obtain ⟨hjun, oj, hoj, hall⟩ := mem_ready.1 hj
      have hiun := unlisted_of (mem_ready.1 hr).1
      have hnot : anc i j = false := by
        cases hx : anc i j
        · rfl
        · rw [ready_anc ha hcl hj hx] at hiun; cases hiun
      have h2 := wpOp_putIf hoj (hfree j oj hoj hji hjun hnot) (fun cs b => hsel i oi cs b hi) (fun cs b => hsel j oj cs b hoj) hQ hy h1
      have hfree' : ∀ k ok, ops[k]? = some ok → k ≠ i → (listed.setIfInBounds j true).getD k true = false →
          anc i k = false → oi.apart ops ok = true := fun k ok hk hki hun hno => by
        refine hfree k ok hk hki ?_ hno
        by_cases hjk : j = k
        · subst hjk; exact hjun
        · rw [getD_set_ne true hjk] at hun; exact hun
      refine wpOp_mono (fun a' w' h3 => ⟨fun c hc hx => h3.2.1 c (List.mem_cons_of_mem _ hc) hx, ih (listed.setIfInBounds j true) (cs.filter fun c => !anc c.1 j) a' w' (hcl.set ha hj) hfree' (ready_mono hr (Ne.symm hji)) h3.1
        (h3.2.1 (i, C) (List.mem_cons_self) hnot) (fun c hc => ?_) ?_⟩) h2
      · simp only [List.mem_filter] at hc
        exact h3.2.1 c (List.mem_cons_of_mem _ hc.1) (by simpa using hc.2)
      · rw [Array.setIfInBounds_comm _ _ hji]
        have := h3.2.2
        rw [List.filter_cons_of_pos (by simp [hnot])] at this
        exact this

end
end Go.Ab
namespace Go.Ab

def nilH : Heap := fun _ => none
theorem nilH_rel (m : NM) (n : Nat) (w : World) : HRel m nilH n w := ⟨fun _ _ h => by simp [nilH] at h, fun _ _ h => by simp [nilH] at h, fun _ _ _ _ h => by simp [nilH] at h, fun _ _ h => by simp [nilH] at h⟩

/-- Operations that leave memory alone, and do not ask it. -/
def lightOp : Op → Bool
  | .move _ | .assign _ | .pick _ _ _ | .nilCheck _ | .binOp _ _ _ _ _ | .unOp _ _ _ | .convert _ _ _ | .makeInterface _ _ | .makeFunc _ _ _ | .slice _ _ _ _ _ | .fieldAddr _ _ _ | .field _ _ _
  | .indexAddr _ _ _ | .index _ _ _ | .extract _ _ | .build _ _ => true
  | .call ⟨.builtin .len, _, _⟩ | .call ⟨.builtin .cap, _, _⟩ | .call ⟨.builtin .max, _, _⟩ | .call ⟨.builtin .min, _, _⟩ => true
  | _ => false
def isLoad : Op → Bool
  | .load _ _ => true
  | _ => false

theorem light_sound {P : Program} {env : Env} {n : Nat} {o : Oper} (hc : lightOp o.op = true) {K : AV → Prop} (h : evOp P env nilH n o.op (fun v _ _ => K v)) : ∃ v, K v ∧ PureOk P env o v := by
  have pure : pureK P env o.op (atK (fun v _ _ => K v) nilH n) → ∃ v, K v ∧ PureOk P env o v := fun h => pure_sound h
  cases ho : o.op <;> rw [ho] at h hc pure <;> simp only [lightOp, Bool.false_eq_true] at hc <;> simp only [evOp] at h <;> try exact pure h
  case build t parts => exact build_sound ho h
  case convert s d x =>
    split at h
    · rename_i hc
      obtain ⟨v, hv, hr⟩ := b2s_sound (K := K) ho hc h
      exact ⟨v, hv, pureOk_of fun m N n a ha => ⟨fun w => (hr m N n a w (nilH_rel m n w) ha).1, (hr m N n a (default : World) (nilH_rel m n _) ha).2⟩⟩
    · exact pure h
  case slice t x lo hi mx =>
    split at h
    · exfalso
      obtain ⟨_, h⟩ := h
      unfold sliceSu at h
      split at h
      · rename_i hb _ _; simp [nilH] at hb
      · exact h
    · exact pure h
  case call c =>
    obtain ⟨callee, args, ts⟩ := c
    cases callee <;> first | (simp only [lightOp, Bool.false_eq_true] at hc; done) | skip
    rename_i b
    simp only [evCall] at h
    split at h <;> try exact h.elim
    all_goals rename_i hargs hts
    · rw [array_one hargs, array_one hts] at ho; exact len_sound ho h
    · rw [array_one hargs, array_one hts] at ho; exact cap_sound ho h
    · rw [array_two hts] at ho; exact max_sound ho h
    · rw [array_two hts] at ho; exact min_sound ho h
    · simp only [lightOp, Bool.false_eq_true] at hc
    · simp only [lightOp, Bool.false_eq_true] at hc

/-! What may be made ahead of its turn: a new block whose cells are known. -/
def earlyT (P : Program) : Op → Option (List AV × TypeId × (Nat → AV))
  | .alloc t => match zeroT P t with
    | some z => some (z, t, fun n => .pt n 0)
    | none => none
  | .makeSlice t (.const (.int .i64 ln)) (.const (.int .i64 cp)) => match elT P t with
    | some (e, sz, by_) => match zeroT P e with
      | some z => if z.length = sz ∧ 0 ≤ ln ∧ ln ≤ cp ∧ by_ * cp ≤ 281474976710656 ∧ cp ≤ 9223372036854775807 then some (repCells cp.toNat z, e, fun n => .sl n 0 ln.toNat cp.toNat) else none
      | none => none
    | none => none
  | _ => none

theorem repCells_mem {k : Nat} {z : List AV} {v : AV} (h : v ∈ repCells k z) : v ∈ z := by
  simp only [repCells] at h
  simp only [List.mem_flatten, List.mem_replicate] at h
  obtain ⟨l, ⟨_, rfl⟩, hv⟩ := h
  exact hv

theorem early_val {P : Program} {op : Op} {z : List AV} {t : TypeId} {f : Nat → AV} (h : earlyT P op = some (z, t, f)) :
    (∀ (m m' : NM) (i j : Nat), m.ρ i = m'.ρ j → m.β i = m'.β j → AV.toV m (f i) = AV.toV m' (f j)) ∧ (∀ n, (f n).ok (n + 1) = true) ∧ (∀ n, f n ≠ .junk) ∧ ∀ v ∈ z, (∀ n, v.ok n = true) ∧ v.one = true := by
  unfold earlyT at h
  split at h
  · split at h <;> simp only [Option.some.injEq, Prod.mk.injEq, reduceCtorEq] at h
    rename_i z' hz
    obtain ⟨rfl, rfl, rfl⟩ := h
    obtain ⟨zv, hzr, hzm, hzok⟩ := zeroT_spec hz
    exact ⟨fun m m' i j e e' => by simp [AV.toV, e, e'], fun n => by simp [AV.ok], fun n => by simp, hzok⟩
  · split at h
    · split at h
      · split at h <;> simp only [Option.some.injEq, Prod.mk.injEq, reduceCtorEq] at h
        rename_i z' hz _
        obtain ⟨rfl, rfl, rfl⟩ := h
        obtain ⟨zv, hzr, hzm, hzok⟩ := zeroT_spec hz
        exact ⟨fun m m' i j e e' => by simp [AV.toV, e, e'], fun n => by simp [AV.ok], fun n => by simp, fun v hv => hzok v (repCells_mem hv)⟩
      · simp at h
    · simp at h
  · simp at h

theorem early_run {P : Program} {o : Oper} {z : List AV} {t : TypeId} {f : Nat → AV} (h : earlyT P o.op = some (z, t, f)) {m : NM} {N n : Nat} {H : Heap} {env : Env} {a : Act} {w : World} (hH : HRel m H n w) (hE : ERel m N n env a) :
    OpRes m H n w (f n) (H.upd n (some ⟨z, t, false⟩)) (n + 1) ((execOp a.eval o).run P w) := by
  unfold earlyT at h
  split at h
  · rename_i t' ho
    split at h <;> simp only [Option.some.injEq, Prod.mk.injEq, reduceCtorEq] at h
    rename_i z' hz
    obtain ⟨rfl, rfl, rfl⟩ := h
    exact alloc_sound ho hz m n a w hH
  · rename_i t' ln cp ho
    split at h
    · rename_i e sz by_ hel
      split at h
      · rename_i z' hz
        split at h <;> simp only [Option.some.injEq, Prod.mk.injEq, reduceCtorEq] at h
        rename_i hc
        obtain ⟨h0, h1, h2, h3, h4⟩ := hc
        obtain ⟨rfl, rfl, rfl⟩ := h
        exact makeSlice_sound (env := env) ho hel hz h0 rfl rfl h1 h2 h3 h4 m N n a w hH hE
      · simp at h
    · simp at h
  · simp at h

theorem early_ev {P : Program} {op : Op} {z : List AV} {t : TypeId} {f : Nat → AV} (h : earlyT P op = some (z, t, f)) {n : Nat} {H : Heap} {env : Env} {K : AV → Heap → Nat → Prop} (he : evOp P env H n op K) :
    K (f n) (H.upd n (some ⟨z, t, false⟩)) (n + 1) := by
  unfold earlyT at h
  split at h
  · split at h <;> simp only [Option.some.injEq, Prod.mk.injEq, reduceCtorEq] at h
    rename_i z' hz
    obtain ⟨rfl, rfl, rfl⟩ := h
    simp only [evOp, hz] at he
    exact he
  · split at h
    · rename_i e sz by_ hel
      split at h
      · rename_i z' hz
        split at h <;> simp only [Option.some.injEq, Prod.mk.injEq, reduceCtorEq] at h
        obtain ⟨rfl, rfl, rfl⟩ := h
        simp only [evOp, hel, hz, opv, ofV] at he
        exact he.2.2.2.2.2
      · simp at h
    · simp at h
  · simp at h

/-! ### The region, evaluated in one order -/
abbrev RD := List (Nat × TypeId × AV × AV)
def litK (k : Env → Heap → Nat → Prop) (dst : Option Tmp) (env : Env) (H : Heap) (n : Nat) (v : AV) (_ : Heap) (_ : Nat) : Prop := k (putE dst v env) H n
def chk (P : Program) (H : Heap) (ws : List Nat) : RD → Prop
  | [] => True
  | (i, t, a, v) :: r => (ws.contains i = true → loadK P H t a (· = v)) ∧ chk P H ws r
def stopK (P : Program) (ws : List Nat) (rd : RD) (k : RD → Env → Heap → Nat → Prop) (dst : Option Tmp) (env : Env) (v : AV) (H : Heap) (n : Nat) : Prop := chk P H ws rd ∧ k rd (putE dst v env) H n
def ldK (k : RD → Env → Heap → Nat → Prop) (i : Nat) (t : TypeId) (a : AV) (rd : RD) (dst : Option Tmp) (env : Env) (H : Heap) (n : Nat) (v : AV) : Prop := k ((i, t, a, v) :: rd) (putE dst v env) H n

def drawOp (P : Program) (o : Oper) (i : Nat) (ws : List Nat) (k : RD → Env → Heap → Nat → Prop) (rd : RD) (env : Env) (H : Heap) (n : Nat) : Prop :=
  match o.op with
  | .load t a => loadK P H t (opv env a) (ldK k i t (opv env a) rd o.dst env H n)
  | op => if lightOp op then evOp P env nilH n op (litK (k rd) o.dst env H n) else evOp P env H n op (stopK P ws rd k o.dst env)

def drawK (P : Program) (all : List Oper) (k : Env → Heap → Nat → Prop) : List (Nat × List Nat) → RD → Env → Heap → Nat → Prop
  | [], _, env, H, n => k env H n
  | (i, ws) :: r, rd, env, H, n => match all[i]? with
    | none => False
    | some o => match o.guard with
      | none => drawOp P o i ws (drawK P all k r) rd env H n
      | some (j, want) => match (all[j]?).bind (·.dst) with
        | none => False
        | some t => match env.get t with
          | .bo c => (c = want → drawOp P o i ws (drawK P all k r) rd ((t, .bo want) :: env) H n) ∧ (c = (!want) → drawK P all k r rd (putE o.dst (.tu []) ((t, .bo (!want)) :: env)) H n)
          | .tu [] => drawK P all k r rd (putE o.dst (.tu []) env) H n
          | _ => False

/-- How a region is looked at: whom each waits for; an order, with the loads that each is to leave alone; what may be made ahead of its turn. -/
structure Draw where
  anc : List Nat := []
  ord : List (Nat × List Nat) := []
  es : List (Nat × Nat) := []

def Draw.before (D : Draw) (x j : Nat) : Bool := (D.anc.getD j 0).testBit x
def edgesOf (o : Oper) : List Nat := (o.after.toList.filter fun e => Region.binds .any e).map (·.on)
def maskOf (A : List Nat) (l : List Nat) : Nat := l.foldl (fun acc e => acc ||| (1 <<< e ||| A.getD e 0)) 0

def pairOk (l : List Oper) (D : Draw) (p q : Nat × List Nat) : Bool :=
  p.1 != q.1 && !D.before q.1 p.1 &&
  match l[p.1]?, l[q.1]? with
  | some oi, some oj =>
    (D.before p.1 q.1 || oi.apart l.toArray oj) &&
    (lightOp oi.op || isLoad oi.op || D.before p.1 q.1 || D.es.any (·.1 == q.1)) &&
    (!isLoad oi.op || lightOp oj.op || isLoad oj.op || D.before p.1 q.1 || q.2.contains p.1)
  | _, _ => false
def pairsOk (l : List Oper) (D : Draw) : List (Nat × List Nat) → Bool
  | [] => true
  | p :: r => r.all (pairOk l D p) && pairsOk l D r
def ancsOk (l : List Oper) (D : Draw) : Bool := (List.range l.length).all fun i => match l[i]? with
  | some o => D.anc.getD i 0 == maskOf D.anc (edgesOf o) && (edgesOf o).all (fun e => decide (e < l.length)) && !D.before i i
  | none => false
def earlyOk (P : Program) (l : List Oper) (D : Draw) : Bool := D.es.all fun p => (match l[p.1]? with
  | some o => o.dst == some p.2 && o.guard.isNone && (earlyT P o.op).isSome
  | none => false) && (List.range l.length).all fun i => i == p.1 || match l[i]? with
    | some o => o.dst != some p.2
    | none => false
def drawOk (P : Program) (N : Nat) (l : List Oper) (D : Draw) : Bool :=
  dstsOk N l && Region.noSelect l.toArray && ancsOk l D && pairsOk l D D.ord && earlyOk P l D &&
  (List.range l.length).all (fun i => D.ord.any (·.1 == i)) && D.ord.all (fun p => decide (p.1 < l.length))

theorem testBit_maskOf (A l : List Nat) (x : Nat) : (maskOf A l).testBit x = l.any fun e => e == x || (A.getD e 0).testBit x := by
  have key : ∀ (l : List Nat) (acc : Nat), (l.foldl (fun acc e => acc ||| (1 <<< e ||| A.getD e 0)) acc).testBit x = (acc.testBit x || l.any fun e => e == x || (A.getD e 0).testBit x) := by
    intro l
    induction l with
    | nil => intro acc; simp
    | cons e r ih =>
      intro acc
      simp only [List.foldl_cons, List.any_cons]
      rw [ih, Nat.testBit_or, Nat.testBit_or, Nat.one_shiftLeft, Nat.testBit_two_pow]
      have : decide (e = x) = (e == x) := rfl
      rw [this]
      simp only [Bool.or_assoc]
  rw [maskOf, key]
  simp only [Nat.zero_testBit, Bool.false_or]

structure DrawSpec (P : Program) (N : Nat) (l : List Oper) (D : Draw) : Prop where
  mem : ∀ x, x < l.length → ∃ p ∈ D.ord, p.1 = x
  lt : ∀ p ∈ D.ord, p.1 < l.length
  pairs : D.ord.Pairwise (fun p q => pairOk l D p q = true)
  edges : ∀ (i : Nat) (o : Oper), l[i]? = some o → ∀ e ∈ o.after, Region.binds .any e = true → D.before e.on i = true ∧ e.on < l.length
  self : ∀ i, i < l.length → D.before i i = false
  anc : AncOk .any l.toArray D.before
  dsts : ∀ (i : Nat) (o : Oper), l[i]? = some o → ∀ d, o.dst = some d → d < N
  nosel : Region.noSelect l.toArray = true
  es : ∀ p ∈ D.es, ∃ o : Oper, l[p.1]? = some o ∧ o.dst = some p.2 ∧ o.guard = none ∧ (∃ q, earlyT P o.op = some q) ∧ ∀ (i : Nat) (oi : Oper), l[i]? = some oi → i ≠ p.1 → oi.dst ≠ some p.2

theorem pairsOk_spec {l : List Oper} {D : Draw} : ∀ {r : List (Nat × List Nat)}, pairsOk l D r = true → r.Pairwise (fun p q => pairOk l D p q = true)
  | [], _ => .nil
  | p :: r, h => by
    simp only [pairsOk, Bool.and_eq_true, List.all_eq_true] at h
    exact .cons h.1 (pairsOk_spec h.2)

theorem drawOk_spec {P : Program} {N : Nat} {l : List Oper} {D : Draw} (h : drawOk P N l D = true) : DrawSpec P N l D := by
  simp only [drawOk, Bool.and_eq_true] at h
  obtain ⟨⟨⟨⟨⟨⟨h1, h2⟩, h3⟩, h4⟩, h5⟩, h6⟩, h7⟩ := h
  have hanc : ∀ i o, l[i]? = some o → D.anc.getD i 0 = maskOf D.anc (edgesOf o) ∧ (∀ e ∈ edgesOf o, e < l.length) ∧ D.before i i = false := fun i o ho => by
    simp only [ancsOk, List.all_eq_true, List.mem_range] at h3
    have := h3 i (List.getElem?_eq_some_iff.1 ho).1
    rw [ho] at this
    simp only [Bool.and_eq_true, beq_iff_eq, List.all_eq_true, decide_eq_true_eq, Bool.not_eq_true'] at this
    exact ⟨this.1.1, this.1.2, this.2⟩
  have hmem : ∀ (o : Oper) (e : Edge), e ∈ o.after → Region.binds .any e = true → e.on ∈ edgesOf o := fun o e he hb => by
    simp only [edgesOf, List.mem_map, List.mem_filter]
    exact ⟨e, ⟨by simpa using he, hb⟩, rfl⟩
  refine ⟨fun x hx => ?_, fun p hp => ?_, pairsOk_spec h4, fun i o ho e he hb => ?_, fun i hi => ?_, fun j x o ho hx => ?_, fun i o ho d hd => ?_, h2, fun p hp => ?_⟩
  · simp only [List.all_eq_true, List.mem_range, List.any_eq_true, beq_iff_eq] at h6
    exact h6 x hx
  · simp only [List.all_eq_true, decide_eq_true_eq] at h7
    exact h7 p hp
  · obtain ⟨a1, a2, _⟩ := hanc i o ho
    refine ⟨?_, a2 _ (hmem o e he hb)⟩
    simp only [Draw.before, a1, testBit_maskOf, List.any_eq_true]
    exact ⟨e.on, hmem o e he hb, by simp⟩
  · exact (hanc i _ (List.getElem?_eq_getElem hi)).2.2
  · rw [List.getElem?_toArray] at ho
    obtain ⟨a1, _, _⟩ := hanc j o ho
    simp only [Draw.before, a1, testBit_maskOf, List.any_eq_true] at hx
    obtain ⟨e, he, hx⟩ := hx
    simp only [edgesOf, List.mem_map, List.mem_filter] at he
    obtain ⟨e', ⟨he', hb⟩, rfl⟩ := he
    refine ⟨e', by simpa using he', hb, ?_⟩
    simp only [Bool.or_eq_true, beq_iff_eq] at hx
    exact hx.imp Eq.symm id
  · have := List.all_eq_true.1 h1 o (List.mem_of_getElem? ho)
    rw [hd] at this
    simpa using this
  · have := List.all_eq_true.1 h5 p hp
    simp only [Bool.and_eq_true] at this
    obtain ⟨t1, t2⟩ := this
    cases ho : l[p.1]? with
    | none => rw [ho] at t1; simp at t1
    | some o =>
      rw [ho] at t1
      simp only [Bool.and_eq_true, beq_iff_eq, Option.isNone_iff_eq_none, Option.isSome_iff_exists] at t1
      refine ⟨o, rfl, t1.1.1, t1.1.2, t1.2, fun i oi hi hne => ?_⟩
      have := List.all_eq_true.1 t2 i (List.mem_range.2 (List.getElem?_eq_some_iff.1 hi).1)
      rw [hi] at this
      simpa [hne] using this
end Go.Ab
namespace Go.Ab

theorem filter_lt {α : Type} {p q : α → Bool} (h : ∀ x, p x = true → q x = true) : ∀ {l : List α} {x : α}, x ∈ l → q x = true → p x = false → (l.filter p).length < (l.filter q).length := by
  have le : ∀ l : List α, (l.filter p).length ≤ (l.filter q).length := fun l => by
    induction l with
    | nil => simp
    | cons a r ih =>
      simp only [List.filter_cons]
      cases hp : p a
      · cases q a <;> simp <;> omega
      · rw [h a hp]; simp; omega
  intro l
  induction l with
  | nil => intro x hx; simp at hx
  | cons a r ih =>
    intro x hx hq hp
    simp only [List.filter_cons]
    rcases List.mem_cons.1 hx with rfl | hx
    · rw [hq, hp]; simp; exact Nat.lt_succ_of_le (le r)
    · have := ih hx hq hp
      cases hpa : p a
      · cases q a <;> simp <;> omega
      · rw [h a hpa]; simp; omega

theorem loadK_upd {P : Program} {H : Heap} {t : TypeId} {a : AV} {K : AV → Prop} {n : Nat} {x : Option Blk} (hn : H n = none) (h : loadK P H t a K) : loadK P (H.upd n x) t a K := by
  unfold loadK at *
  split at h <;> try exact h.elim
  rename_i b off
  have hb : H b ≠ none := fun e => by rw [e] at h; exact h
  have hne : b ≠ n := fun e => hb (e ▸ hn)
  simp only [Heap.upd_ne _ _ hne]
  exact h

theorem getD_put_ne {a : Act} {dst : Option Tmp} {x : Value} {d : Nat} (h : dst ≠ some d) : (a.put dst x).tmps.getD d undef = a.tmps.getD d undef := by
  cases dst with
  | none => rfl
  | some e =>
    have hne : e ≠ d := fun h' => h (h' ▸ rfl)
    simp [Act.put, Array.getD_eq_getD_getElem?, Array.getElem?_setIfInBounds_ne hne]

theorem ERel.put_junk {m : NM} {N n : Nat} {env : Env} {a : Act} (h : ERel m N n env a) {d : Nat} (hj : env.get d = .junk) (x : Value) : ERel m N n env (a.put (some d) x) where
  size := by simp [Act.put, h.size]
  defers := by simp [Act.put, h.defers]
  get := fun t ht => by
    rw [getD_put_ne (fun e => ht (by simp only [Option.some.injEq] at e; rw [← e]; exact hj))]
    exact h.get t ht

def LC (P : Program) (m : NM) (n : Nat) (t : TypeId) (adr v : AV) (w : World) : Prop := ∃ m' H' n', HRel m' H' n' w ∧ n ≤ n' ∧ NM.agree n m m' ∧ loadK P H' t adr (· = v)

/-- A block that was made ahead of its turn: nobody has a name for it yet. -/
structure Early (P : Program) (l : List Oper) (D : Draw) (w0 : World) (m : NM) (H : Heap) (a : Act) (w : World) (j : Nat) (mE : NM) (nE : Nat) (o : Oper) (z : List AV) (t : TypeId) (f : Nat → AV) (d : Nat) : Prop where
  es : (j, d) ∈ D.es
  op : l[j]? = some o
  dst : o.dst = some d
  guard : o.guard = none
  early : earlyT P o.op = some (z, t, f)
  blk : HRel mE (nilH.upd nE (some ⟨z, t, false⟩)) (nE + 1) w
  tmp : a.tmps.getD d undef = AV.toV mE (f nE)
  base : w0.heap.size ≤ mE.ρ nE
  lt : mE.ρ nE < w.heap.size
  free : ∀ i b, H i = some b → m.ρ i ≠ mE.ρ nE

theorem HRel.single {mE : NM} {nE : Nat} {b : Blk} {w w' : World} (h : HRel mE (nilH.upd nE (some b)) (nE + 1) w) (hk : w'.heap[mE.ρ nE]? = w.heap[mE.ρ nE]?) : HRel mE (nilH.upd nE (some b)) (nE + 1) w' where
  dom := h.dom
  blk := fun i x hi => by
    have e : i = nE := by
      by_cases hn : i = nE
      · exact hn
      · rw [Heap.upd_ne _ _ hn] at hi; simp [nilH] at hi
    subst e
    obtain ⟨c, fz, hc, r⟩ := h.blk i x hi
    exact ⟨c, fz, by rw [hk]; exact hc, r⟩
  inj := h.inj
  ok := h.ok

section
variable {P : Program} {l : List Oper} {D : Draw} {w0 : World} {m : NM} {H : Heap} {a : Act} {w : World} {j : Nat} {mE : NM} {nE : Nat} {o : Oper} {z : List AV} {t : TypeId} {f : Nat → AV} {d : Nat}

theorem Early.put (h : Early P l D w0 m H a w j mE nE o z t f d) {dst : Option Tmp} (hne : dst ≠ some d) (x : Value) : Early P l D w0 m H (a.put dst x) w j mE nE o z t f d :=
  { h with tmp := by rw [getD_put_ne hne]; exact h.tmp }

theorem Early.step (h : Early P l D w0 m H a w j mE nE o z t f d) {m' : NM} {H' : Heap} {w' : World} (hf : Fr m H w m' H' w') : Early P l D w0 m' H' a w' j mE nE o z t f d :=
  { h with
    blk := h.blk.single (hf.keep _ h.lt fun i b hi _ => h.free i b hi)
    lt := by have := hf.size; have := h.lt; omega
    free := fun i b hi => by
      rcases hf.own i b hi with ⟨j, bj, hj, _, e⟩ | hge
      · rw [← e]; exact h.free j bj hj
      · have := h.lt; omega }

theorem Early.adopt (h : Early P l D w0 m H a w j mE nE o z t f d) {m0 : NM} {H0 : Heap} {n0 n : Nat} (hI : Inv m0 H0 n0 w0 m H n w) {N : Nat} {env : Env} (hE : ERel m N n env a) :
    ∃ m', (∀ i, i ≠ n → m'.ρ i = m.ρ i) ∧ m'.ρ n = mE.ρ nE ∧ NM.agree n m m' ∧ Inv m0 H0 n0 w0 m' (H.upd n (some ⟨z, t, false⟩)) (n + 1) w ∧ ERel m' N (n + 1) (putE o.dst (f n) env) a := by
  obtain ⟨c, fz, hc, hk, hfz, hv⟩ := h.blk.blk nE ⟨z, t, false⟩ (Heap.upd_same _ _ _)
  obtain ⟨hβ, hfz⟩ := hfz rfl
  rw [hβ, Nat.zero_add] at hk
  obtain ⟨hval, hok, hj, hz⟩ := early_val h.early
  have hag := NM.new_agree m n (mE.ρ nE) (mE.κ nE)
  have hold : ∀ i b, (H.upd n (some ⟨z, t, false⟩)) i = some b → i ≠ n → H i = some b := fun i b hi hne => by rwa [Heap.upd_ne _ _ hne] at hi
  refine ⟨m.new n (mE.ρ nE) (mE.κ nE), fun i hi => by simp [NM.new, hi], by simp [NM.new], hag, ⟨⟨?_, ?_, ?_, ?_⟩, by have := hI.le; omega, hI.ag.trans hag hI.le, ?_⟩, ?_⟩
  · intro i b hi
    by_cases hn : i = n
    · omega
    · have := hI.rel.dom i b (hold i b hi hn); omega
  · intro i b hi
    by_cases hn : i = n
    · subst hn
      rw [Heap.upd_same] at hi
      simp only [Option.some.injEq] at hi; subst hi
      refine ⟨c, fz, by simpa [NM.new] using hc, by simpa [NM.new] using hk, fun _ => ⟨by simp [NM.new], hfz⟩, fun q v hq => ?_⟩
      have hv' := hv q v hq
      rw [hβ] at hv'
      rw [show (m.new i (mE.ρ nE) (mE.κ nE)).β i = 0 by simp [NM.new], hv', AV.toV_agree (n := 0) (m := mE) (m' := m.new i (mE.ρ nE) (mE.κ nE)) (fun i hi => absurd hi (Nat.not_lt_zero _)) v ((hz v (List.mem_of_getElem? hq)).1 0)]
    · have hi' := hold i b hi hn
      obtain ⟨c', fz', hc', hk', hf', hv'⟩ := hI.rel.blk i b hi'
      refine ⟨c', fz', by simp only [NM.new, if_neg hn]; exact hc', by simp only [NM.new, if_neg hn]; exact hk', fun h0 => ⟨by simp only [NM.new, if_neg hn]; exact (hf' h0).1, (hf' h0).2⟩, fun q v hq => ?_⟩
      rw [show (m.new n (mE.ρ nE) (mE.κ nE)).β i = m.β i by simp only [NM.new, if_neg hn], hv' q v hq, AV.toV_agree hag v (hI.rel.ok i b hi' v (List.mem_of_getElem? hq)).1]
  · intro i q bi bq hi hq hne hro
    by_cases hni : i = n
    · subst hni
      have := h.free q bq (hold q bq hq (fun e => hne e.symm))
      simp only [NM.new, if_true]; rw [if_neg (fun e => hne e.symm)]; exact fun e => this e.symm
    · by_cases hnq : q = n
      · subst hnq
        have := h.free i bi (hold i bi hi hni)
        simp only [NM.new, if_true]; rw [if_neg hni]; exact this
      · simp only [NM.new]; rw [if_neg hni, if_neg hnq]; exact hI.rel.inj i q bi bq (hold i bi hi hni) (hold q bq hq hnq) hne hro
  · intro i b hi v hv
    by_cases hn : i = n
    · subst hn
      rw [Heap.upd_same] at hi
      simp only [Option.some.injEq] at hi; subst hi
      exact ⟨(hz v hv).1 _, (hz v hv).2⟩
    · have := hI.rel.ok i b (hold i b hi hn) v hv
      exact ⟨AV.ok_mono (by omega) v this.1, this.2⟩
  · refine ⟨hI.fr.os, hI.fr.tape, hI.fr.output, hI.fr.size, hI.fr.keep, fun i b hi => ?_⟩
    by_cases hn : i = n
    · subst hn; right; simpa [NM.new] using h.base
    · rcases hI.fr.own i b (hold i b hi hn) with ⟨q, bq, hq, hr, e⟩ | hge
      · exact .inl ⟨q, bq, hq, hr, by simpa [NM.new, hn] using e⟩
      · exact .inr (by simpa [NM.new, hn] using hge)
  · have hE' := hE.agree hag (Nat.le_succ n)
    rw [h.dst]
    exact ⟨hE'.size, hE'.defers, fun u hu => by
      simp only [putE, Env.get] at hu ⊢
      split at hu
      · rename_i e; subst e
        rw [if_pos rfl]
        refine ⟨?_, hok n⟩
        rw [h.tmp]
        exact hval _ _ _ _ (by simp [NM.new]) (by simp [NM.new, hβ])
      · rename_i e; rw [if_neg e]; exact hE'.get u hu⟩
end
end Go.Ab
namespace Go.Ab

def drawQ (N : Nat) (k : Env → Heap → Nat → Prop) (m0 : NM) (H0 : Heap) (n0 : Nat) (w0 : World) (e : Exit) (a : Act) (w : World) : Prop :=
  e = .normal ∧ ∃ m env H n, k env H n ∧ Inv m0 H0 n0 w0 m H n w ∧ ERel m N n env a

abbrev ER := Nat × NM × Nat

structure St (P : Program) (N : Nat) (l : List Oper) (D : Draw) (m0 : NM) (H0 : Heap) (n0 : Nat) (w0 : World)
    (pre rest : List (Nat × List Nat)) (rd : RD) (ers : List ER) (fuel : Nat) (listed : Array Bool) (cs : List (Nat × (World → Prop))) (env : Env) (H : Heap) (n : Nat) (m : NM) (a : Act) (w : World) : Prop where
  ord : D.ord = pre ++ rest
  inv : Inv m0 H0 n0 w0 m H n w
  erel : ERel m N n env a
  lst : ∀ x, listed.getD x false = true ↔ (x ∈ pre.map (·.1) ∨ x ∈ ers.map (·.1))
  siz : listed.size = l.length
  closed : Closed D.before listed
  cnt : (rest.filter fun p => !(ers.map (·.1)).contains p.1).length ≤ fuel
  ersIn : ∀ r ∈ ers, r.1 ∈ rest.map (·.1)
  ersOk : ∀ r ∈ ers, ∃ o z t f d, Early P l D w0 m H a w r.1 r.2.1 r.2.2 o z t f d
  ersNe : ∀ r ∈ ers, ∀ s ∈ ers, r.1 ≠ s.1 → r.2.1.ρ r.2.2 ≠ s.2.1.ρ s.2.2
  msk : ∀ p ∈ D.es, p.1 ∈ rest.map (·.1) → env.get p.2 = .junk
  conds : ∀ c ∈ cs, (∀ w, c.2 w) ∨ ((∃ o, l[c.1]? = some o ∧ isLoad o.op = true) ∧ c.1 ∈ pre.map (·.1) ∧ ∃ t adr v mc nc, (c.1, t, adr, v) ∈ rd ∧ c.2 = LC P mc nc t adr v ∧ nc ≤ n ∧ NM.agree nc mc m ∧ loadK P H t adr (· = v))

section
variable {P : Program} {N : Nat} {l : List Oper} {D : Draw} {k : Env → Heap → Nat → Prop} {m0 : NM} {H0 : Heap} {n0 : Nat} {w0 : World}
variable {pre rest r : List (Nat × List Nat)} {rd : RD} {ers : List ER} {fuel : Nat} {listed : Array Bool} {cs : List (Nat × (World → Prop))} {env : Env} {H : Heap} {n : Nat} {m : NM} {a : Act} {w : World}
variable {i : Nat} {ws : List Nat} {o : Oper}

theorem getD_listed {x : Nat} (hs : listed.size = l.length) (hx : x < l.length) : listed.getD x true = listed.getD x false := by
  simp [hs, hx]

theorem St.pairL (hs : DrawSpec P N l D) (h : St P N l D m0 H0 n0 w0 pre ((i, ws) :: r) rd ers fuel listed cs env H n m a w) :
    (∀ q ∈ r, pairOk l D (i, ws) q = true) ∧ (∀ p ∈ pre, pairOk l D p (i, ws) = true) ∧ (∀ p ∈ pre, ∀ q ∈ r, pairOk l D p q = true) := by
  have := hs.pairs
  rw [h.ord, List.pairwise_append] at this
  obtain ⟨_, h2, h3⟩ := this
  rw [List.pairwise_cons] at h2
  exact ⟨h2.1, fun p hp => h3 p hp _ List.mem_cons_self, fun p hp q hq => h3 p hp q (List.mem_cons_of_mem _ hq)⟩

theorem pairOk_ne {p q : Nat × List Nat} (h : pairOk l D p q = true) : p.1 ≠ q.1 ∧ D.before q.1 p.1 = false := by
  simp only [pairOk, Bool.and_eq_true, bne_iff_ne, Bool.not_eq_true'] at h
  exact h.1
theorem pairOk_spec {p q : Nat × List Nat} {oi oj : Oper} (h : pairOk l D p q = true) (hi : l[p.1]? = some oi) (hj : l[q.1]? = some oj) (hb : D.before p.1 q.1 = false) :
    oi.apart l.toArray oj = true ∧ (lightOp oi.op = false → isLoad oi.op = false → D.es.any (·.1 == q.1) = true) ∧ (isLoad oi.op = true → lightOp oj.op = false → isLoad oj.op = false → q.2.contains p.1 = true) := by
  simp only [pairOk, hi, hj, hb, Bool.false_or, Bool.or_false, Bool.and_eq_true, Bool.or_eq_true, Bool.not_eq_true'] at h
  obtain ⟨_, ⟨h1, h2⟩, h3⟩ := h
  refine ⟨h1, fun a b => ?_, fun a b c => ?_⟩
  · rcases h2 with (h2 | h2) | h2
    · rw [a] at h2; cases h2
    · rw [b] at h2; cases h2
    · exact h2
  · rcases h3 with ((h3 | h3) | h3) | h3
    · rw [a] at h3; cases h3
    · rw [b] at h3; cases h3
    · rw [c] at h3; cases h3
    · exact h3

theorem St.head_lt (hs : DrawSpec P N l D) (h : St P N l D m0 H0 n0 w0 pre ((i, ws) :: r) rd ers fuel listed cs env H n m a w) : i < l.length :=
  hs.lt (i, ws) (by rw [h.ord]; simp)

theorem St.head_not_pre (hs : DrawSpec P N l D) (h : St P N l D m0 H0 n0 w0 pre ((i, ws) :: r) rd ers fuel listed cs env H n m a w) : i ∉ pre.map (·.1) := by
  intro hm
  obtain ⟨p, hp, e⟩ := List.mem_map.1 hm
  exact (pairOk_ne ((h.pairL hs).2.1 p hp)).1 e
theorem St.head_not_r (hs : DrawSpec P N l D) (h : St P N l D m0 H0 n0 w0 pre ((i, ws) :: r) rd ers fuel listed cs env H n m a w) : i ∉ r.map (·.1) := by
  intro hm
  obtain ⟨p, hp, e⟩ := List.mem_map.1 hm
  exact (pairOk_ne ((h.pairL hs).1 p hp)).1 e.symm

/-- The next one may come up. -/
theorem St.head_ready (hs : DrawSpec P N l D) (h : St P N l D m0 H0 n0 w0 pre ((i, ws) :: r) rd ers fuel listed cs env H n m a w) (ho : l[i]? = some o) (hne : i ∉ ers.map (·.1)) :
    i ∈ Region.ready .any l.toArray listed := by
  rw [mem_ready]
  refine ⟨?_, o, by simpa using ho, fun e he hb => ?_⟩
  · rw [getD_listed h.siz (h.head_lt hs)]
    cases hx : listed.getD i false
    · rfl
    · rcases (h.lst i).1 hx with h1 | h1
      · exact absurd h1 (h.head_not_pre hs)
      · exact absurd h1 hne
  · obtain ⟨hb', hlt⟩ := hs.edges i o ho e he hb
    obtain ⟨p, hp, hpe⟩ := hs.mem _ hlt
    rw [h.ord] at hp
    refine (h.lst _).2 (.inl ?_)
    rcases List.mem_append.1 hp with hp | hp
    · exact List.mem_map.2 ⟨p, hp, hpe⟩
    · exfalso
      rcases List.mem_cons.1 hp with rfl | hp
      · simp only at hpe
        rw [← hpe, hs.self i (h.head_lt hs)] at hb'; cases hb'
      · have := (pairOk_ne ((h.pairL hs).1 p hp)).2
        rw [hpe] at this; simp only at this; rw [hb'] at this; cases this

/-- Whoever may come up is still to come. -/
theorem St.ready_rest (hs : DrawSpec P N l D) (h : St P N l D m0 H0 n0 w0 pre rest rd ers fuel listed cs env H n m a w) {j : Nat} (hj : j ∈ Region.ready .any l.toArray listed) :
    j < l.length ∧ j ∉ ers.map (·.1) ∧ ∃ q ∈ rest, q.1 = j := by
  obtain ⟨hun, oj, hoj, _⟩ := mem_ready.1 hj
  have hlt : j < l.length := (List.getElem?_eq_some_iff.1 (by simpa using hoj)).1
  rw [getD_listed h.siz hlt] at hun
  have hno : ¬ (j ∈ pre.map (·.1) ∨ j ∈ ers.map (·.1)) := fun e => by rw [(h.lst j).2 e] at hun; cases hun
  refine ⟨hlt, fun e => hno (.inr e), ?_⟩
  obtain ⟨p, hp, hpe⟩ := hs.mem j hlt
  rw [h.ord] at hp
  rcases List.mem_append.1 hp with hp | hp
  · exact absurd (.inl (List.mem_map.2 ⟨p, hp, hpe⟩)) hno
  · exact ⟨p, hp, hpe⟩

theorem St.cnt_head (h : St P N l D m0 H0 n0 w0 pre ((i, ws) :: r) rd ers fuel listed cs env H n m a w) (hne : i ∉ ers.map (·.1)) :
    ∃ f, fuel = f + 1 ∧ (r.filter fun p => !(ers.map (·.1)).contains p.1).length ≤ f := by
  have := h.cnt
  rw [List.filter_cons_of_pos (by simpa using hne)] at this
  simp only [List.length_cons] at this
  exact ⟨fuel - 1, by omega, by omega⟩

theorem St.lst_set (h : St P N l D m0 H0 n0 w0 pre rest rd ers fuel listed cs env H n m a w) {j : Nat} (hj : j < l.length) (x : Nat) :
    (listed.setIfInBounds j true).getD x false = true ↔ (x = j ∨ listed.getD x false = true) := by
  by_cases e : j = x
  · subst e; simp [h.siz, hj]
  · rw [getD_set_ne false e]; simp [Ne.symm e]

theorem ersIn_r (hs : DrawSpec P N l D) (h : St P N l D m0 H0 n0 w0 pre ((i, ws) :: r) rd ers fuel listed cs env H n m a w) (hne : i ∉ ers.map (·.1)) : ∀ s ∈ ers, s.1 ∈ r.map (·.1) := fun s hsm => by
  have := h.ersIn s hsm
  simp only [List.map_cons, List.mem_cons] at this
  rcases this with e | e
  · exact absurd (List.mem_map.2 ⟨s, hsm, e⟩) hne
  · exact e

theorem dst_ne (hs : DrawSpec P N l D) (ho : l[i]? = some o) {p : Nat × Nat} (hp : p ∈ D.es) (hne : i ≠ p.1) : o.dst ≠ some p.2 := by
  obtain ⟨_, _, _, _, _, h⟩ := hs.es p hp
  exact h i o ho hne

theorem get_putE_ne {dst : Option Tmp} {v : AV} {d : Nat} (h : dst ≠ some d) : (putE dst v env).get d = env.get d := by
  cases dst with
  | none => rfl
  | some e =>
    have : e ≠ d := fun h' => h (h' ▸ rfl)
    simp [putE, Env.get, this]

/-- What is taken first: a step on, at memory that stays. -/
theorem light_step (hs : DrawSpec P N l D) {C : World → Prop} {x : Value} {v : AV} {rd' : RD} (h : St P N l D m0 H0 n0 w0 pre ((i, ws) :: r) rd ers fuel listed cs env H n m a w) (ho : l[i]? = some o) (hne : i ∉ ers.map (·.1))
    (hy : YieldsIf P l.toArray C o x a) (hC : C w) (hv : v ≠ .junk → x = AV.toV m v ∧ v.ok n = true)
    (hrd : ∀ y ∈ rd, y ∈ rd') (hnew : (∀ w, C w) ∨ ((∃ o, l[i]? = some o ∧ isLoad o.op = true) ∧ ∃ t adr v mc nc, (i, t, adr, v) ∈ rd' ∧ C = LC P mc nc t adr v ∧ nc ≤ n ∧ NM.agree nc mc m ∧ loadK P H t adr (· = v)))
    (next : ∀ {f listed' cs'}, St P N l D m0 H0 n0 w0 (pre ++ [(i, ws)]) r rd' ers f listed' cs' (putE o.dst v env) H n m (a.put o.dst x) w → f < fuel →
      wpAnyL P .any l.toArray (drawQ N k m0 H0 n0 w0) D.before f listed' cs' (a.put o.dst x) w) :
    wpAnyL P .any l.toArray (drawQ N k m0 H0 n0 w0) D.before fuel listed cs a w := by
  obtain ⟨f, rfl, hcnt⟩ := h.cnt_head hne
  have hoA : l.toArray[i]? = some o := by simpa using ho
  have hr := h.head_ready hs ho hne
  have hlt := h.head_lt hs
  refine wpAnyL_first hs.anc hoA (Region.noSelect_spec hs.nosel) (fun c a w hq => by cases hq.1) f listed cs a w h.closed ?_ hr hy hC ?_ (next ⟨by rw [h.ord]; simp, h.inv, h.erel.putE (hs.dsts i o ho) hv, ?_, by simpa using h.siz, h.closed.set hs.anc hr, hcnt, ersIn_r hs h hne, ?_, h.ersNe, ?_, ?_⟩ (Nat.lt_succ_self f))
  · intro j oj hoj hji hun hanc
    rw [List.getElem?_toArray] at hoj
    have hjlt := (List.getElem?_eq_some_iff.1 hoj).1
    rw [getD_listed h.siz hjlt] at hun
    obtain ⟨p, hp, hpe⟩ := hs.mem j hjlt
    rw [h.ord] at hp
    rcases List.mem_append.1 hp with hp | hp
    · rw [(h.lst j).2 (.inl (List.mem_map.2 ⟨p, hp, hpe⟩))] at hun; cases hun
    · rcases List.mem_cons.1 hp with rfl | hp
      · exact absurd hpe (Ne.symm hji)
      · subst hpe
        exact (pairOk_spec ((h.pairL hs).1 p hp) ho hoj hanc).1
  · intro c hc
    rcases h.conds c hc with h1 | ⟨_, _, t, adr, v, mc, nc, _, e, h2, h3, h4⟩
    · exact h1 w
    · rw [e]; exact ⟨m, H, n, h.inv.rel, h2, h3, h4⟩
  · intro y
    rw [h.lst_set hlt y, h.lst y]
    simp only [List.map_append, List.map_cons, List.map_nil, List.mem_append, List.mem_singleton]
    constructor
    · rintro (e | e | e)
      · exact .inl (.inr e)
      · exact .inl (.inl e)
      · exact .inr e
    · rintro ((e | e) | e)
      · exact .inr (.inl e)
      · exact .inl e
      · exact .inr (.inr e)
  · intro s hsm
    obtain ⟨o', z, t, f, d, he⟩ := h.ersOk s hsm
    refine ⟨o', z, t, f, d, he.put ?_ _⟩
    exact dst_ne hs ho he.es (fun e => hne (List.mem_map.2 ⟨s, hsm, e.symm⟩))
  · intro p hp hpr
    have hip : i ≠ p.1 := fun e => (h.head_not_r hs) (e ▸ hpr)
    rw [get_putE_ne (dst_ne hs ho hp hip)]
    exact h.msk p hp (by simp only [List.map_cons]; exact List.mem_cons_of_mem _ hpr)
  · intro c hc
    rcases List.mem_cons.1 hc with rfl | hc
    · exact hnew.imp id fun ⟨h1, h2⟩ => ⟨h1, by simp, h2⟩
    · refine (h.conds c hc).imp id fun ⟨h1, h2, t, adr, v, mc, nc, h3, h4⟩ => ⟨h1, by simp only [List.map_append, List.mem_append]; exact .inl h2, t, adr, v, mc, nc, hrd _ h3, h4⟩

theorem chk_mem {ws : List Nat} : ∀ {rd : RD} {i t adr v}, chk P H ws rd → (i, t, adr, v) ∈ rd → ws.contains i = true → loadK P H t adr (· = v)
  | (i', t', a', v') :: r, i, t, adr, v, h, hm, hw => by
    simp only [chk] at h
    rcases List.mem_cons.1 hm with e | hm
    · cases e; exact h.1 hw
    · exact chk_mem h.2 hm hw
end
end Go.Ab
namespace Go.Ab

section
variable {P : Program} {N : Nat} {l : List Oper} {D : Draw} {k : Env → Heap → Nat → Prop} {m0 : NM} {H0 : Heap} {n0 : Nat} {w0 : World}
variable {pre rest r : List (Nat × List Nat)} {rd : RD} {ers : List ER} {fuel : Nat} {listed : Array Bool} {cs : List (Nat × (World → Prop))} {env : Env} {H : Heap} {n : Nat} {m : NM} {a : Act} {w : World}
variable {i : Nat} {ws : List Nat} {o : Oper}

theorem rel_none (h : HRel m H n w) : H n = none := by
  cases hx : H n with
  | none => rfl
  | some b => exact absurd (h.dom n b hx) (Nat.lt_irrefl n)

theorem early_stop {op : Op} {q} (h : earlyT P op = some q) : lightOp op = false ∧ isLoad op = false := by
  unfold earlyT at h
  split at h <;> first | exact ⟨rfl, rfl⟩ | simp at h

theorem drawOp_stop (hl : lightOp o.op = false) (hld : isLoad o.op = false) {kk : RD → Env → Heap → Nat → Prop} (h : drawOp P o i ws kk rd env H n) : evOp P env H n o.op (stopK P ws rd kk o.dst env) := by
  unfold drawOp at h
  split at h
  · rename_i ho; rw [ho] at hld; simp [isLoad] at hld
  · rw [if_neg (by simp [hl])] at h; exact h

/-- What was made ahead of its turn gets its name. -/
theorem adopt_step (hs : DrawSpec P N l D) (h : St P N l D m0 H0 n0 w0 pre ((i, ws) :: r) rd ers fuel listed cs env H n m a w) (hin : i ∈ ers.map (·.1)) (hk : drawK P l k ((i, ws) :: r) rd env H n) :
    ∃ (env' : Env) (H' : Heap) (n' : Nat) (m' : NM), drawK P l k r rd env' H' n' ∧ St P N l D m0 H0 n0 w0 (pre ++ [(i, ws)]) r rd (ers.filter fun s => s.1 != i) fuel listed cs env' H' n' m' a w := by
  obtain ⟨s, hsm, rfl⟩ := List.mem_map.1 hin
  obtain ⟨o, z, t, f, d, he⟩ := h.ersOk s hsm
  obtain ⟨hl, hld⟩ := early_stop he.early
  unfold drawK at hk
  simp only [he.op, he.guard] at hk
  have hev := early_ev he.early (drawOp_stop hl hld hk)
  obtain ⟨m', hm1, hm2, hag, hI', hE'⟩ := he.adopt h.inv h.erel
  have hmem : ∀ y, y ∈ (ers.filter fun q => q.1 != s.1).map (·.1) ↔ y ∈ ers.map (·.1) ∧ y ≠ s.1 := fun y => by
    simp only [List.mem_map, List.mem_filter, bne_iff_ne, ne_eq]
    constructor
    · rintro ⟨q, ⟨h1, h2⟩, rfl⟩; exact ⟨⟨q, h1, rfl⟩, h2⟩
    · rintro ⟨⟨q, h1, rfl⟩, h2⟩; exact ⟨q, ⟨h1, h2⟩, rfl⟩
  refine ⟨_, _, _, m', hev.2, by rw [h.ord]; simp, hI', hE', ?_, h.siz, h.closed, ?_, ?_, ?_, ?_, ?_, ?_⟩
  · intro x
    rw [h.lst x, hmem]
    simp only [List.map_append, List.map_cons, List.map_nil, List.mem_append, List.mem_singleton]
    constructor
    · rintro (e | e)
      · exact .inl (.inl e)
      · by_cases hx : x = s.1
        · exact .inl (.inr hx)
        · exact .inr ⟨e, hx⟩
    · rintro ((e | e) | e)
      · exact .inl e
      · exact .inr (e ▸ hin)
      · exact .inr e.1
  · have h1 := h.cnt
    rw [List.filter_cons_of_neg (by simpa using hin)] at h1
    refine Nat.le_trans (Nat.le_of_eq ?_) h1
    congr 1
    refine List.filter_congr fun p hp => ?_
    have hne : p.1 ≠ s.1 := fun e => h.head_not_r hs (List.mem_map.2 ⟨p, hp, e⟩)
    rw [Bool.eq_iff_iff]
    simp only [Bool.not_eq_true', List.contains_eq_mem, decide_eq_false_iff_not, hmem]
    exact ⟨fun h2 h3 => h2 ⟨h3, hne⟩, fun h2 h3 => h2 h3.1⟩
  · intro q hq
    simp only [List.mem_filter, bne_iff_ne, ne_eq] at hq
    have := h.ersIn q hq.1
    simp only [List.map_cons, List.mem_cons] at this
    exact this.resolve_left hq.2
  · intro q hq
    simp only [List.mem_filter, bne_iff_ne, ne_eq] at hq
    obtain ⟨o', z', t', f', d', hq'⟩ := h.ersOk q hq.1
    refine ⟨o', z', t', f', d', { hq' with free := fun j b hj => ?_ }⟩
    by_cases hn : j = n
    · subst hn; rw [hm2]; exact h.ersNe s hsm q hq.1 (fun e => hq.2 e.symm)
    · rw [hm1 j hn]; exact hq'.free j b (by rwa [Heap.upd_ne _ _ hn] at hj)
  · intro q hq q' hq' hne
    simp only [List.mem_filter] at hq hq'
    exact h.ersNe q hq.1 q' hq'.1 hne
  · intro p hp hpr
    have hip : s.1 ≠ p.1 := fun e => (h.head_not_r hs) (e ▸ hpr)
    rw [get_putE_ne (dst_ne hs he.op hp hip)]
    exact h.msk p hp (by simp only [List.map_cons]; exact List.mem_cons_of_mem _ hpr)
  · intro c hc
    refine (h.conds c hc).imp id fun ⟨h1, h2, t', adr, v, mc, nc, h3, h4, h5, h6, h7⟩ => ⟨h1, by simp only [List.map_append, List.mem_append]; exact .inl h2, t', adr, v, mc, nc, h3, h4, by omega, h6.trans hag h5, ?_⟩
    exact loadK_upd (rel_none h.inv.rel) h7

theorem wanted_none (hg : o.guard = none) (y : Nat → Option Bool) : Region.wanted o y = true := by simp [Region.wanted, hg]

/-- Whichever comes up: this one, or what may be made ahead of its turn. -/
theorem stop_step (hs : DrawSpec P N l D) (h : St P N l D m0 H0 n0 w0 pre ((i, ws) :: r) rd ers fuel listed cs env H n m a w) (ho : l[i]? = some o) (hne : i ∉ ers.map (·.1)) (hl : lightOp o.op = false) (hld : isLoad o.op = false)
    (hw : Region.wanted o (yielded l.toArray a.tmps) = true) (hk : drawOp P o i ws (drawK P l k r) rd env H n)
    (next : ∀ {f listed' cs' env' H' n' m' a' w'}, St P N l D m0 H0 n0 w0 (pre ++ [(i, ws)]) r rd ers f listed' cs' env' H' n' m' a' w' → f < fuel → drawK P l k r rd env' H' n' →
      wpAnyL P .any l.toArray (drawQ N k m0 H0 n0 w0) D.before f listed' cs' a' w')
    (again : ∀ {f listed' cs' ers' m' a' w'}, St P N l D m0 H0 n0 w0 pre ((i, ws) :: r) rd ers' f listed' cs' env H n m' a' w' → f < fuel →
      wpAnyL P .any l.toArray (drawQ N k m0 H0 n0 w0) D.before f listed' cs' a' w') :
    wpAnyL P .any l.toArray (drawQ N k m0 H0 n0 w0) D.before fuel listed cs a w := by
  obtain ⟨f, rfl, hcnt⟩ := h.cnt_head hne
  have hoA : l.toArray[i]? = some o := by simpa using ho
  have hr := h.head_ready hs ho hne
  have hlt := h.head_lt hs
  refine ⟨fun e => (by rw [e] at hr; cases hr), fun j hj => ?_⟩
  obtain ⟨hjlt, hje, q, hq, hqj⟩ := h.ready_rest hs hj
  by_cases hji : j = i
  · subst hji
    unfold wpOp
    simp only [hoA, hw, if_true]
    refine .inl (evOp_wp (drawOp_stop hl hld hk) h.inv.rel h.erel fun m' v H' n' w' x hK hx h1 h2 h3 h4 => ?_)
    obtain ⟨hchk, hnext⟩ := hK
    have hcond : ∀ c ∈ cs, D.before c.1 j = false → (∀ w, c.2 w) ∨ ((∃ o, l[c.1]? = some o ∧ isLoad o.op = true) ∧ c.1 ∈ pre.map (·.1) ∧ ∃ t adr v mc nc, (c.1, t, adr, v) ∈ rd ∧ c.2 = LC P mc nc t adr v ∧ nc ≤ n' ∧ NM.agree nc mc m' ∧ loadK P H' t adr (· = v)) := fun c hc hb =>
      (h.conds c hc).imp id fun ⟨⟨oc, hoc, hocl⟩, g2, t, adr, v, mc, nc, g3, g4, g5, g6, g7⟩ => by
        obtain ⟨p, hp, hpe⟩ := List.mem_map.1 g2
        have hpair := (h.pairL hs).2.1 p hp
        have := (pairOk_spec hpair (by rw [hpe]; exact hoc) ho (by rw [hpe]; exact hb)).2.2 hocl hl hld
        exact ⟨⟨oc, hoc, hocl⟩, g2, t, adr, v, mc, nc, g3, g4, by omega, g6.trans h3 g5, chk_mem hchk g3 (by rw [← hpe]; exact this)⟩
    refine ⟨fun c hc hb => ?_, next ⟨by rw [h.ord]; simp, h.inv.step h1 h2 h3 h4, (h.erel.agree h3 h2).putE (hs.dsts j o ho) hx, ?_, by simpa using h.siz, h.closed.set hs.anc hr, hcnt, ersIn_r hs h hne, ?_, h.ersNe, ?_, ?_⟩ (Nat.lt_succ_self f) hnext⟩
    · rcases hcond c hc hb with h1 | ⟨_, _, t, adr, v, mc, nc, _, e, g2, g3, g4⟩
      · exact h1 w'
      · rw [e]; exact ⟨m', H', n', h1, g2, g3, g4⟩
    · intro y
      rw [h.lst_set hlt y, h.lst y]
      simp only [List.map_append, List.map_cons, List.map_nil, List.mem_append, List.mem_singleton]
      constructor
      · rintro (e | e | e)
        · exact .inl (.inr e)
        · exact .inl (.inl e)
        · exact .inr e
      · rintro ((e | e) | e)
        · exact .inr (.inl e)
        · exact .inl e
        · exact .inr (.inr e)
    · intro s hsm
      obtain ⟨o', z, t, f, d, he⟩ := h.ersOk s hsm
      exact ⟨o', z, t, f, d, (he.step h4).put (dst_ne hs ho he.es (fun e => hne (List.mem_map.2 ⟨s, hsm, e.symm⟩))) _⟩
    · intro p hp hpr
      have hip : j ≠ p.1 := fun e => (h.head_not_r hs) (e ▸ hpr)
      rw [get_putE_ne (dst_ne hs ho hp hip)]
      exact h.msk p hp (by simp only [List.map_cons]; exact List.mem_cons_of_mem _ hpr)
    · intro c hc
      simp only [List.mem_filter, Bool.not_eq_true'] at hc
      refine (hcond c hc.1 hc.2).imp id fun ⟨g1, g2, g3⟩ => ⟨g1, by simp only [List.map_append, List.mem_append]; exact .inl g2, g3⟩
  · -- made ahead of its turn
    have hqr : q ∈ r := by
      rcases List.mem_cons.1 hq with rfl | hq
      · exact absurd hqj.symm hji
      · exact hq
    have hpair := (h.pairL hs).1 q hqr
    have hnb : D.before i q.1 = false := by
      cases hx : D.before i q.1
      · rfl
      · have := ready_anc hs.anc h.closed hj (x := i) (by rw [← hqj]; exact hx)
        rcases (h.lst i).1 this with e | e
        · exact absurd e (h.head_not_pre hs)
        · exact absurd e hne
    have hoj : l[j]? = some l[j] := List.getElem?_eq_getElem hjlt
    have hany := (pairOk_spec hpair ho (by rw [hqj]; exact hoj) hnb).2.1 hl hld
    simp only [List.any_eq_true, beq_iff_eq] at hany
    obtain ⟨p, hp, hpe⟩ := hany
    rw [hqj] at hpe
    obtain ⟨oj, hoj', hdst, hgd, ⟨⟨z, t, g⟩, het⟩, huni⟩ := hs.es p hp
    rw [hpe] at hoj'
    have hojA : l.toArray[j]? = some oj := by simpa using hoj'
    obtain ⟨m', w', h1, h2, h3, h4, h5⟩ := early_run het (a := a) h.inv.rel h.erel
    obtain ⟨hval, hok, hjk, hz⟩ := early_val het
    rcases h5 with ⟨x, hrun, hx⟩ | ⟨_, hbad⟩
    · obtain ⟨hxv, _⟩ := hx (hjk n)
      have hle : H.le (H.upd n (some ⟨z, t, false⟩)) := fun j b hj => ⟨b, by rw [Heap.upd_ne _ _ (fun e => by subst e; rw [rel_none h.inv.rel] at hj; cases hj)]; exact hj, rfl, rfl, List.prefix_refl _⟩
      have hrel : HRel m' H n w' := (h1.weaken hle).cut h.inv.rel.wf
      have hfr : Fr m H w m' H w' := h4.weaken hle
      have hge : w.heap.size ≤ m'.ρ n := by
        rcases h4.own n ⟨z, t, false⟩ (Heap.upd_same _ _ _) with ⟨y, by_, hy, _, e⟩ | hge
        · exfalso
          have hyn := h.inv.rel.dom y by_ hy
          refine h1.inj n y ⟨z, t, false⟩ by_ (Heap.upd_same _ _ _) (by rw [Heap.upd_ne _ _ (by omega)]; exact hy) (by omega) rfl ?_
          rw [(h3 y hyn).1, e]
        · exact hge
      have hjnp : j ∉ pre.map (·.1) := fun hm => by
        obtain ⟨pp, hpp, e⟩ := List.mem_map.1 hm
        exact (pairOk_ne ((h.pairL hs).2.2 pp hpp q hqr)).1 (e.trans hqj.symm)
      unfold wpOp
      simp only [hojA, wanted_none hgd, if_true, Oper.wp, hrun, Oper.upon]
      refine .inl ⟨fun c hc hb => ?_, again (ers' := (j, m', n) :: ers) (m' := m') ⟨h.ord, h.inv.step hrel (Nat.le_refl n) h3 hfr, ?_, ?_, by simpa using h.siz, h.closed.set hs.anc hj, ?_, ?_, ?_, ?_, h.msk, ?_⟩ (Nat.lt_succ_self f)⟩
      · rcases h.conds c hc with h1 | ⟨_, _, t, adr, v, mc, nc, _, e, g2, g3, g4⟩
        · exact h1 w'
        · rw [e]; exact ⟨m', H, n, hrel, g2, g3.trans h3 g2, g4⟩
      · rw [hdst]
        exact (h.erel.agree h3 (Nat.le_refl n)).put_junk (h.msk p hp (List.mem_map.2 ⟨q, hq, by rw [hqj, hpe]⟩)) _
      · intro y
        rw [h.lst_set hjlt y, h.lst y]
        simp only [List.map_cons, List.mem_cons]
        constructor
        · rintro (e | e | e)
          · exact .inr (.inl e)
          · exact .inl e
          · exact .inr (.inr e)
        · rintro (e | e | e)
          · exact .inr (.inl e)
          · exact .inl e
          · exact .inr (.inr e)
      · have hc := h.cnt
        refine Nat.lt_succ_iff.1 (Nat.lt_of_lt_of_le (filter_lt (fun y hy => ?_) hq ?_ ?_) hc)
        · simp only [List.map_cons, List.contains_cons, Bool.not_eq_true', Bool.or_eq_false_iff] at hy ⊢
          exact hy.2
        · simp only [hqj]; simpa using hje
        · simp [hqj]
      · intro s hsm
        rcases List.mem_cons.1 hsm with rfl | hsm
        · exact List.mem_map.2 ⟨q, hq, hqj⟩
        · exact h.ersIn s hsm
      · intro s hsm
        rcases List.mem_cons.1 hsm with rfl | hsm
        · refine ⟨oj, z, t, g, p.2, ⟨by rw [← hpe]; exact hp, hoj', hdst, hgd, het, ?_, ?_, ?_, ?_, fun y b hy => ?_⟩⟩
          · refine (h1.weaken (H := nilH.upd n (some ⟨z, t, false⟩)) fun y b hy => ?_)
            by_cases hyn : y = n
            · subst hyn; rw [Heap.upd_same] at hy ⊢; exact ⟨b, hy, rfl, rfl, List.prefix_refl _⟩
            · rw [Heap.upd_ne _ _ hyn] at hy; simp [nilH] at hy
          · rw [hdst]
            have hd : p.2 < a.tmps.size := by rw [h.erel.size]; exact hs.dsts j oj hoj' _ hdst
            simp [Act.put, Array.getD_eq_getD_getElem?, hd, hxv]
          · exact Nat.le_trans h.inv.fr.size hge
          · obtain ⟨c, fz, hc, _⟩ := h1.blk n ⟨z, t, false⟩ (Heap.upd_same _ _ _)
            exact lt_of_heap hc
          · have hyn := h.inv.rel.dom y b hy
            intro e
            exact h1.inj n y ⟨z, t, false⟩ b (Heap.upd_same _ _ _) (by rw [Heap.upd_ne _ _ (by omega)]; exact hy) (by omega) rfl e.symm
        · obtain ⟨o', z', t', f', d', he⟩ := h.ersOk s hsm
          have hsj : s.1 ≠ j := fun e => hje (List.mem_map.2 ⟨s, hsm, e⟩)
          exact ⟨o', z', t', f', d', (he.step hfr).put (dst_ne hs hoj' he.es (fun e => hsj e.symm)) _⟩
      · have hold : ∀ s ∈ ers, s.2.1.ρ s.2.2 < w.heap.size := fun s hsm => by
          obtain ⟨o', z', t', f', d', he⟩ := h.ersOk s hsm
          exact he.lt
        intro s hsm s' hsm' hne'
        rcases List.mem_cons.1 hsm with rfl | hsm <;> rcases List.mem_cons.1 hsm' with rfl | hsm'
        · exact absurd rfl hne'
        · have := hold s' hsm'; simp only; omega
        · have := hold s hsm; simp only; omega
        · exact h.ersNe s hsm s' hsm' hne'
      · intro c hc
        simp only [List.mem_filter, Bool.not_eq_true'] at hc
        refine (h.conds c hc.1).imp id fun ⟨g1, g2, t, adr, v, mc, nc, g3, g4, g5, g6, g7⟩ => ⟨g1, g2, t, adr, v, mc, nc, g3, g4, g5, g6.trans h3 g5, g7⟩
    · exact absurd hbad (hjk n)
end
end Go.Ab
namespace Go.Ab

section
variable {P : Program} {N : Nat} {l : List Oper} {D : Draw} {k : Env → Heap → Nat → Prop} {m0 : NM} {H0 : Heap} {n0 : Nat} {w0 : World}

theorem loadK_det {P : Program} {H : Heap} {t : TypeId} {a : AV} {K : AV → Prop} (h : loadK P H t a K) : ∃ v, K v ∧ loadK P H t a (· = v) := by
  unfold loadK at *
  split at h <;> try exact h.elim
  rename_i b off
  cases hb : H b with
  | none => rw [hb] at h; exact h.elim
  | some blk =>
    rw [hb] at h
    cases ht : tyA P t with
    | none => rw [ht] at h; exact h.elim
    | some q =>
      obtain ⟨ag, sz⟩ := q
      rw [ht] at h
      cases ag
      · exact ⟨_, h.2, h.1, rfl⟩
      · exact ⟨_, h.2, h.1, rfl⟩

theorem ERel.congr {m : NM} {N n : Nat} {env env' : Env} {a : Act} (h : ERel m N n env a) (he : ∀ t, env'.get t = env.get t) : ERel m N n env' a :=
  h.weaken fun t _ => he t

theorem nodup_lt_length {l : List Nat} (hd : l.Nodup) {n : Nat} (h : ∀ x ∈ l, x < n) : l.length ≤ n := by
  induction n generalizing l with
  | zero =>
    cases l with
    | nil => simp
    | cons a r => exact absurd (h a List.mem_cons_self) (Nat.not_lt_zero _)
  | succ n ih =>
    have h1 : (l.erase n).length ≤ n := ih (hd.erase n) fun x hx => by
      have hx' := List.mem_of_mem_erase hx
      have := h x hx'
      have hne : x ≠ n := fun e => by subst e; exact (hd.not_mem_erase) hx
      omega
    have := List.le_length_erase (a := n) (l := l)
    omega

theorem St.reenv {pre rest : List (Nat × List Nat)} {rd : RD} {ers : List ER} {fuel : Nat} {listed : Array Bool} {cs : List (Nat × (World → Prop))} {env env' : Env} {H : Heap} {n : Nat} {m : NM} {a : Act} {w : World}
    (h : St P N l D m0 H0 n0 w0 pre rest rd ers fuel listed cs env H n m a w) (he : ERel m N n env' a) (hj : ∀ d, env.get d = .junk → env'.get d = .junk) :
    St P N l D m0 H0 n0 w0 pre rest rd ers fuel listed cs env' H n m a w :=
  { h with erel := he, msk := fun p hp hr => hj _ (h.msk p hp hr) }

theorem draw_main (hs : DrawSpec P N l D) : ∀ (q : Nat) {pre rest : List (Nat × List Nat)} {rd : RD} {ers : List ER} {fuel : Nat} {listed : Array Bool} {cs : List (Nat × (World → Prop))} {env : Env} {H : Heap} {n : Nat} {m : NM} {a : Act} {w : World},
    fuel + rest.length < q → St P N l D m0 H0 n0 w0 pre rest rd ers fuel listed cs env H n m a w → drawK P l k rest rd env H n →
    wpAnyL P .any l.toArray (drawQ N k m0 H0 n0 w0) D.before fuel listed cs a w := by
  intro q
  induction q with
  | zero => intro pre rest rd ers fuel listed cs env H n m a w hq; omega
  | succ q ih =>
    intro pre rest rd ers fuel listed cs env H n m a w hq h hk
    match rest with
    | [] =>
      have hr : Region.ready .any l.toArray listed = [] := by
        refine List.eq_nil_iff_forall_not_mem.2 fun j hj => ?_
        obtain ⟨_, _, q, hq, _⟩ := h.ready_rest hs hj
        simp at hq
      have hQ : drawQ N k m0 H0 n0 w0 .normal a w := ⟨rfl, m, env, H, n, hk, h.inv, h.erel⟩
      cases fuel with
      | zero => exact ⟨hr, hQ⟩
      | succ f => exact ⟨fun _ => hQ, by rw [hr]; simp⟩
    | (i, ws) :: r =>
      simp only [List.length_cons] at hq
      by_cases hin : i ∈ ers.map (·.1)
      · obtain ⟨env', H', n', m', hk', h'⟩ := adopt_step hs h hin hk
        exact ih (by omega) h' hk'
      · have ho : l[i]? = some (l[i]'(h.head_lt hs)) := List.getElem?_eq_getElem _
        generalize l[i]'(h.head_lt hs) = o at ho
        have body : ∀ {env' : Env}, (∀ t, env'.get t = env.get t) → Region.wanted o (yielded l.toArray a.tmps) = true → drawOp P o i ws (drawK P l k r) rd env' H n →
            wpAnyL P .any l.toArray (drawQ N k m0 H0 n0 w0) D.before fuel listed cs a w := by
          intro env' he hw hk'
          have h' : St P N l D m0 H0 n0 w0 pre ((i, ws) :: r) rd ers fuel listed cs env' H n m a w := h.reenv (h.erel.congr he) (fun d hd => by rw [he]; exact hd)
          cases hld : isLoad o.op with
          | true =>
            obtain ⟨t, x, hop⟩ : ∃ t x, o.op = .load t x := by
              cases hop : o.op <;> rw [hop] at hld <;> first | exact ⟨_, _, rfl⟩ | simp [isLoad] at hld
            simp only [drawOp, hop] at hk'
            obtain ⟨v, hv, hlv⟩ := loadK_det hk'
            have hrun : ∀ {m' H' n' w'}, HRel m' H' n' w' → n ≤ n' → NM.agree n m m' → loadK P H' t (opv env' x) (· = v) → (execOp a.eval o).run P w' = .ok (.value (AV.toV m' v)) w' ∧ v.ok n' = true := fun {m' H' n' w'} h1 h2 h3 h4 => by
              obtain ⟨v', rfl, hr⟩ := load_sound hop h4
              exact hr m' N n' a w' h1 (h'.erel.agree h3 h2)
            have hok := (hrun h.inv.rel (Nat.le_refl n) (NM.agree.refl n m) hlv).2
            refine light_step hs (C := LC P m n t (opv env' x) v) (x := AV.toV m v) (v := v) h' ho hin (.inl ⟨hw, fun w' ⟨m', H', n', h1, h2, h3, h4⟩ => ?_⟩) ⟨m, H, n, h.inv.rel, Nat.le_refl n, NM.agree.refl n m, hlv⟩ (fun _ => ⟨rfl, hok⟩)
              (rd' := (i, t, opv env' x, v) :: rd) (fun y hy => List.mem_cons_of_mem _ hy) (.inr ⟨⟨o, ho, hld⟩, t, opv env' x, v, m, n, List.mem_cons_self, rfl, Nat.le_refl n, NM.agree.refl n m, hlv⟩) (fun h' hf => ih (by omega) h' hv)
            rw [(hrun h1 h2 h3 h4).1, AV.toV_agree h3 v hok]
          | false =>
            cases hl : lightOp o.op with
            | true =>
              have hk2 : evOp P env' nilH n o.op (litK (drawK P l k r rd) o.dst env' H n) := by
                unfold drawOp at hk'
                split at hk'
                · rename_i hop; rw [hop] at hld; simp [isLoad] at hld
                · rw [if_pos hl] at hk'; exact hk'
              obtain ⟨v, hv, hp⟩ := light_sound (K := fun v => drawK P l k r rd (putE o.dst v env') H n) hl hk2
              obtain ⟨x, hx, hxv⟩ := hp m N n a h'.erel
              exact light_step hs (C := fun _ => True) h' ho hin (.inl ⟨hw, fun w' _ => hx w'⟩) trivial hxv (rd' := rd) (fun y hy => hy) (.inl fun _ => trivial) (fun h' hf => ih (by omega) h' hv)
            | false =>
              exact stop_step hs h' ho hin hl hld hw hk' (fun h2 hf hk2 => ih (by omega) h2 hk2)
                (fun h2 hf => ih (by simp only [List.length_cons]; omega) (h2.reenv (h2.erel.congr fun t => (he t).symm) (fun d hd => by rw [← he]; exact hd)) hk)
        have hk0 := hk
        unfold drawK at hk0
        rw [ho] at hk0
        simp only at hk0
        split at hk0
        · rename_i hg
          exact body (fun _ => rfl) (wanted_none hg _) hk0
        · rename_i j want hg
          split at hk0 <;> try exact hk0.elim
          rename_i t ht
          split at hk0 <;> try exact hk0.elim
          · rename_i c hc
            have hy := yielded_of (ops := l) h.erel ht hc
            by_cases hcw : c = want
            · refine body (env' := (t, .bo want) :: env) (fun u => ?_) (by simp [Region.wanted, hg, hy, hcw]) (hk0.1 hcw)
              simp only [Env.get]
              split
              · rename_i e; rw [← e, hc, hcw]
              · rfl
            · have hcn : c = !want := by cases c <;> cases want <;> simp_all
              have he : ∀ u, Env.get ((t, .bo (!want)) :: env) u = env.get u := fun u => by
                simp only [Env.get]
                split
                · rename_i e; rw [← e, hc, hcn]
                · rfl
              have h' : St P N l D m0 H0 n0 w0 pre ((i, ws) :: r) rd ers fuel listed cs ((t, .bo (!want)) :: env) H n m a w := h.reenv (h.erel.congr he) (fun d hd => by rw [he]; exact hd)
              exact light_step hs (C := fun _ => True) (x := undef) (v := .tu []) h' ho hin (.inr ⟨by simp [Region.wanted, hg, hy, hcw], rfl⟩) trivial (fun _ => undef_tu m n) (rd' := rd) (fun y hy => hy) (.inl fun _ => trivial) (fun h' hf => ih (by omega) h' (hk0.2 hcn))
          · rename_i hc
            have hy := yielded_none (ops := l) h.erel ht hc
            exact light_step hs (C := fun _ => True) (x := undef) (v := .tu []) h ho hin (.inr ⟨by simp [Region.wanted, hg, hy], rfl⟩) trivial (fun _ => undef_tu m n) (rd' := rd) (fun y hy => hy) (.inl fun _ => trivial) (fun h' hf => ih (by omega) h' hk0)

/-- The slots of what may be made ahead are not known. -/
def maskE (es : List (Nat × Nat)) (env : Env) : Env := es.map (fun p => (p.2, AV.junk)) ++ env
theorem maskE_get {es : List (Nat × Nat)} {env : Env} {p : Nat × Nat} (hp : p ∈ es) : (maskE es env).get p.2 = .junk := by
  induction es with
  | nil => simp at hp
  | cons q r ih =>
    simp only [maskE, List.map_cons, List.cons_append, Env.get]
    split
    · rfl
    · rename_i hne
      rcases List.mem_cons.1 hp with rfl | hp
      · exact absurd rfl hne
      · exact ih hp
theorem maskE_le {es : List (Nat × Nat)} {env : Env} : (maskE es env).le env := by
  intro t ht
  induction es with
  | nil => rfl
  | cons q r ih =>
    simp only [maskE, List.map_cons, List.cons_append, Env.get] at ht ⊢
    split at ht
    · exact absurd rfl ht
    · rename_i hne; rw [if_neg hne]; exact ih ht

theorem HRel.drawn {m : NM} {H : Heap} {n : Nat} {w : World} (h : HRel m H n w) : HRel m H n { w with drawn := w.drawn + 1 } := ⟨h.dom, h.blk, h.inj, h.ok⟩
theorem Fr.drawn {m m' : NM} {H H' : Heap} {w w' : World} (h : Fr m H w m' H' w') : Fr m H w m' H' { w' with drawn := w'.drawn + 1 } := ⟨h.os, h.tape, h.output, h.size, h.keep, h.own⟩

theorem replicate_false (n x : Nat) : (Array.replicate n false).getD x false = false := by
  rcases Nat.lt_or_ge x n with h | h
  · simp [h]
  · simp [Array.getElem?_eq_none (xs := Array.replicate n false) (i := x) (by simpa using h)]

theorem awp_draw {id : Nat} (hm : P.follows .mixedOrders = true) (hd : drawOk P N l D = true) {K : Exit → Env → Heap → Nat → Prop} {env : Env} {H : Heap} {n : Nat}
    (h : drawK P l (K .normal) D.ord [] (maskE D.es env) H n) : awp P N (.region id l.toArray true) K env H n := by
  intro m0 H0 n0 w0 m a w hI hE
  have hs := drawOk_spec hd
  have hpost : ∀ e a' w', drawQ N (K .normal) m0 H0 n0 w0 e a' w' → ∃ m' env' H' n', Inv m0 H0 n0 w0 m' H' n' w' ∧ ERel m' N n' env' a' ∧ K e env' H' n' := by
    rintro e a' w' ⟨rfl, m', env', H', n', hK, h1, h2⟩
    exact ⟨m', env', H', n', h1, h2, hK⟩
  refine wp_mono ?_ hpost
  refine wp_region_any hm (wpAny_of_L (anc := D.before) _ _ [] _ _ ?_)
  refine draw_main hs _ (Nat.lt_succ_self _) (pre := []) (rest := D.ord) (rd := []) (ers := []) (cs := []) (env := maskE D.es env) ⟨rfl, ⟨hI.rel.drawn, hI.le, hI.ag, hI.fr.drawn⟩, hE.weaken maskE_le, ?_, by simp, ?_, ?_, by simp, by simp, by simp, fun p hp _ => maskE_get hp, by simp⟩ h
  · intro x
    simp only [List.map_nil, List.not_mem_nil, or_self, iff_false, replicate_false]
    simp
  · intro j hj
    rw [replicate_false] at hj
    cases hj
  · have : (D.ord.filter fun p => !(([] : List ER).map (·.1)).contains p.1).length ≤ D.ord.length := List.length_filter_le _ _
    refine Nat.le_trans this ?_
    have hnd : (D.ord.map (·.1)).Nodup := by
      rw [List.Nodup, List.pairwise_map]
      exact hs.pairs.imp fun h => (pairOk_ne h).1
    have hsub : ∀ x ∈ D.ord.map (·.1), x < l.length := fun x hx => by
      obtain ⟨p, hp, rfl⟩ := List.mem_map.1 hx
      exact hs.lt p hp
    rw [← List.length_map (f := (·.1))]
    simpa using nodup_lt_length hnd hsub

end
end Go.Ab
namespace Go.Ab

/-! ### Names, given anew -/
mutual
def AV.ren (σ : Nat → Nat) : AV → AV
  | .pt b o => .pt (σ b) o
  | .sl b o l c => .sl (σ b) o l c
  | .su b o l e => .su (σ b) o l e
  | .ag l => .ag (AV.rens σ l)
  | .tu l => .tu (AV.rens σ l)
  | .ifc t v => .ifc t (AV.ren σ v)
  | .fn f l => .fn f (AV.rens σ l)
  | .bo x => .bo x | .u8 x => .u8 x | .u16 x => .u16 x | .u32 x => .u32 x | .u64 x => .u64 x | .i8 x => .i8 x | .i32 x => .i32 x | .i64 x => .i64 x
  | .st x => .st x | .pn => .pn | .sn => .sn | .ifn => .ifn | .fnn => .fnn | .junk => .junk
def AV.rens (σ : Nat → Nat) : List AV → List AV
  | [] => []
  | v :: r => AV.ren σ v :: AV.rens σ r
end
theorem AV.rens_eq (σ : Nat → Nat) (l : List AV) : AV.rens σ l = l.map (AV.ren σ) := by
  induction l with
  | nil => rfl
  | cons a r ih => simp [AV.rens, ih]

def NM.comp (m : NM) (σ : Nat → Nat) : NM := ⟨fun i => m.ρ (σ i), fun i => m.κ (σ i), fun i => m.β (σ i)⟩

mutual
theorem AV.toV_ren (m : NM) (σ : Nat → Nat) : ∀ v : AV, AV.toV m (AV.ren σ v) = AV.toV (m.comp σ) v
  | .pt b o => rfl
  | .sl b o l c => rfl
  | .su b o l e => rfl
  | .ag l => by simp only [AV.ren, AV.toV, AV.toVs_ren m σ l]
  | .tu l => by simp only [AV.ren, AV.toV, AV.toVs_ren m σ l]
  | .ifc t v => by simp only [AV.ren, AV.toV, AV.toV_ren m σ v]
  | .fn f l => by simp only [AV.ren, AV.toV, AV.toVs_ren m σ l]
  | .bo _ => rfl | .u8 _ => rfl | .u16 _ => rfl | .u32 _ => rfl | .u64 _ => rfl | .i8 _ => rfl | .i32 _ => rfl | .i64 _ => rfl
  | .st _ => rfl | .pn => rfl | .sn => rfl | .ifn => rfl | .fnn => rfl | .junk => rfl
theorem AV.toVs_ren (m : NM) (σ : Nat → Nat) : ∀ l : List AV, AV.toVs m (AV.rens σ l) = AV.toVs (m.comp σ) l
  | [] => rfl
  | v :: r => by simp only [AV.rens, AV.toVs, AV.toV_ren m σ v, AV.toVs_ren m σ r]
end

mutual
theorem AV.ren_low {σ : Nat → Nat} {n : Nat} (h : ∀ i, i < n → σ i = i) : ∀ v : AV, v.ok n = true → AV.ren σ v = v
  | .pt b o, hv => by simp only [AV.ok, decide_eq_true_eq] at hv; simp only [AV.ren, h b hv]
  | .sl b o l c, hv => by simp only [AV.ok, decide_eq_true_eq] at hv; simp only [AV.ren, h b hv]
  | .su b o l e, hv => by simp only [AV.ok, Bool.and_eq_true, decide_eq_true_eq] at hv; simp only [AV.ren, h b hv.1]
  | .ag l, hv => by simp only [AV.ok, Bool.and_eq_true] at hv; simp only [AV.ren, AV.rens_low h l hv.1]
  | .tu l, hv => by simp only [AV.ok] at hv; simp only [AV.ren, AV.rens_low h l hv]
  | .ifc t v, hv => by simp only [AV.ok] at hv; simp only [AV.ren, AV.ren_low h v hv]
  | .fn f l, hv => by simp only [AV.ok] at hv; simp only [AV.ren, AV.rens_low h l hv]
  | .bo _, _ => rfl | .u8 _, _ => rfl | .u16 _, _ => rfl | .u32 _, _ => rfl | .u64 _, _ => rfl | .i8 _, _ => rfl | .i32 _, _ => rfl | .i64 _, _ => rfl
  | .st _, _ => rfl | .pn, _ => rfl | .sn, _ => rfl | .ifn, _ => rfl | .fnn, _ => rfl | .junk, _ => rfl
theorem AV.rens_low {σ : Nat → Nat} {n : Nat} (h : ∀ i, i < n → σ i = i) : ∀ l : List AV, AV.oks n l = true → AV.rens σ l = l
  | [], _ => rfl
  | v :: r, hv => by simp only [AV.oks, Bool.and_eq_true] at hv; simp only [AV.rens, AV.ren_low h v hv.1, AV.rens_low h r hv.2]
end

theorem AV.ren_one (σ : Nat → Nat) (v : AV) : (AV.ren σ v).one = v.one := by cases v <;> rfl

def Blk.ren (σ : Nat → Nat) (b : Blk) : Blk := { b with cells := b.cells.map (AV.ren σ) }
theorem Blk.ren_low {σ : Nat → Nat} {n : Nat} (h : ∀ i, i < n → σ i = i) {b : Blk} (hb : ∀ v ∈ b.cells, v.ok n = true) : b.ren σ = b := by
  unfold Blk.ren
  rw [List.map_congr_left (g := id) (fun v hv => AV.ren_low h v (hb v hv))]
  simp

/-- Names given anew: the new name i is the old name σ i; below n0 nothing turns. -/
structure Ren (σ : Nat → Nat) (n0 n' : Nat) (H H' : Heap) : Prop where
  low : ∀ i, i < n0 → σ i = i
  le : n0 ≤ n'
  blk : ∀ i b', H' i = some b' → i < n' ∧ (∀ v ∈ b'.cells, v.ok n' = true) ∧ ∃ b, H (σ i) = some b ∧ b'.elem = b.elem ∧ b'.ro = b.ro ∧ (b'.cells.map (AV.ren σ)) <+: b.cells
  inj : ∀ i j bi bj, H' i = some bi → H' j = some bj → i ≠ j → bi.ro = false → σ i ≠ σ j

theorem Ren.rel {σ : Nat → Nat} {n0 n n' : Nat} {H H' : Heap} {m : NM} {w : World} (r : Ren σ n0 n' H H') (h : HRel m H n w) : HRel (m.comp σ) H' n' w where
  dom := fun i b hi => (r.blk i b hi).1
  blk := fun i b' hi => by
    obtain ⟨_, _, b, hb, he, hr, hp⟩ := r.blk i b' hi
    obtain ⟨c, fz, hc, hk, hf, hv⟩ := h.blk (σ i) b hb
    refine ⟨c, fz, by rw [he]; exact hc, hk, fun h0 => hf (by rw [← hr]; exact h0), fun j v hj => ?_⟩
    rw [← AV.toV_ren]
    exact hv j _ (getElem?_of_prefix hp (by rw [List.getElem?_map, hj]; rfl))
  inj := fun i j bi bj hi hj hne hro => by
    obtain ⟨_, _, b, hb, _, hr, _⟩ := r.blk i bi hi
    obtain ⟨_, _, b2, hb2, _⟩ := r.blk j bj hj
    exact h.inj (σ i) (σ j) b b2 hb hb2 (r.inj i j bi bj hi hj hne hro) (by rw [← hr]; exact hro)
  ok := fun i b' hi v hv => by
    obtain ⟨_, ho, b, hb, _, _, hp⟩ := r.blk i b' hi
    refine ⟨ho v hv, ?_⟩
    have := (h.ok (σ i) b hb (AV.ren σ v) (hp.subset (List.mem_map_of_mem hv))).2
    rwa [AV.ren_one] at this

theorem Ren.fr {σ : Nat → Nat} {n0 n' : Nat} {H0 H H' : Heap} {m0 m : NM} {w0 w : World} (r : Ren σ n0 n' H H') (h : Fr m0 H0 w0 m H w) : Fr m0 H0 w0 (m.comp σ) H' w where
  os := h.os
  tape := h.tape
  output := h.output
  size := h.size
  keep := h.keep
  own := fun i b' hi => by
    obtain ⟨_, _, b, hb, _, hr, _⟩ := r.blk i b' hi
    rcases h.own (σ i) b hb with ⟨j, bj, hj, hjr, e⟩ | hge
    · exact .inl ⟨j, bj, hj, fun h0 => hjr (by rw [← hr]; exact h0), e⟩
    · exact .inr hge

theorem Ren.ag {σ : Nat → Nat} {n0 : Nat} {m0 m : NM} (low : ∀ i, i < n0 → σ i = i) (h : NM.agree n0 m0 m) : NM.agree n0 m0 (m.comp σ) := fun i hi => by
  have := h i hi
  simp only [NM.comp, low i hi]
  exact this

theorem Ren.inv {σ : Nat → Nat} {n0 n n' : Nat} {H0 H H' : Heap} {m0 m : NM} {w0 w : World} (r : Ren σ n0 n' H H') (h : Inv m0 H0 n0 w0 m H n w) : Inv m0 H0 n0 w0 (m.comp σ) H' n' w :=
  ⟨r.rel h.rel, r.le, Ren.ag r.low h.ag, r.fr h.fr⟩

/-- How one shows it: at each name. -/
theorem Ren.of {σ : Nat → Nat} {n0 n' : Nat} {H H' : Heap} (low : ∀ i, i < n0 → σ i = i) (le : n0 ≤ n') (wf : H'.wf n') (h : ∀ i, i < n' → H (σ i) = (H' i).map (Blk.ren σ))
    (inj : ∀ i j, i < n' → j < n' → i ≠ j → σ i ≠ σ j) : Ren σ n0 n' H H' where
  low := low
  le := le
  blk := fun i b' hi => by
    obtain ⟨h1, h2⟩ := wf i b' hi
    refine ⟨h1, h2, b'.ren σ, by rw [h i h1, hi]; rfl, rfl, rfl, List.prefix_refl _⟩
  inj := fun i j bi bj hi hj hne _ => inj i j (wf i bi hi).1 (wf j bj hj).1 hne

theorem Heap.ren_low {σ : Nat → Nat} {n : Nat} {H : Heap} (wf : H.wf n) (h : ∀ i, i < n → σ i = i) (i : Nat) : (H i).map (Blk.ren σ) = H i := by
  cases hb : H i with
  | none => rfl
  | some b => simp only [Option.map_some, Blk.ren_low h (wf i b hb).2]

/-- Slots under other names. -/
def Env.renLe (σ : Nat → Nat) (e e' : Env) : Prop := ∀ t, e.get t ≠ .junk → AV.ren σ (e.get t) = e'.get t
theorem ren_ne_junk {σ : Nat → Nat} {v : AV} (h : v ≠ .junk) : AV.ren σ v ≠ .junk := by cases v <;> simp_all [AV.ren]
theorem Env.renLe_nil (σ : Nat → Nat) (e : Env) : Env.renLe σ [] e := fun _ h => absurd rfl h
theorem Env.renLe_cons {σ : Nat → Nat} {t : Nat} {v : AV} {e e' : Env} (h : e'.get t = AV.ren σ v) (h' : e.renLe σ e') : Env.renLe σ ((t, v) :: e) e' := fun u hu => by
  simp only [Env.get] at hu ⊢
  split
  · rename_i c; rw [← c, h]
  · rename_i c; rw [if_neg c] at hu; exact h' u hu
theorem ERel.ren {m : NM} {N n n' : Nat} {σ : Nat → Nat} {e e' : Env} {a : Act} (h : ERel m N n e' a) (hl : e.renLe σ e') (hk : ∀ t, e.get t ≠ .junk → (e.get t).ok n' = true) : ERel (m.comp σ) N n' e a where
  size := h.size
  defers := h.defers
  get := fun t ht => by
    have e1 := hl t ht
    have := h.get t (by rw [← e1]; exact ren_ne_junk ht)
    refine ⟨?_, hk t ht⟩
    rw [this.1, ← e1, AV.toV_ren]
end Go.Ab
namespace Go.Ab

/-- CODE, as far as it goes straight; loops stand as they are. -/
def ev (P : Program) (N : Nat) (T : Nat → Draw) : Code → (Exit → Env → Heap → Nat → Prop) → Env → Heap → Nat → Prop
  | .skip, K, env, H, n => K .normal env H n
  | .label _, K, env, H, n => K .normal env H n
  | .ret, K, env, H, n => K .ret env H n
  | .exit id, K, env, H, n => K (.exit id) env H n
  | .seq a b, K, env, H, n => ev P N T a (seqK (ev P N T b K) K) env H n
  | .block id b, K, env, H, n => ev P N T b (blkK id K) env H n
  | .cond c x y, K, env, H, n => match opv env c with
    | .bo t => (t = true → ev P N T x K env H n) ∧ (t = false → ev P N T y K env H n)
    | _ => False
  | .region _ ops false, K, env, H, n => evOps P ops.toList ops.toList (K .normal) env H n
  | .region id ops true, K, env, H, n => drawK P ops.toList (K .normal) (T id).ord [] (maskE (T id).es env) H n
  | c, K, env, H, n => awp P N c K env H n

def codeOk (P : Program) (N : Nat) (T : Nat → Draw) : Code → Bool
  | .region id ops draw => dstsOk N ops.toList && (!draw || (P.follows .mixedOrders && drawOk P N ops.toList (T id)))
  | .seq a b => codeOk P N T a && codeOk P N T b
  | .cond _ a b => codeOk P N T a && codeOk P N T b
  | .block _ a => codeOk P N T a
  | _ => true

theorem ev_sound {P : Program} {N : Nat} {T : Nat → Draw} : ∀ (c : Code) (K : Exit → Env → Heap → Nat → Prop) (env : Env) (H : Heap) (n : Nat), codeOk P N T c = true → ev P N T c K env H n → awp P N c K env H n
  | .skip, _, _, _, _, _, h => awp_skip h
  | .label _, _, _, _, _, _, h => awp_label h
  | .ret, _, _, _, _, _, h => awp_ret h
  | .exit _, _, _, _, _, _, h => awp_exit h
  | .seq a b, K, env, H, n, hc, h => by
    simp only [codeOk, Bool.and_eq_true] at hc
    refine awp_seq ((ev_sound a _ env H n hc.1 h).mono fun e env' H' n' hk => ?_)
    cases e <;> first | exact ev_sound b K env' H' n' hc.2 hk | exact hk
  | .block id b, K, env, H, n, hc, h => awp_block (ev_sound b _ env H n hc h)
  | .cond c x y, K, env, H, n, hc, h => by
    simp only [codeOk, Bool.and_eq_true] at hc
    unfold ev at h
    split at h <;> try exact h.elim
    rename_i t ht
    exact awp_cond ht (fun e => ev_sound x K env H n hc.1 (h.1 e)) (fun e => ev_sound y K env H n hc.2 (h.2 e))
  | .region id ops draw, K, env, H, n, hc, h => by
    simp only [codeOk, Bool.and_eq_true] at hc
    cases draw with
    | true =>
      have h2 : P.follows .mixedOrders = true ∧ drawOk P N ops.toList (T id) = true := by simpa using hc.2
      have := awp_draw (id := id) (l := ops.toList) (N := N) (P := P) (K := K) h2.1 h2.2 h
      rwa [Array.toArray_toList] at this
    | false =>
      have := awp_region (id := id) (l := ops.toList) (N := N) (P := P) (K := K) hc.1 h
      rwa [Array.toArray_toList] at this
  | .loop _, _, _, _, _, _, h => h
  | .rangeFunc .., _, _, _, _, _, h => h
  | .scope _, _, _, _, _, _, h => h
  | .goto _, _, _, _, _, _, h => h
  | .refuse _, _, _, _, _, _, h => h

/-- A loop, its body evaluated. -/
theorem ev_loop_ok {P : Program} {N : Nat} {T : Nat → Draw} {c : Code} {K : Exit → Env → Heap → Nat → Prop} {S : Type} (I : S → Env → Heap → Nat → Prop) (μ : S → Nat) (hok : codeOk P N T c = true)
    (round : ∀ s env H n, I s env H n → ev P N T c (seqK (fun env' H' n' => ∃ s', μ s' < μ s ∧ ∃ e2 H2, e2.le env' ∧ H2.le H' ∧ I s' e2 H2 n') K) env H n)
    {env : Env} {H : Heap} {n : Nat} (s0 : S) (h0 : ∃ e2 H2, e2.le env ∧ H2.le H ∧ I s0 e2 H2 n) : awp P N (.loop c) K env H n :=
  awp_loop I μ (fun s env H n hi => ev_sound c _ env H n hok (round s env H n hi)) s0 h0

def Env.okAt (e : Env) (n : Nat) : Prop := ∀ t, e.get t ≠ .junk → (e.get t).ok n = true
theorem Env.okAt_nil (n : Nat) : Env.okAt [] n := fun _ h => absurd rfl h
theorem Env.okAt_cons {t n : Nat} {v : AV} {e : Env} (h : v.ok n = true) (h' : e.okAt n) : Env.okAt ((t, v) :: e) n := fun u hu => by
  simp only [Env.get] at hu ⊢
  split
  · exact h
  · rename_i c; rw [if_neg c] at hu; exact h' u hu

/-- A LOOP, by states of a kind of one's own; the numbers of names may begin anew with each round. -/
theorem awp_loop2 {P : Program} {N : Nat} {T : Nat → Draw} {c : Code} {K : Exit → Env → Heap → Nat → Prop} {S : Type} (I : S → Env → Heap → Nat → Prop) (μ : S → Nat) (hok : codeOk P N T c = true)
    (round : ∀ s env H n, I s env H n → ev P N T c (seqK (fun env' H' n' => ∃ s', μ s' < μ s ∧ ∃ e2 H2 n2, e2.le env' ∧ H2.le H' ∧ n ≤ n2 ∧ (n2 = n' ∨ (n2 ≤ n' ∧ H2.wf n2 ∧ e2.okAt n2)) ∧ I s' e2 H2 n2) K) env H n)
    {env : Env} {H : Heap} {n : Nat} (s0 : S) (h0 : ∃ e2 H2, e2.le env ∧ H2.le H ∧ I s0 e2 H2 n) : awp P N (.loop c) K env H n := by
  intro m0 H0 n0 w0 m a w hI hE b k cs
  have key : ∀ (j : Nat) (s : S) (env : Env) (H : Heap) (n : Nat) (m : NM) (a : Act) (w : World), μ s = j → I s env H n → Inv m0 H0 n0 w0 m H n w → ERel m N n env a →
      ∃ e a' w', (∃ m' env' H' n', Inv m0 H0 n0 w0 m' H' n' w' ∧ ERel m' N n' env' a' ∧ K e env' H' n') ∧ Arrives P (lone (b.at a (.code c :: .inLoop c :: k)) cs w) b k cs e a' w' := by
    intro j
    induction j using Nat.strongRecOn with
    | _ j ih =>
      intro s env H n m a w hj hs hI hE
      obtain ⟨e, a₁, w₁, ⟨m₁, env₁, H₁, n₁, hI₁, hE₁, hq⟩, harr⟩ := ev_sound c _ env H n hok (round s env H n hs) m0 H0 n0 w0 m a w hI hE b (.inLoop c :: k) cs
      cases e with
      | normal =>
        obtain ⟨s', hlt, e2, H2, n2, he, hh, hn, hr, hs'⟩ := hq
        have hI2 : Inv m0 H0 n0 w0 m₁ H2 n2 w₁ := by
          refine ⟨?_, Nat.le_trans hI.le hn, hI₁.ag, hI₁.fr.weaken hh⟩
          rcases hr with rfl | ⟨_, hw, _⟩
          · exact hI₁.rel.weaken hh
          · exact (hI₁.rel.weaken hh).cut hw
        have hE2 : ERel m₁ N n2 e2 a₁ := by
          rcases hr with rfl | ⟨_, _, hk⟩
          · exact hE₁.weaken he
          · have := hE₁.weaken he
            exact ⟨this.size, this.defers, fun t ht => ⟨(this.get t ht).1, hk t ht⟩⟩
        obtain ⟨e₂, a₂, w₂, hq₂, harr₂⟩ := ih (μ s') (hj ▸ hlt) s' e2 H2 n2 m₁ a₁ w₁ rfl hs' hI2 hE2
        exact ⟨e₂, a₂, w₂, hq₂, .of_steps (Steps.trans harr (.one step_inLoop)) harr₂⟩
      | exit id => exact ⟨_, a₁, w₁, ⟨m₁, env₁, H₁, n₁, hI₁, hE₁, hq⟩, .pass (x := .inLoop c) rfl (fun _ _ => .inl (by simp)) harr⟩
      | goto l => exact ⟨_, a₁, w₁, ⟨m₁, env₁, H₁, n₁, hI₁, hE₁, hq⟩, .pass (x := .inLoop c) rfl (fun _ _ => .inl (by simp)) harr⟩
      | ret => exact ⟨_, a₁, w₁, ⟨m₁, env₁, H₁, n₁, hI₁, hE₁, hq⟩, .pass (x := .inLoop c) rfl (fun _ _ => .inl (by simp)) harr⟩
      | panic ch => exact ⟨_, a₁, w₁, ⟨m₁, env₁, H₁, n₁, hI₁, hE₁, hq⟩, .pass (x := .inLoop c) rfl (fun _ _ => .inl (by simp)) harr⟩
      | outgrown => exact ⟨_, a₁, w₁, ⟨m₁, env₁, H₁, n₁, hI₁, hE₁, hq⟩, .pass (x := .inLoop c) rfl (fun _ _ => .inl (by simp)) harr⟩
  obtain ⟨e2, H2, he, hh, hs⟩ := h0
  obtain ⟨e, a', w', hq, harr⟩ := key _ s0 e2 H2 n m a w rfl hs ⟨hI.rel.weaken hh, hI.le, hI.ag, hI.fr.weaken hh⟩ (hE.weaken he)
  exact ⟨e, a', w', hq, .of_steps (.one step_loop) harr⟩

theorem Heap.le_on {H H' : Heap} {n : Nat} (wf : H.wf n) (h : ∀ i, i < n → H' i = H i) : H.le H' := fun i b hb => ⟨b, by rw [h i (wf i b hb).1]; exact hb, rfl, rfl, List.prefix_refl _⟩
theorem Heap.wf_upd {H : Heap} {n : Nat} {blk : Blk} (wf : H.wf n) (h : ∀ v ∈ blk.cells, v.ok (n + 1) = true) : (H.upd n (some blk)).wf (n + 1) := fun i b hb => by
  by_cases hi : i = n
  · subst hi
    rw [Heap.upd_same] at hb
    simp only [Option.some.injEq] at hb; subst hb
    exact ⟨by omega, h⟩
  · rw [Heap.upd_ne _ _ hi] at hb
    obtain ⟨h1, h2⟩ := wf i b hb
    exact ⟨by omega, fun v hv => AV.ok_mono (by omega) v (h2 v hv)⟩
theorem Heap.wf_set {H : Heap} {n i : Nat} {blk : Blk} (wf : H.wf n) (hi : i < n) (h : ∀ v ∈ blk.cells, v.ok n = true) : (H.upd i (some blk)).wf n := fun j b hb => by
  by_cases hj : j = i
  · subst hj
    rw [Heap.upd_same] at hb
    simp only [Option.some.injEq] at hb; subst hb
    exact ⟨hi, h⟩
  · rw [Heap.upd_ne _ _ hj] at hb
    exact wf j b hb
theorem Heap.wf_mono {H : Heap} {n n' : Nat} (wf : H.wf n) (h : n ≤ n') : H.wf n' := fun j b hb => ⟨Nat.lt_of_lt_of_le (wf j b hb).1 h, fun v hv => AV.ok_mono h v ((wf j b hb).2 v hv)⟩

/-! ### Functions -/
def resK (P : Program) (H : Heap) (env : Env) : List ResultVar → (List AV → Prop) → Prop
  | [], k => k []
  | .tmp t :: r, k => env.get t ≠ .junk ∧ resK P H env r fun l => k (env.get t :: l)
  | .cell a t :: r, k => loadK P H t (env.get a) fun v => resK P H env r fun l => k (v :: l)

def pack : List AV → AV
  | [v] => v
  | l => .tu l

/-- The end of a call: the numbers of names go on, or begin anew where nothing new is handed on. -/
def Fin (n0 : Nat) (v : AV) (H : Heap) (n : Nat) (K : AV → Heap → Nat → Prop) : Prop :=
  (∃ H' n', H'.le H ∧ (n' = n ∨ (n' = n0 ∧ H'.wf n0 ∧ v.ok n0 = true)) ∧ K v H' n') ∨
  (∃ σ v' H' n', Ren σ n0 n' H H' ∧ v'.ok n' = true ∧ v = AV.ren σ v' ∧ K v' H' n')

theorem Fin.keep {n0 : Nat} {v : AV} {H : Heap} {n : Nat} {K : AV → Heap → Nat → Prop} (h : K v H n) : Fin n0 v H n K := .inl ⟨H, n, Heap.le.refl H, .inl rfl, h⟩
theorem Fin.less {n0 : Nat} {v : AV} {H H' : Heap} {n : Nat} {K : AV → Heap → Nat → Prop} (hl : H'.le H) (h : K v H' n) : Fin n0 v H n K := .inl ⟨H', n, hl, .inl rfl, h⟩
theorem Fin.drop {n0 : Nat} {v : AV} {H H' : Heap} {n : Nat} {K : AV → Heap → Nat → Prop} (h : K v H' n0) (hl : H'.le H) (hw : H'.wf n0) (hv : v.ok n0 = true) : Fin n0 v H n K := .inl ⟨H', n0, hl, .inr ⟨rfl, hw, hv⟩, h⟩
/-- New names are given anew. -/
theorem Fin.ren {n0 : Nat} {v : AV} {H : Heap} {n : Nat} {K : AV → Heap → Nat → Prop} (σ : Nat → Nat) {v' : AV} {H' : Heap} {n' : Nat} (h : K v' H' n') (r : Ren σ n0 n' H H') (hv : v'.ok n' = true) (e : v = AV.ren σ v') : Fin n0 v H n K := .inr ⟨σ, v', H', n', r, hv, e, h⟩

def finK (P : Program) (res : List ResultVar) (n0 : Nat) (K : AV → Heap → Nat → Prop) : Exit → Env → Heap → Nat → Prop
  | .normal, env, H, n => resK P H env res fun vs => Fin n0 (pack vs) H n K
  | .ret, env, H, n => resK P H env res fun vs => Fin n0 (pack vs) H n K
  | _, _, _, _ => False

def envFrom : Nat → List AV → Env
  | _, [] => []
  | i, v :: r => (i, v) :: envFrom (i + 1) r

theorem envFrom_get : ∀ (l : List AV) (i t : Nat), (envFrom i l).get t ≠ .junk → i ≤ t ∧ l[t - i]? = some ((envFrom i l).get t)
  | [], i, t, h => absurd rfl h
  | v :: r, i, t, h => by
    simp only [envFrom, Env.get] at h ⊢
    split at h
    · rename_i e; subst e; simp
    · rename_i e
      obtain ⟨h1, h2⟩ := envFrom_get r (i + 1) t h
      refine ⟨by omega, ?_⟩
      rw [if_neg e, ← h2, show t - i = (t - (i + 1)) + 1 from by omega]; simp

def resG (tmps : Array Value) : ResultVar → Sem Value
  | .tmp t => pure (tmps.getD t undef)
  | .cell a t => do loadVar t (← asAddr (tmps.getD a undef))
theorem results_eq (fn : Func) (tmps : Array Value) : results fn tmps = (fn.results.mapM (resG tmps) >>= fun vs => pure (if h : vs.size = 1 then vs[0] else .tuple vs)) := by
  unfold results
  congr 1

theorem resK_sound {P : Program} {H : Heap} {env : Env} {m : NM} {N n : Nat} {a : Act} {w : World} (hH : HRel m H n w) (hE : ERel m N n env a) : ∀ (rs : List ResultVar) (k : List AV → Prop), resK P H env rs k →
    ∃ vs, k vs ∧ (∀ v ∈ vs, v.ok n = true) ∧ (rs.mapM (resG a.tmps)).run P w = .ok (vs.map (AV.toV m)) w
  | [], k, h => ⟨[], h, by simp, rfl⟩
  | .tmp t :: r, k, h => by
    obtain ⟨hj, h⟩ := h
    obtain ⟨vs, hk, hok, hr⟩ := resK_sound hH hE r _ h
    have e := hE.get t hj
    refine ⟨_, hk, fun v hv => ?_, ?_⟩
    · rcases List.mem_cons.1 hv with rfl | hv
      · exact e.2
      · exact hok v hv
    · rw [List.mapM_cons]
      have h1 : (resG a.tmps (.tmp t)).run P w = .ok (AV.toV m (env.get t)) w := by simp only [resG]; rw [e.1]; rfl
      rw [run_ok_bind h1, run_ok_bind hr]; rfl
  | .cell x t :: r, k, h => by
    unfold resK at h
    have hx : ∃ b off, env.get x = .pt b off := by
      unfold loadK at h
      split at h <;> first | exact ⟨_, _, by assumption⟩ | exact h.elim
    obtain ⟨b, off, hx⟩ := hx
    obtain ⟨v, hv, hl⟩ := load_sound (P := P) (env := env) (o := { dst := none, op := .load t (.tmp x), type := 0, pos := "", after := #[], guard := none }) rfl h
    obtain ⟨hrun, hok⟩ := hl m N n a w hH hE
    obtain ⟨vs, hk, hoks, hr⟩ := resK_sound hH hE r _ hv
    have e := hE.get x (by rw [hx]; simp)
    rw [hx, AV.toV] at e
    refine ⟨_, hk, fun y hy => ?_, ?_⟩
    · rcases List.mem_cons.1 hy with rfl | hy
      · exact hok
      · exact hoks y hy
    · rw [List.mapM_cons]
      have h1 : (resG a.tmps (.cell x t)).run P w = .ok (AV.toV m v) w := by
        simp only [resG]
        rw [e.1]
        have h2 : (loadVar t ⟨m.ρ b, m.β b + off, none⟩ >>= fun r => pure (Next.value r)).run P w = .ok (.value (AV.toV m v)) w := by
          have := hrun
          simp only [execOp, Act.eval, e.1, Instr.loadAt, Instr.sureAddr, pure_bind] at this
          exact this
        rw [run_bind] at h2
        show (loadVar t ⟨m.ρ b, m.β b + off, none⟩).run P w = _
        split at h2
        · rename_i y w' hy
          rw [hy]
          simp only [run_pure, Result.ok.injEq, Next.value.injEq] at h2
          rw [h2.1, h2.2]
        · simp at h2
      rw [run_ok_bind h1, run_ok_bind hr]; rfl

theorem ACalls.of_awp {P : Program} {f : FuncId} {fn : Func} {body : Code} {args : List AV} {H : Heap} {n : Nat} {K : AV → Heap → Nat → Prop} (hf : P.funcs[f]? = some fn) (hb : fn.body = some body)
    (hname : (fn.name == "runtime.NumGoroutine") = false) (hlen : args.length ≤ fn.ntmps) (hj : ∀ v ∈ args, v ≠ .junk)
    (h : H.wf n → awp P fn.ntmps body (finK P fn.results.toList n K) (envFrom 0 args) H n) : ACalls P f args H n K := by
  refine ⟨hj, fun m w hH hargs => ?_⟩
  rw [run_callFunc hf hname (by rw [hb]; rfl)]
  refine calls_of_wp hf hb ?_
  have hE : ERel m fn.ntmps n (envFrom 0 args) { tmps := (args.map (AV.toV m)).toArray ++ Array.replicate (fn.ntmps - (args.map (AV.toV m)).toArray.size) undef, defers := [] } := by
    refine ⟨by simp; omega, rfl, fun t ht => ?_⟩
    obtain ⟨_, hg⟩ := envFrom_get args 0 t ht
    rw [Nat.sub_zero] at hg
    have htl : t < args.length := by
      rcases Nat.lt_or_ge t args.length with h | h
      · exact h
      · rw [List.getElem?_eq_none h] at hg; simp at hg
    refine ⟨?_, hargs _ (List.mem_of_getElem? hg)⟩
    rw [Array.getD_eq_getD_getElem?, Array.getElem?_append_left (by simpa using htl), List.getElem?_toArray, List.getElem?_map, hg]
    rfl
  have hI : Inv m H n w m H n w := ⟨hH, Nat.le_refl _, NM.agree.refl _ _, Fr.refl _ _ _⟩
  refine wp_mono (h hH.wf m H n w m _ w hI hE) fun e a' w' ⟨m', env', H', n', hI', hE', hq⟩ => ?_
  have main : (resK P H' env' fn.results.toList fun vs => Fin n (pack vs) H' n' K) → a'.defers = [] ∧ ∃ v, (results fn a'.tmps).run P w' = .ok v w' ∧ ∃ x, Ending.returned v = .returned x ∧
      ∃ (m'' : NM) (v : AV) (H'' : Heap) (n'' : Nat), (v ≠ .junk → x = AV.toV m'' v ∧ v.ok n'' = true) ∧ HRel m'' H'' n'' w' ∧ n ≤ n'' ∧ NM.agree n m m'' ∧ Fr m H w m'' H'' w' ∧ K v H'' n'' := by
    intro hr
    obtain ⟨vs, hfin, hvok, hrun⟩ := resK_sound hI'.rel hE' _ _ hr
    have hpack : (results fn a'.tmps).run P w' = .ok (AV.toV m' (pack vs)) w' := by
      rw [results_eq]
      have h1 : (fn.results.mapM (resG a'.tmps)).run P w' = .ok (vs.map (AV.toV m')).toArray w' := by
        rw [← Array.toArray_toList (xs := fn.results), List.mapM_toArray, map_eq_pure_bind, run_ok_bind hrun]; rfl
      rw [run_ok_bind h1, run_pure]
      congr 1
      cases vs with
      | nil => rfl
      | cons v r => cases r with
        | nil => rfl
        | cons v2 r2 => simp [pack, AV.toV, AV.toVs_eq]
    have hpok : (pack vs).ok n' = true := by
      cases vs with
      | nil => rfl
      | cons v r => cases r with
        | nil => exact hvok v (by simp)
        | cons v2 r2 => simp only [pack, AV.ok, AV.oks_eq, List.all_eq_true]; exact hvok
    rcases hfin with ⟨H2, n2, hle, hn2, hK⟩ | ⟨σ, v', H2, n2, hren, hv', he, hK⟩
    rotate_left
    · refine ⟨hE'.defers, _, hpack, _, rfl, m'.comp σ, v', H2, n2, fun _ => ⟨by rw [he, AV.toV_ren], hv'⟩, hren.rel hI'.rel, hren.le, Ren.ag hren.low hI'.ag, hren.fr hI'.fr, hK⟩
    refine ⟨hE'.defers, _, hpack, _, rfl, m', pack vs, H2, n2, fun _ => ⟨rfl, ?_⟩, ?_, ?_, hI'.ag, hI'.fr.weaken hle, hK⟩
    · rcases hn2 with rfl | ⟨rfl, _, hv⟩
      · exact hpok
      · exact hv
    · rcases hn2 with rfl | ⟨rfl, hw, _⟩
      · exact hI'.rel.weaken hle
      · exact (hI'.rel.weaken hle).cut hw
    · rcases hn2 with rfl | ⟨rfl, _, _⟩
      · exact hI'.le
      · exact Nat.le_refl _
  cases e <;> first | exact main hq | exact hq.elim

theorem ACalls.of_ev {P : Program} (T : Nat → Draw) {f : FuncId} {fn : Func} {body : Code} {args : List AV} {H : Heap} {n : Nat} {K : AV → Heap → Nat → Prop} (hf : P.funcs[f]? = some fn) (hb : fn.body = some body)
    (hname : (fn.name == "runtime.NumGoroutine") = false) (hok : codeOk P fn.ntmps T body = true) (hlen : args.length ≤ fn.ntmps) (hj : ∀ v ∈ args, v ≠ .junk)
    (h : H.wf n → ev P fn.ntmps T body (finK P fn.results.toList n K) (envFrom 0 args) H n) : ACalls P f args H n K :=
  .of_awp hf hb hname hlen hj fun hw => ev_sound body _ _ H n hok (h hw)

/-- A statement, evaluated; what is known behind it is chosen anew. -/
theorem awp_cut {P : Program} {N : Nat} (T : Nat → Draw) (Q : Env → Heap → Nat → Prop) {a b : Code} {K : Exit → Env → Heap → Nat → Prop} {env : Env} {H : Heap} {n : Nat} (hok : codeOk P N T a = true)
    (h1 : ev P N T a (seqK (fun env' H' n' => ∃ e2 H2, e2.le env' ∧ H2.le H' ∧ Q e2 H2 n') K) env H n) (h2 : ∀ e H n, Q e H n → awp P N b K e H n) : awp P N (.seq a b) K env H n :=
  awp_seq ((ev_sound a _ _ _ _ hok h1).mono fun e env' H' n' hk => by
    cases e <;> first | exact hk | skip
    obtain ⟨e2, H2, he, hh, hq⟩ := hk
    exact (h2 e2 H2 n' hq).weaken he hh)
theorem awp_step {P : Program} {N : Nat} (T : Nat → Draw) {a b : Code} {K : Exit → Env → Heap → Nat → Prop} {env : Env} {H : Heap} {n : Nat} (hok : codeOk P N T a = true)
    (h1 : ev P N T a (seqK (awp P N b K) K) env H n) : awp P N (.seq a b) K env H n :=
  awp_seq (ev_sound a _ _ _ _ hok h1)
theorem Env.le_nil (e : Env) : Env.le [] e := fun _ h => absurd rfl h
theorem Env.le_cons {t : Nat} {v : AV} {e e' : Env} (h : e'.get t = v) (h' : e.le e') : Env.le ((t, v) :: e) e' := fun u hu => by
  simp only [Env.get] at hu ⊢
  split
  · rename_i c; rw [← c, h]
  · rename_i c; rw [if_neg c] at hu; exact h' u hu

end Go.Ab
