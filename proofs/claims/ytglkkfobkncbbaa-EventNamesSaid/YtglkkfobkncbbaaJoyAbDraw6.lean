import Derived.Test.YtglkkfobkncbbaaJoyAbDraw5
namespace Go.Ab

section
variable {P : Program} {N : Nat} {l : List Oper} {D : Draw} {k : Env → Heap → Nat → Prop} {m0 : NM} {H0 : Heap} {n0 : Nat} {w0 : World}

theorem loadK_det {P : Program} {H : Heap} {t : TypeId} {a : AV} {K : AV → Prop} (h : loadK P H t a K) : ∃ v, K v ∧ loadK P H t a (· = v) := by
  unfold loadK at *
  split at h <;> try exact h.elim
  rename_i b off
  cases hb : H b with
  | none => rw [hb] at h; exact h.elim
  | some blk =>
    rw [hb] at h
    cases ht : tyA P t with
    | none => rw [ht] at h; exact h.elim
    | some q =>
      obtain ⟨ag, sz⟩ := q
      rw [ht] at h
      cases ag
      · exact ⟨_, h.2, h.1, rfl⟩
      · exact ⟨_, h.2, h.1, rfl⟩

theorem ERel.congr {m : NM} {N n : Nat} {env env' : Env} {a : Act} (h : ERel m N n env a) (he : ∀ t, env'.get t = env.get t) : ERel m N n env' a :=
  h.weaken fun t _ => he t

theorem nodup_lt_length {l : List Nat} (hd : l.Nodup) {n : Nat} (h : ∀ x ∈ l, x < n) : l.length ≤ n := by
  induction n generalizing l with
  | zero =>
    cases l with
    | nil => simp
    | cons a r => exact absurd (h a List.mem_cons_self) (Nat.not_lt_zero _)
  | succ n ih =>
    have h1 : (l.erase n).length ≤ n := ih (hd.erase n) fun x hx => by
      have hx' := List.mem_of_mem_erase hx
      have := h x hx'
      have hne : x ≠ n := fun e => by subst e; exact (hd.not_mem_erase) hx
      omega
    have := List.le_length_erase (a := n) (l := l)
    omega

theorem St.reenv {pre rest : List (Nat × List Nat)} {rd : RD} {ers : List ER} {fuel : Nat} {listed : Array Bool} {cs : List (Nat × (World → Prop))} {env env' : Env} {H : Heap} {n : Nat} {m : NM} {a : Act} {w : World}
    (h : St P N l D m0 H0 n0 w0 pre rest rd ers fuel listed cs env H n m a w) (he : ERel m N n env' a) (hj : ∀ d, env.get d = .junk → env'.get d = .junk) :
    St P N l D m0 H0 n0 w0 pre rest rd ers fuel listed cs env' H n m a w :=
  { h with erel := he, msk := fun p hp hr => hj _ (h.msk p hp hr) }

theorem draw_main (hs : DrawSpec P N l D) : ∀ (q : Nat) {pre rest : List (Nat × List Nat)} {rd : RD} {ers : List ER} {fuel : Nat} {listed : Array Bool} {cs : List (Nat × (World → Prop))} {env : Env} {H : Heap} {n : Nat} {m : NM} {a : Act} {w : World},
    fuel + rest.length < q → St P N l D m0 H0 n0 w0 pre rest rd ers fuel listed cs env H n m a w → drawK P l k rest rd env H n →
    wpAnyL P .any l.toArray (drawQ N k m0 H0 n0 w0) D.before fuel listed cs a w := by
  intro q
  induction q with
  | zero => intro pre rest rd ers fuel listed cs env H n m a w hq; omega
  | succ q ih =>
    intro pre rest rd ers fuel listed cs env H n m a w hq h hk
    match rest with
    | [] =>
      have hr : Region.ready .any l.toArray listed = [] := by
        refine List.eq_nil_iff_forall_not_mem.2 fun j hj => ?_
        obtain ⟨_, _, q, hq, _⟩ := h.ready_rest hs hj
        simp at hq
      have hQ : drawQ N k m0 H0 n0 w0 .normal a w := ⟨rfl, m, env, H, n, hk, h.inv, h.erel⟩
      cases fuel with
      | zero => exact ⟨hr, hQ⟩
      | succ f => exact ⟨fun _ => hQ, by rw [hr]; simp⟩
    | (i, ws) :: r =>
      simp only [List.length_cons] at hq
      by_cases hin : i ∈ ers.map (·.1)
      · obtain ⟨env', H', n', m', hk', h'⟩ := adopt_step hs h hin hk
        exact ih (by omega) h' hk'
      · have ho : l[i]? = some (l[i]'(h.head_lt hs)) := List.getElem?_eq_getElem _
        generalize l[i]'(h.head_lt hs) = o at ho
        have body : ∀ {env' : Env}, (∀ t, env'.get t = env.get t) → Region.wanted o (yielded l.toArray a.tmps) = true → drawOp P o i ws (drawK P l k r) rd env' H n →
            wpAnyL P .any l.toArray (drawQ N k m0 H0 n0 w0) D.before fuel listed cs a w := by
          intro env' he hw hk'
          have h' : St P N l D m0 H0 n0 w0 pre ((i, ws) :: r) rd ers fuel listed cs env' H n m a w := h.reenv (h.erel.congr he) (fun d hd => by rw [he]; exact hd)
          cases hld : isLoad o.op with
          | true =>
            obtain ⟨t, x, hop⟩ : ∃ t x, o.op = .load t x := by
              cases hop : o.op <;> rw [hop] at hld <;> first | exact ⟨_, _, rfl⟩ | simp [isLoad] at hld
            simp only [drawOp, hop] at hk'
            obtain ⟨v, hv, hlv⟩ := loadK_det hk'
            have hrun : ∀ {m' H' n' w'}, HRel m' H' n' w' → n ≤ n' → NM.agree n m m' → loadK P H' t (opv env' x) (· = v) → (execOp a.eval o).run P w' = .ok (.value (AV.toV m' v)) w' ∧ v.ok n' = true := fun {m' H' n' w'} h1 h2 h3 h4 => by
              obtain ⟨v', rfl, hr⟩ := load_sound hop h4
              exact hr m' N n' a w' h1 (h'.erel.agree h3 h2)
            have hok := (hrun h.inv.rel (Nat.le_refl n) (NM.agree.refl n m) hlv).2
            refine light_step hs (C := LC P m n t (opv env' x) v) (x := AV.toV m v) (v := v) h' ho hin (.inl ⟨hw, fun w' ⟨m', H', n', h1, h2, h3, h4⟩ => ?_⟩) ⟨m, H, n, h.inv.rel, Nat.le_refl n, NM.agree.refl n m, hlv⟩ (fun _ => ⟨rfl, hok⟩)
              (rd' := (i, t, opv env' x, v) :: rd) (fun y hy => List.mem_cons_of_mem _ hy) (.inr ⟨⟨o, ho, hld⟩, t, opv env' x, v, m, n, List.mem_cons_self, rfl, Nat.le_refl n, NM.agree.refl n m, hlv⟩) (fun h' hf => ih (by omega) h' hv)
            rw [(hrun h1 h2 h3 h4).1, AV.toV_agree h3 v hok]
          | false =>
            cases hl : lightOp o.op with
            | true =>
              have hk2 : evOp P env' nilH n o.op (litK (drawK P l k r rd) o.dst env' H n) := by
                unfold drawOp at hk'
                split at hk'
                · rename_i hop; rw [hop] at hld; simp [isLoad] at hld
                · rw [if_pos hl] at hk'; exact hk'
              obtain ⟨v, hv, hp⟩ := light_sound (K := fun v => drawK P l k r rd (putE o.dst v env') H n) hl hk2
              obtain ⟨x, hx, hxv⟩ := hp m N n a h'.erel
              exact light_step hs (C := fun _ => True) h' ho hin (.inl ⟨hw, fun w' _ => hx w'⟩) trivial hxv (rd' := rd) (fun y hy => hy) (.inl fun _ => trivial) (fun h' hf => ih (by omega) h' hv)
            | false =>
              exact stop_step hs h' ho hin hl hld hw hk' (fun h2 hf hk2 => ih (by omega) h2 hk2)
                (fun h2 hf => ih (by simp only [List.length_cons]; omega) (h2.reenv (h2.erel.congr fun t => (he t).symm) (fun d hd => by rw [← he]; exact hd)) hk)
        have hk0 := hk
        unfold drawK at hk0
        rw [ho] at hk0
        simp only at hk0
        split at hk0
        · rename_i hg
          exact body (fun _ => rfl) (wanted_none hg _) hk0
        · rename_i j want hg
          split at hk0 <;> try exact hk0.elim
          rename_i t ht
          split at hk0 <;> try exact hk0.elim
          · rename_i c hc
            have hy := yielded_of (ops := l) h.erel ht hc
            by_cases hcw : c = want
            · refine body (env' := (t, .bo want) :: env) (fun u => ?_) (by simp [Region.wanted, hg, hy, hcw]) (hk0.1 hcw)
              simp only [Env.get]
              split
              · rename_i e; rw [← e, hc, hcw]
              · rfl
            · have hcn : c = !want := by cases c <;> cases want <;> simp_all
              have he : ∀ u, Env.get ((t, .bo (!want)) :: env) u = env.get u := fun u => by
                simp only [Env.get]
                split
                · rename_i e; rw [← e, hc, hcn]
                · rfl
              have h' : St P N l D m0 H0 n0 w0 pre ((i, ws) :: r) rd ers fuel listed cs ((t, .bo (!want)) :: env) H n m a w := h.reenv (h.erel.congr he) (fun d hd => by rw [he]; exact hd)
              exact light_step hs (C := fun _ => True) (x := undef) (v := .tu []) h' ho hin (.inr ⟨by simp [Region.wanted, hg, hy, hcw], rfl⟩) trivial (fun _ => undef_tu m n) (rd' := rd) (fun y hy => hy) (.inl fun _ => trivial) (fun h' hf => ih (by omega) h' (hk0.2 hcn))
          · rename_i hc
            have hy := yielded_none (ops := l) h.erel ht hc
            exact light_step hs (C := fun _ => True) (x := undef) (v := .tu []) h ho hin (.inr ⟨by simp [Region.wanted, hg, hy], rfl⟩) trivial (fun _ => undef_tu m n) (rd' := rd) (fun y hy => hy) (.inl fun _ => trivial) (fun h' hf => ih (by omega) h' hk0)

/-- The slots of what may be made ahead are not known. -/
def maskE (es : List (Nat × Nat)) (env : Env) : Env := es.map (fun p => (p.2, AV.junk)) ++ env
theorem maskE_get {es : List (Nat × Nat)} {env : Env} {p : Nat × Nat} (hp : p ∈ es) : (maskE es env).get p.2 = .junk := by
  induction es with
  | nil => simp at hp
  | cons q r ih =>
    simp only [maskE, List.map_cons, List.cons_append, Env.get]
    split
    · rfl
    · rename_i hne
      rcases List.mem_cons.1 hp with rfl | hp
      · exact absurd rfl hne
      · exact ih hp
theorem maskE_le {es : List (Nat × Nat)} {env : Env} : (maskE es env).le env := by
  intro t ht
  induction es with
  | nil => rfl
  | cons q r ih =>
    simp only [maskE, List.map_cons, List.cons_append, Env.get] at ht ⊢
    split at ht
    · exact absurd rfl ht
    · rename_i hne; rw [if_neg hne]; exact ih ht

theorem HRel.drawn {m : NM} {H : Heap} {n : Nat} {w : World} (h : HRel m H n w) : HRel m H n { w with drawn := w.drawn + 1 } := ⟨h.dom, h.blk, h.inj, h.ok⟩
theorem Fr.drawn {m m' : NM} {H H' : Heap} {w w' : World} (h : Fr m H w m' H' w') : Fr m H w m' H' { w' with drawn := w'.drawn + 1 } := ⟨h.os, h.tape, h.output, h.size, h.keep, h.own⟩

theorem replicate_false (n x : Nat) : (Array.replicate n false).getD x false = false := by
  rcases Nat.lt_or_ge x n with h | h
  · simp [h]
  · simp [Array.getElem?_eq_none (xs := Array.replicate n false) (i := x) (by simpa using h)]

theorem awp_draw {id : Nat} (hm : P.follows .mixedOrders = true) (hd : drawOk P N l D = true) {K : Exit → Env → Heap → Nat → Prop} {env : Env} {H : Heap} {n : Nat}
    (h : drawK P l (K .normal) D.ord [] (maskE D.es env) H n) : awp P N (.region id l.toArray true) K env H n := by
  intro m0 H0 n0 w0 m a w hI hE
  have hs := drawOk_spec hd
  have hpost : ∀ e a' w', drawQ N (K .normal) m0 H0 n0 w0 e a' w' → ∃ m' env' H' n', Inv m0 H0 n0 w0 m' H' n' w' ∧ ERel m' N n' env' a' ∧ K e env' H' n' := by
    rintro e a' w' ⟨rfl, m', env', H', n', hK, h1, h2⟩
    exact ⟨m', env', H', n', h1, h2, hK⟩
  refine wp_mono ?_ hpost
  refine wp_region_any hm (wpAny_of_L (anc := D.before) _ _ [] _ _ ?_)
  refine draw_main hs _ (Nat.lt_succ_self _) (pre := []) (rest := D.ord) (rd := []) (ers := []) (cs := []) (env := maskE D.es env) ⟨rfl, ⟨hI.rel.drawn, hI.le, hI.ag, hI.fr.drawn⟩, hE.weaken maskE_le, ?_, by simp, ?_, ?_, by simp, by simp, by simp, fun p hp _ => maskE_get hp, by simp⟩ h
  · intro x
    simp only [List.map_nil, List.not_mem_nil, or_self, iff_false, replicate_false]
    simp
  · intro j hj
    rw [replicate_false] at hj
    cases hj
  · have : (D.ord.filter fun p => !(([] : List ER).map (·.1)).contains p.1).length ≤ D.ord.length := List.length_filter_le _ _
    refine Nat.le_trans this ?_
    have hnd : (D.ord.map (·.1)).Nodup := by
      rw [List.Nodup, List.pairwise_map]
      exact hs.pairs.imp fun h => (pairOk_ne h).1
    have hsub : ∀ x ∈ D.ord.map (·.1), x < l.length := fun x hx => by
      obtain ⟨p, hp, rfl⟩ := List.mem_map.1 hx
      exact hs.lt p hp
    rw [← List.length_map (f := (·.1))]
    simpa using nodup_lt_length hnd hsub

end
end Go.Ab
