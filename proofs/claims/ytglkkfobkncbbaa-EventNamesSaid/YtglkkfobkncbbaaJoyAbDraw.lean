import Derived.Test.YtglkkfobkncbbaaJoyAbCode2
import Derived.OrdersHeld
namespace Go.Ab

/-! ### Regions whose order is drawn: at the machine's own level -/
section
variable {P : Program} {ops : Array Oper} {Q : Exit → Act → World → Prop} {md : Region.Mode} {anc : Nat → Nat → Bool}

/-- Whatever order is picked, with conditions on the world that what was taken first needs. -/
def wpAnyL (P : Program) (md : Region.Mode) (ops : Array Oper) (Q : Exit → Act → World → Prop) (anc : Nat → Nat → Bool) : Nat → Array Bool → List (Nat × (World → Prop)) → Act → World → Prop
  | 0, listed, _, a, w => Region.ready md ops listed = [] ∧ Q .normal a w
  | fuel + 1, listed, cs, a, w =>
    (Region.ready md ops listed = [] → Q .normal a w) ∧
    ∀ i ∈ Region.ready md ops listed, wpOp P ops Q i (fun a' w' => (∀ c ∈ cs, anc c.1 i = false → c.2 w') ∧ wpAnyL P md ops Q anc fuel (listed.setIfInBounds i true) (cs.filter fun c => !anc c.1 i) a' w') a w

theorem wpAny_of_L : ∀ (fuel : Nat) (listed : Array Bool) (cs : List (Nat × (World → Prop))) (a : Act) (w : World), wpAnyL P md ops Q anc fuel listed cs a w → wpAny P md ops Q fuel listed a w
  | 0, _, _, _, _, h => h
  | fuel + 1, _, _, _, _, h => ⟨h.1, fun i hi => wpOp_mono (fun a' w' h' => wpAny_of_L fuel _ _ a' w' h'.2) (h.2 i hi)⟩

theorem wpAnyL_sub : ∀ (fuel : Nat) (listed : Array Bool) (cs cs' : List (Nat × (World → Prop))) (a : Act) (w : World), (∀ c ∈ cs', c ∈ cs) → wpAnyL P md ops Q anc fuel listed cs a w → wpAnyL P md ops Q anc fuel listed cs' a w
  | 0, _, _, _, _, _, _, h => h
  | fuel + 1, _, cs, cs', _, _, hs, h => ⟨h.1, fun i hi => wpOp_mono (fun a' w' h' => ⟨fun c hc => h'.1 c (hs c hc), wpAnyL_sub fuel _ _ _ a' w' (fun c hc => by
      simp only [List.mem_filter] at hc ⊢
      exact ⟨hs c hc.1, hc.2⟩) h'.2⟩) (h.2 i hi)⟩

def Closed (anc : Nat → Nat → Bool) (listed : Array Bool) : Prop := ∀ j, listed.getD j false = true → ∀ x, anc x j = true → listed.getD x false = true

/-- An ancestor is a direct one, or one of a direct one. -/
def AncOk (md : Region.Mode) (ops : Array Oper) (anc : Nat → Nat → Bool) : Prop := ∀ j x o, ops[j]? = some o → anc x j = true → ∃ e ∈ o.after, Region.binds md e = true ∧ (x = e.on ∨ anc x e.on = true)

theorem ready_anc (ha : AncOk md ops anc) {listed : Array Bool} (hc : Closed anc listed) {j : Nat} (hj : j ∈ Region.ready md ops listed) {x : Nat} (hx : anc x j = true) : listed.getD x false = true := by
  obtain ⟨_, o, ho, hall⟩ := mem_ready.1 hj
  obtain ⟨e, he, hb, hx⟩ := ha j x o ho hx
  have h1 := hall e he hb
  rcases hx with rfl | hx
  · exact h1
  · exact hc _ h1 _ hx

theorem Closed.set (ha : AncOk md ops anc) {listed : Array Bool} (hc : Closed anc listed) {j : Nat} (hj : j ∈ Region.ready md ops listed) : Closed anc (listed.setIfInBounds j true) := by
  intro i hi x hx
  by_cases e : i = j
  · subst e; exact getD_set_true (ready_anc ha hc hj hx)
  · rw [getD_set_ne false (Ne.symm e)] at hi
    exact getD_set_true (hc i hi x hx)

theorem unlisted_of {listed : Array Bool} {i : Nat} (h : listed.getD i true = false) : listed.getD i false = false := by
  rcases Nat.lt_or_ge i listed.size with h' | h'
  · simpa [h'] using h
  · simp [Array.getElem?_eq_none h'] at h

theorem wpAnyL_first (ha : AncOk md ops anc) {i : Nat} {oi : Oper} {v : Value} {C : World → Prop} (hi : ops[i]? = some oi) (hsel : ∀ (j : Nat) (o : Oper) cs b, ops[j]? = some o → o.op ≠ .select cs b)
    (hQ : ∀ c a w, Q (.panic c) (a.put oi.dst v) w → Q (.panic c) a w) :
    ∀ (fuel : Nat) (listed : Array Bool) (cs : List (Nat × (World → Prop))) (a : Act) (w : World), Closed anc listed →
      (∀ j oj, ops[j]? = some oj → j ≠ i → listed.getD j true = false → anc i j = false → oi.apart ops oj = true) →
      i ∈ Region.ready md ops listed → YieldsIf P ops C oi v a → C w → (∀ c ∈ cs, c.2 w) →
      wpAnyL P md ops Q anc fuel (listed.setIfInBounds i true) ((i, C) :: cs) (a.put oi.dst v) w → wpAnyL P md ops Q anc (fuel + 1) listed cs a w := by
  intro fuel
  induction fuel with
  | zero =>
    intro listed cs a w hcl _ hr hy hS hcs H
    refine ⟨fun h => (by rw [h] at hr; cases hr), fun j hj => ?_⟩
    by_cases hji : j = i
    · subst hji; exact hy.wpOp hi hS ⟨fun c hc _ => hcs c hc, H⟩
    · have := ready_mono hj hji
      rw [H.1] at this
      cases this
  | succ fuel ih =>
    intro listed cs a w hcl hfree hr hy hS hcs H
    refine ⟨fun h => (by rw [h] at hr; cases hr), fun j hj => ?_⟩
    by_cases hji : j = i
    · subst hji
      refine hy.wpOp hi hS ⟨fun c hc _ => hcs c hc, wpAnyL_sub _ _ _ _ _ _ (fun c hc => ?_) H⟩
      exact List.mem_cons_of_mem _ (List.mem_filter.1 hc).1
    · have h1 := H.2 j (ready_mono hj hji)
      obtain ⟨hjun, oj, hoj, hall⟩ := mem_ready.1 hj
      have hiun := unlisted_of (mem_ready.1 hr).1
      have hnot : anc i j = false := by
        cases hx : anc i j
        · rfl
        · rw [ready_anc ha hcl hj hx] at hiun; cases hiun
      have h2 := wpOp_putIf hoj (hfree j oj hoj hji hjun hnot) (fun cs b => hsel i oi cs b hi) (fun cs b => hsel j oj cs b hoj) hQ hy h1
      have hfree' : ∀ k ok, ops[k]? = some ok → k ≠ i → (listed.setIfInBounds j true).getD k true = false →
          anc i k = false → oi.apart ops ok = true := fun k ok hk hki hun hno => by
        refine hfree k ok hk hki ?_ hno
        by_cases hjk : j = k
        · subst hjk; exact hjun
        · rw [getD_set_ne true hjk] at hun; exact hun
      refine wpOp_mono (fun a' w' h3 => ⟨fun c hc hx => h3.2.1 c (List.mem_cons_of_mem _ hc) hx, ih (listed.setIfInBounds j true) (cs.filter fun c => !anc c.1 j) a' w' (hcl.set ha hj) hfree' (ready_mono hr (Ne.symm hji)) h3.1
        (h3.2.1 (i, C) (List.mem_cons_self) hnot) (fun c hc => ?_) ?_⟩) h2
      · simp only [List.mem_filter] at hc
        exact h3.2.1 c (List.mem_cons_of_mem _ hc.1) (by simpa using hc.2)
      · rw [Array.setIfInBounds_comm _ _ hji]
        have := h3.2.2
        rw [List.filter_cons_of_pos (by simp [hnot])] at this
        exact this

end
end Go.Ab
