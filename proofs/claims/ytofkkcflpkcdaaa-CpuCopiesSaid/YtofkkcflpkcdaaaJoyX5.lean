/- Parts of the proof: contracts of the seat's functions. -/
import Derived.Test.YtofkkcflpkcdaaaJoyX4
set_option linter.unusedSimpArgs false
set_option linter.unusedVariables false
namespace Go.Proofs.Joy
open Go.Ab Go.Proofs

set_option maxHeartbeats 4000000
set_option maxRecDepth 20000
section
variable {σ : Type} {W : WC Try.prog σ} {t : TypeId} {H0 : Heap} {n0 : Nat} {F0 : Nat → Prop} {k : Nat} {c : Core} {s : σ} {H : Heap} {n : Nat} {K : AV → Heap → Nat → Prop} (M : MT W t)
include M
theorem m_bits (A : AtC W t H0 n0 F0 k c s H n) (op v fr : BitVec 8) (h : ∀ H' n', AtC W t H0 n0 F0 k (c.setF (bitsS op v fr c.r.f).2.2) s H' n' → K (.tu [.u8 (bitsS op v fr c.r.f).1, .bo (bitsS op v fr c.r.f).2.1]) H' n') : ACalls Try.prog 39 [.pt k 0, .ag [.i64 (xO op), .i64 (yO op), .i64 (zO op), .i64 (yO op / 2 : Nat), .i64 (yO op % 2 : Nat)], .u8 v, .u8 fr] H n K := by
  refine ACalls.of_awp Try.func39 rfl (by decide +kernel) (show 4 ≤ 58 by decide) (by simp) fun wf => ?_
  obtain ⟨F1, A, up⟩ := A.boxed ⟨[.i64 (xO op), .i64 (yO op), .i64 (zO op), .i64 (yO op / 2 : Nat), .i64 (yO op % 2 : Nat)], 53, false⟩ (by simp [AV.ok])
  have hb := A.blk29
  have hk := (up A).2.2.1
  have hu := fun X Y => Heap.upd_ne X Y hk
  have mr := M.r
  have mw := M.w
  have mi := M.i
  have mo := M.o
  refine awp_ev dr39 (by decide +kernel) ?_
  unfold bitsS at h
  simp only [go_sem, Try.f39, hb, hu]
  (repeat' first | (((with_reducible refine And.intro ?_ ?_) <;> intro e <;> (first | (with_reducible replace e := nbT e) | (with_reducible replace e := nbF e) | (with_reducible replace e := dT e) | (with_reducible replace e := dF e) | (with_reducible replace e := iT e) | (with_reducible replace e := iF e) | skip) <;> (try (exfalso; omega)))) | ((with_reducible first | refine c_join _ _ _ _ _ ?_ | refine c_split _ _ _ _ ?_ | refine c_move _ _ _ _ _ ?_ | refine c_cut _ _ _ _ ?_ | refine c_do _ _ _ _ _ _ _ ?_ | refine c_daa _ _ _ _ _ ?_ | refine c_flip _ _ _ _ _ _ ?_ | refine c_quick _ _ _ _ _ _ ?_ | refine c_add16 _ _ _ _ _ _ ?_ | refine c_adc16 _ _ _ _ _ _ ?_ | refine c_sbc16 _ _ _ _ _ _ ?_ | refine c_rot _ _ _ _ _ _ ?_ | refine c_bitt _ _ _ _ _ _ _ ?_ | refine c_put _ _ _ _ _ _ ?_ | refine c_digits _ _ _ _ _ _ _ ?_ | refine c_rload _ _ _ _ _ _ _ ?_ | refine c_rseek _ _ _ _ _ _ _ ?_ | refine c_rport _ _ _ _ _ _ ?_ | refine c_inc _ _ _ _ _ ?_ | refine c_dec _ _ _ _ _ ?_ | refine c_shape _ _ _ _ ?_ | refine c_sub _ _ _ _ _ _ ?_ | refine c_pushed _ _ _ _ ?_); ((have hb := A.blk29; have hx := (up A).2.1; simp only [go_sem, hb, hx, hu, mr, mw, mi, mo, Rg.cells]))) | ((first | refine c_longer _ 7 15 _ _ _ ?_ | refine c_longer _ 10 15 _ _ _ ?_ | refine c_longer _ 11 19 _ _ _ ?_ | refine c_swap ⟨_, _, _, _, _, _, _, _, _, _, _, _, _, _, _, _, _, _, _, _, _, _, _, _, _, _, _, _, _⟩ _ _ _ _ ?_ | refine c_tick ⟨_, _, _, _, _, _, _, _, _, _, _, _, _, _, _, _, _, _, _, _, _, _, _, _, _, _, _, _, _⟩ _ _ _ ?_ | refine c_setpair ⟨_, _, _, _, _, _, _, _, _, _, _, _, _, _, _, _, _, _, _, _, _, _, _, _, _, _, _, _, _⟩ 2 (by decide) _ _ _ _ ?_ | refine m_pair A 2 (by decide) ?_ | refine m_pair A 0 (by decide) ?_ | refine m_pair A 1 (by decide) ?_ | refine m_pair A _ (by (first | decide | exact pushed_lt (by have := yO_lt op; omega) | exact yO_lt op | exact zO_lt op | (have := yO_lt op; have := zO_lt op; omega))) ?_ | refine m_one A _ (by (first | decide | exact pushed_lt (by have := yO_lt op; omega) | exact yO_lt op | exact zO_lt op | (have := yO_lt op; have := zO_lt op; omega))) ?_ | refine c_met _ _ (by (first | decide | exact pushed_lt (by have := yO_lt op; omega) | exact yO_lt op | exact zO_lt op | (have := yO_lt op; have := zO_lt op; omega))) _ _ _ ?_ | refine m_pair A.put29 2 (by decide) ?_ | refine m_pair A.put29 0 (by decide) ?_ | refine m_pair A.put29 1 (by decide) ?_ | refine m_pair A.put29 _ (by (first | decide | exact pushed_lt (by have := yO_lt op; omega) | exact yO_lt op | exact zO_lt op | (have := yO_lt op; have := zO_lt op; omega))) ?_ | refine m_one A.put29 _ (by (first | decide | exact pushed_lt (by have := yO_lt op; omega) | exact yO_lt op | exact zO_lt op | (have := yO_lt op; have := zO_lt op; omega))) ?_); ((have hb := A.blk29; have hx := (up A).2.1; simp only [go_sem, hb, hx, hu, mr, mw, mi, mo, Rg.cells]))) | ((first | refine m_next M A (by omega) fun v s H n r lf A => ?_ | refine m_next M A.put29 (by omega) fun v s H n r lf A => ?_ | refine m_fetch M A (by omega) fun v c s H n r lf A => ?_ | refine m_fetch M A.put29 (by omega) fun v c s H n r lf A => ?_ | refine m_word M A (by omega) fun v c s H n r lf A => ?_ | refine m_word M A.put29 (by omega) fun v c s H n r lf A => ?_ | refine m_load M A _ (by omega) fun v s H n r lf A => ?_ | refine m_load M A.put29 _ (by omega) fun v s H n r lf A => ?_ | refine m_store M A _ _ (by omega) fun s H n r lf A => ?_ | refine m_store M A.put29 _ _ (by omega) fun s H n r lf A => ?_ | refine m_push M A _ (by omega) fun c s H n r lf A => ?_ | refine m_push M A.put29 _ (by omega) fun c s H n r lf A => ?_ | refine m_pop M A (by omega) fun v c s H n r lf A => ?_ | refine m_pop M A.put29 (by omega) fun v c s H n r lf A => ?_ | refine m_pointed M A (by omega) fun v p w q s H n r lf A => ?_ | refine m_pointed M A.put29 (by omega) fun v p w q s H n r lf A => ?_ | refine m_setpair A 2 (by decide) _ fun H n A => ?_ | refine m_setpair A.put29 2 (by decide) _ fun H n A => ?_ | refine m_setpair A 1 (by decide) _ fun H n A => ?_ | refine m_setpair A.put29 1 (by decide) _ fun H n A => ?_ | refine m_setpair A 0 (by decide) _ fun H n A => ?_ | refine m_setpair A.put29 0 (by decide) _ fun H n A => ?_ | refine m_setpair A _ (by (first | decide | exact pushed_lt (by have := yO_lt op; omega) | exact yO_lt op | exact zO_lt op | (have := yO_lt op; have := zO_lt op; omega))) _ fun H n A => ?_ | refine m_setpair A.put29 _ (by (first | decide | exact pushed_lt (by have := yO_lt op; omega) | exact yO_lt op | exact zO_lt op | (have := yO_lt op; have := zO_lt op; omega))) _ fun H n A => ?_ | refine m_setone A _ (by (first | decide | exact pushed_lt (by have := yO_lt op; omega) | exact yO_lt op | exact zO_lt op | (have := yO_lt op; have := zO_lt op; omega))) _ fun H n A => ?_ | refine m_setone A.put29 _ (by (first | decide | exact pushed_lt (by have := yO_lt op; omega) | exact yO_lt op | exact zO_lt op | (have := yO_lt op; have := zO_lt op; omega))) _ fun H n A => ?_ | refine m_to A _ fun H n A => ?_ | refine m_to A.put29 _ fun H n A => ?_ | refine m_told A _ fun H n A => ?_ | refine m_told A.put29 _ fun H n A => ?_ | refine A.rd (by omega) fun v s H n r lf A => ?_ | refine A.put29.rd (by omega) fun v s H n r lf A => ?_ | refine A.wr (by omega) fun s H n r lf A => ?_ | refine A.put29.wr (by omega) fun s H n r lf A => ?_ | refine A.ip (by decide) (by omega) fun v s H n r lf A => ?_ | refine A.put29.ip (by decide) (by omega) fun v s H n r lf A => ?_ | refine A.op (by decide) (by omega) fun s H n r lf A => ?_ | refine A.put29.op (by decide) (by omega) fun s H n r lf A => ?_); ((have hb := A.blk29; have hx := (up A).2.1; simp only [go_sem, hb, hx, hu, mr, mw, mi, mo, Rg.cells]))) | ((first | refine m_bits M A _ _ _ fun H n A => ?_); ((have hb := A.blk29; have hx := (up A).2.1; simp only [go_sem, hb, hx, hu, mr, mw, mi, mo, Rg.cells]))) | ((first | refine m_bits M A.put29 _ _ _ fun H n A => ?_); ((have hb := A.blk29; have hx := (up A).2.1; simp only [go_sem, hb, hx, hu, mr, mw, mi, mo, Rg.cells]))))
  · have e0 : xO op = 0 := by omega
    simp +decide only [e0, if_true, if_false] at h
    exact Fin.keep (h _ _ (up A.put29).1)
  · have e0 : xO op = 1 := by omega
    simp +decide only [e0, if_true, if_false] at h
    exact Fin.keep (h _ _ (up A.put29).1)
  · have h4 := xO_lt op
    have hx : xO op = 2 ∨ xO op = 3 := by omega
    rcases hx with hx | hx
    · simp +decide only [hx, if_true, if_false] at h
      have e3 : ∀ b : Bool, b = ((xO op : Int) == 3) → b = false := fun b hb => by rw [hb, hx]; rfl
      have e9 := h _ _ (up A).1
      rw [e3 _ rfl]
      exact Fin.keep e9
    · simp +decide only [hx, if_true, if_false] at h
      have e3 : ∀ b : Bool, b = ((xO op : Int) == 3) → b = true := fun b hb => by rw [hb, hx]; rfl
      have e9 := h _ _ (up A).1
      rw [e3 _ rfl]
      exact Fin.keep e9
end
section
variable {σ : Type} {W : WC Try.prog σ} {t : TypeId} {H0 : Heap} {n0 : Nat} {F0 : Nat → Prop} {k : Nat} {c : Core} {s : σ} {H : Heap} {n : Nat} {K : AV → Heap → Nat → Prop} (M : MT W t)
include M
theorem m_turnedfar (A : AtC W t H0 n0 F0 k c s H n) (hl : 4 ≤ W.left s) (h : ∀ (v : Nat) c' s' H' n', (turnedFarM c).run W.O s = ((v, c'), s') → W.left s ≤ W.left s' + 4 → AtC W t H0 n0 F0 k c' s' H' n' → K (.i64 v) H' n') : ACalls Try.prog 38 [.pt k 0] H n K := by
  refine ACalls.of_awp Try.func38 rfl (by decide +kernel) (show 1 ≤ 48 by decide) (by simp) fun wf => ?_
  have mr := M.r
  have mw := M.w
  have mi := M.i
  have mo := M.o
  refine awp_ev dr38 (by decide +kernel) ?_
  simp only [go_sem, Try.f38]
  refine m_pointed M A (by omega) fun a p w q s H n r lf A => ?_
  simp only [go_sem]
  refine m_next M A (by omega) fun op s H n r lf A => ?_
  simp only [go_sem]
  refine c_cut _ _ _ _ ?_
  ((have hw := A; obtain ⟨F1, A, up⟩ := A.boxed ⟨[.i64 (xO op), .i64 (yO op), .i64 (zO op), .i64 (yO op / 2 : Nat), .i64 (yO op % 2 : Nat)], 53, false⟩ (by simp [AV.ok]); have hk := (up A).2.2.1; have hu := fun X Y => Heap.upd_ne X Y hk))
  have hb := A.blk29
  simp only [go_sem, hb, mr, mw, hu]
  (repeat' first | (((with_reducible refine And.intro ?_ ?_) <;> intro e <;> (first | (with_reducible replace e := nbT e) | (with_reducible replace e := nbF e) | (with_reducible replace e := dT e) | (with_reducible replace e := dF e) | (with_reducible replace e := iT e) | (with_reducible replace e := iF e) | skip) <;> (try (exfalso; omega)))) | ((with_reducible first | refine c_join _ _ _ _ _ ?_ | refine c_split _ _ _ _ ?_ | refine c_move _ _ _ _ _ ?_ | refine c_cut _ _ _ _ ?_ | refine c_do _ _ _ _ _ _ _ ?_ | refine c_daa _ _ _ _ _ ?_ | refine c_flip _ _ _ _ _ _ ?_ | refine c_quick _ _ _ _ _ _ ?_ | refine c_add16 _ _ _ _ _ _ ?_ | refine c_adc16 _ _ _ _ _ _ ?_ | refine c_sbc16 _ _ _ _ _ _ ?_ | refine c_rot _ _ _ _ _ _ ?_ | refine c_bitt _ _ _ _ _ _ _ ?_ | refine c_put _ _ _ _ _ _ ?_ | refine c_digits _ _ _ _ _ _ _ ?_ | refine c_rload _ _ _ _ _ _ _ ?_ | refine c_rseek _ _ _ _ _ _ _ ?_ | refine c_rport _ _ _ _ _ _ ?_ | refine c_inc _ _ _ _ _ ?_ | refine c_dec _ _ _ _ _ ?_ | refine c_shape _ _ _ _ ?_ | refine c_sub _ _ _ _ _ _ ?_ | refine c_pushed _ _ _ _ ?_); ((have hb := A.blk29; have hx := (up A).2.1; simp only [go_sem, hb, hx, hu, mr, mw, mi, mo, Rg.cells]))) | ((first | refine c_longer _ 7 15 _ _ _ ?_ | refine c_longer _ 10 15 _ _ _ ?_ | refine c_longer _ 11 19 _ _ _ ?_ | refine c_swap ⟨_, _, _, _, _, _, _, _, _, _, _, _, _, _, _, _, _, _, _, _, _, _, _, _, _, _, _, _, _⟩ _ _ _ _ ?_ | refine c_tick ⟨_, _, _, _, _, _, _, _, _, _, _, _, _, _, _, _, _, _, _, _, _, _, _, _, _, _, _, _, _⟩ _ _ _ ?_ | refine c_setpair ⟨_, _, _, _, _, _, _, _, _, _, _, _, _, _, _, _, _, _, _, _, _, _, _, _, _, _, _, _, _⟩ 2 (by decide) _ _ _ _ ?_ | refine m_pair A 2 (by decide) ?_ | refine m_pair A 0 (by decide) ?_ | refine m_pair A 1 (by decide) ?_ | refine m_pair A _ (by (first | decide | exact pushed_lt (by have := yO_lt op; omega) | exact yO_lt op | exact zO_lt op | (have := yO_lt op; have := zO_lt op; omega))) ?_ | refine m_one A _ (by (first | decide | exact pushed_lt (by have := yO_lt op; omega) | exact yO_lt op | exact zO_lt op | (have := yO_lt op; have := zO_lt op; omega))) ?_ | refine c_met _ _ (by (first | decide | exact pushed_lt (by have := yO_lt op; omega) | exact yO_lt op | exact zO_lt op | (have := yO_lt op; have := zO_lt op; omega))) _ _ _ ?_ | refine m_pair A.put29 2 (by decide) ?_ | refine m_pair A.put29 0 (by decide) ?_ | refine m_pair A.put29 1 (by decide) ?_ | refine m_pair A.put29 _ (by (first | decide | exact pushed_lt (by have := yO_lt op; omega) | exact yO_lt op | exact zO_lt op | (have := yO_lt op; have := zO_lt op; omega))) ?_ | refine m_one A.put29 _ (by (first | decide | exact pushed_lt (by have := yO_lt op; omega) | exact yO_lt op | exact zO_lt op | (have := yO_lt op; have := zO_lt op; omega))) ?_); ((have hb := A.blk29; have hx := (up A).2.1; simp only [go_sem, hb, hx, hu, mr, mw, mi, mo, Rg.cells]))) | ((first | refine m_next M A (by omega) fun v s H n r lf A => ?_ | refine m_next M A.put29 (by omega) fun v s H n r lf A => ?_ | refine m_fetch M A (by omega) fun v c s H n r lf A => ?_ | refine m_fetch M A.put29 (by omega) fun v c s H n r lf A => ?_ | refine m_word M A (by omega) fun v c s H n r lf A => ?_ | refine m_word M A.put29 (by omega) fun v c s H n r lf A => ?_ | refine m_load M A _ (by omega) fun v s H n r lf A => ?_ | refine m_load M A.put29 _ (by omega) fun v s H n r lf A => ?_ | refine m_store M A _ _ (by omega) fun s H n r lf A => ?_ | refine m_store M A.put29 _ _ (by omega) fun s H n r lf A => ?_ | refine m_push M A _ (by omega) fun c s H n r lf A => ?_ | refine m_push M A.put29 _ (by omega) fun c s H n r lf A => ?_ | refine m_pop M A (by omega) fun v c s H n r lf A => ?_ | refine m_pop M A.put29 (by omega) fun v c s H n r lf A => ?_ | refine m_pointed M A (by omega) fun v p w q s H n r lf A => ?_ | refine m_pointed M A.put29 (by omega) fun v p w q s H n r lf A => ?_ | refine m_setpair A 2 (by decide) _ fun H n A => ?_ | refine m_setpair A.put29 2 (by decide) _ fun H n A => ?_ | refine m_setpair A 1 (by decide) _ fun H n A => ?_ | refine m_setpair A.put29 1 (by decide) _ fun H n A => ?_ | refine m_setpair A 0 (by decide) _ fun H n A => ?_ | refine m_setpair A.put29 0 (by decide) _ fun H n A => ?_ | refine m_setpair A _ (by (first | decide | exact pushed_lt (by have := yO_lt op; omega) | exact yO_lt op | exact zO_lt op | (have := yO_lt op; have := zO_lt op; omega))) _ fun H n A => ?_ | refine m_setpair A.put29 _ (by (first | decide | exact pushed_lt (by have := yO_lt op; omega) | exact yO_lt op | exact zO_lt op | (have := yO_lt op; have := zO_lt op; omega))) _ fun H n A => ?_ | refine m_setone A _ (by (first | decide | exact pushed_lt (by have := yO_lt op; omega) | exact yO_lt op | exact zO_lt op | (have := yO_lt op; have := zO_lt op; omega))) _ fun H n A => ?_ | refine m_setone A.put29 _ (by (first | decide | exact pushed_lt (by have := yO_lt op; omega) | exact yO_lt op | exact zO_lt op | (have := yO_lt op; have := zO_lt op; omega))) _ fun H n A => ?_ | refine m_to A _ fun H n A => ?_ | refine m_to A.put29 _ fun H n A => ?_ | refine m_told A _ fun H n A => ?_ | refine m_told A.put29 _ fun H n A => ?_ | refine A.rd (by omega) fun v s H n r lf A => ?_ | refine A.put29.rd (by omega) fun v s H n r lf A => ?_ | refine A.wr (by omega) fun s H n r lf A => ?_ | refine A.put29.wr (by omega) fun s H n r lf A => ?_ | refine A.ip (by decide) (by omega) fun v s H n r lf A => ?_ | refine A.put29.ip (by decide) (by omega) fun v s H n r lf A => ?_ | refine A.op (by decide) (by omega) fun s H n r lf A => ?_ | refine A.put29.op (by decide) (by omega) fun s H n r lf A => ?_); ((have hb := A.blk29; have hx := (up A).2.1; simp only [go_sem, hb, hx, hu, mr, mw, mi, mo, Rg.cells]))) | ((first | refine m_bits M A _ _ _ fun H n A => ?_); ((have hb := A.blk29; have hx := (up A).2.1; simp only [go_sem, hb, hx, hu, mr, mw, mi, mo, Rg.cells]))) | ((first | refine m_bits M A.put29 _ _ _ fun H n A => ?_); ((have hb := A.blk29; have hx := (up A).2.1; simp only [go_sem, hb, hx, hu, mr, mw, mi, mo, Rg.cells]))))
  · refine Fin.keep (h _ _ _ _ _ ?_ (by omega) (up A).1)
    unfold turnedFarM
    (((repeat' first | assumption | (with_reducible rfl) | (refine Eff.run_of (by assumption) ?_; try dsimp only) | refine Eff.run_t (by (first | assumption | exact nF ‹_› | exact nT ‹_› | omega)) ?_ | refine Eff.run_f (by (first | assumption | exact nF ‹_› | exact nT ‹_› | omega)) ?_ | rfl); all_goals fail))
  · have hz : ¬ zO op = 6 := by omega
    refine Fin.keep (h _ _ _ _ _ ?_ (by omega) (up A).1)
    unfold turnedFarM
    ((repeat' first | assumption | (with_reducible rfl) | (refine Eff.run_of (by assumption) ?_; try dsimp only) | refine Eff.run_t (by (first | assumption | exact nF ‹_› | exact nT ‹_› | omega)) ?_ | refine Eff.run_f (by (first | assumption | exact nF ‹_› | exact nT ‹_› | omega)) ?_))
    simp only [hz, if_false]
    rfl
  · have hz : zO op = 6 := by omega
    refine Fin.keep (h _ _ _ _ _ ?_ (by omega) (up A).1)
    unfold turnedFarM
    ((repeat' first | assumption | (with_reducible rfl) | (refine Eff.run_of (by assumption) ?_; try dsimp only) | refine Eff.run_t (by (first | assumption | exact nF ‹_› | exact nT ‹_› | omega)) ?_ | refine Eff.run_f (by (first | assumption | exact nF ‹_› | exact nT ‹_› | omega)) ?_))
    simp only [hz, if_true]
    rfl
theorem m_turned (A : AtC W t H0 n0 F0 k c s H n) (hl : 4 ≤ W.left s) (h : ∀ (v : Nat) c' s' H' n', (turnedM c).run W.O s = ((v, c'), s') → W.left s ≤ W.left s' + 4 → AtC W t H0 n0 F0 k c' s' H' n' → K (.i64 v) H' n') : ACalls Try.prog 18 [.pt k 0] H n K := by
  refine ACalls.of_awp Try.func18 rfl (by decide +kernel) (show 1 ≤ 70 by decide) (by simp) fun wf => ?_
  have mr := M.r
  have mw := M.w
  have mi := M.i
  have mo := M.o
  have hb := A.blk29
  refine awp_ev dr18 (by decide +kernel) ?_
  simp only [go_sem, Try.f18, hb]
  refine ⟨fun e => ?_, fun e => ?_⟩
  · refine m_turnedfar M A (by omega) fun v c s H n r lf A => ?_
    simp only [go_sem]
    refine Fin.keep (h _ _ _ _ _ ?_ (by omega) A)
    unfold turnedM
    (((repeat' first | assumption | (with_reducible rfl) | (refine Eff.run_of (by assumption) ?_; try dsimp only) | refine Eff.run_t (by (first | assumption | exact nF ‹_› | exact nT ‹_› | omega)) ?_ | refine Eff.run_f (by (first | assumption | exact nF ‹_› | exact nT ‹_› | omega)) ?_ | rfl); all_goals fail))
  · refine m_fetch M A (by omega) fun op c s H n r lf A => ?_
    simp only [go_sem]
    refine c_cut _ _ _ _ ?_
    ((have hw := A; obtain ⟨F1, A, up⟩ := A.boxed ⟨[.i64 (xO op), .i64 (yO op), .i64 (zO op), .i64 (yO op / 2 : Nat), .i64 (yO op % 2 : Nat)], 53, false⟩ (by simp [AV.ok]); have hk := (up A).2.2.1; have hu := fun X Y => Heap.upd_ne X Y hk))
    have hb := A.blk29
    simp only [go_sem, hb, mr, mw, hu]
    (repeat' first | (((with_reducible refine And.intro ?_ ?_) <;> intro e <;> (first | (with_reducible replace e := nbT e) | (with_reducible replace e := nbF e) | (with_reducible replace e := dT e) | (with_reducible replace e := dF e) | (with_reducible replace e := iT e) | (with_reducible replace e := iF e) | skip) <;> (try (exfalso; omega)))) | ((with_reducible first | refine c_join _ _ _ _ _ ?_ | refine c_split _ _ _ _ ?_ | refine c_move _ _ _ _ _ ?_ | refine c_cut _ _ _ _ ?_ | refine c_do _ _ _ _ _ _ _ ?_ | refine c_daa _ _ _ _ _ ?_ | refine c_flip _ _ _ _ _ _ ?_ | refine c_quick _ _ _ _ _ _ ?_ | refine c_add16 _ _ _ _ _ _ ?_ | refine c_adc16 _ _ _ _ _ _ ?_ | refine c_sbc16 _ _ _ _ _ _ ?_ | refine c_rot _ _ _ _ _ _ ?_ | refine c_bitt _ _ _ _ _ _ _ ?_ | refine c_put _ _ _ _ _ _ ?_ | refine c_digits _ _ _ _ _ _ _ ?_ | refine c_rload _ _ _ _ _ _ _ ?_ | refine c_rseek _ _ _ _ _ _ _ ?_ | refine c_rport _ _ _ _ _ _ ?_ | refine c_inc _ _ _ _ _ ?_ | refine c_dec _ _ _ _ _ ?_ | refine c_shape _ _ _ _ ?_ | refine c_sub _ _ _ _ _ _ ?_ | refine c_pushed _ _ _ _ ?_); ((have hb := A.blk29; have hx := (up A).2.1; simp only [go_sem, hb, hx, hu, mr, mw, mi, mo, Rg.cells]))) | ((first | refine c_longer _ 7 15 _ _ _ ?_ | refine c_longer _ 10 15 _ _ _ ?_ | refine c_longer _ 11 19 _ _ _ ?_ | refine c_swap ⟨_, _, _, _, _, _, _, _, _, _, _, _, _, _, _, _, _, _, _, _, _, _, _, _, _, _, _, _, _⟩ _ _ _ _ ?_ | refine c_tick ⟨_, _, _, _, _, _, _, _, _, _, _, _, _, _, _, _, _, _, _, _, _, _, _, _, _, _, _, _, _⟩ _ _ _ ?_ | refine c_setpair ⟨_, _, _, _, _, _, _, _, _, _, _, _, _, _, _, _, _, _, _, _, _, _, _, _, _, _, _, _, _⟩ 2 (by decide) _ _ _ _ ?_ | refine m_pair A 2 (by decide) ?_ | refine m_pair A 0 (by decide) ?_ | refine m_pair A 1 (by decide) ?_ | refine m_pair A _ (by (first | decide | exact pushed_lt (by have := yO_lt op; omega) | exact yO_lt op | exact zO_lt op | (have := yO_lt op; have := zO_lt op; omega))) ?_ | refine m_one A _ (by (first | decide | exact pushed_lt (by have := yO_lt op; omega) | exact yO_lt op | exact zO_lt op | (have := yO_lt op; have := zO_lt op; omega))) ?_ | refine c_met _ _ (by (first | decide | exact pushed_lt (by have := yO_lt op; omega) | exact yO_lt op | exact zO_lt op | (have := yO_lt op; have := zO_lt op; omega))) _ _ _ ?_ | refine m_pair A.put29 2 (by decide) ?_ | refine m_pair A.put29 0 (by decide) ?_ | refine m_pair A.put29 1 (by decide) ?_ | refine m_pair A.put29 _ (by (first | decide | exact pushed_lt (by have := yO_lt op; omega) | exact yO_lt op | exact zO_lt op | (have := yO_lt op; have := zO_lt op; omega))) ?_ | refine m_one A.put29 _ (by (first | decide | exact pushed_lt (by have := yO_lt op; omega) | exact yO_lt op | exact zO_lt op | (have := yO_lt op; have := zO_lt op; omega))) ?_); ((have hb := A.blk29; have hx := (up A).2.1; simp only [go_sem, hb, hx, hu, mr, mw, mi, mo, Rg.cells]))) | ((first | refine m_next M A (by omega) fun v s H n r lf A => ?_ | refine m_next M A.put29 (by omega) fun v s H n r lf A => ?_ | refine m_fetch M A (by omega) fun v c s H n r lf A => ?_ | refine m_fetch M A.put29 (by omega) fun v c s H n r lf A => ?_ | refine m_word M A (by omega) fun v c s H n r lf A => ?_ | refine m_word M A.put29 (by omega) fun v c s H n r lf A => ?_ | refine m_load M A _ (by omega) fun v s H n r lf A => ?_ | refine m_load M A.put29 _ (by omega) fun v s H n r lf A => ?_ | refine m_store M A _ _ (by omega) fun s H n r lf A => ?_ | refine m_store M A.put29 _ _ (by omega) fun s H n r lf A => ?_ | refine m_push M A _ (by omega) fun c s H n r lf A => ?_ | refine m_push M A.put29 _ (by omega) fun c s H n r lf A => ?_ | refine m_pop M A (by omega) fun v c s H n r lf A => ?_ | refine m_pop M A.put29 (by omega) fun v c s H n r lf A => ?_ | refine m_pointed M A (by omega) fun v p w q s H n r lf A => ?_ | refine m_pointed M A.put29 (by omega) fun v p w q s H n r lf A => ?_ | refine m_setpair A 2 (by decide) _ fun H n A => ?_ | refine m_setpair A.put29 2 (by decide) _ fun H n A => ?_ | refine m_setpair A 1 (by decide) _ fun H n A => ?_ | refine m_setpair A.put29 1 (by decide) _ fun H n A => ?_ | refine m_setpair A 0 (by decide) _ fun H n A => ?_ | refine m_setpair A.put29 0 (by decide) _ fun H n A => ?_ | refine m_setpair A _ (by (first | decide | exact pushed_lt (by have := yO_lt op; omega) | exact yO_lt op | exact zO_lt op | (have := yO_lt op; have := zO_lt op; omega))) _ fun H n A => ?_ | refine m_setpair A.put29 _ (by (first | decide | exact pushed_lt (by have := yO_lt op; omega) | exact yO_lt op | exact zO_lt op | (have := yO_lt op; have := zO_lt op; omega))) _ fun H n A => ?_ | refine m_setone A _ (by (first | decide | exact pushed_lt (by have := yO_lt op; omega) | exact yO_lt op | exact zO_lt op | (have := yO_lt op; have := zO_lt op; omega))) _ fun H n A => ?_ | refine m_setone A.put29 _ (by (first | decide | exact pushed_lt (by have := yO_lt op; omega) | exact yO_lt op | exact zO_lt op | (have := yO_lt op; have := zO_lt op; omega))) _ fun H n A => ?_ | refine m_to A _ fun H n A => ?_ | refine m_to A.put29 _ fun H n A => ?_ | refine m_told A _ fun H n A => ?_ | refine m_told A.put29 _ fun H n A => ?_ | refine A.rd (by omega) fun v s H n r lf A => ?_ | refine A.put29.rd (by omega) fun v s H n r lf A => ?_ | refine A.wr (by omega) fun s H n r lf A => ?_ | refine A.put29.wr (by omega) fun s H n r lf A => ?_ | refine A.ip (by decide) (by omega) fun v s H n r lf A => ?_ | refine A.put29.ip (by decide) (by omega) fun v s H n r lf A => ?_ | refine A.op (by decide) (by omega) fun s H n r lf A => ?_ | refine A.put29.op (by decide) (by omega) fun s H n r lf A => ?_); ((have hb := A.blk29; have hx := (up A).2.1; simp only [go_sem, hb, hx, hu, mr, mw, mi, mo, Rg.cells]))) | ((first | refine m_bits M A _ _ _ fun H n A => ?_); ((have hb := A.blk29; have hx := (up A).2.1; simp only [go_sem, hb, hx, hu, mr, mw, mi, mo, Rg.cells]))) | ((first | refine m_bits M A.put29 _ _ _ fun H n A => ?_); ((have hb := A.blk29; have hx := (up A).2.1; simp only [go_sem, hb, hx, hu, mr, mw, mi, mo, Rg.cells]))))
    · refine Fin.keep (h _ _ _ _ _ ?_ (by omega) (up A).1)
      unfold turnedM
      ((repeat' first | assumption | (with_reducible rfl) | (refine Eff.run_of (by assumption) ?_; try dsimp only) | refine Eff.run_t (by (first | assumption | exact nF ‹_› | exact nT ‹_› | omega)) ?_ | refine Eff.run_f (by (first | assumption | exact nF ‹_› | exact nT ‹_› | omega)) ?_))
      simp only [e, Bool.true_eq_false, if_false]
      rfl
    · refine Fin.keep (h _ _ _ _ _ ?_ (by omega) (up A).1)
      unfold turnedM
      ((repeat' first | assumption | (with_reducible rfl) | (refine Eff.run_of (by assumption) ?_; try dsimp only) | refine Eff.run_t (by (first | assumption | exact nF ‹_› | exact nT ‹_› | omega)) ?_ | refine Eff.run_f (by (first | assumption | exact nF ‹_› | exact nT ‹_› | omega)) ?_))
      simp only [e, if_true]
      rfl
    · refine Fin.keep (h _ _ _ _ _ ?_ (by omega) (up A).1)
      unfold turnedM
      (((repeat' first | assumption | (with_reducible rfl) | (refine Eff.run_of (by assumption) ?_; try dsimp only) | refine Eff.run_t (by (first | assumption | exact nF ‹_› | exact nT ‹_› | omega)) ?_ | refine Eff.run_f (by (first | assumption | exact nF ‹_› | exact nT ‹_› | omega)) ?_ | rfl); all_goals fail))
    · refine Fin.keep (h _ _ _ _ _ ?_ (by omega) (up A).1)
      unfold turnedM
      (((repeat' first | assumption | (with_reducible rfl) | (refine Eff.run_of (by assumption) ?_; try dsimp only) | refine Eff.run_t (by (first | assumption | exact nF ‹_› | exact nT ‹_› | omega)) ?_ | refine Eff.run_f (by (first | assumption | exact nF ‹_› | exact nT ‹_› | omega)) ?_ | rfl); all_goals fail))
end
end Go.Proofs.Joy
namespace Go.Proofs.Joy
open Go.Ab Go.Proofs

set_option maxHeartbeats 4000000
set_option maxRecDepth 20000
theorem c_setpair29 {a f b c_ d e h_ l a2 f2 b2 c2 d2 e2 h2 l2 : BitVec 8} {ix iy sp pc wz : BitVec 16} {i r im pre : BitVec 8} {x1 x2 x3 x4 : Bool} (m : Nat) (hm : m < 7) (v : BitVec 16) (H : Heap) (n : Nat) (K : AV → Heap → Nat → Prop) (h : K (.ag (setPairR ⟨a, f, b, c_, d, e, h_, l, a2, f2, b2, c2, d2, e2, h2, l2, ix, iy, sp, pc, wz, i, r, im, pre, x1, x2, x3, x4⟩ m v).cells) H n) : ACalls Try.prog 49 [.ag [.u8 a, .u8 f, .u8 b, .u8 c_, .u8 d, .u8 e, .u8 h_, .u8 l, .u8 a2, .u8 f2, .u8 b2, .u8 c2, .u8 d2, .u8 e2, .u8 h2, .u8 l2, .u16 ix, .u16 iy, .u16 sp, .u16 pc, .u16 wz, .u8 i, .u8 r, .u8 im, .u8 pre, .bo x1, .bo x2, .bo x3, .bo x4], .i64 m, .u16 v] H n K := c_setpair ⟨a, f, b, c_, d, e, h_, l, a2, f2, b2, c2, d2, e2, h2, l2, ix, iy, sp, pc, wz, i, r, im, pre, x1, x2, x3, x4⟩ m hm v H n K h
section
variable {σ : Type} {W : WC Try.prog σ} {t : TypeId} {H0 : Heap} {n0 : Nat} {F0 : Nat → Prop} {k : Nat} {c : Core} {s : σ} {H : Heap} {n : Nat} {K : AV → Heap → Nat → Prop} (M : MT W t)
include M
end
theorem not0_16 : (~~~0#16 : BitVec 16) = 65535#16 := by decide
section
variable {σ : Type} {W : WC Try.prog σ} {t : TypeId} {H0 : Heap} {n0 : Nat} {F0 : Nat → Prop} {k : Nat} {c : Core} {s : σ} {H : Heap} {n : Nat} {K : AV → Heap → Nat → Prop} (M : MT W t)
include M
theorem m_many (A : AtC W t H0 n0 F0 k c s H n) (op : BitVec 8) (hl : 4 ≤ W.left s) (h : ∀ (v : Nat) c' s' H' n', (manyM op c).run W.O s = ((v, c'), s') → W.left s ≤ W.left s' + 4 → AtC W t H0 n0 F0 k c' s' H' n' → K (.i64 v) H' n') : ACalls Try.prog 25 [.pt k 0, .ag [.i64 (xO op), .i64 (yO op), .i64 (zO op), .i64 (yO op / 2 : Nat), .i64 (yO op % 2 : Nat)]] H n K := by
  refine ACalls.of_awp Try.func25 rfl (by decide +kernel) (show 2 ≤ 260 by decide) (by simp) fun wf => ?_
  obtain ⟨F1, A, up⟩ := A.boxed ⟨[.i64 (xO op), .i64 (yO op), .i64 (zO op), .i64 (yO op / 2 : Nat), .i64 (yO op % 2 : Nat)], 53, false⟩ (by simp [AV.ok])
  have hb := A.blk29
  have hk := (up A).2.2.1
  have hu := fun X Y => Heap.upd_ne X Y hk
  have mr := M.r
  have mw := M.w
  have mi := M.i
  have mo := M.o
  refine awp_ev dr25 (by decide +kernel) ?_
  simp only [go_sem, Try.f25, hb, hu]
  (repeat' first | (((with_reducible refine And.intro ?_ ?_) <;> intro e <;> (first | (with_reducible replace e := nbT e) | (with_reducible replace e := nbF e) | (with_reducible replace e := dT e) | (with_reducible replace e := dF e) | (with_reducible replace e := iT e) | (with_reducible replace e := iF e) | skip) <;> (try (exfalso; omega)))) | ((with_reducible first | refine c_join _ _ _ _ _ ?_ | refine c_split _ _ _ _ ?_ | refine c_move _ _ _ _ _ ?_ | refine c_cut _ _ _ _ ?_ | refine c_do _ _ _ _ _ _ _ ?_ | refine c_daa _ _ _ _ _ ?_ | refine c_flip _ _ _ _ _ _ ?_ | refine c_quick _ _ _ _ _ _ ?_ | refine c_add16 _ _ _ _ _ _ ?_ | refine c_adc16 _ _ _ _ _ _ ?_ | refine c_sbc16 _ _ _ _ _ _ ?_ | refine c_rot _ _ _ _ _ _ ?_ | refine c_bitt _ _ _ _ _ _ _ ?_ | refine c_put _ _ _ _ _ _ ?_ | refine c_digits _ _ _ _ _ _ _ ?_ | refine c_rload _ _ _ _ _ _ _ ?_ | refine c_rseek _ _ _ _ _ _ _ ?_ | refine c_rport _ _ _ _ _ _ ?_ | refine c_inc _ _ _ _ _ ?_ | refine c_dec _ _ _ _ _ ?_ | refine c_shape _ _ _ _ ?_ | refine c_sub _ _ _ _ _ _ ?_ | refine c_pushed _ _ _ _ ?_); ((have hb := A.blk29; have hx := (up A).2.1; simp only [go_sem, hb, hx, hu, mr, mw, mi, mo, Rg.cells]))) | ((first | refine c_longer _ 7 15 _ _ _ ?_ | refine c_longer _ 10 15 _ _ _ ?_ | refine c_longer _ 11 19 _ _ _ ?_ | refine c_swap ⟨_, _, _, _, _, _, _, _, _, _, _, _, _, _, _, _, _, _, _, _, _, _, _, _, _, _, _, _, _⟩ _ _ _ _ ?_ | refine c_tick ⟨_, _, _, _, _, _, _, _, _, _, _, _, _, _, _, _, _, _, _, _, _, _, _, _, _, _, _, _, _⟩ _ _ _ ?_ | refine c_setpair ⟨_, _, _, _, _, _, _, _, _, _, _, _, _, _, _, _, _, _, _, _, _, _, _, _, _, _, _, _, _⟩ 2 (by decide) _ _ _ _ ?_ | refine m_pair A 2 (by decide) ?_ | refine m_pair A 0 (by decide) ?_ | refine m_pair A 1 (by decide) ?_ | refine m_pair A _ (by (first | decide | exact pushed_lt (by have := yO_lt op; omega) | exact yO_lt op | exact zO_lt op | (have := yO_lt op; have := zO_lt op; omega))) ?_ | refine m_one A _ (by (first | decide | exact pushed_lt (by have := yO_lt op; omega) | exact yO_lt op | exact zO_lt op | (have := yO_lt op; have := zO_lt op; omega))) ?_ | refine c_met _ _ (by (first | decide | exact pushed_lt (by have := yO_lt op; omega) | exact yO_lt op | exact zO_lt op | (have := yO_lt op; have := zO_lt op; omega))) _ _ _ ?_ | refine m_pair A.put29 2 (by decide) ?_ | refine m_pair A.put29 0 (by decide) ?_ | refine m_pair A.put29 1 (by decide) ?_ | refine m_pair A.put29 _ (by (first | decide | exact pushed_lt (by have := yO_lt op; omega) | exact yO_lt op | exact zO_lt op | (have := yO_lt op; have := zO_lt op; omega))) ?_ | refine m_one A.put29 _ (by (first | decide | exact pushed_lt (by have := yO_lt op; omega) | exact yO_lt op | exact zO_lt op | (have := yO_lt op; have := zO_lt op; omega))) ?_); ((have hb := A.blk29; have hx := (up A).2.1; simp only [go_sem, hb, hx, hu, mr, mw, mi, mo, Rg.cells]))) | ((first | refine m_next M A (by omega) fun v s H n r lf A => ?_ | refine m_next M A.put29 (by omega) fun v s H n r lf A => ?_ | refine m_fetch M A (by omega) fun v c s H n r lf A => ?_ | refine m_fetch M A.put29 (by omega) fun v c s H n r lf A => ?_ | refine m_word M A (by omega) fun v c s H n r lf A => ?_ | refine m_word M A.put29 (by omega) fun v c s H n r lf A => ?_ | refine m_load M A _ (by omega) fun v s H n r lf A => ?_ | refine m_load M A.put29 _ (by omega) fun v s H n r lf A => ?_ | refine m_store M A _ _ (by omega) fun s H n r lf A => ?_ | refine m_store M A.put29 _ _ (by omega) fun s H n r lf A => ?_ | refine m_push M A _ (by omega) fun c s H n r lf A => ?_ | refine m_push M A.put29 _ (by omega) fun c s H n r lf A => ?_ | refine m_pop M A (by omega) fun v c s H n r lf A => ?_ | refine m_pop M A.put29 (by omega) fun v c s H n r lf A => ?_ | refine m_pointed M A (by omega) fun v p w q s H n r lf A => ?_ | refine m_pointed M A.put29 (by omega) fun v p w q s H n r lf A => ?_ | refine m_setpair A 2 (by decide) _ fun H n A => ?_ | refine m_setpair A.put29 2 (by decide) _ fun H n A => ?_ | refine m_setpair A 1 (by decide) _ fun H n A => ?_ | refine m_setpair A.put29 1 (by decide) _ fun H n A => ?_ | refine m_setpair A 0 (by decide) _ fun H n A => ?_ | refine m_setpair A.put29 0 (by decide) _ fun H n A => ?_ | refine m_setpair A _ (by (first | decide | exact pushed_lt (by have := yO_lt op; omega) | exact yO_lt op | exact zO_lt op | (have := yO_lt op; have := zO_lt op; omega))) _ fun H n A => ?_ | refine m_setpair A.put29 _ (by (first | decide | exact pushed_lt (by have := yO_lt op; omega) | exact yO_lt op | exact zO_lt op | (have := yO_lt op; have := zO_lt op; omega))) _ fun H n A => ?_ | refine m_setone A _ (by (first | decide | exact pushed_lt (by have := yO_lt op; omega) | exact yO_lt op | exact zO_lt op | (have := yO_lt op; have := zO_lt op; omega))) _ fun H n A => ?_ | refine m_setone A.put29 _ (by (first | decide | exact pushed_lt (by have := yO_lt op; omega) | exact yO_lt op | exact zO_lt op | (have := yO_lt op; have := zO_lt op; omega))) _ fun H n A => ?_ | refine m_to A _ fun H n A => ?_ | refine m_to A.put29 _ fun H n A => ?_ | refine m_told A _ fun H n A => ?_ | refine m_told A.put29 _ fun H n A => ?_ | refine A.rd (by omega) fun v s H n r lf A => ?_ | refine A.put29.rd (by omega) fun v s H n r lf A => ?_ | refine A.wr (by omega) fun s H n r lf A => ?_ | refine A.put29.wr (by omega) fun s H n r lf A => ?_ | refine A.ip (by decide) (by omega) fun v s H n r lf A => ?_ | refine A.put29.ip (by decide) (by omega) fun v s H n r lf A => ?_ | refine A.op (by decide) (by omega) fun s H n r lf A => ?_ | refine A.put29.op (by decide) (by omega) fun s H n r lf A => ?_); ((have hb := A.blk29; have hx := (up A).2.1; simp only [go_sem, hb, hx, hu, mr, mw, mi, mo, Rg.cells]))) | (refine c_setpair29 2 (by decide) _ _ _ _ ?_; ((have hb := A.blk29; have hx := (up A).2.1; simp only [go_sem, hb, hx, hu, mr, mw, mi, mo, Rg.cells]))))
  all_goals
    first
      | (have hq : yO op % 2 = 1 := (by omega)
         (first | (have hz : zO op = 0 := (by omega); ((refine Fin.keep (h _ _ _ _ _ ?_ (by omega) (up A.put29).1); unfold manyM; simp +decide only [hq, hz, if_true, if_false, not0_16]; (try generalize (65535#16 : BitVec 16) = w16 at *); ((repeat' first | assumption | (with_reducible rfl) | (refine Eff.run_of (by assumption) ?_; try dsimp only) | refine Eff.run_t (by (first | exact Or.inl (by omega) | exact Or.inr (by assumption) | exact not_or.2 ⟨by omega, nT (by assumption)⟩)) ?_ | refine Eff.run_f (by (first | exact Or.inl (by omega) | exact Or.inr (by assumption) | exact not_or.2 ⟨by omega, nT (by assumption)⟩)) ?_ | refine Eff.run_t (by (first | assumption | exact nF ‹_› | exact nT ‹_› | omega)) ?_ | refine Eff.run_f (by (first | assumption | exact nF ‹_› | exact nT ‹_› | omega)) ?_ | rfl))))) | (have hz : zO op = 1 := (by omega); ((refine Fin.keep (h _ _ _ _ _ ?_ (by omega) (up A.put29).1); unfold manyM; simp +decide only [hq, hz, if_true, if_false, not0_16]; (try generalize (65535#16 : BitVec 16) = w16 at *); ((repeat' first | assumption | (with_reducible rfl) | (refine Eff.run_of (by assumption) ?_; try dsimp only) | refine Eff.run_t (by (first | exact Or.inl (by omega) | exact Or.inr (by assumption) | exact not_or.2 ⟨by omega, nT (by assumption)⟩)) ?_ | refine Eff.run_f (by (first | exact Or.inl (by omega) | exact Or.inr (by assumption) | exact not_or.2 ⟨by omega, nT (by assumption)⟩)) ?_ | refine Eff.run_t (by (first | assumption | exact nF ‹_› | exact nT ‹_› | omega)) ?_ | refine Eff.run_f (by (first | assumption | exact nF ‹_› | exact nT ‹_› | omega)) ?_ | rfl))))) | (have hz : zO op = 2 := (by omega); ((refine Fin.keep (h _ _ _ _ _ ?_ (by omega) (up A.put29).1); unfold manyM; simp +decide only [hq, hz, if_true, if_false, not0_16]; (try generalize (65535#16 : BitVec 16) = w16 at *); ((repeat' first | assumption | (with_reducible rfl) | (refine Eff.run_of (by assumption) ?_; try dsimp only) | refine Eff.run_t (by (first | exact Or.inl (by omega) | exact Or.inr (by assumption) | exact not_or.2 ⟨by omega, nT (by assumption)⟩)) ?_ | refine Eff.run_f (by (first | exact Or.inl (by omega) | exact Or.inr (by assumption) | exact not_or.2 ⟨by omega, nT (by assumption)⟩)) ?_ | refine Eff.run_t (by (first | assumption | exact nF ‹_› | exact nT ‹_› | omega)) ?_ | refine Eff.run_f (by (first | assumption | exact nF ‹_› | exact nT ‹_› | omega)) ?_ | rfl))))) | (have hz : ¬ zO op = 0 := (by omega); have hz1 : ¬ zO op = 1 := (by omega); have hz2 : ¬ zO op = 2 := (by omega); have hz3 : ¬ zO op < 2 := (by omega); refine Fin.keep (h _ _ _ _ _ ?_ (by omega) (up A.put29).1); unfold manyM; simp +decide only [hq, hz, hz1, hz2, hz3, if_true, if_false, not0_16]; (try generalize (65535#16 : BitVec 16) = w16 at *); ((repeat' first | assumption | (with_reducible rfl) | (refine Eff.run_of (by assumption) ?_; try dsimp only) | refine Eff.run_t (by (first | exact Or.inl (by omega) | exact Or.inr (by assumption) | exact not_or.2 ⟨by omega, nT (by assumption)⟩)) ?_ | refine Eff.run_f (by (first | exact Or.inl (by omega) | exact Or.inr (by assumption) | exact not_or.2 ⟨by omega, nT (by assumption)⟩)) ?_ | refine Eff.run_t (by (first | assumption | exact nF ‹_› | exact nT ‹_› | omega)) ?_ | refine Eff.run_f (by (first | assumption | exact nF ‹_› | exact nT ‹_› | omega)) ?_ | rfl)))))
      | (have hq : ¬ yO op % 2 = 1 := (by omega)
         (first | (have hz : zO op = 0 := (by omega); ((refine Fin.keep (h _ _ _ _ _ ?_ (by omega) (up A.put29).1); unfold manyM; simp +decide only [hq, hz, if_true, if_false, not0_16]; (try generalize (65535#16 : BitVec 16) = w16 at *); ((repeat' first | assumption | (with_reducible rfl) | (refine Eff.run_of (by assumption) ?_; try dsimp only) | refine Eff.run_t (by (first | exact Or.inl (by omega) | exact Or.inr (by assumption) | exact not_or.2 ⟨by omega, nT (by assumption)⟩)) ?_ | refine Eff.run_f (by (first | exact Or.inl (by omega) | exact Or.inr (by assumption) | exact not_or.2 ⟨by omega, nT (by assumption)⟩)) ?_ | refine Eff.run_t (by (first | assumption | exact nF ‹_› | exact nT ‹_› | omega)) ?_ | refine Eff.run_f (by (first | assumption | exact nF ‹_› | exact nT ‹_› | omega)) ?_ | rfl))))) | (have hz : zO op = 1 := (by omega); ((refine Fin.keep (h _ _ _ _ _ ?_ (by omega) (up A.put29).1); unfold manyM; simp +decide only [hq, hz, if_true, if_false, not0_16]; (try generalize (65535#16 : BitVec 16) = w16 at *); ((repeat' first | assumption | (with_reducible rfl) | (refine Eff.run_of (by assumption) ?_; try dsimp only) | refine Eff.run_t (by (first | exact Or.inl (by omega) | exact Or.inr (by assumption) | exact not_or.2 ⟨by omega, nT (by assumption)⟩)) ?_ | refine Eff.run_f (by (first | exact Or.inl (by omega) | exact Or.inr (by assumption) | exact not_or.2 ⟨by omega, nT (by assumption)⟩)) ?_ | refine Eff.run_t (by (first | assumption | exact nF ‹_› | exact nT ‹_› | omega)) ?_ | refine Eff.run_f (by (first | assumption | exact nF ‹_› | exact nT ‹_› | omega)) ?_ | rfl))))) | (have hz : zO op = 2 := (by omega); ((refine Fin.keep (h _ _ _ _ _ ?_ (by omega) (up A.put29).1); unfold manyM; simp +decide only [hq, hz, if_true, if_false, not0_16]; (try generalize (65535#16 : BitVec 16) = w16 at *); ((repeat' first | assumption | (with_reducible rfl) | (refine Eff.run_of (by assumption) ?_; try dsimp only) | refine Eff.run_t (by (first | exact Or.inl (by omega) | exact Or.inr (by assumption) | exact not_or.2 ⟨by omega, nT (by assumption)⟩)) ?_ | refine Eff.run_f (by (first | exact Or.inl (by omega) | exact Or.inr (by assumption) | exact not_or.2 ⟨by omega, nT (by assumption)⟩)) ?_ | refine Eff.run_t (by (first | assumption | exact nF ‹_› | exact nT ‹_› | omega)) ?_ | refine Eff.run_f (by (first | assumption | exact nF ‹_› | exact nT ‹_› | omega)) ?_ | rfl))))) | (have hz : ¬ zO op = 0 := (by omega); have hz1 : ¬ zO op = 1 := (by omega); have hz2 : ¬ zO op = 2 := (by omega); have hz3 : ¬ zO op < 2 := (by omega); refine Fin.keep (h _ _ _ _ _ ?_ (by omega) (up A.put29).1); unfold manyM; simp +decide only [hq, hz, hz1, hz2, hz3, if_true, if_false, not0_16]; (try generalize (65535#16 : BitVec 16) = w16 at *); ((repeat' first | assumption | (with_reducible rfl) | (refine Eff.run_of (by assumption) ?_; try dsimp only) | refine Eff.run_t (by (first | exact Or.inl (by omega) | exact Or.inr (by assumption) | exact not_or.2 ⟨by omega, nT (by assumption)⟩)) ?_ | refine Eff.run_f (by (first | exact Or.inl (by omega) | exact Or.inr (by assumption) | exact not_or.2 ⟨by omega, nT (by assumption)⟩)) ?_ | refine Eff.run_t (by (first | assumption | exact nF ‹_› | exact nT ‹_› | omega)) ?_ | refine Eff.run_f (by (first | assumption | exact nF ‹_› | exact nT ‹_› | omega)) ?_ | rfl)))))
end
end Go.Proofs.Joy
namespace Go.Proofs.Joy
open Go.Ab Go.Proofs

set_option maxHeartbeats 4000000
set_option maxRecDepth 20000
section
variable {σ : Type} {W : WC Try.prog σ} {t : TypeId} {H0 : Heap} {n0 : Nat} {F0 : Nat → Prop} {k : Nat} {c : Core} {s : σ} {H : Heap} {n : Nat} {K : AV → Heap → Nat → Prop} (M : MT W t)
include M
theorem m_special (A : AtC W t H0 n0 F0 k c s H n) (op : Nat) (h8 : op < 8) (hl : 4 ≤ W.left s) (h : ∀ (v : Nat) c' s' H' n', (specialM op c).run W.O s = ((v, c'), s') → W.left s ≤ W.left s' + 4 → AtC W t H0 n0 F0 k c' s' H' n' → K (.i64 v) H' n') : ACalls Try.prog 37 [.pt k 0, .i64 op] H n K := by
  refine ACalls.of_awp Try.func37 rfl (by decide +kernel) (show 2 ≤ 137 by decide) (by simp) fun wf => ?_
  have up : ∀ {c' : Core} {s' : σ} {H' : Heap} {n' : Nat}, AtC W t H0 n0 F0 k c' s' H' n' → AtC W t H0 n0 F0 k c' s' H' n' ∧ True ∧ True := fun X => ⟨X, trivial, trivial⟩
  have hu := True.intro
  have hb := A.blk29
  have mr := M.r
  have mw := M.w
  have mi := M.i
  have mo := M.o
  refine awp_ev dr37 (by decide +kernel) ?_
  simp only [go_sem, Try.f37, hb]
  (repeat' first | (((with_reducible refine And.intro ?_ ?_) <;> intro e <;> (first | (with_reducible replace e := nbT e) | (with_reducible replace e := nbF e) | (with_reducible replace e := dT e) | (with_reducible replace e := dF e) | (with_reducible replace e := iT e) | (with_reducible replace e := iF e) | skip) <;> (try (exfalso; omega)))) | ((with_reducible first | refine c_join _ _ _ _ _ ?_ | refine c_split _ _ _ _ ?_ | refine c_move _ _ _ _ _ ?_ | refine c_cut _ _ _ _ ?_ | refine c_do _ _ _ _ _ _ _ ?_ | refine c_daa _ _ _ _ _ ?_ | refine c_flip _ _ _ _ _ _ ?_ | refine c_quick _ _ _ _ _ _ ?_ | refine c_add16 _ _ _ _ _ _ ?_ | refine c_adc16 _ _ _ _ _ _ ?_ | refine c_sbc16 _ _ _ _ _ _ ?_ | refine c_rot _ _ _ _ _ _ ?_ | refine c_bitt _ _ _ _ _ _ _ ?_ | refine c_put _ _ _ _ _ _ ?_ | refine c_digits _ _ _ _ _ _ _ ?_ | refine c_rload _ _ _ _ _ _ _ ?_ | refine c_rseek _ _ _ _ _ _ _ ?_ | refine c_rport _ _ _ _ _ _ ?_ | refine c_inc _ _ _ _ _ ?_ | refine c_dec _ _ _ _ _ ?_ | refine c_shape _ _ _ _ ?_ | refine c_sub _ _ _ _ _ _ ?_ | refine c_pushed _ _ _ _ ?_); ((have hb := A.blk29; have hx := (up A).2.1; simp only [go_sem, hb, hx, hu, mr, mw, mi, mo, Rg.cells]))) | ((first | refine c_longer _ 7 15 _ _ _ ?_ | refine c_longer _ 10 15 _ _ _ ?_ | refine c_longer _ 11 19 _ _ _ ?_ | refine c_swap ⟨_, _, _, _, _, _, _, _, _, _, _, _, _, _, _, _, _, _, _, _, _, _, _, _, _, _, _, _, _⟩ _ _ _ _ ?_ | refine c_tick ⟨_, _, _, _, _, _, _, _, _, _, _, _, _, _, _, _, _, _, _, _, _, _, _, _, _, _, _, _, _⟩ _ _ _ ?_ | refine c_setpair ⟨_, _, _, _, _, _, _, _, _, _, _, _, _, _, _, _, _, _, _, _, _, _, _, _, _, _, _, _, _⟩ 2 (by decide) _ _ _ _ ?_ | refine m_pair A 2 (by decide) ?_ | refine m_pair A 0 (by decide) ?_ | refine m_pair A 1 (by decide) ?_ | refine m_pair A _ (by (first | decide | exact pushed_lt (by have := yO_lt op; omega) | exact yO_lt op | exact zO_lt op | (have := yO_lt op; have := zO_lt op; omega))) ?_ | refine m_one A _ (by (first | decide | exact pushed_lt (by have := yO_lt op; omega) | exact yO_lt op | exact zO_lt op | (have := yO_lt op; have := zO_lt op; omega))) ?_ | refine c_met _ _ (by (first | decide | exact pushed_lt (by have := yO_lt op; omega) | exact yO_lt op | exact zO_lt op | (have := yO_lt op; have := zO_lt op; omega))) _ _ _ ?_ | refine m_pair A.put29 2 (by decide) ?_ | refine m_pair A.put29 0 (by decide) ?_ | refine m_pair A.put29 1 (by decide) ?_ | refine m_pair A.put29 _ (by (first | decide | exact pushed_lt (by have := yO_lt op; omega) | exact yO_lt op | exact zO_lt op | (have := yO_lt op; have := zO_lt op; omega))) ?_ | refine m_one A.put29 _ (by (first | decide | exact pushed_lt (by have := yO_lt op; omega) | exact yO_lt op | exact zO_lt op | (have := yO_lt op; have := zO_lt op; omega))) ?_); ((have hb := A.blk29; have hx := (up A).2.1; simp only [go_sem, hb, hx, hu, mr, mw, mi, mo, Rg.cells]))) | ((first | refine m_next M A (by omega) fun v s H n r lf A => ?_ | refine m_next M A.put29 (by omega) fun v s H n r lf A => ?_ | refine m_fetch M A (by omega) fun v c s H n r lf A => ?_ | refine m_fetch M A.put29 (by omega) fun v c s H n r lf A => ?_ | refine m_word M A (by omega) fun v c s H n r lf A => ?_ | refine m_word M A.put29 (by omega) fun v c s H n r lf A => ?_ | refine m_load M A _ (by omega) fun v s H n r lf A => ?_ | refine m_load M A.put29 _ (by omega) fun v s H n r lf A => ?_ | refine m_store M A _ _ (by omega) fun s H n r lf A => ?_ | refine m_store M A.put29 _ _ (by omega) fun s H n r lf A => ?_ | refine m_push M A _ (by omega) fun c s H n r lf A => ?_ | refine m_push M A.put29 _ (by omega) fun c s H n r lf A => ?_ | refine m_pop M A (by omega) fun v c s H n r lf A => ?_ | refine m_pop M A.put29 (by omega) fun v c s H n r lf A => ?_ | refine m_pointed M A (by omega) fun v p w q s H n r lf A => ?_ | refine m_pointed M A.put29 (by omega) fun v p w q s H n r lf A => ?_ | refine m_setpair A 2 (by decide) _ fun H n A => ?_ | refine m_setpair A.put29 2 (by decide) _ fun H n A => ?_ | refine m_setpair A 1 (by decide) _ fun H n A => ?_ | refine m_setpair A.put29 1 (by decide) _ fun H n A => ?_ | refine m_setpair A 0 (by decide) _ fun H n A => ?_ | refine m_setpair A.put29 0 (by decide) _ fun H n A => ?_ | refine m_setpair A _ (by (first | decide | exact pushed_lt (by have := yO_lt op; omega) | exact yO_lt op | exact zO_lt op | (have := yO_lt op; have := zO_lt op; omega))) _ fun H n A => ?_ | refine m_setpair A.put29 _ (by (first | decide | exact pushed_lt (by have := yO_lt op; omega) | exact yO_lt op | exact zO_lt op | (have := yO_lt op; have := zO_lt op; omega))) _ fun H n A => ?_ | refine m_setone A _ (by (first | decide | exact pushed_lt (by have := yO_lt op; omega) | exact yO_lt op | exact zO_lt op | (have := yO_lt op; have := zO_lt op; omega))) _ fun H n A => ?_ | refine m_setone A.put29 _ (by (first | decide | exact pushed_lt (by have := yO_lt op; omega) | exact yO_lt op | exact zO_lt op | (have := yO_lt op; have := zO_lt op; omega))) _ fun H n A => ?_ | refine m_to A _ fun H n A => ?_ | refine m_to A.put29 _ fun H n A => ?_ | refine m_told A _ fun H n A => ?_ | refine m_told A.put29 _ fun H n A => ?_ | refine A.rd (by omega) fun v s H n r lf A => ?_ | refine A.put29.rd (by omega) fun v s H n r lf A => ?_ | refine A.wr (by omega) fun s H n r lf A => ?_ | refine A.put29.wr (by omega) fun s H n r lf A => ?_ | refine A.ip (by decide) (by omega) fun v s H n r lf A => ?_ | refine A.put29.ip (by decide) (by omega) fun v s H n r lf A => ?_ | refine A.op (by decide) (by omega) fun s H n r lf A => ?_ | refine A.put29.op (by decide) (by omega) fun s H n r lf A => ?_); ((have hb := A.blk29; have hx := (up A).2.1; simp only [go_sem, hb, hx, hu, mr, mw, mi, mo, Rg.cells]))))
  · (first | (refine Fin.keep (h _ _ _ _ _ ?_ (by omega) (up A).1); unfold specialM; (((repeat' first | assumption | (with_reducible rfl) | (refine Eff.run_of (by assumption) ?_; try dsimp only) | refine Eff.run_t (by (first | assumption | exact nF ‹_› | exact nT ‹_› | omega)) ?_ | refine Eff.run_f (by (first | assumption | exact nF ‹_› | exact nT ‹_› | omega)) ?_ | rfl); all_goals fail))) | (refine Fin.keep (h _ _ _ _ _ ?_ (by omega) (up A.put29).1); unfold specialM; (((repeat' first | assumption | (with_reducible rfl) | (refine Eff.run_of (by assumption) ?_; try dsimp only) | refine Eff.run_t (by (first | assumption | exact nF ‹_› | exact nT ‹_› | omega)) ?_ | refine Eff.run_f (by (first | assumption | exact nF ‹_› | exact nT ‹_› | omega)) ?_ | rfl); all_goals fail))))
  · (first | (refine Fin.keep (h _ _ _ _ _ ?_ (by omega) (up A).1); unfold specialM; (((repeat' first | assumption | (with_reducible rfl) | (refine Eff.run_of (by assumption) ?_; try dsimp only) | refine Eff.run_t (by (first | assumption | exact nF ‹_› | exact nT ‹_› | omega)) ?_ | refine Eff.run_f (by (first | assumption | exact nF ‹_› | exact nT ‹_› | omega)) ?_ | rfl); all_goals fail))) | (refine Fin.keep (h _ _ _ _ _ ?_ (by omega) (up A.put29).1); unfold specialM; (((repeat' first | assumption | (with_reducible rfl) | (refine Eff.run_of (by assumption) ?_; try dsimp only) | refine Eff.run_t (by (first | assumption | exact nF ‹_› | exact nT ‹_› | omega)) ?_ | refine Eff.run_f (by (first | assumption | exact nF ‹_› | exact nT ‹_› | omega)) ?_ | rfl); all_goals fail))))
  · have hy : op = 2 := by omega
    refine Fin.keep (h _ _ _ _ _ ?_ (by omega) (up A.put29).1)
    unfold specialM
    simp +decide only [hy, e, if_true, if_false]
    rfl
  · have hy : op = 2 := by omega
    refine Fin.keep (h _ _ _ _ _ ?_ (by omega) (up A.put29).1)
    unfold specialM
    simp +decide only [hy, e, if_true, if_false]
    rfl
  · have hy : op = 3 := by omega
    refine Fin.keep (h _ _ _ _ _ ?_ (by omega) (up A.put29).1)
    unfold specialM
    simp +decide only [hy, e, if_true, if_false]
    rfl
  · have hy : op = 3 := by omega
    refine Fin.keep (h _ _ _ _ _ ?_ (by omega) (up A.put29).1)
    unfold specialM
    simp +decide only [hy, e, if_true, if_false]
    rfl
  · have hy : op = 4 := by omega
    have e5 : ∀ b : Bool, b = ((op : Int) == 5) → b = false := fun b hb => by rw [hb, hy]; rfl
    rw [e5 _ rfl] at r ⊢
    refine Fin.keep (h _ _ _ _ _ ?_ (by omega) (up A.put29).1)
    unfold specialM
    simp +decide only [hy, if_true, if_false]
    (((repeat' first | assumption | (with_reducible rfl) | (refine Eff.run_of (by assumption) ?_; try dsimp only) | refine Eff.run_t (by (first | assumption | exact nF ‹_› | exact nT ‹_› | omega)) ?_ | refine Eff.run_f (by (first | assumption | exact nF ‹_› | exact nT ‹_› | omega)) ?_ | rfl); all_goals fail))
  · have hy : op = 5 := by omega
    have e5 : ∀ b : Bool, b = ((op : Int) == 5) → b = true := fun b hb => by rw [hb, hy]; rfl
    rw [e5 _ rfl] at r ⊢
    refine Fin.keep (h _ _ _ _ _ ?_ (by omega) (up A.put29).1)
    unfold specialM
    simp +decide only [hy, if_true, if_false]
    (((repeat' first | assumption | (with_reducible rfl) | (refine Eff.run_of (by assumption) ?_; try dsimp only) | refine Eff.run_t (by (first | assumption | exact nF ‹_› | exact nT ‹_› | omega)) ?_ | refine Eff.run_f (by (first | assumption | exact nF ‹_› | exact nT ‹_› | omega)) ?_ | rfl); all_goals fail))
  · (first | (refine Fin.keep (h _ _ _ _ _ ?_ (by omega) (up A).1); unfold specialM; (((repeat' first | assumption | (with_reducible rfl) | (refine Eff.run_of (by assumption) ?_; try dsimp only) | refine Eff.run_t (by (first | assumption | exact nF ‹_› | exact nT ‹_› | omega)) ?_ | refine Eff.run_f (by (first | assumption | exact nF ‹_› | exact nT ‹_› | omega)) ?_ | rfl); all_goals fail))) | (refine Fin.keep (h _ _ _ _ _ ?_ (by omega) (up A.put29).1); unfold specialM; (((repeat' first | assumption | (with_reducible rfl) | (refine Eff.run_of (by assumption) ?_; try dsimp only) | refine Eff.run_t (by (first | assumption | exact nF ‹_› | exact nT ‹_› | omega)) ?_ | refine Eff.run_f (by (first | assumption | exact nF ‹_› | exact nT ‹_› | omega)) ?_ | rfl); all_goals fail))))
end
end Go.Proofs.Joy
namespace Go.Proofs.Joy
open Go.Ab Go.Proofs

set_option maxHeartbeats 4000000
set_option maxRecDepth 20000
section
variable {σ : Type} {W : WC Try.prog σ} {t : TypeId} {H0 : Heap} {n0 : Nat} {F0 : Nat → Prop} {k : Nat} {c : Core} {s : σ} {H : Heap} {n : Nat} {K : AV → Heap → Nat → Prop} (M : MT W t)
include M
end
theorem and64_3 {y : Nat} (hy : y < 8) : and64 (y : Int) 3 = ((y % 4 : Nat) : Int) := by
  have h : ∀ y : Fin 8, and64 (y.val : Int) 3 = ((y.val % 4 : Nat) : Int) := by decide +kernel
  exact h ⟨y, hy⟩
section
variable {σ : Type} {W : WC Try.prog σ} {t : TypeId} {H0 : Heap} {n0 : Nat} {F0 : Nat → Prop} {k : Nat} {c : Core} {s : σ} {H : Heap} {n : Nat} {K : AV → Heap → Nat → Prop} (M : MT W t)
include M
theorem m_extended (A : AtC W t H0 n0 F0 k c s H n) (op : BitVec 8) (hl : 4 ≤ W.left s) (h : ∀ (v : Nat) c' s' H' n', (extendedM op c).run W.O s = ((v, c'), s') → W.left s ≤ W.left s' + 4 → AtC W t H0 n0 F0 k c' s' H' n' → K (.i64 v) H' n') : ACalls Try.prog 16 [.pt k 0, .ag [.i64 (xO op), .i64 (yO op), .i64 (zO op), .i64 (yO op / 2 : Nat), .i64 (yO op % 2 : Nat)]] H n K := by
  refine ACalls.of_awp Try.func16 rfl (by decide +kernel) (show 2 ≤ 195 by decide) (by simp) fun wf => ?_
  obtain ⟨F1, A, up⟩ := A.boxed ⟨[.i64 (xO op), .i64 (yO op), .i64 (zO op), .i64 (yO op / 2 : Nat), .i64 (yO op % 2 : Nat)], 53, false⟩ (by simp [AV.ok])
  have hb := A.blk29
  have hk := (up A).2.2.1
  have hu := fun X Y => Heap.upd_ne X Y hk
  have mr := M.r
  have mw := M.w
  have mi := M.i
  have mo := M.o
  refine awp_ev dr16 (by decide +kernel) ?_
  simp only [go_sem, Try.f16, hb, hu]
  (repeat' first | (((with_reducible refine And.intro ?_ ?_) <;> intro e <;> (first | (with_reducible replace e := nbT e) | (with_reducible replace e := nbF e) | (with_reducible replace e := dT e) | (with_reducible replace e := dF e) | (with_reducible replace e := iT e) | (with_reducible replace e := iF e) | skip) <;> (try (exfalso; omega)))) | ((with_reducible first | refine c_join _ _ _ _ _ ?_ | refine c_split _ _ _ _ ?_ | refine c_move _ _ _ _ _ ?_ | refine c_cut _ _ _ _ ?_ | refine c_do _ _ _ _ _ _ _ ?_ | refine c_daa _ _ _ _ _ ?_ | refine c_flip _ _ _ _ _ _ ?_ | refine c_quick _ _ _ _ _ _ ?_ | refine c_add16 _ _ _ _ _ _ ?_ | refine c_adc16 _ _ _ _ _ _ ?_ | refine c_sbc16 _ _ _ _ _ _ ?_ | refine c_rot _ _ _ _ _ _ ?_ | refine c_bitt _ _ _ _ _ _ _ ?_ | refine c_put _ _ _ _ _ _ ?_ | refine c_digits _ _ _ _ _ _ _ ?_ | refine c_rload _ _ _ _ _ _ _ ?_ | refine c_rseek _ _ _ _ _ _ _ ?_ | refine c_rport _ _ _ _ _ _ ?_ | refine c_inc _ _ _ _ _ ?_ | refine c_dec _ _ _ _ _ ?_ | refine c_shape _ _ _ _ ?_ | refine c_sub _ _ _ _ _ _ ?_ | refine c_pushed _ _ _ _ ?_); ((have hb := A.blk29; have hx := (up A).2.1; simp only [go_sem, hb, hx, hu, mr, mw, mi, mo, Rg.cells]))) | ((first | refine c_longer _ 7 15 _ _ _ ?_ | refine c_longer _ 10 15 _ _ _ ?_ | refine c_longer _ 11 19 _ _ _ ?_ | refine c_swap ⟨_, _, _, _, _, _, _, _, _, _, _, _, _, _, _, _, _, _, _, _, _, _, _, _, _, _, _, _, _⟩ _ _ _ _ ?_ | refine c_tick ⟨_, _, _, _, _, _, _, _, _, _, _, _, _, _, _, _, _, _, _, _, _, _, _, _, _, _, _, _, _⟩ _ _ _ ?_ | refine c_setpair ⟨_, _, _, _, _, _, _, _, _, _, _, _, _, _, _, _, _, _, _, _, _, _, _, _, _, _, _, _, _⟩ 2 (by decide) _ _ _ _ ?_ | refine m_pair A 2 (by decide) ?_ | refine m_pair A 0 (by decide) ?_ | refine m_pair A 1 (by decide) ?_ | refine m_pair A _ (by (first | decide | exact pushed_lt (by have := yO_lt op; omega) | exact yO_lt op | exact zO_lt op | (have := yO_lt op; have := zO_lt op; omega))) ?_ | refine m_one A _ (by (first | decide | exact pushed_lt (by have := yO_lt op; omega) | exact yO_lt op | exact zO_lt op | (have := yO_lt op; have := zO_lt op; omega))) ?_ | refine c_met _ _ (by (first | decide | exact pushed_lt (by have := yO_lt op; omega) | exact yO_lt op | exact zO_lt op | (have := yO_lt op; have := zO_lt op; omega))) _ _ _ ?_ | refine m_pair A.put29 2 (by decide) ?_ | refine m_pair A.put29 0 (by decide) ?_ | refine m_pair A.put29 1 (by decide) ?_ | refine m_pair A.put29 _ (by (first | decide | exact pushed_lt (by have := yO_lt op; omega) | exact yO_lt op | exact zO_lt op | (have := yO_lt op; have := zO_lt op; omega))) ?_ | refine m_one A.put29 _ (by (first | decide | exact pushed_lt (by have := yO_lt op; omega) | exact yO_lt op | exact zO_lt op | (have := yO_lt op; have := zO_lt op; omega))) ?_); ((have hb := A.blk29; have hx := (up A).2.1; simp only [go_sem, hb, hx, hu, mr, mw, mi, mo, Rg.cells]))) | ((first | refine m_next M A (by omega) fun v s H n r lf A => ?_ | refine m_next M A.put29 (by omega) fun v s H n r lf A => ?_ | refine m_fetch M A (by omega) fun v c s H n r lf A => ?_ | refine m_fetch M A.put29 (by omega) fun v c s H n r lf A => ?_ | refine m_word M A (by omega) fun v c s H n r lf A => ?_ | refine m_word M A.put29 (by omega) fun v c s H n r lf A => ?_ | refine m_load M A _ (by omega) fun v s H n r lf A => ?_ | refine m_load M A.put29 _ (by omega) fun v s H n r lf A => ?_ | refine m_store M A _ _ (by omega) fun s H n r lf A => ?_ | refine m_store M A.put29 _ _ (by omega) fun s H n r lf A => ?_ | refine m_push M A _ (by omega) fun c s H n r lf A => ?_ | refine m_push M A.put29 _ (by omega) fun c s H n r lf A => ?_ | refine m_pop M A (by omega) fun v c s H n r lf A => ?_ | refine m_pop M A.put29 (by omega) fun v c s H n r lf A => ?_ | refine m_pointed M A (by omega) fun v p w q s H n r lf A => ?_ | refine m_pointed M A.put29 (by omega) fun v p w q s H n r lf A => ?_ | refine m_setpair A 2 (by decide) _ fun H n A => ?_ | refine m_setpair A.put29 2 (by decide) _ fun H n A => ?_ | refine m_setpair A 1 (by decide) _ fun H n A => ?_ | refine m_setpair A.put29 1 (by decide) _ fun H n A => ?_ | refine m_setpair A 0 (by decide) _ fun H n A => ?_ | refine m_setpair A.put29 0 (by decide) _ fun H n A => ?_ | refine m_setpair A _ (by (first | decide | exact pushed_lt (by have := yO_lt op; omega) | exact yO_lt op | exact zO_lt op | (have := yO_lt op; have := zO_lt op; omega))) _ fun H n A => ?_ | refine m_setpair A.put29 _ (by (first | decide | exact pushed_lt (by have := yO_lt op; omega) | exact yO_lt op | exact zO_lt op | (have := yO_lt op; have := zO_lt op; omega))) _ fun H n A => ?_ | refine m_setone A _ (by (first | decide | exact pushed_lt (by have := yO_lt op; omega) | exact yO_lt op | exact zO_lt op | (have := yO_lt op; have := zO_lt op; omega))) _ fun H n A => ?_ | refine m_setone A.put29 _ (by (first | decide | exact pushed_lt (by have := yO_lt op; omega) | exact yO_lt op | exact zO_lt op | (have := yO_lt op; have := zO_lt op; omega))) _ fun H n A => ?_ | refine m_to A _ fun H n A => ?_ | refine m_to A.put29 _ fun H n A => ?_ | refine m_told A _ fun H n A => ?_ | refine m_told A.put29 _ fun H n A => ?_ | refine A.rd (by omega) fun v s H n r lf A => ?_ | refine A.put29.rd (by omega) fun v s H n r lf A => ?_ | refine A.wr (by omega) fun s H n r lf A => ?_ | refine A.put29.wr (by omega) fun s H n r lf A => ?_ | refine A.ip (by decide) (by omega) fun v s H n r lf A => ?_ | refine A.put29.ip (by decide) (by omega) fun v s H n r lf A => ?_ | refine A.op (by decide) (by omega) fun s H n r lf A => ?_ | refine A.put29.op (by decide) (by omega) fun s H n r lf A => ?_); ((have hb := A.blk29; have hx := (up A).2.1; simp only [go_sem, hb, hx, hu, mr, mw, mi, mo, Rg.cells]))) | (refine m_special M A _ (by (first | decide | exact pushed_lt (by have := yO_lt op; omega) | exact yO_lt op | exact zO_lt op | (have := yO_lt op; have := zO_lt op; omega))) (by omega) fun v c s H n r lf A => ?_; ((have hb := A.blk29; have hx := (up A).2.1; simp only [go_sem, hb, hx, hu, mr, mw, mi, mo, Rg.cells]))) | ((first | refine m_many M A _ (by omega) fun v c s H n r lf A => ?_ | refine m_many M A.put29 _ (by omega) fun v c s H n r lf A => ?_); ((have hb := A.blk29; have hx := (up A).2.1; simp only [go_sem, hb, hx, hu, mr, mw, mi, mo, Rg.cells]))))
  all_goals try first
    | (first | (refine Fin.keep (h _ _ _ _ _ ?_ (by omega) (up A).1); unfold extendedM; (((repeat' first | assumption | (with_reducible rfl) | (refine Eff.run_of (by assumption) ?_; try dsimp only) | refine Eff.run_t (by (first | assumption | exact nF ‹_› | exact nT ‹_› | omega)) ?_ | refine Eff.run_f (by (first | assumption | exact nF ‹_› | exact nT ‹_› | omega)) ?_ | rfl); all_goals fail))) | (refine Fin.keep (h _ _ _ _ _ ?_ (by omega) (up A.put29).1); unfold extendedM; (((repeat' first | assumption | (with_reducible rfl) | (refine Eff.run_of (by assumption) ?_; try dsimp only) | refine Eff.run_t (by (first | assumption | exact nF ‹_› | exact nT ‹_› | omega)) ?_ | refine Eff.run_f (by (first | assumption | exact nF ‹_› | exact nT ‹_› | omega)) ?_ | rfl); all_goals fail))))
    | (have hq : yO op % 2 = 1 := (by omega)
       (first | (refine Fin.keep (h _ _ _ _ _ ?_ (by omega) (up A).1); unfold extendedM; simp +decide only [hq, if_true, if_false]; (((repeat' first | assumption | (with_reducible rfl) | (refine Eff.run_of (by assumption) ?_; try dsimp only) | refine Eff.run_t (by (first | assumption | exact nF ‹_› | exact nT ‹_› | omega)) ?_ | refine Eff.run_f (by (first | assumption | exact nF ‹_› | exact nT ‹_› | omega)) ?_ | rfl); all_goals fail))) | (refine Fin.keep (h _ _ _ _ _ ?_ (by omega) (up A.put29).1); unfold extendedM; simp +decide only [hq, if_true, if_false]; (((repeat' first | assumption | (with_reducible rfl) | (refine Eff.run_of (by assumption) ?_; try dsimp only) | refine Eff.run_t (by (first | assumption | exact nF ‹_› | exact nT ‹_› | omega)) ?_ | refine Eff.run_f (by (first | assumption | exact nF ‹_› | exact nT ‹_› | omega)) ?_ | rfl); all_goals fail)))))
    | (have hq : ¬ yO op % 2 = 1 := (by omega)
       (first | (refine Fin.keep (h _ _ _ _ _ ?_ (by omega) (up A).1); unfold extendedM; simp +decide only [hq, if_true, if_false]; (((repeat' first | assumption | (with_reducible rfl) | (refine Eff.run_of (by assumption) ?_; try dsimp only) | refine Eff.run_t (by (first | assumption | exact nF ‹_› | exact nT ‹_› | omega)) ?_ | refine Eff.run_f (by (first | assumption | exact nF ‹_› | exact nT ‹_› | omega)) ?_ | rfl); all_goals fail))) | (refine Fin.keep (h _ _ _ _ _ ?_ (by omega) (up A.put29).1); unfold extendedM; simp +decide only [hq, if_true, if_false]; (((repeat' first | assumption | (with_reducible rfl) | (refine Eff.run_of (by assumption) ?_; try dsimp only) | refine Eff.run_t (by (first | assumption | exact nF ‹_› | exact nT ‹_› | omega)) ?_ | refine Eff.run_f (by (first | assumption | exact nF ‹_› | exact nT ‹_› | omega)) ?_ | rfl); all_goals fail)))))
  · have ha : and64 (yO op : Int) 3 = ((yO op % 4 : Nat) : Int) := and64_3 (yO_lt op)
    have hy4 : yO op % 4 = 0 ∨ yO op % 4 = 1 ∨ yO op % 4 = 2 ∨ yO op % 4 = 3 := by omega
    rw [ha]
    rcases hy4 with hy | hy | hy | hy
    · rw [hy]
      refine ⟨by decide, by decide, by decide, ?_⟩
      have hb := A.blk29
      have e5 : imS (yO op) = 0#8 := by unfold imS; rw [hy]; rfl
      simp only [go_sem, hb, hu, List.getD_cons_zero, List.getD_cons_succ, Int.toNat_natCast]
      refine Fin.keep (h _ _ _ _ _ ?_ (by omega) (up A.put29).1)
      unfold extendedM
      ((repeat' first | assumption | (with_reducible rfl) | (refine Eff.run_of (by assumption) ?_; try dsimp only) | refine Eff.run_t (by (first | assumption | exact nF ‹_› | exact nT ‹_› | omega)) ?_ | refine Eff.run_f (by (first | assumption | exact nF ‹_› | exact nT ‹_› | omega)) ?_))
      simp only [e5]
      rfl
    · rw [hy]
      refine ⟨by decide, by decide, by decide, ?_⟩
      have hb := A.blk29
      have e5 : imS (yO op) = 0#8 := by unfold imS; rw [hy]; rfl
      simp only [go_sem, hb, hu, List.getD_cons_zero, List.getD_cons_succ, Int.toNat_natCast]
      refine Fin.keep (h _ _ _ _ _ ?_ (by omega) (up A.put29).1)
      unfold extendedM
      ((repeat' first | assumption | (with_reducible rfl) | (refine Eff.run_of (by assumption) ?_; try dsimp only) | refine Eff.run_t (by (first | assumption | exact nF ‹_› | exact nT ‹_› | omega)) ?_ | refine Eff.run_f (by (first | assumption | exact nF ‹_› | exact nT ‹_› | omega)) ?_))
      simp only [e5]
      rfl
    · rw [hy]
      refine ⟨by decide, by decide, by decide, ?_⟩
      have hb := A.blk29
      have e5 : imS (yO op) = 1#8 := by unfold imS; rw [hy]; rfl
      simp only [go_sem, hb, hu, List.getD_cons_zero, List.getD_cons_succ, Int.toNat_natCast]
      refine Fin.keep (h _ _ _ _ _ ?_ (by omega) (up A.put29).1)
      unfold extendedM
      ((repeat' first | assumption | (with_reducible rfl) | (refine Eff.run_of (by assumption) ?_; try dsimp only) | refine Eff.run_t (by (first | assumption | exact nF ‹_› | exact nT ‹_› | omega)) ?_ | refine Eff.run_f (by (first | assumption | exact nF ‹_› | exact nT ‹_› | omega)) ?_))
      simp only [e5]
      rfl
    · rw [hy]
      refine ⟨by decide, by decide, by decide, ?_⟩
      have hb := A.blk29
      have e5 : imS (yO op) = 2#8 := by unfold imS; rw [hy]; rfl
      simp only [go_sem, hb, hu, List.getD_cons_zero, List.getD_cons_succ, Int.toNat_natCast]
      refine Fin.keep (h _ _ _ _ _ ?_ (by omega) (up A.put29).1)
      unfold extendedM
      ((repeat' first | assumption | (with_reducible rfl) | (refine Eff.run_of (by assumption) ?_; try dsimp only) | refine Eff.run_t (by (first | assumption | exact nF ‹_› | exact nT ‹_› | omega)) ?_ | refine Eff.run_f (by (first | assumption | exact nF ‹_› | exact nT ‹_› | omega)) ?_))
      simp only [e5]
      rfl
end
end Go.Proofs.Joy
namespace Go.Proofs.Joy
open Go.Ab
section
variable {P : Program} {σ : Type} {W : WC P σ} {T t : TypeId} {k : Nat} {c : Core} {s : σ} {H : Heap} {n : Nat} {F : Nat → Prop}
/-- A processor of a function's own: two blocks of the function stand ahead of it. -/
theorem At.start (hw : H.wf n) (hr : W.rep s H n F) (b0 b1 : Blk) (h0 : ∀ m, ∀ v ∈ b0.cells, v.ok m = true) (h1 : ∀ m, ∀ v ∈ b1.cells, v.ok m = true) (c : Core) :
    At W T t ((H.upd n (some b0)).upd (n + 1) (some b1)) (n + 2) F (n + 2) c s (((H.upd n (some b0)).upd (n + 1) (some b1)).upd (n + 2) (some ⟨c.r.cells ++ [.ifc t W.v, .u8 c.pr], T, false⟩)) (n + 3) := by
  have hv : ∀ m, n ≤ m → W.v.ok m = true := fun m hm => AV.ok_mono hm _ (W.vok hr)
  refine ⟨Heap.wf_upd (Heap.wf_upd (Heap.wf_upd hw (h0 _)) (h1 _)) (fun v hv' => ?_), by omega, Heap.upd_same _ _ _, ⟨F, W.stable hr (fun i hi => ?_) (by omega), fun h => ?_, fun i hi => .inl hi⟩, fun i hi hk _ => Heap.upd_ne _ _ hk⟩
  · rcases List.mem_append.1 hv' with hv' | hv'
    · exact cells_ok _ _ v hv'
    · simp only [List.mem_cons, List.not_mem_nil, or_false] at hv'
      rcases hv' with rfl | rfl
      · exact hv _ (by omega)
      · rfl
  · have := W.low hr hi
    rw [Heap.upd_ne _ _ (by omega), Heap.upd_ne _ _ (by omega), Heap.upd_ne _ _ (by omega)]
  · have := W.low hr h; omega
/-- What stays of it. -/
theorem At.done {b0 b1 : Blk} (hr : W.rep s H n F) {s' : σ} {H' : Heap} {n' : Nat} (A : At W T t ((H.upd n (some b0)).upd (n + 1) (some b1)) (n + 2) F (n + 2) c s' H' n') (b : Blk) (hb : ∀ m, ∀ v ∈ b.cells, v.ok m = true) :
    (H'.upd (n + 1) (some b)).wf n' ∧ n ≤ n' ∧ ∃ F', W.rep s' (H'.upd (n + 1) (some b)) n' F' ∧ (∀ i, F' i → F i ∨ n ≤ i) ∧ ∀ i, i < n → ¬ F i → (H'.upd (n + 1) (some b)) i = H i := by
  obtain ⟨F', g1, g2, g3⟩ := A.fp
  have hle := A.le
  refine ⟨Heap.wf_set A.wf (by omega) (hb _), by omega, F', W.stable g1 (fun i hi => Heap.upd_ne _ _ fun e => ?_) (Nat.le_refl _), fun i hi => ?_, fun i hi hF => ?_⟩
  · rcases g3 i hi with h | h
    · have := W.low hr h; omega
    · omega
  · rcases g3 i hi with h | h
    · exact .inl h
    · exact .inr (by omega)
  · rw [Heap.upd_ne _ _ (by omega), A.fr i (by omega) (by omega) hF, Heap.upd_ne _ _ (by omega), Heap.upd_ne _ _ (by omega)]
end
end Go.Proofs.Joy
namespace Go.Proofs.Joy
open Go.Ab Go.Proofs

set_option maxHeartbeats 4000000
set_option maxRecDepth 20000
theorem c_tick29 {a f b c_ d e h_ l a2 f2 b2 c2 d2 e2 h2 l2 : BitVec 8} {ix iy sp pc wz : BitVec 16} {i r im pre : BitVec 8} {x1 x2 x3 x4 : Bool} (H : Heap) (n : Nat) (K : AV → Heap → Nat → Prop) (h : K (.ag (tickR ⟨a, f, b, c_, d, e, h_, l, a2, f2, b2, c2, d2, e2, h2, l2, ix, iy, sp, pc, wz, i, r, im, pre, x1, x2, x3, x4⟩).cells) H n) : ACalls Try.prog 14 [.ag [.u8 a, .u8 f, .u8 b, .u8 c_, .u8 d, .u8 e, .u8 h_, .u8 l, .u8 a2, .u8 f2, .u8 b2, .u8 c2, .u8 d2, .u8 e2, .u8 h2, .u8 l2, .u16 ix, .u16 iy, .u16 sp, .u16 pc, .u16 wz, .u8 i, .u8 r, .u8 im, .u8 pre, .bo x1, .bo x2, .bo x3, .bo x4]] H n K := c_tick ⟨a, f, b, c_, d, e, h_, l, a2, f2, b2, c2, d2, e2, h2, l2, ix, iy, sp, pc, wz, i, r, im, pre, x1, x2, x3, x4⟩ H n K h
def rgZ : Rg := ⟨0#8, 0#8, 0#8, 0#8, 0#8, 0#8, 0#8, 0#8, 0#8, 0#8, 0#8, 0#8, 0#8, 0#8, 0#8, 0#8, 0#16, 0#16, 0#16, 0#16, 0#16, 0#8, 0#8, 0#8, 0#8, false, false, false, false⟩
section
variable {σ : Type} {W : WC Try.prog σ} {t : TypeId} {H0 : Heap} {n0 : Nat} {F0 : Nat → Prop} {k : Nat} {c : Core} {s : σ} {H : Heap} {n : Nat} {K : AV → Heap → Nat → Prop} (M : MT W t)
include M
theorem m_begin (A : AtC W t H0 n0 F0 k c s H n) (a : BitVec 16) (hl : 2 ≤ W.left s) (h : ∀ c' s' H' n', (beginM a c).run W.O s = (((), c'), s') → W.left s ≤ W.left s' + 2 → AtC W t H0 n0 F0 k c' s' H' n' → K (.tu []) H' n') : ACalls Try.prog 20 [.pt k 0, .u16 a] H n K := by
  refine ACalls.of_awp Try.func20 rfl (by decide +kernel) (show 2 ≤ 26 by decide) (by simp) fun wf => ?_
  have hb := A.blk29
  refine awp_ev dr0 (by decide +kernel) ?_
  simp only [go_sem, Try.f20, hb]
  refine c_tick29 _ _ _ ?_
  simp only [go_sem, Rg.cells]
  refine m_push M A.put29 _ (by omega) fun c s H n r lf A => ?_
  simp only [go_sem]
  refine m_to A _ fun H n A => ?_
  simp only [go_sem]
  exact Fin.keep (h _ _ _ _ (Eff.run_of r rfl) (by omega) A)
/-- One step, as the code takes it. -/
theorem c_step (r : Rg) {F : Nat → Prop} (hr : W.rep s H n F) (hl : 6 ≤ W.left s) (h : ∀ (r' : Rg) (q : Nat) s' H' n' F', (stepE r).run W.O s = ((r', q), s') → W.left s ≤ W.left s' + 6 → H'.wf n' → n ≤ n' → W.rep s' H' n' F' → (∀ i, F' i → F i ∨ n ≤ i) → (∀ i, i < n → ¬ F i → H' i = H i) → K (.tu [.ag r'.cells, .i64 q]) H' n') : ACalls Try.prog 12 [.ag r.cells, .ifc t W.v] H n K := by
  refine ACalls.of_awp Try.func12 rfl (by decide +kernel) (show 2 ≤ 69 by decide) (by simp) fun wf => ?_
  have low : ∀ {i}, F i → i < n := fun hi => W.low hr hi
  have A0 := fun c => At.start (T := 48) (t := t) wf hr ⟨r.cells, 25, false⟩ ⟨rgZ.cells, 25, false⟩ (fun _ => cells_ok ⟨r, 0#8⟩ _) (fun _ => cells_ok ⟨rgZ, 0#8⟩ _) c
  have D := fun {c' : Core} {s' : σ} {H' : Heap} {n' : Nat} (A : AtC W t _ (n + 2) F (n + 2) c' s' H' n') (x : Rg) => At.done (b0 := ⟨r.cells, 25, false⟩) (b1 := ⟨rgZ.cells, 25, false⟩) hr A ⟨x.cells, 25, false⟩ (fun _ => cells_ok ⟨x, 0#8⟩ _)
  refine awp_ev dr0 (by decide +kernel) ?_
  have X := fun {c' : Core} {s' : σ} {H' : Heap} {n' : Nat} (A : AtC W t ((H.upd n (some ⟨r.cells, 25, false⟩)).upd (n + 1) (some ⟨rgZ.cells, 25, false⟩)) (n + 2) F (n + 2) c' s' H' n') =>
    (⟨by rw [A.fr n (by omega) (by omega) (fun hi => absurd (low hi) (by omega)), Heap.upd_ne _ _ (by omega), Heap.upd_same]; rfl, by rw [A.fr (n + 1) (by omega) (by omega) (fun hi => absurd (low hi) (by omega)), Heap.upd_same]; rfl⟩ : H' n = some ⟨[.u8 r.a, .u8 r.f, .u8 r.b, .u8 r.c, .u8 r.d, .u8 r.e, .u8 r.h, .u8 r.l, .u8 r.a2, .u8 r.f2, .u8 r.b2, .u8 r.c2, .u8 r.d2, .u8 r.e2, .u8 r.h2, .u8 r.l2, .u16 r.ix, .u16 r.iy, .u16 r.sp, .u16 r.pc, .u16 r.wz, .u8 r.i, .u8 r.r, .u8 r.im, .u8 r.pre, .bo r.iff1, .bo r.iff2, .bo r.hlt, .bo r.dly], 25, false⟩ ∧ H' (n + 1) = some ⟨[.u8 0#8, .u8 0#8, .u8 0#8, .u8 0#8, .u8 0#8, .u8 0#8, .u8 0#8, .u8 0#8, .u8 0#8, .u8 0#8, .u8 0#8, .u8 0#8, .u8 0#8, .u8 0#8, .u8 0#8, .u8 0#8, .u16 0#16, .u16 0#16, .u16 0#16, .u16 0#16, .u16 0#16, .u8 0#8, .u8 0#8, .u8 0#8, .u8 0#8, .bo false, .bo false, .bo false, .bo false], 25, false⟩)
  simp only [go_sem, Try.f12, Rg.cells]
  refine ⟨fun e => ?_, fun e => ?_⟩
  · refine c_tick29 _ _ _ ?_
    simp only [go_sem, Rg.cells]
    exact Fin.back wf (h (tickR r) 4 s H n F (by unfold stepE; rw [if_pos e]; rfl) (by omega) wf (Nat.le_refl _) hr (fun _ hi => .inl hi) (fun _ _ _ => rfl)) (fun i hi => by repeat (rw [Heap.upd_ne _ _ (by omega)])) (by simp [AV.ok, AV.oks, AV.one])
  · have h2 := h
    unfold stepE at h2
    rw [if_neg (by rw [e]; decide)] at h2
    refine m_fetch M (A0 ⟨{ r with dly := false, pre := 0#8 }, 0#8⟩) (by omega) fun op c s H n q lf A => ?_
    have hb := A.blk29
    obtain ⟨ha, hz⟩ := X A
    simp only [go_sem, hb, ha, hz]
    refine ⟨fun e1 => ⟨fun _ => ?_, fun e2 => absurd (e1.symm.trans e2) (by decide)⟩, fun e1 => ⟨fun e2 => ?_, fun e2 => ⟨fun e3 => ?_, fun e3 => ⟨fun e4 => ?_, fun e4 => ?_⟩⟩⟩⟩
    · obtain ⟨w1, w2, F', w3, w4, w5⟩ := D A.put29 { c.r with pre := op }
      exact Fin.keep (h2 { c.r with pre := op } 4 _ _ _ F' (Eff.run_of q (Eff.run_t (by dsimp only; rw [e1]; rfl) rfl)) (by omega) w1 w2 w3 w4 w5)
    · obtain ⟨w1, w2, F', w3, w4, w5⟩ := D A.put29 { c.r with pre := op }
      exact Fin.keep (h2 { c.r with pre := op } 4 _ _ _ F' (Eff.run_of q (Eff.run_t (by dsimp only; rw [e1, e2]; rfl) rfl)) (by omega) w1 w2 w3 w4 w5)
    · refine m_fetch M A (by omega) fun o2 c s H n q2 lf A => ?_
      simp only [go_sem]
      refine c_cut _ _ _ _ ?_
      simp only [go_sem]
      refine m_extended M A _ (by omega) fun v c s H n q3 lf A => ?_
      have hb := A.blk29
      obtain ⟨ha, hz⟩ := X A
      simp only [go_sem, hb, ha, hz]
      obtain ⟨w1, w2, F', w3, w4, w5⟩ := D A c.r
      exact Fin.keep (h2 c.r v _ _ _ F' (Eff.run_of q (Eff.run_f (by dsimp only; rw [e1, e2]; decide) (Eff.run_t (by dsimp only; exact e3) (Eff.run_of q2 (Eff.run_of q3 rfl))))) (by omega) w1 w2 w3 w4 w5)
    · refine m_turned M A.put29 (by omega) fun v c s H n q3 lf A => ?_
      have hb := A.blk29
      obtain ⟨ha, hz⟩ := X A
      simp only [go_sem, hb, ha, hz]
      obtain ⟨w1, w2, F', w3, w4, w5⟩ := D A c.r
      exact Fin.keep (h2 c.r v _ _ _ F' (Eff.run_of q (Eff.run_f (by dsimp only; rw [e1, e2]; decide) (Eff.run_f (by dsimp only; rw [e3]; decide) (Eff.run_t (by dsimp only; exact e4) (Eff.run_of q3 rfl))))) (by omega) w1 w2 w3 w4 w5)
    · refine c_cut _ _ _ _ ?_
      simp only [go_sem]
      refine m_plain M A.put29 _ (by omega) fun v c s H n q3 lf A => ?_
      have hb := A.blk29
      obtain ⟨ha, hz⟩ := X A
      simp only [go_sem, hb, ha, hz]
      obtain ⟨w1, w2, F', w3, w4, w5⟩ := D A c.r
      exact Fin.keep (h2 c.r v _ _ _ F' (Eff.run_of q (Eff.run_f (by dsimp only; rw [e1, e2]; decide) (Eff.run_f (by dsimp only; rw [e3]; decide) (Eff.run_f (by dsimp only; rw [e4]; decide) (Eff.run_of q3 rfl))))) (by omega) w1 w2 w3 w4 w5)
omit M in
theorem begin_im {a : BitVec 16} {c c' : Core} {s s' : σ} (q : (beginM a c).run W.O s = (((), c'), s')) : c'.r.im = c.r.im := by
  unfold beginM pushM wrE at q
  simp only [Eff.bind, Eff.run] at q
  have := congrArg (fun x => x.1.2.r.im) q
  exact this.symm
/-- Something comes between, as the code takes it. -/
theorem c_inter (r : Rg) (pause line : Bool) {F : Nat → Prop} (hr : W.rep s H n F) (hl : 6 ≤ W.left s) (h : ∀ (r' : Rg) (q : Nat) s' H' n' F', (interE r pause line).run W.O s = ((r', q), s') → W.left s ≤ W.left s' + 6 → H'.wf n' → n ≤ n' → W.rep s' H' n' F' → (∀ i, F' i → F i ∨ n ≤ i) → (∀ i, i < n → ¬ F i → H' i = H i) → K (.tu [.ag r'.cells, .i64 q]) H' n') : ACalls Try.prog 13 [.ag r.cells, .ifc t W.v, .bo pause, .bo line] H n K := by
  refine ACalls.of_awp Try.func13 rfl (by decide +kernel) (show 4 ≤ 76 by decide) (by simp) fun wf => ?_
  have low : ∀ {i}, F i → i < n := fun hi => W.low hr hi
  have A0 := fun c => At.start (T := 48) (t := t) wf hr ⟨r.cells, 25, false⟩ ⟨rgZ.cells, 25, false⟩ (fun _ => cells_ok ⟨r, 0#8⟩ _) (fun _ => cells_ok ⟨rgZ, 0#8⟩ _) c
  have D := fun {c' : Core} {s' : σ} {H' : Heap} {n' : Nat} (A : AtC W t _ (n + 2) F (n + 2) c' s' H' n') (x : Rg) => At.done (b0 := ⟨r.cells, 25, false⟩) (b1 := ⟨rgZ.cells, 25, false⟩) hr A ⟨x.cells, 25, false⟩ (fun _ => cells_ok ⟨x, 0#8⟩ _)
  refine awp_ev dr0 (by decide +kernel) ?_
  have X := fun {c' : Core} {s' : σ} {H' : Heap} {n' : Nat} (A : AtC W t ((H.upd n (some ⟨r.cells, 25, false⟩)).upd (n + 1) (some ⟨rgZ.cells, 25, false⟩)) (n + 2) F (n + 2) c' s' H' n') =>
    (⟨by rw [A.fr n (by omega) (by omega) (fun hi => absurd (low hi) (by omega)), Heap.upd_ne _ _ (by omega), Heap.upd_same]; rfl, by rw [A.fr (n + 1) (by omega) (by omega) (fun hi => absurd (low hi) (by omega)), Heap.upd_same]; rfl⟩ : H' n = some ⟨[.u8 r.a, .u8 r.f, .u8 r.b, .u8 r.c, .u8 r.d, .u8 r.e, .u8 r.h, .u8 r.l, .u8 r.a2, .u8 r.f2, .u8 r.b2, .u8 r.c2, .u8 r.d2, .u8 r.e2, .u8 r.h2, .u8 r.l2, .u16 r.ix, .u16 r.iy, .u16 r.sp, .u16 r.pc, .u16 r.wz, .u8 r.i, .u8 r.r, .u8 r.im, .u8 r.pre, .bo r.iff1, .bo r.iff2, .bo r.hlt, .bo r.dly], 25, false⟩ ∧ H' (n + 1) = some ⟨[.u8 0#8, .u8 0#8, .u8 0#8, .u8 0#8, .u8 0#8, .u8 0#8, .u8 0#8, .u8 0#8, .u8 0#8, .u8 0#8, .u8 0#8, .u8 0#8, .u8 0#8, .u8 0#8, .u8 0#8, .u8 0#8, .u16 0#16, .u16 0#16, .u16 0#16, .u16 0#16, .u16 0#16, .u8 0#8, .u8 0#8, .u8 0#8, .u8 0#8, .bo false, .bo false, .bo false, .bo false], 25, false⟩)
  simp only [go_sem, Try.f13, Rg.cells]
  refine ⟨fun e => ?_, fun e => ⟨fun e1 => ?_, fun e1 => ⟨fun e2 => ⟨fun e3 => ⟨fun e4 => ?_, fun e4 => ?_⟩, fun e3 => ?_⟩, fun e2 => ?_⟩⟩⟩
  · exact Fin.back wf (h r 0 s H n F (by unfold interE; rw [if_pos e]; rfl) (by omega) wf (Nat.le_refl _) hr (fun _ hi => .inl hi) (fun _ _ _ => rfl)) (fun i hi => by repeat (rw [Heap.upd_ne _ _ (by omega)])) (by simp [AV.ok, AV.oks, AV.one])
  · have h2 := h
    unfold interE at h2
    rw [if_neg (nF e), if_pos e1] at h2
    refine m_begin M (A0 ⟨{ r with iff1 := false }, 0#8⟩) _ (by omega) fun c s H n q lf A => ?_
    have hb := A.blk29
    obtain ⟨ha, hz⟩ := X A
    simp only [go_sem, hb, ha, hz]
    obtain ⟨w1, w2, F', w3, w4, w5⟩ := D A c.r
    exact Fin.keep (h2 c.r 11 _ _ _ F' (Eff.run_of q rfl) (by omega) w1 w2 w3 w4 w5)
  · exact Fin.back wf (h r 0 s H n F (by unfold interE; rw [if_neg (nF e), if_neg (nF e1), if_pos (.inr (.inr e4))]; rfl) (by omega) wf (Nat.le_refl _) hr (fun _ hi => .inl hi) (fun _ _ _ => rfl)) (fun i hi => by repeat (rw [Heap.upd_ne _ _ (by omega)])) (by simp [AV.ok, AV.oks, AV.one])
  · have h2 := h
    unfold interE at h2
    rw [if_neg (nF e), if_neg (nF e1), if_neg (by rw [nbF e2, nbF e3, e4]; decide)] at h2
    refine m_begin M (A0 ⟨{ r with iff1 := false, iff2 := false }, 0#8⟩) _ (by omega) fun c s H n q lf A => ?_
    have him := begin_im q
    have hb := A.blk29
    obtain ⟨ha, hz⟩ := X A
    simp only [go_sem, hb, ha, hz]
    refine ⟨fun e5 => ?_, fun e5 => ?_⟩
    · obtain ⟨w1, w2, F', w3, w4, w5⟩ := D A c.r
      exact Fin.keep (h2 c.r 13 _ _ _ F' (Eff.run_of q (Eff.run_t (by dsimp only at him ⊢; rw [him]; first | exact e5 | exact dT e5) rfl)) (by omega) w1 w2 w3 w4 w5)
    · refine c_join _ _ _ _ _ ?_
      simp only [go_sem]
      refine m_load M A _ (by omega) fun v s H n q2 lf A => ?_
      simp only [go_sem]
      refine m_to A _ fun H n A => ?_
      have hb := A.blk29
      obtain ⟨ha, hz⟩ := X A
      simp only [go_sem, hb, ha, hz]
      obtain ⟨w1, w2, F', w3, w4, w5⟩ := D A (c.to v).r
      exact Fin.keep (h2 (c.to v).r 19 _ _ _ F' (Eff.run_of q (Eff.run_f (by dsimp only at him ⊢; rw [him]; first | exact e5 | exact dF e5) (Eff.run_of q2 rfl))) (by omega) w1 w2 w3 w4 w5)
  · exact Fin.back wf (h r 0 s H n F (by unfold interE; rw [if_neg (nF e), if_neg (nF e1), if_pos (.inr (.inl (nbT e3)))]; rfl) (by omega) wf (Nat.le_refl _) hr (fun _ hi => .inl hi) (fun _ _ _ => rfl)) (fun i hi => by repeat (rw [Heap.upd_ne _ _ (by omega)])) (by simp [AV.ok, AV.oks, AV.one])
  · exact Fin.back wf (h r 0 s H n F (by unfold interE; rw [if_neg (nF e), if_neg (nF e1), if_pos (.inl (nbT e2))]; rfl) (by omega) wf (Nat.le_refl _) hr (fun _ hi => .inl hi) (fun _ _ _ => rfl)) (fun i hi => by repeat (rw [Heap.upd_ne _ _ (by omega)])) (by simp [AV.ok, AV.oks, AV.one])
end
end Go.Proofs.Joy
namespace Go.Proofs.Joy
open Go.Ab
/-- A world of memory, and all that was done with it. -/
structure Bx where
  mem : List (BitVec 8)
  log : List Int
def bxO : Ops Bx where
  rd s a := (s.mem.getD a.toNat 0#8, { s with log := s.log ++ [(a.toNat : Int)] })
  wr s a x := { mem := s.mem.set a.toNat x, log := s.log ++ [wrap64 (wrap64 (1000000 + wrap64 ((a.toNat : Int) * 256)) + (x.toNat : Int))] }
  inp s p u := (BitVec.ofInt 8 (wrap64 (wrap64 ((p.toNat : Int) * 7) + wrap64 (((s.log.length + 1 : Nat) : Int) * 13))), { s with log := s.log ++ [wrap64 (wrap64 (100000000 + wrap64 ((p.toNat : Int) * 64)) + u)] })
  out s p x u := { s with log := s.log ++ [wrap64 (wrap64 (1000000000 + wrap64 (wrap64 (wrap64 ((p.toNat : Int) * 64) + u) * 256)) + (x.toNat : Int))] }
def bxLeft (s : Bx) : Nat := 4294967296 - s.log.length
theorem bx_lrd (s : Bx) (a : BitVec 16) : bxLeft s ≤ bxLeft (bxO.rd s a).2 + 1 := by simp only [bxLeft, bxO, List.length_append, List.length_cons, List.length_nil]; omega
theorem bx_lwr (s : Bx) (a : BitVec 16) (x : BitVec 8) : bxLeft s ≤ bxLeft (bxO.wr s a x) + 1 := by simp only [bxLeft, bxO, List.length_append, List.length_cons, List.length_nil]; omega
theorem bx_lin (s : Bx) (p : BitVec 16) (u : Int) : bxLeft s ≤ bxLeft (bxO.inp s p u).2 + 1 := by simp only [bxLeft, bxO, List.length_append, List.length_cons, List.length_nil]; omega
theorem bx_lout (s : Bx) (p : BitVec 16) (x : BitVec 8) (u : Int) : bxLeft s ≤ bxLeft (bxO.out s p x u) + 1 := by simp only [bxLeft, bxO, List.length_append, List.length_cons, List.length_nil]; omega
end Go.Proofs.Joy
namespace Go.Proofs.Joy
open Go.Ab Go.Proofs

set_option maxHeartbeats 2000000
set_option maxRecDepth 20000

/-- A box stands at b. -/
structure BxAt (b : Nat) (s : Bx) (H : Heap) (n : Nat) (F : Nat → Prop) (m : Nat) (L : AV) : Prop where
  len : s.mem.length = 65536
  blk : H b = some ⟨[.sl m 0 65536 65536, L], 37, false⟩
  mem : H m = some ⟨s.mem.map .u8, 5, false⟩
  log : (s.log = [] ∧ L = .sn) ∨ ∃ q, L = .su q 0 s.log.length 1 ∧ H q = some ⟨s.log.map .i64, 3, false⟩ ∧ q ≠ b ∧ q ≠ m ∧ F q
  bm : b ≠ m
  fb : F b
  fm : F m
  low : ∀ i, F i → i < n
def bxRep (b : Nat) (s : Bx) (H : Heap) (n : Nat) (F : Nat → Prop) : Prop := ∃ m L, BxAt b s H n F m L
theorem bx_stable {b : Nat} {s : Bx} {H : Heap} {n : Nat} {F : Nat → Prop} {H' : Heap} {n' : Nat} (h : bxRep b s H n F) (he : ∀ i, F i → H' i = H i) (hn : n ≤ n') : bxRep b s H' n' F := by
  obtain ⟨m, L, h⟩ := h
  refine ⟨m, L, h.len, by rw [he _ h.fb]; exact h.blk, by rw [he _ h.fm]; exact h.mem, ?_, h.bm, h.fb, h.fm, fun i hi => Nat.lt_of_lt_of_le (h.low i hi) hn⟩
  rcases h.log with h1 | ⟨q, h1, h2, h3, h4, h5⟩
  · exact .inl h1
  · exact .inr ⟨q, h1, by rw [he _ h5]; exact h2, h3, h4, h5⟩
theorem u8s_ok (l : List (BitVec 8)) (n : Nat) : ∀ v ∈ l.map AV.u8, v.ok n = true := fun v hv => by obtain ⟨x, _, rfl⟩ := List.mem_map.1 hv; rfl
theorem i64s_ok (l : List Int) (n : Nat) : ∀ v ∈ l.map AV.i64, v.ok n = true := fun v hv => by obtain ⟨x, _, rfl⟩ := List.mem_map.1 hv; rfl
/-- Something has been done: the log is longer by one. -/
theorem bx_end {b : Nat} {s : Bx} {H : Heap} {n : Nat} {F : Nat → Prop} {m : Nat} {L : AV} (hB : BxAt b s H n F m L) (mem' : List (BitVec 8)) (hl : mem'.length = 65536) (x : Int) {H' : Heap} (hb' : H' b = some ⟨[.sl m 0 65536 65536, .su (n + 1) 0 (s.log.length + 1) 1], 37, false⟩)
    (hm' : H' m = some ⟨mem'.map .u8, 5, false⟩) (hq' : H' (n + 1) = some ⟨(s.log ++ [x]).map .i64, 3, false⟩) (hfr : ∀ i, i < n → ¬ F i → H' i = H i) :
    ∃ F', bxRep b ⟨mem', s.log ++ [x]⟩ H' (n + 2) F' ∧ (∀ i, F' i → F i ∨ n ≤ i) ∧ ∀ i, i < n → ¬ F i → H' i = H i := by
  have lb := hB.low b hB.fb
  have lm := hB.low m hB.fm
  refine ⟨fun i => F i ∨ i = n + 1, ⟨m, _, hl, hb', hm', .inr ⟨n + 1, by simp, hq', by omega, by omega, .inr rfl⟩, hB.bm, .inl hB.fb, .inl hB.fm, fun i hi => ?_⟩, fun i hi => ?_, hfr⟩
  · rcases hi with h | h
    · have := hB.low i h; omega
    · omega
  · rcases hi with h | h
    · exact .inl h
    · exact .inr (by omega)
/-- .. and so one goes on. -/
theorem bx_fin {b : Nat} {s : Bx} {H : Heap} {n : Nat} {F : Nat → Prop} {m : Nat} {L : AV} {K : AV → Heap → Nat → Prop} {V : AV} (hB : BxAt b s H n F m L) (mem' : List (BitVec 8)) (hl : mem'.length = 65536) (x : Int)
    (h : ∀ H' n' F', H'.wf n' → n ≤ n' → bxRep b ⟨mem', s.log ++ [x]⟩ H' n' F' → (∀ i, F' i → F i ∨ n ≤ i) → (∀ i, i < n → ¬ F i → H' i = H i) → K V H' n') {H' : Heap} (hwf : H'.wf (n + 2)) (hb' : H' b = some ⟨[.sl m 0 65536 65536, .su (n + 1) 0 (s.log.length + 1) 1], 37, false⟩)
    (hm' : H' m = some ⟨mem'.map .u8, 5, false⟩) (hq' : H' (n + 1) = some ⟨(s.log ++ [x]).map .i64, 3, false⟩) (hfr : ∀ i, i < n → ¬ F i → H' i = H i) : K V H' (n + 2) := by
  obtain ⟨F', w1, w2, w3⟩ := bx_end hB mem' hl x hb' hm' hq' hfr
  exact h _ _ F' hwf (by omega) w1 w2 w3
theorem u8_getD {l : List (BitVec 8)} {i : Nat} (h : i < l.length) : (l.map AV.u8).getD i .junk = .u8 (l.getD i 0#8) := by
  simp [List.getD, List.getElem?_map, List.getElem?_eq_getElem h]
theorem bx_read {b : Nat} {s : Bx} {a : BitVec 16} {H : Heap} {n : Nat} {F : Nat → Prop} {K : AV → Heap → Nat → Prop} (hl : 1 ≤ bxLeft s) (hr : bxRep b s H n F) (h : ∀ H' n' F', H'.wf n' → n ≤ n' → bxRep b (bxO.rd s a).2 H' n' F' → (∀ i, F' i → F i ∨ n ≤ i) → (∀ i, i < n → ¬ F i → H' i = H i) → K (.u8 (bxO.rd s a).1) H' n') : ACalls Try.prog 115 [.pt b 0, .u16 a] H n K := by
  refine ACalls.of_awp Try.func115 rfl (by decide +kernel) (show 2 ≤ 23 by decide) (by simp) fun wf => ?_
  obtain ⟨m, L, hB⟩ := hr
  have hb := hB.blk
  have hm := hB.mem
  have lb := hB.low b hB.fb
  have lm := hB.low m hB.fm
  have eb := fun X Y => Heap.upd_ne X (i := n) (j := b) Y (by omega)
  have eb1 := fun X Y => Heap.upd_ne X (i := n + 1) (j := b) Y (by omega)
  have em := fun X Y => Heap.upd_ne X (i := n) (j := m) Y (by omega)
  have em1 := fun X Y => Heap.upd_ne X (i := n + 1) (j := m) Y (by omega)
  have emb := fun X Y => Heap.upd_ne X (i := b) (j := m) Y (Ne.symm hB.bm)
  have ebm := fun X Y => Heap.upd_ne X (i := m) (j := b) Y hB.bm
  have e1b := fun X Y => Heap.upd_ne X (i := b) (j := n + 1) Y (by omega)
  have e1m := fun X Y => Heap.upd_ne X (i := m) (j := n + 1) Y (by omega)
  have hlen := hB.len
  refine awp_ev dr0 (by decide +kernel) ?_
  unfold bxLeft at hl
  rcases hB.log with ⟨hl0, rfl⟩ | ⟨q, rfl, hq, h3, h4, h5⟩
  · simp only [go_sem, Try.f115, hb, hm, eb, eb1, em, em1, emb, ebm]
    have ha : a.toNat < s.mem.length := by rw [hlen]; exact a.isLt
    rw [u8_getD ha]
    refine ⟨by have := a.isLt; omega, by rw [List.length_map]; exact ha, by simp, ?_⟩
    refine Fin.keep (bx_fin hB s.mem (by exact hlen) _ h ?_ ?_ ?_ ?_ ?_)
    · exact Heap.wf_set (Heap.wf_upd (Heap.wf_upd wf (by simp [AV.ok])) (by simp [AV.ok])) (by omega) (by simp [AV.ok]; omega)
    · rw [Heap.upd_same]; simp [hl0]
    · rw [emb, em1, em]; exact hm
    · rw [e1b, Heap.upd_same]; simp [hl0]
    · intro i hi hF
      have hib : i ≠ b := fun e => hF (e ▸ hB.fb)
      have him : i ≠ m := fun e => hF (e ▸ hB.fm)
      rw [Heap.upd_ne _ _ hib, Heap.upd_ne _ _ (by omega), Heap.upd_ne _ _ (by omega)]
  · have lq := hB.low q h5
    have eq := fun X Y => Heap.upd_ne X (i := n) (j := q) Y (by omega)
    have ebq := fun X Y => Heap.upd_ne X (i := q) (j := b) Y (Ne.symm h3)
    have emq := fun X Y => Heap.upd_ne X (i := q) (j := m) Y (Ne.symm h4)
    simp only [go_sem, Try.f115, hb, hm, hq, eb, eb1, em, em1, emb, ebm, eq, ebq, emq, List.take_of_length_le (Nat.le_refl (s.log.map AV.i64).length)]
    have ha : a.toNat < s.mem.length := by rw [hlen]; exact a.isLt
    rw [u8_getD ha]
    refine ⟨by rw [List.length_map]; exact Nat.le_refl _, by omega, by have := a.isLt; omega, by rw [List.length_map]; exact ha, by simp, ?_⟩
    rw [List.take_of_length_le (l := s.log.map AV.i64) (by rw [List.length_map]; exact Nat.le_refl _)]
    refine Fin.keep (bx_fin hB s.mem (by exact hlen) _ h ?_ ?_ ?_ ?_ ?_)
    · exact Heap.wf_set (Heap.wf_upd (Heap.wf_upd_none (Heap.wf_upd wf (by simp [AV.ok]))) (fun v hv => by rcases List.mem_append.1 hv with hv | hv; exact i64s_ok _ _ v hv; simp only [List.mem_cons, List.not_mem_nil, or_false] at hv; rw [hv]; rfl)) (by omega) (by simp [AV.ok]; omega)
    · rw [Heap.upd_same]
    · rw [emb, em1, emq, em]; exact hm
    · rw [e1b, Heap.upd_same]; simp
    · intro i hi hF
      have hib : i ≠ b := fun e => hF (e ▸ hB.fb)
      have him : i ≠ m := fun e => hF (e ▸ hB.fm)
      have hiq : i ≠ q := fun e => hF (e ▸ h5)
      rw [Heap.upd_ne _ _ hib, Heap.upd_ne _ _ (by omega), Heap.upd_ne _ _ hiq, Heap.upd_ne _ _ (by omega)]
theorem bx_write {b : Nat} {s : Bx} {a : BitVec 16} {x : BitVec 8} {H : Heap} {n : Nat} {F : Nat → Prop} {K : AV → Heap → Nat → Prop} (hl : 1 ≤ bxLeft s) (hr : bxRep b s H n F) (h : ∀ H' n' F', H'.wf n' → n ≤ n' → bxRep b (bxO.wr s a x) H' n' F' → (∀ i, F' i → F i ∨ n ≤ i) → (∀ i, i < n → ¬ F i → H' i = H i) → K (.tu []) H' n') : ACalls Try.prog 116 [.pt b 0, .u16 a, .u8 x] H n K := by
  refine ACalls.of_awp Try.func116 rfl (by decide +kernel) (show 3 ≤ 29 by decide) (by simp) fun wf => ?_
  obtain ⟨m, L, hB⟩ := hr
  have hb := hB.blk
  have hm := hB.mem
  have lb := hB.low b hB.fb
  have lm := hB.low m hB.fm
  have eb := fun X Y => Heap.upd_ne X (i := n) (j := b) Y (by omega)
  have eb1 := fun X Y => Heap.upd_ne X (i := n + 1) (j := b) Y (by omega)
  have em := fun X Y => Heap.upd_ne X (i := n) (j := m) Y (by omega)
  have em1 := fun X Y => Heap.upd_ne X (i := n + 1) (j := m) Y (by omega)
  have emb := fun X Y => Heap.upd_ne X (i := b) (j := m) Y (Ne.symm hB.bm)
  have ebm := fun X Y => Heap.upd_ne X (i := m) (j := b) Y hB.bm
  have e1b := fun X Y => Heap.upd_ne X (i := b) (j := n + 1) Y (by omega)
  have e1m := fun X Y => Heap.upd_ne X (i := m) (j := n + 1) Y (by omega)
  have hlen := hB.len
  refine awp_ev dr0 (by decide +kernel) ?_
  unfold bxLeft at hl
  rcases hB.log with ⟨hl0, rfl⟩ | ⟨q, rfl, hq, h3, h4, h5⟩
  · simp only [go_sem, Try.f116, hb, hm, eb, eb1, em, em1, emb, ebm]
    have ha : a.toNat < s.mem.length := by rw [hlen]; exact a.isLt
    refine ⟨by have := a.isLt; omega, by rw [List.length_map]; exact ha, ?_⟩
    refine Fin.keep (bx_fin hB (s.mem.set a.toNat x) (by rw [List.length_set]; exact hlen) _ h ?_ ?_ ?_ ?_ ?_)
    · exact Heap.wf_set (Heap.wf_set (Heap.wf_upd (Heap.wf_upd wf (by simp [AV.ok])) (by simp [AV.ok])) (by omega) (by simp [AV.ok]; omega)) (by omega) (fun v hv => by rw [← List.map_set] at hv; exact u8s_ok _ _ v hv)
    · rw [ebm, Heap.upd_same]; simp [hl0]
    · rw [Heap.upd_same, List.map_set]
    · rw [e1m, e1b, Heap.upd_same]; simp [hl0]
    · intro i hi hF
      have hib : i ≠ b := fun e => hF (e ▸ hB.fb)
      have him : i ≠ m := fun e => hF (e ▸ hB.fm)
      rw [Heap.upd_ne _ _ him, Heap.upd_ne _ _ hib, Heap.upd_ne _ _ (by omega), Heap.upd_ne _ _ (by omega)]
  · have lq := hB.low q h5
    have eq := fun X Y => Heap.upd_ne X (i := n) (j := q) Y (by omega)
    have ebq := fun X Y => Heap.upd_ne X (i := q) (j := b) Y (Ne.symm h3)
    have emq := fun X Y => Heap.upd_ne X (i := q) (j := m) Y (Ne.symm h4)
    simp only [go_sem, Try.f116, hb, hm, hq, eb, eb1, em, em1, emb, ebm, eq, ebq, emq, List.take_of_length_le (Nat.le_refl (s.log.map AV.i64).length)]
    have ha : a.toNat < s.mem.length := by rw [hlen]; exact a.isLt
    refine ⟨by rw [List.length_map]; exact Nat.le_refl _, by omega, by have := a.isLt; omega, by rw [List.length_map]; exact ha, ?_⟩
    rw [List.take_of_length_le (l := s.log.map AV.i64) (by rw [List.length_map]; exact Nat.le_refl _)]
    refine Fin.keep (bx_fin hB (s.mem.set a.toNat x) (by rw [List.length_set]; exact hlen) _ h ?_ ?_ ?_ ?_ ?_)
    · exact Heap.wf_set (Heap.wf_set (Heap.wf_upd (Heap.wf_upd_none (Heap.wf_upd wf (by simp [AV.ok]))) (fun v hv => by rcases List.mem_append.1 hv with hv | hv; exact i64s_ok _ _ v hv; simp only [List.mem_cons, List.not_mem_nil, or_false] at hv; rw [hv]; rfl)) (by omega) (by simp [AV.ok]; omega)) (by omega) (fun v hv => by rw [← List.map_set] at hv; exact u8s_ok _ _ v hv)
    · rw [ebm, Heap.upd_same]
    · rw [Heap.upd_same, List.map_set]
    · rw [e1m, e1b, Heap.upd_same]; simp
    · intro i hi hF
      have hib : i ≠ b := fun e => hF (e ▸ hB.fb)
      have him : i ≠ m := fun e => hF (e ▸ hB.fm)
      have hiq : i ≠ q := fun e => hF (e ▸ h5)
      rw [Heap.upd_ne _ _ him, Heap.upd_ne _ _ hib, Heap.upd_ne _ _ (by omega), Heap.upd_ne _ _ hiq, Heap.upd_ne _ _ (by omega)]
theorem bx_inp {b : Nat} {s : Bx} {p : BitVec 16} {u : Int} {H : Heap} {n : Nat} {F : Nat → Prop} {K : AV → Heap → Nat → Prop} (hu : 0 ≤ u ∧ u ≤ 100) (hl : 1 ≤ bxLeft s) (hr : bxRep b s H n F) (h : ∀ H' n' F', H'.wf n' → n ≤ n' → bxRep b (bxO.inp s p u).2 H' n' F' → (∀ i, F' i → F i ∨ n ≤ i) → (∀ i, i < n → ¬ F i → H' i = H i) → K (.u8 (bxO.inp s p u).1) H' n') : ACalls Try.prog 113 [.pt b 0, .u16 p, .i64 u] H n K := by
  refine ACalls.of_awp Try.func113 rfl (by decide +kernel) (show 3 ≤ 33 by decide) (by simp) fun wf => ?_
  obtain ⟨m, L, hB⟩ := hr
  have hb := hB.blk
  have hm := hB.mem
  have lb := hB.low b hB.fb
  have lm := hB.low m hB.fm
  have eb := fun X Y => Heap.upd_ne X (i := n) (j := b) Y (by omega)
  have eb1 := fun X Y => Heap.upd_ne X (i := n + 1) (j := b) Y (by omega)
  have em := fun X Y => Heap.upd_ne X (i := n) (j := m) Y (by omega)
  have em1 := fun X Y => Heap.upd_ne X (i := n + 1) (j := m) Y (by omega)
  have emb := fun X Y => Heap.upd_ne X (i := b) (j := m) Y (Ne.symm hB.bm)
  have ebm := fun X Y => Heap.upd_ne X (i := m) (j := b) Y hB.bm
  have e1b := fun X Y => Heap.upd_ne X (i := b) (j := n + 1) Y (by omega)
  have e1m := fun X Y => Heap.upd_ne X (i := m) (j := n + 1) Y (by omega)
  have hlen := hB.len
  refine awp_ev dr0 (by decide +kernel) ?_
  unfold bxLeft at hl
  rcases hB.log with ⟨hl0, rfl⟩ | ⟨q, rfl, hq, h3, h4, h5⟩
  · simp only [go_sem, Try.f113, hb, hm, eb, eb1, em, em1, emb, ebm]
    have e13 : wrap64 13 = wrap64 (((s.log.length + 1 : Nat) : Int) * 13) := by rw [hl0]; rfl
    rw [e13]
    refine Fin.keep (bx_fin hB s.mem (by exact hlen) _ h ?_ ?_ ?_ ?_ ?_)
    · exact Heap.wf_set (Heap.wf_upd (Heap.wf_upd wf (by simp [AV.ok])) (by simp [AV.ok])) (by omega) (by simp [AV.ok]; omega)
    · rw [Heap.upd_same]; simp [hl0]
    · rw [emb, em1, em]; exact hm
    · rw [e1b, Heap.upd_same]; simp [hl0]
    · intro i hi hF
      have hib : i ≠ b := fun e => hF (e ▸ hB.fb)
      have him : i ≠ m := fun e => hF (e ▸ hB.fm)
      rw [Heap.upd_ne _ _ hib, Heap.upd_ne _ _ (by omega), Heap.upd_ne _ _ (by omega)]
  · have lq := hB.low q h5
    have eq := fun X Y => Heap.upd_ne X (i := n) (j := q) Y (by omega)
    have ebq := fun X Y => Heap.upd_ne X (i := q) (j := b) Y (Ne.symm h3)
    have emq := fun X Y => Heap.upd_ne X (i := q) (j := m) Y (Ne.symm h4)
    simp only [go_sem, Try.f113, hb, hm, hq, eb, eb1, em, em1, emb, ebm, eq, ebq, emq, List.take_of_length_le (Nat.le_refl (s.log.map AV.i64).length)]
    refine ⟨by rw [List.length_map]; exact Nat.le_refl _, by omega, ?_⟩
    rw [List.take_of_length_le (l := s.log.map AV.i64) (by rw [List.length_map]; exact Nat.le_refl _)]
    refine Fin.keep (bx_fin hB s.mem (by exact hlen) _ h ?_ ?_ ?_ ?_ ?_)
    · exact Heap.wf_set (Heap.wf_upd (Heap.wf_upd_none (Heap.wf_upd wf (by simp [AV.ok]))) (fun v hv => by rcases List.mem_append.1 hv with hv | hv; exact i64s_ok _ _ v hv; simp only [List.mem_cons, List.not_mem_nil, or_false] at hv; rw [hv]; rfl)) (by omega) (by simp [AV.ok]; omega)
    · rw [Heap.upd_same]
    · rw [emb, em1, emq, em]; exact hm
    · rw [e1b, Heap.upd_same]; simp
    · intro i hi hF
      have hib : i ≠ b := fun e => hF (e ▸ hB.fb)
      have him : i ≠ m := fun e => hF (e ▸ hB.fm)
      have hiq : i ≠ q := fun e => hF (e ▸ h5)
      rw [Heap.upd_ne _ _ hib, Heap.upd_ne _ _ (by omega), Heap.upd_ne _ _ hiq, Heap.upd_ne _ _ (by omega)]
theorem bx_out {b : Nat} {s : Bx} {p : BitVec 16} {x : BitVec 8} {u : Int} {H : Heap} {n : Nat} {F : Nat → Prop} {K : AV → Heap → Nat → Prop} (hu : 0 ≤ u ∧ u ≤ 100) (hl : 1 ≤ bxLeft s) (hr : bxRep b s H n F) (h : ∀ H' n' F', H'.wf n' → n ≤ n' → bxRep b (bxO.out s p x u) H' n' F' → (∀ i, F' i → F i ∨ n ≤ i) → (∀ i, i < n → ¬ F i → H' i = H i) → K (.tu []) H' n') : ACalls Try.prog 114 [.pt b 0, .u16 p, .u8 x, .i64 u] H n K := by
  refine ACalls.of_awp Try.func114 rfl (by decide +kernel) (show 4 ≤ 27 by decide) (by simp) fun wf => ?_
  obtain ⟨m, L, hB⟩ := hr
  have hb := hB.blk
  have hm := hB.mem
  have lb := hB.low b hB.fb
  have lm := hB.low m hB.fm
  have eb := fun X Y => Heap.upd_ne X (i := n) (j := b) Y (by omega)
  have eb1 := fun X Y => Heap.upd_ne X (i := n + 1) (j := b) Y (by omega)
  have em := fun X Y => Heap.upd_ne X (i := n) (j := m) Y (by omega)
  have em1 := fun X Y => Heap.upd_ne X (i := n + 1) (j := m) Y (by omega)
  have emb := fun X Y => Heap.upd_ne X (i := b) (j := m) Y (Ne.symm hB.bm)
  have ebm := fun X Y => Heap.upd_ne X (i := m) (j := b) Y hB.bm
  have e1b := fun X Y => Heap.upd_ne X (i := b) (j := n + 1) Y (by omega)
  have e1m := fun X Y => Heap.upd_ne X (i := m) (j := n + 1) Y (by omega)
  have hlen := hB.len
  refine awp_ev dr0 (by decide +kernel) ?_
  unfold bxLeft at hl
  rcases hB.log with ⟨hl0, rfl⟩ | ⟨q, rfl, hq, h3, h4, h5⟩
  · simp only [go_sem, Try.f114, hb, hm, eb, eb1, em, em1, emb, ebm]
    refine Fin.keep (bx_fin hB s.mem (by exact hlen) _ h ?_ ?_ ?_ ?_ ?_)
    · exact Heap.wf_set (Heap.wf_upd (Heap.wf_upd wf (by simp [AV.ok])) (by simp [AV.ok])) (by omega) (by simp [AV.ok]; omega)
    · rw [Heap.upd_same]; simp [hl0]
    · rw [emb, em1, em]; exact hm
    · rw [e1b, Heap.upd_same]; simp [hl0]
    · intro i hi hF
      have hib : i ≠ b := fun e => hF (e ▸ hB.fb)
      have him : i ≠ m := fun e => hF (e ▸ hB.fm)
      rw [Heap.upd_ne _ _ hib, Heap.upd_ne _ _ (by omega), Heap.upd_ne _ _ (by omega)]
  · have lq := hB.low q h5
    have eq := fun X Y => Heap.upd_ne X (i := n) (j := q) Y (by omega)
    have ebq := fun X Y => Heap.upd_ne X (i := q) (j := b) Y (Ne.symm h3)
    have emq := fun X Y => Heap.upd_ne X (i := q) (j := m) Y (Ne.symm h4)
    simp only [go_sem, Try.f114, hb, hm, hq, eb, eb1, em, em1, emb, ebm, eq, ebq, emq, List.take_of_length_le (Nat.le_refl (s.log.map AV.i64).length)]
    refine ⟨by rw [List.length_map]; exact Nat.le_refl _, by omega, ?_⟩
    rw [List.take_of_length_le (l := s.log.map AV.i64) (by rw [List.length_map]; exact Nat.le_refl _)]
    refine Fin.keep (bx_fin hB s.mem (by exact hlen) _ h ?_ ?_ ?_ ?_ ?_)
    · exact Heap.wf_set (Heap.wf_upd (Heap.wf_upd_none (Heap.wf_upd wf (by simp [AV.ok]))) (fun v hv => by rcases List.mem_append.1 hv with hv | hv; exact i64s_ok _ _ v hv; simp only [List.mem_cons, List.not_mem_nil, or_false] at hv; rw [hv]; rfl)) (by omega) (by simp [AV.ok]; omega)
    · rw [Heap.upd_same]
    · rw [emb, em1, emq, em]; exact hm
    · rw [e1b, Heap.upd_same]; simp
    · intro i hi hF
      have hib : i ≠ b := fun e => hF (e ▸ hB.fb)
      have him : i ≠ m := fun e => hF (e ▸ hB.fm)
      have hiq : i ≠ q := fun e => hF (e ▸ h5)
      rw [Heap.upd_ne _ _ hib, Heap.upd_ne _ _ (by omega), Heap.upd_ne _ _ hiq, Heap.upd_ne _ _ (by omega)]
end Go.Proofs.Joy
namespace Go.Proofs.Joy
open Go.Ab
/-- All of memory, by addresses. -/
@[irreducible] def memL (f : Nat → BitVec 8) : List (BitVec 8) := (List.range 65536).map f
theorem memL_len (f : Nat → BitVec 8) : (memL f).length = 65536 := by unfold memL; rw [List.length_map, List.length_range]
theorem memL_getD (f : Nat → BitVec 8) {i : Nat} (h : i < 65536) : (memL f).getD i 0#8 = f i := by
  unfold memL
  rw [List.getD_eq_getElem?_getD, List.getElem?_map, List.getElem?_range h]; rfl
theorem mapSet (l : List Nat) (f : Nat → BitVec 8) (x : BitVec 8) (N j : Nat) (hl : l = List.range N) : (l.map f).set j x = l.map (fun i => if i = j then x else f i) := by
  subst hl
  apply List.ext_getElem
  · simp
  · intro i h1 h2
    rw [List.getElem_set]
    simp only [List.getElem_map, List.getElem_range]
    by_cases h : j = i
    · rw [if_pos h, if_pos h.symm]
    · rw [if_neg h, if_neg (Ne.symm h)]
theorem memL_set (f : Nat → BitVec 8) {j : Nat} (x : BitVec 8) : (memL f).set j x = memL (fun i => if i = j then x else f i) := by unfold memL; exact mapSet _ f x 65536 j rfl
theorem memL_congr {f g : Nat → BitVec 8} (h : ∀ i, i < 65536 → f i = g i) : memL f = memL g := by
  unfold memL
  exact List.map_congr_left fun i hi => h i (List.mem_range.1 hi)
theorem memL_zero : memL (fun _ => 0#8) = List.replicate 65536 0#8 := by
  unfold memL
  rw [List.map_const', List.length_range]
/-- What a box is of, ahead of its code. -/
def fillS (fill : BitVec 8) (i : Nat) : BitVec 8 := BitVec.ofNat 8 i * fill ^^^ BitVec.ofNat 8 (i / 256)
/-- .. and with its first bytes. -/
def codeS (at_ : BitVec 16) (code : List (BitVec 8)) (fill : BitVec 8) : Nat → Nat → BitVec 8
  | 0, i => fillS fill i
  | j + 1, i => if i = (at_ + BitVec.ofNat 16 j).toNat then code.getD j 0#8 else codeS at_ code fill j i
def boxS (at_ : BitVec 16) (code : List (BitVec 8)) (fill : BitVec 8) : Bx := ⟨memL (codeS at_ code fill code.length), []⟩
end Go.Proofs.Joy
namespace Go.Proofs.Joy
open Go.Ab Go.Proofs

set_option maxHeartbeats 2000000
set_option maxRecDepth 20000

def boxW (b : Nat) : WC Try.prog Bx where
  O := bxO
  v := .pt b 0
  kr := 115
  kw := 116
  ki := 113
  ko := 114
  rep := bxRep b
  left := bxLeft
  lrd := bx_lrd
  lwr := bx_lwr
  lin := bx_lin
  lout := bx_lout
  vok := fun ⟨_, _, h⟩ => by have := h.low b h.fb; simp [AV.ok, this]
  low := fun ⟨_, _, h⟩ hi => h.low _ hi
  stable := bx_stable
  read := bx_read
  write := bx_write
  inp := bx_inp
  out := bx_out
theorem boxM (b : Nat) : MT (boxW b) 30 := ⟨(by show mthT Try.prog 30 "Read" = some 115; decide +kernel), (by show mthT Try.prog 30 "Write" = some 116; decide +kernel), (by show mthT Try.prog 30 "In" = some 113; decide +kernel), (by show mthT Try.prog 30 "Out" = some 114; decide +kernel)⟩
theorem c_right (r : Rg) (H : Heap) (n : Nat) (K : AV → Heap → Nat → Prop) (h : K (.bo r.right) H n) : ACalls Try.prog 10 [.ag r.cells] H n K := by
  refine ACalls.of_awp Try.func10 rfl (by decide +kernel) (show 1 ≤ 21 by decide) (by simp) fun wf => ?_
  refine awp_ev dr0 (by decide +kernel) ?_
  simp only [go_sem, Try.f10, Rg.cells]
  have hle : (decide (r.im ≤ 2#8)) = decide (r.im < 3#8) := by
    generalize r.im = x
    revert x; decide +kernel
  unfold Rg.right at h
  rw [hle] at h
  have hf : ∀ i, i < n → (H.upd n (some ⟨r.cells, 25, false⟩)) i = H i := fun i hi => Heap.upd_ne _ _ (by omega)
  refine ⟨fun e => ⟨fun e0 => ⟨fun e1 => ?_, fun e1 => ?_⟩, fun e0 => ?_⟩, fun e => ?_⟩
  · simp only [e, e0, e1, decide_true, Bool.true_and, Bool.false_or] at h
    exact Fin.back wf h hf rfl
  · simp only [e, e0, e1, decide_true, Bool.true_and, Bool.false_or, Bool.true_or] at h
    exact Fin.back wf h hf rfl
  · simp only [e, e0, decide_true, Bool.true_and, Bool.true_or] at h
    exact Fin.back wf h hf rfl
  · simp only [e, decide_false, Bool.false_and] at h
    exact Fin.back wf h hf rfl
structure BoS where
  j : Nat
def boH (H : Heap) (n : Nat) (f : Nat → BitVec 8) : Heap := (H.upd n (some ⟨(memL f).map .u8, 5, false⟩)).upd (n + 1) (some ⟨[.sl n 0 65536 65536, .sn], 37, false⟩)
theorem boH_wf {H : Heap} {n : Nat} (wf : H.wf n) (f : Nat → BitVec 8) : (boH H n f).wf (n + 2) := Heap.wf_upd (Heap.wf_upd wf (u8s_ok (memL f) _)) (fun v hv => by simp only [List.mem_cons, List.not_mem_nil, or_false] at hv; rcases hv with rfl | rfl; exact decide_eq_true (by omega); rfl)
def half1 (fill : BitVec 8) (j : Nat) : Nat → BitVec 8 := fun i => if i < j then fillS fill i else 0#8
theorem c_box (at_ : BitVec 16) (code : List (BitVec 8)) (fill : BitVec 8) (cv : AV) (H : Heap) (n : Nat) (K : AV → Heap → Nat → Prop) (hc : bytesIn H cv code) (hok : cv.ok n = true) (hl : code.length ≤ 1000)
    (h : ∀ b H' n' F', H'.wf n' → n ≤ n' → bxRep b (boxS at_ code fill) H' n' F' → (∀ i, F' i → n ≤ i) → (∀ i, i < n → H' i = H i) → K (.pt b 0) H' n') : ACalls Try.prog 11 [.u16 at_, cv, .u8 fill] H n K := by
  have hne : cv ≠ .junk := hc.ne
  refine ACalls.of_awp Try.func11 rfl (by decide +kernel) (show 3 ≤ 56 by decide) (by simp; exact hne) fun wf => ?_
  refine awp_step dr0 (by decide +kernel) ?_
  simp only [go_sem, Try.f11]
  refine awp_step dr0 (by decide +kernel) ?_
  simp only [go_sem]
  refine awp_step dr0 (by decide +kernel) ?_
  simp only [go_sem]
  have e0 : (repCells 65536 [AV.u8 0#8]) = (memL (half1 fill 0)).map .u8 := by
    rw [rep_u8, ← memL_zero]; rfl
  rw [e0]
  refine awp_loopF (S := BoS) (fun s => [(0, .u16 at_), (1, cv), (2, .u8 fill), (7, .pt (n + 1) 0), (18, .i64 65536), (19, .i64 s.j)]) (fun s => boH H n (half1 fill s.j)) (fun _ => n + 2) (fun s => s.j ≤ 65536) (fun s => 65536 - s.j)
    (fun s _ => ⟨boH_wf wf _, Env.okAt_of2 (by simp [AV.ok]; exact AV.ok_mono (by omega) _ hok)⟩) ?_ ⟨0⟩ (Nat.zero_le _) (by repeat (first | exact Env.le_nil _ | refine Env.le_cons rfl ?_)) (fun _ _ => rfl) rfl
  rintro ⟨j⟩ hj
  simp only at hj ⊢
  refine awp_step dr0 (by decide +kernel) ?_
  simp only [go_sem]
  refine awp_step dr0 (by decide +kernel) ?_
  simp only [go_sem]
  refine ⟨fun hlt => ?_, fun hlt => ?_⟩
  · refine awp_ev dr0 (by decide +kernel) ?_
    simp only [go_sem, boH]
    refine ⟨by omega, by rw [List.length_map, memL_len]; omega, ?_⟩
    have e1 : (wrap64 ((j : Int) + 1)) = ((j + 1 : Nat) : Int) := by rw [wrap_id _ (by omega) (by omega)]; omega
    have e2 : BitVec.ofInt 8 (j : Int) * fill ^^^ BitVec.ofInt 8 (wrap64 ((j : Int).tdiv 256)) = fillS fill j := by
      unfold fillS
      have : wrap64 ((j : Int).tdiv 256) = ((j / 256 : Nat) : Int) := by
        rw [show (j : Int).tdiv 256 = ((j / 256 : Nat) : Int) from rfl]; exact wrap_id _ (by omega) (by omega)
      rw [this]; rfl
    have e3 : (List.map AV.u8 (memL (half1 fill j))).set j (AV.u8 (fillS fill j)) = (memL (half1 fill (j + 1))).map .u8 := by
      rw [← List.map_set, memL_set]
      congr 1
      apply memL_congr
      intro i _
      simp only [half1]
      by_cases h1 : i = j
      · subst h1; rw [if_pos rfl, if_pos (by omega)]
      · rw [if_neg h1]
        by_cases h2 : i < j
        · rw [if_pos h2, if_pos (by omega)]
        · rw [if_neg h2, if_neg (by omega)]
    rw [e1, e2, e3]
    refine Ends.mk (⟨j + 1⟩ : BoS) ⟨by simp only; omega, by simp only; omega⟩ (by repeat (first | exact Env.le_nil _ | refine Env.le_cons rfl ?_)) (fun i _ => ?_) (Nat.le_refl _) (Nat.le_refl _)
    simp only [Heap.upd]
    by_cases h1 : i = n
    · subst h1; simp
    · simp [h1]
  · have hj2 : j = 65536 := by omega
    subst hj2
    have e4 : boH H n (half1 fill 65536) = boH H n (codeS at_ code fill 0) := by unfold boH; rw [memL_congr (f := half1 fill 65536) (g := codeS at_ code fill 0) fun i hi => if_pos hi]
    rw [e4]
    have hvok : cv.ok n = true := hok
    have hlb : ∀ K, lenB (some .slice) cv K = K (.i64 code.length) := lenB_bytes hc
    have hcc : bytesIn (boH H n (codeS at_ code fill 0)) cv code := hc.mono hok (fun i hi => by unfold boH; rw [Heap.upd_ne _ _ (by omega), Heap.upd_ne _ _ (by omega)])
    refine awp_seq (awp_step dr0 (by decide +kernel) ?_)
    simp only [go_sem, hlb]
    refine awp_block ?_
    refine awp_loopF (S := BoS) (fun s => [(0, .u16 at_), (37, cv), (7, .pt (n + 1) 0), (38, .i64 code.length), (39, .i64 s.j)]) (fun s => boH H n (codeS at_ code fill s.j)) (fun _ => n + 2) (fun s => s.j ≤ code.length) (fun s => code.length - s.j)
      (fun s _ => ⟨boH_wf wf _, Env.okAt_of2 (by simp [AV.ok]; exact AV.ok_mono (by omega) _ hok)⟩) ?_ ⟨0⟩ (Nat.zero_le _) (by repeat (first | exact Env.le_nil _ | refine Env.le_cons rfl ?_)) (fun _ _ => rfl) rfl
    rintro ⟨j⟩ hj
    simp only at hj ⊢
    refine awp_step dr0 (by decide +kernel) ?_
    simp only [go_sem]
    refine awp_step dr0 (by decide +kernel) ?_
    simp only [go_sem]
    refine ⟨fun hlt => ?_, fun hlt => ?_⟩
    · have hlt' : j < code.length := by omega
      refine awp_ev dr0 (by decide +kernel) ?_
      simp only [go_sem]
      rcases hc with ⟨rfl, rfl⟩ | ⟨su, b, o, c, blk, rfl, h0, h1, h2, h3⟩
      · simp at hlt'
      have hbn := (wf b _ h1).1
      have hbb : boH H n (codeS at_ code fill j) b = some blk := by unfold boH; rw [Heap.upd_ne _ _ (by omega), Heap.upd_ne _ _ (by omega)]; exact h1
      refine ixB_vw hlt' ?_
      obtain ⟨q1, q2⟩ := cells_at h2 h3 hlt'
      simp only [go_sem, hbb, q1, q2, true_and]
      simp only [go_sem, boH]
      have e1 : (wrap64 ((j : Int) + 1)) = ((j + 1 : Nat) : Int) := by rw [wrap_id _ (by omega) (by omega)]; omega
      have e2 : BitVec.ofInt 16 (j : Int) = BitVec.ofNat 16 j := rfl
      rw [e2]
      have ha := (at_ + BitVec.ofNat 16 j).isLt
      refine ⟨by omega, by rw [List.length_map, memL_len]; omega, ?_⟩
      have e3 : (List.map AV.u8 (memL (codeS at_ code fill j))).set (at_ + BitVec.ofNat 16 j).toNat (AV.u8 (code.getD j 0#8)) = (memL (codeS at_ code fill (j + 1))).map .u8 := by
        rw [← List.map_set, memL_set]; rfl
      rw [e1, e3]
      refine Ends.mk (⟨j + 1⟩ : BoS) ⟨by simp only; omega, by simp only; omega⟩ (by repeat (first | exact Env.le_nil _ | refine Env.le_cons rfl ?_)) (fun i _ => ?_) (Nat.le_refl _) (Nat.le_refl _)
      simp only [Heap.upd]
      by_cases h1 : i = n
      · subst h1; simp
      · simp [h1]
    · have hj3 : j = code.length := by omega
      subst hj3
      refine awp_ev dr0 (by decide +kernel) ?_
      simp only [go_sem]
      refine Fin.keep (h (n + 1) _ _ (fun i => i = n ∨ i = n + 1) (boH_wf wf _) (by omega) ⟨n, .sn, memL_len _, ?_, ?_, .inl ⟨rfl, rfl⟩, by omega, .inr rfl, .inl rfl, fun i hi => by rcases hi with h | h <;> omega⟩ (fun i hi => by rcases hi with h | h <;> omega) (fun i hi => ?_))
      · unfold boH; rw [Heap.upd_same]
      · unfold boH; rw [Heap.upd_ne _ _ (by omega), Heap.upd_same]; rfl
      · unfold boH; rw [Heap.upd_ne _ _ (by omega), Heap.upd_ne _ _ (by omega)]
end Go.Proofs.Joy
namespace Go.Proofs.Joy
open Go.Ab
/-- A world as a function of addresses. -/
def fnO : Ops ((Nat → BitVec 8) × List Int) where
  rd s a := (s.1 a.toNat, (s.1, (bxO.rd ⟨[], s.2⟩ a).2.log))
  wr s a x := (fun i => if i = a.toNat then x else s.1 i, (bxO.wr ⟨[], s.2⟩ a x).log)
  inp s p u := ((bxO.inp ⟨[], s.2⟩ p u).1, (s.1, (bxO.inp ⟨[], s.2⟩ p u).2.log))
  out s p x u := (s.1, (bxO.out ⟨[], s.2⟩ p x u).log)
theorem run_mem {α : Type} : ∀ (e : Eff α) (f : Nat → BitVec 8) (l : List Int), e.run bxO ⟨memL f, l⟩ = ((e.run fnO (f, l)).1, ⟨memL (e.run fnO (f, l)).2.1, (e.run fnO (f, l)).2.2⟩)
  | .ret _, _, _ => rfl
  | .rd a k, f, l => by
    have h1 : (bxO.rd ⟨memL f, l⟩ a) = (f a.toNat, ⟨memL f, l ++ [(a.toNat : Int)]⟩) := by
      show ((memL f).getD a.toNat 0#8, _) = _
      rw [memL_getD f a.isLt]
    simp only [Eff.run, h1]
    exact run_mem (k (f a.toNat)) f _
  | .wr a v k, f, l => by
    have h1 : (bxO.wr ⟨memL f, l⟩ a v) = ⟨memL (fun i => if i = a.toNat then v else f i), (bxO.wr ⟨[], l⟩ a v).log⟩ := by
      show (⟨(memL f).set a.toNat v, _⟩ : Bx) = _
      rw [memL_set]; rfl
    simp only [Eff.run, h1]
    exact run_mem k _ _
  | .inp p t k, f, l => by simp only [Eff.run]; exact run_mem (k _) f _
  | .out p v t k, f, l => by simp only [Eff.run]; exact run_mem k f _
theorem run_box {α : Type} {e : Eff α} {at_ : BitVec 16} {code : List (BitVec 8)} {fill : BitVec 8} {x : α} {s2 : Bx} (h : e.run bxO (boxS at_ code fill) = (x, s2)) : (e.run fnO (codeS at_ code fill code.length, [])).1 = x := by
  unfold boxS at h
  rw [run_mem] at h
  exact congrArg Prod.fst h
def rg0 : Rg := ⟨0#8, 0#8, 0#8, 0#8, 0#8, 0#8, 0#8, 0#8, 0#8, 0#8, 0#8, 0#8, 0#8, 0#8, 0#8, 0#8, 0#16, 0#16, 0#16, 0#16, 0#16, 0#8, 0#8, 0#8, 0#8, false, false, false, false⟩
theorem alive_eq : ((stepE { rg0 with pc := 100#16 }).run fnO (codeS 100#16 [0x3E#8, 5#8] 0#8 2, [])).1 = ({ rg0 with a := 5#8, pc := 102#16, r := 1#8 }, 7) := by decide +kernel
theorem names_a : ((stepE rg0).run fnO (codeS 0#16 [0xDD#8] 0#8 1, [])).1 = ({ rg0 with pc := 1#16, r := 1#8, pre := 0xDD#8 }, 4) := by decide +kernel
theorem names_b : ((stepE { rg0 with pc := 1#16, r := 1#8, pre := 0xDD#8 }).run fnO (codeS 0#16 [0xDD#8, 0x21#8, 1#8, 2#8] 0#8 4, [])).1 = ({ rg0 with pc := 4#16, r := 2#8, ix := 0x201#16 }, 10) := by decide +kernel
theorem names_c : ((stepE { rg0 with pc := 7#16, hlt := true }).run fnO (codeS 0#16 [] 0#8 0, [])).1 = ({ rg0 with pc := 7#16, r := 1#8, hlt := true }, 4) := by decide +kernel
theorem names_d : ((interE { rg0 with iff1 := true, dly := true } false true).run fnO (codeS 0#16 [] 0#8 0, [])).1 = ({ rg0 with iff1 := true, dly := true }, 0) := by decide +kernel
theorem names_e : ((interE { rg0 with iff1 := true, iff2 := true, pc := 5#16, hlt := true, im := 1#8 } false true).run fnO (codeS 0#16 [] 0#8 0, [])).1 = ({ rg0 with pc := 56#16, wz := 56#16, sp := 65534#16, im := 1#8, r := 1#8 }, 13) := by decide +kernel
theorem names_f : ((interE { rg0 with iff1 := true, iff2 := true, pc := 5#16 } true true).run fnO (codeS 0#16 [] 0#8 0, [])).1 = ({ rg0 with pc := 102#16, wz := 102#16, sp := 65534#16, r := 1#8, iff2 := true }, 11) := by decide +kernel
theorem box_left (at_ : BitVec 16) (code : List (BitVec 8)) (fill : BitVec 8) : 6 ≤ bxLeft (boxS at_ code fill) := by unfold bxLeft boxS; simp
end Go.Proofs.Joy
namespace Go.Proofs.Joy
open Go.Ab Go.Proofs

set_option maxHeartbeats 4000000
set_option maxRecDepth 20000

theorem c_alive (H : Heap) (n : Nat) (K : AV → Heap → Nat → Prop) (h : K (.bo true) H n) : ACalls Try.prog 9 [] H n K := by
  refine ACalls.of_awp Try.func9 rfl (by decide +kernel) (show 0 ≤ 18 by decide) (by simp) fun wf => ?_
  refine awp_ev dr0 (by decide +kernel) ?_
  simp only [go_sem, Try.f9]
  refine c_box 100#16 [0x3E#8, 5#8] 0#8 _ _ _ _ (bytesIn.whole (Heap.upd_same _ _ _) rfl (Nat.le_refl _)) (by simp [AV.ok]) (by decide) fun b H1 n1 F1 w1 l1 r1 o1 f1 => ?_
  simp only [go_sem]
  refine c_step (boxM b) ({ rg0 with pc := 100#16 }) r1 (box_left _ _ _) fun r' q s2 H2 n2 F2 e2 lf w2 l2 r2 o2 f2 => ?_
  have kk : ∀ i, i < n → H2 i = H i := fun i hi => (f2 i (by omega) (fun hF => absurd (o1 i hF) (by omega))).trans ((f1 i (by omega)).trans (Heap.upd_ne _ _ (by omega)))
  have hx := (run_box e2).symm.trans alive_eq
  simp only [Prod.mk.injEq] at hx
  obtain ⟨rfl, rfl⟩ := hx
  simp only [go_sem, Rg.cells, rg0]
  exact Fin.back wf h (fun i hi => by rw [Heap.upd_ne _ _ (by omega)]; exact kk i hi) rfl
theorem names_walk (H : Heap) (n : Nat) (K : AV → Heap → Nat → Prop) (h : K (.bo true) H n) : ACalls Try.prog 7 [] H n K := by
  refine ACalls.of_awp Try.func7 rfl (by decide +kernel) (show 0 ≤ 140 by decide) (by simp) fun wf => ?_
  refine awp_ev dr7 (by decide +kernel) ?_
  simp only [go_sem, Try.f7]
  refine c_box 0#16 [0xDD#8] 0#8 _ _ _ _ (bytesIn.whole (Heap.upd_same _ _ _) rfl (Nat.le_refl _)) (by simp [AV.ok]) (by decide) fun b0 H0 m0 F0 w0 l0 r0 o0 f0 => ?_
  simp only [go_sem]
  first
  | refine c_step (boxM b0) (rg0)  r0 (box_left _ _ _) fun x0 q0 s0 G0 n0 E0 e0 lf0 v0 g0 t0 p0 d0 => ?_
  | refine ⟨rfl, c_step (boxM b0) (rg0)  r0 (box_left _ _ _) fun x0 q0 s0 G0 n0 E0 e0 lf0 v0 g0 t0 p0 d0 => ?_⟩
  have kk0 := fun i (hi : i < n + 1) => (d0 i (by omega) (fun hF => absurd (o0 i hF) (by omega))).trans (f0 i (by omega))
  have hx0 := (run_box e0).symm.trans names_a
  simp only [Prod.mk.injEq] at hx0
  obtain ⟨rfl, rfl⟩ := hx0
  simp only [go_sem, Rg.cells, rg0]
  refine c_box 0#16 [0xDD#8, 0x21#8, 1#8, 2#8] 0#8 _ _ _ _ (bytesIn.whole (Heap.upd_same _ _ _) rfl (Nat.le_refl _)) (by simp [AV.ok]) (by decide) fun b1 H1 m1 F1 w1 l1 r1 o1 f1 => ?_
  have u1_0 : H1 n0 = some ⟨({ rg0 with pc := 1#16, r := 1#8, pre := 0xDD#8 } : Rg).cells, 25, false⟩ := by rw [f1 n0 (by omega), Heap.upd_ne _ _ (by omega), Heap.upd_same]; rfl
  simp only [Rg.cells, rg0] at u1_0
  simp only [go_sem, u1_0]
  first
  | refine c_step (boxM b1) ({ rg0 with pc := 1#16, r := 1#8, pre := 0xDD#8 })  r1 (box_left _ _ _) fun x1 q1 s1 G1 n1 E1 e1 lf1 v1 g1 t1 p1 d1 => ?_
  | refine ⟨rfl, c_step (boxM b1) ({ rg0 with pc := 1#16, r := 1#8, pre := 0xDD#8 })  r1 (box_left _ _ _) fun x1 q1 s1 G1 n1 E1 e1 lf1 v1 g1 t1 p1 d1 => ?_⟩
  have kk1 := fun i (hi : i < n0 + 2) => (d1 i (by omega) (fun hF => absurd (o1 i hF) (by omega))).trans (f1 i (by omega))
  have hx1 := (run_box e1).symm.trans names_b
  simp only [Prod.mk.injEq] at hx1
  obtain ⟨rfl, rfl⟩ := hx1
  have z1_0 : G1 n0 = some ⟨({ rg0 with pc := 1#16, r := 1#8, pre := 0xDD#8 } : Rg).cells, 25, false⟩ := by rw [kk1 n0 (by omega), Heap.upd_ne _ _ (by omega), Heap.upd_same]; rfl
  have yz1_0 := z1_0
  simp only [Rg.cells, rg0] at yz1_0
  have eu1_0 := fun X Y => Heap.upd_ne X (i := n1) (j := n0) Y (by omega)
  simp only [go_sem, Rg.cells, rg0, yz1_0, eu1_0]
  refine c_box 0#16 [] 0#8 _ _ _ _ (.inl ⟨rfl, rfl⟩) rfl (by decide) fun b2 H2 m2 F2 w2 l2 r2 o2 f2 => ?_
  have u2_0 : H2 n0 = some ⟨({ rg0 with pc := 1#16, r := 1#8, pre := 0xDD#8 } : Rg).cells, 25, false⟩ := by rw [f2 n0 (by omega), Heap.upd_ne _ _ (by omega)]; exact z1_0
  simp only [Rg.cells, rg0] at u2_0
  have u2_1 : H2 n1 = some ⟨({ rg0 with pc := 4#16, r := 2#8, ix := 0x201#16 } : Rg).cells, 25, false⟩ := by rw [f2 n1 (by omega), Heap.upd_same]; rfl
  simp only [Rg.cells, rg0] at u2_1
  simp only [go_sem, u2_0, u2_1]
  first
  | refine c_step (boxM b2) ({ rg0 with pc := 7#16, hlt := true })  r2 (box_left _ _ _) fun x2 q2 s2 G2 n2 E2 e2 lf2 v2 g2 t2 p2 d2 => ?_
  | refine ⟨rfl, c_step (boxM b2) ({ rg0 with pc := 7#16, hlt := true })  r2 (box_left _ _ _) fun x2 q2 s2 G2 n2 E2 e2 lf2 v2 g2 t2 p2 d2 => ?_⟩
  have kk2 := fun i (hi : i < n1 + 1) => (d2 i (by omega) (fun hF => absurd (o2 i hF) (by omega))).trans (f2 i (by omega))
  have hx2 := (run_box e2).symm.trans names_c
  simp only [Prod.mk.injEq] at hx2
  obtain ⟨rfl, rfl⟩ := hx2
  have z2_0 : G2 n0 = some ⟨({ rg0 with pc := 1#16, r := 1#8, pre := 0xDD#8 } : Rg).cells, 25, false⟩ := by rw [kk2 n0 (by omega), Heap.upd_ne _ _ (by omega)]; exact z1_0
  have z2_1 : G2 n1 = some ⟨({ rg0 with pc := 4#16, r := 2#8, ix := 0x201#16 } : Rg).cells, 25, false⟩ := by rw [kk2 n1 (by omega), Heap.upd_same]; rfl
  have yz2_0 := z2_0
  simp only [Rg.cells, rg0] at yz2_0
  have yz2_1 := z2_1
  simp only [Rg.cells, rg0] at yz2_1
  have eu2_0 := fun X Y => Heap.upd_ne X (i := n2) (j := n0) Y (by omega)
  have eu2_1 := fun X Y => Heap.upd_ne X (i := n2) (j := n1) Y (by omega)
  simp only [go_sem, Rg.cells, rg0, yz2_0, yz2_1, eu2_0, eu2_1]
  refine c_box 0#16 [] 0#8 _ _ _ _ (.inl ⟨rfl, rfl⟩) rfl (by decide) fun b3 H3 m3 F3 w3 l3 r3 o3 f3 => ?_
  have u3_0 : H3 n0 = some ⟨({ rg0 with pc := 1#16, r := 1#8, pre := 0xDD#8 } : Rg).cells, 25, false⟩ := by rw [f3 n0 (by omega), Heap.upd_ne _ _ (by omega)]; exact z2_0
  simp only [Rg.cells, rg0] at u3_0
  have u3_1 : H3 n1 = some ⟨({ rg0 with pc := 4#16, r := 2#8, ix := 0x201#16 } : Rg).cells, 25, false⟩ := by rw [f3 n1 (by omega), Heap.upd_ne _ _ (by omega)]; exact z2_1
  simp only [Rg.cells, rg0] at u3_1
  have u3_2 : H3 n2 = some ⟨({ rg0 with pc := 7#16, r := 1#8, hlt := true } : Rg).cells, 25, false⟩ := by rw [f3 n2 (by omega), Heap.upd_same]; rfl
  simp only [Rg.cells, rg0] at u3_2
  simp only [go_sem, u3_0, u3_1, u3_2]
  first
  | refine c_inter (boxM b3) ({ rg0 with iff1 := true, dly := true }) false true r3 (box_left _ _ _) fun x3 q3 s3 G3 n3 E3 e3 lf3 v3 g3 t3 p3 d3 => ?_
  | refine ⟨rfl, c_inter (boxM b3) ({ rg0 with iff1 := true, dly := true }) false true r3 (box_left _ _ _) fun x3 q3 s3 G3 n3 E3 e3 lf3 v3 g3 t3 p3 d3 => ?_⟩
  have kk3 := fun i (hi : i < n2 + 1) => (d3 i (by omega) (fun hF => absurd (o3 i hF) (by omega))).trans (f3 i (by omega))
  have hx3 := (run_box e3).symm.trans names_d
  simp only [Prod.mk.injEq] at hx3
  obtain ⟨rfl, rfl⟩ := hx3
  have z3_0 : G3 n0 = some ⟨({ rg0 with pc := 1#16, r := 1#8, pre := 0xDD#8 } : Rg).cells, 25, false⟩ := by rw [kk3 n0 (by omega), Heap.upd_ne _ _ (by omega)]; exact z2_0
  have z3_1 : G3 n1 = some ⟨({ rg0 with pc := 4#16, r := 2#8, ix := 0x201#16 } : Rg).cells, 25, false⟩ := by rw [kk3 n1 (by omega), Heap.upd_ne _ _ (by omega)]; exact z2_1
  have z3_2 : G3 n2 = some ⟨({ rg0 with pc := 7#16, r := 1#8, hlt := true } : Rg).cells, 25, false⟩ := by rw [kk3 n2 (by omega), Heap.upd_same]; rfl
  have yz3_0 := z3_0
  simp only [Rg.cells, rg0] at yz3_0
  have yz3_1 := z3_1
  simp only [Rg.cells, rg0] at yz3_1
  have yz3_2 := z3_2
  simp only [Rg.cells, rg0] at yz3_2
  have eu3_0 := fun X Y => Heap.upd_ne X (i := n3) (j := n0) Y (by omega)
  have eu3_1 := fun X Y => Heap.upd_ne X (i := n3) (j := n1) Y (by omega)
  have eu3_2 := fun X Y => Heap.upd_ne X (i := n3) (j := n2) Y (by omega)
  simp only [go_sem, Rg.cells, rg0, yz3_0, yz3_1, yz3_2, eu3_0, eu3_1, eu3_2]
  refine c_box 0#16 [] 0#8 _ _ _ _ (.inl ⟨rfl, rfl⟩) rfl (by decide) fun b4 H4 m4 F4 w4 l4 r4 o4 f4 => ?_
  have u4_0 : H4 n0 = some ⟨({ rg0 with pc := 1#16, r := 1#8, pre := 0xDD#8 } : Rg).cells, 25, false⟩ := by rw [f4 n0 (by omega), Heap.upd_ne _ _ (by omega)]; exact z3_0
  simp only [Rg.cells, rg0] at u4_0
  have u4_1 : H4 n1 = some ⟨({ rg0 with pc := 4#16, r := 2#8, ix := 0x201#16 } : Rg).cells, 25, false⟩ := by rw [f4 n1 (by omega), Heap.upd_ne _ _ (by omega)]; exact z3_1
  simp only [Rg.cells, rg0] at u4_1
  have u4_2 : H4 n2 = some ⟨({ rg0 with pc := 7#16, r := 1#8, hlt := true } : Rg).cells, 25, false⟩ := by rw [f4 n2 (by omega), Heap.upd_ne _ _ (by omega)]; exact z3_2
  simp only [Rg.cells, rg0] at u4_2
  have u4_3 : H4 n3 = some ⟨({ rg0 with iff1 := true, dly := true } : Rg).cells, 25, false⟩ := by rw [f4 n3 (by omega), Heap.upd_same]; rfl
  simp only [Rg.cells, rg0] at u4_3
  simp only [go_sem, u4_0, u4_1, u4_2, u4_3]
  first
  | refine c_inter (boxM b4) ({ rg0 with iff1 := true, iff2 := true, pc := 5#16, hlt := true, im := 1#8 }) false true r4 (box_left _ _ _) fun x4 q4 s4 G4 n4 E4 e4 lf4 v4 g4 t4 p4 d4 => ?_
  | refine ⟨rfl, c_inter (boxM b4) ({ rg0 with iff1 := true, iff2 := true, pc := 5#16, hlt := true, im := 1#8 }) false true r4 (box_left _ _ _) fun x4 q4 s4 G4 n4 E4 e4 lf4 v4 g4 t4 p4 d4 => ?_⟩
  have kk4 := fun i (hi : i < n3 + 1) => (d4 i (by omega) (fun hF => absurd (o4 i hF) (by omega))).trans (f4 i (by omega))
  have hx4 := (run_box e4).symm.trans names_e
  simp only [Prod.mk.injEq] at hx4
  obtain ⟨rfl, rfl⟩ := hx4
  have z4_0 : G4 n0 = some ⟨({ rg0 with pc := 1#16, r := 1#8, pre := 0xDD#8 } : Rg).cells, 25, false⟩ := by rw [kk4 n0 (by omega), Heap.upd_ne _ _ (by omega)]; exact z3_0
  have z4_1 : G4 n1 = some ⟨({ rg0 with pc := 4#16, r := 2#8, ix := 0x201#16 } : Rg).cells, 25, false⟩ := by rw [kk4 n1 (by omega), Heap.upd_ne _ _ (by omega)]; exact z3_1
  have z4_2 : G4 n2 = some ⟨({ rg0 with pc := 7#16, r := 1#8, hlt := true } : Rg).cells, 25, false⟩ := by rw [kk4 n2 (by omega), Heap.upd_ne _ _ (by omega)]; exact z3_2
  have z4_3 : G4 n3 = some ⟨({ rg0 with iff1 := true, dly := true } : Rg).cells, 25, false⟩ := by rw [kk4 n3 (by omega), Heap.upd_same]; rfl
  have yz4_0 := z4_0
  simp only [Rg.cells, rg0] at yz4_0
  have yz4_1 := z4_1
  simp only [Rg.cells, rg0] at yz4_1
  have yz4_2 := z4_2
  simp only [Rg.cells, rg0] at yz4_2
  have yz4_3 := z4_3
  simp only [Rg.cells, rg0] at yz4_3
  have eu4_0 := fun X Y => Heap.upd_ne X (i := n4) (j := n0) Y (by omega)
  have eu4_1 := fun X Y => Heap.upd_ne X (i := n4) (j := n1) Y (by omega)
  have eu4_2 := fun X Y => Heap.upd_ne X (i := n4) (j := n2) Y (by omega)
  have eu4_3 := fun X Y => Heap.upd_ne X (i := n4) (j := n3) Y (by omega)
  simp only [go_sem, Rg.cells, rg0, yz4_0, yz4_1, yz4_2, yz4_3, eu4_0, eu4_1, eu4_2, eu4_3]
  refine c_box 0#16 [] 0#8 _ _ _ _ (.inl ⟨rfl, rfl⟩) rfl (by decide) fun b5 H5 m5 F5 w5 l5 r5 o5 f5 => ?_
  have u5_0 : H5 n0 = some ⟨({ rg0 with pc := 1#16, r := 1#8, pre := 0xDD#8 } : Rg).cells, 25, false⟩ := by rw [f5 n0 (by omega), Heap.upd_ne _ _ (by omega)]; exact z4_0
  simp only [Rg.cells, rg0] at u5_0
  have u5_1 : H5 n1 = some ⟨({ rg0 with pc := 4#16, r := 2#8, ix := 0x201#16 } : Rg).cells, 25, false⟩ := by rw [f5 n1 (by omega), Heap.upd_ne _ _ (by omega)]; exact z4_1
  simp only [Rg.cells, rg0] at u5_1
  have u5_2 : H5 n2 = some ⟨({ rg0 with pc := 7#16, r := 1#8, hlt := true } : Rg).cells, 25, false⟩ := by rw [f5 n2 (by omega), Heap.upd_ne _ _ (by omega)]; exact z4_2
  simp only [Rg.cells, rg0] at u5_2
  have u5_3 : H5 n3 = some ⟨({ rg0 with iff1 := true, dly := true } : Rg).cells, 25, false⟩ := by rw [f5 n3 (by omega), Heap.upd_ne _ _ (by omega)]; exact z4_3
  simp only [Rg.cells, rg0] at u5_3
  have u5_4 : H5 n4 = some ⟨({ rg0 with pc := 56#16, wz := 56#16, sp := 65534#16, im := 1#8, r := 1#8 } : Rg).cells, 25, false⟩ := by rw [f5 n4 (by omega), Heap.upd_same]; rfl
  simp only [Rg.cells, rg0] at u5_4
  simp only [go_sem, u5_0, u5_1, u5_2, u5_3, u5_4]
  first
  | refine c_inter (boxM b5) ({ rg0 with iff1 := true, iff2 := true, pc := 5#16 }) true true r5 (box_left _ _ _) fun x5 q5 s5 G5 n5 E5 e5 lf5 v5 g5 t5 p5 d5 => ?_
  | refine ⟨rfl, c_inter (boxM b5) ({ rg0 with iff1 := true, iff2 := true, pc := 5#16 }) true true r5 (box_left _ _ _) fun x5 q5 s5 G5 n5 E5 e5 lf5 v5 g5 t5 p5 d5 => ?_⟩
  have kk5 := fun i (hi : i < n4 + 1) => (d5 i (by omega) (fun hF => absurd (o5 i hF) (by omega))).trans (f5 i (by omega))
  have hx5 := (run_box e5).symm.trans names_f
  simp only [Prod.mk.injEq] at hx5
  obtain ⟨rfl, rfl⟩ := hx5
  have z5_0 : G5 n0 = some ⟨({ rg0 with pc := 1#16, r := 1#8, pre := 0xDD#8 } : Rg).cells, 25, false⟩ := by rw [kk5 n0 (by omega), Heap.upd_ne _ _ (by omega)]; exact z4_0
  have z5_1 : G5 n1 = some ⟨({ rg0 with pc := 4#16, r := 2#8, ix := 0x201#16 } : Rg).cells, 25, false⟩ := by rw [kk5 n1 (by omega), Heap.upd_ne _ _ (by omega)]; exact z4_1
  have z5_2 : G5 n2 = some ⟨({ rg0 with pc := 7#16, r := 1#8, hlt := true } : Rg).cells, 25, false⟩ := by rw [kk5 n2 (by omega), Heap.upd_ne _ _ (by omega)]; exact z4_2
  have z5_3 : G5 n3 = some ⟨({ rg0 with iff1 := true, dly := true } : Rg).cells, 25, false⟩ := by rw [kk5 n3 (by omega), Heap.upd_ne _ _ (by omega)]; exact z4_3
  have z5_4 : G5 n4 = some ⟨({ rg0 with pc := 56#16, wz := 56#16, sp := 65534#16, im := 1#8, r := 1#8 } : Rg).cells, 25, false⟩ := by rw [kk5 n4 (by omega), Heap.upd_same]; rfl
  have yz5_0 := z5_0
  simp only [Rg.cells, rg0] at yz5_0
  have yz5_1 := z5_1
  simp only [Rg.cells, rg0] at yz5_1
  have yz5_2 := z5_2
  simp only [Rg.cells, rg0] at yz5_2
  have yz5_3 := z5_3
  simp only [Rg.cells, rg0] at yz5_3
  have yz5_4 := z5_4
  simp only [Rg.cells, rg0] at yz5_4
  have eu5_0 := fun X Y => Heap.upd_ne X (i := n5) (j := n0) Y (by omega)
  have eu5_1 := fun X Y => Heap.upd_ne X (i := n5) (j := n1) Y (by omega)
  have eu5_2 := fun X Y => Heap.upd_ne X (i := n5) (j := n2) Y (by omega)
  have eu5_3 := fun X Y => Heap.upd_ne X (i := n5) (j := n3) Y (by omega)
  have eu5_4 := fun X Y => Heap.upd_ne X (i := n5) (j := n4) Y (by omega)
  simp only [go_sem, Rg.cells, rg0, yz5_0, yz5_1, yz5_2, yz5_3, yz5_4, eu5_0, eu5_1, eu5_2, eu5_3, eu5_4]
  refine c_alive _ _ _ ?_
  simp only [go_sem, List.append, yz5_0, eu5_0, yz5_1, eu5_1, yz5_2, eu5_2, yz5_3, eu5_3, yz5_4, eu5_4]
  exact Fin.back wf h (fun i hi => by rw [Heap.upd_ne _ _ (by omega), kk5 i (by omega), Heap.upd_ne _ _ (by omega), kk4 i (by omega), Heap.upd_ne _ _ (by omega), kk3 i (by omega), Heap.upd_ne _ _ (by omega), kk2 i (by omega), Heap.upd_ne _ _ (by omega), kk1 i (by omega), Heap.upd_ne _ _ (by omega), Heap.upd_ne _ _ (by omega), kk0 i (by omega), Heap.upd_ne _ _ (by omega)]) rfl
end Go.Proofs.Joy
namespace Go.Proofs.Joy
open Go.Ab
set_option maxHeartbeats 1000000
/-- What a fetch leaves. -/
def fetchedR (r : Rg) : Rg := { tickR { r with dly := false, pre := 0#8 } with pc := r.pc + 1#16 }
theorem step_fetch (r : Rg) (f : Nat → BitVec 8) (l : List Int) (hh : r.hlt = false) : ∃ l1 : List Int, ∀ {β : Type} (k : BitVec 8 × Core → Eff β), ((fetchM ⟨{ r with dly := false, pre := 0#8 }, 0#8⟩).bind k).run fnO (f, l) = (k (f r.pc.toNat, ⟨fetchedR r, 0#8⟩)).run fnO (f, l1) :=
  ⟨_, fun _ => rfl⟩
/-- A step over an instruction without a prefix. -/
theorem step_plain (r : Rg) (f : Nat → BitVec 8) (l : List Int) (op : BitVec 8) (hh : r.hlt = false) (ho : f r.pc.toNat = op) (h1 : (op == 0xDD#8 || op == 0xFD#8) = false) (h2 : (op == 0xED#8) = false) (h3 : (op == 0xCB#8) = false) :
    ∃ l1, (stepE r).run fnO (f, l) = ((((plainM op ⟨fetchedR r, r.pre⟩).run fnO (f, l1)).1.2.r, ((plainM op ⟨fetchedR r, r.pre⟩).run fnO (f, l1)).1.1), ((plainM op ⟨fetchedR r, r.pre⟩).run fnO (f, l1)).2) := by
  obtain ⟨l1, hl⟩ := step_fetch r f l hh
  refine ⟨l1, ?_⟩
  unfold stepE
  rw [if_neg (by rw [hh]; decide), hl]
  dsimp only
  rw [ho, if_neg (by rw [h1]; decide), if_neg (by rw [h2]; decide), if_neg (by rw [h3]; decide), Eff.run_bind]
  rfl
theorem plain_C5 (r : Rg) (s : (Nat → BitVec 8) × List Int) : ((plainM 0xC5#8 ⟨r, 0#8⟩).run fnO s).1 = (11, ⟨{ r with sp := r.sp - 1#16 - 1#16 }, 0#8⟩) := by rfl
end Go.Proofs.Joy
namespace Go.Proofs.Joy
open Go.Ab
set_option maxHeartbeats 1000000
theorem hi_join (a b : BitVec 8) : hiS (joinS a b) = a := by
  unfold hiS joinS
  ext i hi
  simp only [BitVec.getElem_setWidth, BitVec.getLsbD_ushiftRight, BitVec.getLsbD_or, BitVec.getLsbD_shiftLeft, BitVec.getLsbD_setWidth]
  have : ¬ 8 + i < 8 := by omega
  have h2 : 8 + i < 16 := by omega
  have h3 : b.getLsbD (8 + i) = false := BitVec.getLsbD_of_ge _ _ (by omega)
  have h6 : i < 16 := by omega
  simp [this, h2, h3, h6, BitVec.getLsbD_eq_getElem hi]
theorem lo_join (a b : BitVec 8) : loS (joinS a b) = b := by
  unfold loS joinS
  ext i hi
  simp only [BitVec.getElem_setWidth, BitVec.getLsbD_or, BitVec.getLsbD_shiftLeft, BitVec.getLsbD_setWidth]
  have h2 : i < 16 := by omega
  simp [hi, h2]
theorem join_split (v : BitVec 16) : joinS (hiS v) (loS v) = v := by
  unfold hiS loS joinS
  ext i hi
  simp only [BitVec.getElem_or, BitVec.getElem_shiftLeft, BitVec.getElem_setWidth, BitVec.getLsbD_setWidth, BitVec.getLsbD_ushiftRight]
  by_cases h : i < 8
  · simp [h, BitVec.getLsbD_eq_getElem hi]
  · have h4 : 8 + (i - 8) = i := by omega
    have h5 : i - 8 < 8 := by omega
    simp [h, h4, h5, BitVec.getLsbD_eq_getElem hi]
end Go.Proofs.Joy
namespace Go.Proofs.Joy
open Go.Ab
set_option maxHeartbeats 1000000
/-- Memory, where something has been pushed. -/
def pushF (f : Nat → BitVec 8) (sp v : BitVec 16) : Nat → BitVec 8 := fun i => if i = (sp - 1#16 - 1#16).toNat then loS v else if i = (sp - 1#16).toNat then hiS v else f i
theorem pl_push (p : Nat) (op : BitVec 8) (hop : (p = 0 ∧ op = 0xC5#8) ∨ (p = 2 ∧ op = 0xE5#8) ∨ (p = 4 ∧ op = 0xF5#8)) (r : Rg) (f : Nat → BitVec 8) (l : List Int) :
    ∃ l1, (plainM op ⟨r, 0#8⟩).run fnO (f, l) = ((11, ⟨{ r with sp := r.sp - 1#16 - 1#16 }, 0#8⟩), (pushF f r.sp (pairR r p), l1)) := by
  rcases hop with ⟨rfl, rfl⟩ | ⟨rfl, rfl⟩ | ⟨rfl, rfl⟩ <;> exact ⟨_, rfl⟩
theorem pl_pop (p : Nat) (op : BitVec 8) (hop : (p = 0 ∧ op = 0xC1#8) ∨ (p = 2 ∧ op = 0xE1#8) ∨ (p = 4 ∧ op = 0xF1#8)) (r : Rg) (f : Nat → BitVec 8) (l : List Int) :
    ∃ l1, (plainM op ⟨r, 0#8⟩).run fnO (f, l) = ((10, ⟨setPairR { r with sp := r.sp + 2#16 } p (joinS (f (r.sp + 1#16).toNat) (f r.sp.toNat)), 0#8⟩), (f, l1)) := by
  rcases hop with ⟨rfl, rfl⟩ | ⟨rfl, rfl⟩ | ⟨rfl, rfl⟩ <;> exact ⟨_, rfl⟩
theorem pl_pushy (r : Rg) (f : Nat → BitVec 8) (l : List Int) : ∃ l1, (plainM 0xE5#8 ⟨r, 0xFD#8⟩).run fnO (f, l) = ((11, ⟨{ r with sp := r.sp - 1#16 - 1#16 }, 0xFD#8⟩), (pushF f r.sp r.iy, l1)) := ⟨_, rfl⟩
theorem pl_popy (r : Rg) (f : Nat → BitVec 8) (l : List Int) : ∃ l1, (plainM 0xE1#8 ⟨r, 0xFD#8⟩).run fnO (f, l) = ((10, ⟨{ r with sp := r.sp + 2#16, iy := joinS (f (r.sp + 1#16).toNat) (f r.sp.toNat) }, 0xFD#8⟩), (f, l1)) := ⟨_, rfl⟩
theorem pl_D9 (r : Rg) (s : (Nat → BitVec 8) × List Int) : (plainM 0xD9#8 ⟨r, 0#8⟩).run fnO s = ((4, ⟨swapR r true, 0#8⟩), s) := rfl
theorem pl_08 (r : Rg) (s : (Nat → BitVec 8) × List Int) : (plainM 0x08#8 ⟨r, 0#8⟩).run fnO s = ((4, ⟨swapR r false, 0#8⟩), s) := rfl
theorem pl_EB (r : Rg) (s : (Nat → BitVec 8) × List Int) : (plainM 0xEB#8 ⟨r, 0#8⟩).run fnO s = ((4, ⟨{ r with d := r.h, e := r.l, h := r.d, l := r.e }, 0#8⟩), s) := rfl
theorem pl_3C (r : Rg) (s : (Nat → BitVec 8) × List Int) : (plainM 0x3C#8 ⟨r, 0#8⟩).run fnO s = ((4, ⟨{ r with a := (incS r.a r.f).1, f := (incS r.a r.f).2 }, 0#8⟩), s) := rfl
theorem pl_3D (r : Rg) (s : (Nat → BitVec 8) × List Int) : (plainM 0x3D#8 ⟨r, 0#8⟩).run fnO s = ((4, ⟨{ r with a := (decS r.a r.f).1, f := (decS r.a r.f).2 }, 0#8⟩), s) := rfl
theorem pl_03 (r : Rg) (s : (Nat → BitVec 8) × List Int) : (plainM 0x03#8 ⟨r, 0#8⟩).run fnO s = ((6, ⟨setPairR r 0 (pairR r 0 + 1#16), 0#8⟩), s) := rfl
theorem pl_0B (r : Rg) (s : (Nat → BitVec 8) × List Int) : (plainM 0x0B#8 ⟨r, 0#8⟩).run fnO s = ((6, ⟨setPairR r 0 (pairR r 0 + 1#16 - 2#16), 0#8⟩), s) := rfl
theorem pl_E3 (r : Rg) (f : Nat → BitVec 8) (l : List Int) : ∃ l1, (plainM 0xE3#8 ⟨r, 0#8⟩).run fnO (f, l) = ((19, ⟨{ r with wz := joinS (f (r.sp + 1#16).toNat) (f r.sp.toNat), h := hiS (joinS (f (r.sp + 1#16).toNat) (f r.sp.toNat)), l := loS (joinS (f (r.sp + 1#16).toNat) (f r.sp.toNat)) }, 0#8⟩),
    (fun i => if i = (r.sp + 1#16).toNat then hiS (joinS r.h r.l) else if i = r.sp.toNat then loS (joinS r.h r.l) else f i, l1)) := ⟨_, rfl⟩
theorem pl_CD (r : Rg) (f : Nat → BitVec 8) (l : List Int) : ∃ l1, (plainM 0xCD#8 ⟨r, 0#8⟩).run fnO (f, l) = ((17, ⟨{ r with sp := r.sp - 1#16 - 1#16, pc := joinS (f (r.pc + 1#16).toNat) (f r.pc.toNat), wz := joinS (f (r.pc + 1#16).toNat) (f r.pc.toNat) }, 0#8⟩), (pushF f r.sp (r.pc + 1#16 + 1#16), l1)) := ⟨_, rfl⟩
theorem pl_C9 (r : Rg) (f : Nat → BitVec 8) (l : List Int) : ∃ l1, (plainM 0xC9#8 ⟨r, 0#8⟩).run fnO (f, l) = ((10, ⟨{ r with sp := r.sp + 2#16, pc := joinS (f (r.sp + 1#16).toNat) (f r.sp.toNat), wz := joinS (f (r.sp + 1#16).toNat) (f r.sp.toNat) }, 0#8⟩), (f, l1)) := ⟨_, rfl⟩
theorem pl_76 (r : Rg) (s : (Nat → BitVec 8) × List Int) : (plainM 0x76#8 ⟨r, 0#8⟩).run fnO s = ((4, ⟨{ r with hlt := true }, 0#8⟩), s) := rfl
end Go.Proofs.Joy
namespace Go.Proofs.Joy
open Go.Ab
set_option maxHeartbeats 1000000

/-! Steps, one behind the other -/
/-- So many steps, and their clocks. -/
def stepsE : Nat → Rg → Eff (Rg × Nat)
  | 0, r => .ret (r, 0)
  | j + 1, r => (stepsE j r).bind fun x => (stepE x.1).bind fun y => .ret (y.1, x.2 + y.2)
theorem stepsE_next {σ : Type} {O : Ops σ} {j : Nat} {r x y : Rg} {q p : Nat} {s s1 s2 : σ} (h : (stepsE j r).run O s = ((x, q), s1)) (h1 : (stepE x).run O s1 = ((y, p), s2)) : (stepsE (j + 1) r).run O s = ((y, q + p), s2) :=
  Eff.run_of h (Eff.run_of h1 rfl)
theorem steps_box {j : Nat} {r : Rg} {at_ : BitVec 16} {code : List (BitVec 8)} {fill : BitVec 8} {x : Rg} {q : Nat} {s2 : Bx} (h : (stepsE j r).run bxO (boxS at_ code fill) = ((x, q), s2)) :
    ∃ f l, s2 = ⟨memL f, l⟩ ∧ (stepsE j r).run fnO (codeS at_ code fill code.length, []) = ((x, q), (f, l)) := by
  unfold boxS at h
  rw [run_mem] at h
  refine ⟨((stepsE j r).run fnO (codeS at_ code fill code.length, [])).2.1, ((stepsE j r).run fnO (codeS at_ code fill code.length, [])).2.2, (congrArg Prod.snd h).symm, ?_⟩
  have := congrArg Prod.fst h
  simp only at this
  rw [← this]
/-- What a step over a plain instruction leaves, given what the instruction does. -/
theorem step_of {r : Rg} {f : Nat → BitVec 8} {l : List Int} {op : BitVec 8} (hh : r.hlt = false) (ho : f r.pc.toNat = op) (h1 : (op == 0xDD#8 || op == 0xFD#8) = false) (h2 : (op == 0xED#8) = false) (h3 : (op == 0xCB#8) = false)
    {y : Rg} {p : BitVec 8} {g : Nat → BitVec 8} {q : Nat} (h : ∀ l, ∃ l1, (plainM op ⟨fetchedR r, r.pre⟩).run fnO (f, l) = ((q, ⟨y, p⟩), (g, l1))) : ∃ l1, (stepE r).run fnO (f, l) = ((y, q), (g, l1)) := by
  obtain ⟨l1, e⟩ := step_plain r f l op hh ho h1 h2 h3
  obtain ⟨l2, e2⟩ := h l1
  exact ⟨l2, by rw [e, e2]⟩
/-- A prefix. -/
theorem step_pre {r : Rg} {f : Nat → BitVec 8} {l : List Int} {op : BitVec 8} (hh : r.hlt = false) (ho : f r.pc.toNat = op) (h1 : (op == 0xDD#8 || op == 0xFD#8) = true) : ∃ l1, (stepE r).run fnO (f, l) = (({ fetchedR r with pre := op }, 4), (f, l1)) := by
  obtain ⟨l1, hl⟩ := step_fetch r f l hh
  refine ⟨l1, ?_⟩
  unfold stepE
  rw [if_neg (by rw [hh]; decide), hl]
  dsimp only
  rw [ho, if_pos h1]
  rfl
theorem steps_snoc {j : Nat} {r x y : Rg} {q p : Nat} {s : (Nat → BitVec 8) × List Int} {f g : Nat → BitVec 8} (h : ∃ l, (stepsE j r).run fnO s = ((x, q), (f, l))) (h1 : ∀ l, ∃ l1, (stepE x).run fnO (f, l) = ((y, p), (g, l1))) : ∃ l, (stepsE (j + 1) r).run fnO s = ((y, q + p), (g, l)) := by
  obtain ⟨l, e⟩ := h
  obtain ⟨l1, e1⟩ := h1 l
  exact ⟨l1, stepsE_next e e1⟩
theorem steps_nil (r : Rg) (f : Nat → BitVec 8) (l : List Int) : ∃ l1, (stepsE 0 r).run fnO (f, l) = ((r, 0), (f, l1)) := ⟨l, rfl⟩

/-! What is pushed comes back -/
def backP (k : Nat) : List (BitVec 8) :=
  if k = 0 then [0xC5#8, 0xC1#8] else if k = 1 then [0xE5#8, 0xE1#8] else if k = 2 then [0xF5#8, 0xF1#8] else if k = 3 then [0xD9#8, 0xD9#8] else if k = 4 then [0x08#8, 0x08#8] else if k = 5 then [0xEB#8, 0xEB#8] else if k = 6 then [0xE3#8, 0xE3#8]
  else if k = 7 then [0x3C#8, 0x3D#8] else if k = 8 then [0x03#8, 0x0B#8] else [0xFD#8, 0xE5#8, 0xFD#8, 0xE1#8]
def backR (k : Nat) (r x : Rg) : Rg := { x with pc := r.pc, r := r.r, wz := r.wz, dly := r.dly, f := if k = 7 then r.f else x.f }
theorem code_at {at_ : BitVec 16} {code : List (BitVec 8)} {fill : BitVec 8} (hl : code.length ≤ 20) {j : Nat} (hj : j < code.length) : ∀ m, j < m → m ≤ code.length → codeS at_ code fill m (at_ + BitVec.ofNat 16 j).toNat = code.getD j 0#8
  | 0, h, _ => by omega
  | m + 1, h, h2 => by
    unfold codeS
    by_cases e : j = m
    · subst e; rw [if_pos rfl]
    · rw [if_neg, code_at hl hj m (by omega) (by omega)]
      intro e2
      have e3 := BitVec.eq_of_toNat_eq e2
      have e4 : BitVec.ofNat 16 j = BitVec.ofNat 16 m := by
        have := congrArg (fun x => x - at_) e3
        simpa [BitVec.add_comm at_, BitVec.add_sub_cancel] using this
      have e5 := congrArg BitVec.toNat e4
      simp only [BitVec.toNat_ofNat] at e5
      omega
end Go.Proofs.Joy
namespace Go.Proofs.Joy
open Go.Ab
set_option maxHeartbeats 1000000
theorem fetched_hlt {r : Rg} (h : r.hlt = false) : (fetchedR r).hlt = false := h
theorem fetched_pc (r : Rg) : (fetchedR r).pc = r.pc + 1#16 := rfl
theorem pushF_far {f : Nat → BitVec 8} {sp v : BitVec 16} {i : Nat} (hs : 300 ≤ sp.toNat) (hi : i < 298) : pushF f sp v i = f i := by
  unfold pushF
  have e1 : (sp - 1#16 - 1#16).toNat = sp.toNat - 2 := by have := sp.isLt; simp only [BitVec.toNat_sub, BitVec.toNat_ofNat]; omega
  have e2 : (sp - 1#16).toNat = sp.toNat - 1 := by have := sp.isLt; simp only [BitVec.toNat_sub, BitVec.toNat_ofNat]; omega
  rw [e1, e2, if_neg (by omega), if_neg (by omega)]
theorem sp_back (sp : BitVec 16) : sp - 1#16 - 1#16 + 2#16 = sp := by
  apply BitVec.eq_of_toNat_eq; have := sp.isLt; simp only [BitVec.toNat_sub, BitVec.toNat_add, BitVec.toNat_ofNat]; omega
theorem sp_back1 (sp : BitVec 16) : sp - 1#16 - 1#16 + 1#16 = sp - 1#16 := by
  apply BitVec.eq_of_toNat_eq; have := sp.isLt; simp only [BitVec.toNat_sub, BitVec.toNat_add, BitVec.toNat_ofNat]; omega
theorem pushF_lo (f : Nat → BitVec 8) (sp v : BitVec 16) : pushF f sp v (sp - 1#16 - 1#16).toNat = loS v := by unfold pushF; rw [if_pos rfl]
theorem pushF_hi {f : Nat → BitVec 8} {sp v : BitVec 16} (hs : 300 ≤ sp.toNat) : pushF f sp v (sp - 1#16).toNat = hiS v := by
  unfold pushF
  have e1 : (sp - 1#16 - 1#16).toNat = sp.toNat - 2 := by have := sp.isLt; simp only [BitVec.toNat_sub, BitVec.toNat_ofNat]; omega
  have e2 : (sp - 1#16).toNat = sp.toNat - 1 := by have := sp.isLt; simp only [BitVec.toNat_sub, BitVec.toNat_ofNat]; omega
  rw [if_neg (by omega), if_pos rfl]
theorem setPair_same (r : Rg) (p : Nat) (hp : p = 0 ∨ p = 2 ∨ p = 4) : setPairR r p (joinS (hiS (pairR r p)) (loS (pairR r p))) = r := by
  rw [join_split]
  rcases hp with rfl | rfl | rfl <;> simp [setPairR, pairR, hi_join, lo_join]
theorem pc_next {pc : BitVec 16} (h : pc.toNat ≤ 200) (j : Nat) (hj : j ≤ 4) : (pc + BitVec.ofNat 16 j).toNat = pc.toNat + j := by
  simp only [BitVec.toNat_add, BitVec.toNat_ofNat]; omega
theorem bv_assoc1 (pc : BitVec 16) : pc + 1#16 + 1#16 = pc + 2#16 := by rw [BitVec.add_assoc]; rfl
theorem bv_assoc2 (pc : BitVec 16) : pc + 1#16 + 1#16 + 1#16 = pc + 3#16 := by rw [BitVec.add_assoc, BitVec.add_assoc]; rfl
theorem incdec (v f g : BitVec 8) : (decS (incS v f).1 g).1 = v := by
  have : ∀ v : BitVec 8, (subS (addS v 1#8 false).1 1#8 false).1 = v := by decide +kernel
  exact this v
theorem incdec16 (v : BitVec 16) : v + 1#16 + 1#16 - 2#16 = v := by
  apply BitVec.eq_of_toNat_eq; have := v.isLt; simp only [BitVec.toNat_sub, BitVec.toNat_add, BitVec.toNat_ofNat]; omega
/-- Two steps of plain instructions. -/
theorem two_of {r : Rg} {f : Nat → BitVec 8} {l : List Int} {o1 o2 : BitVec 8} (hh : r.hlt = false) (hp : r.pre = 0#8) (h1 : f r.pc.toNat = o1) (g1 : (o1 == 0xDD#8 || o1 == 0xFD#8) = false ∧ (o1 == 0xED#8) = false ∧ (o1 == 0xCB#8) = false) (g2 : (o2 == 0xDD#8 || o2 == 0xFD#8) = false ∧ (o2 == 0xED#8) = false ∧ (o2 == 0xCB#8) = false)
    {y z : Rg} {p p2 : BitVec 8} {g k : Nat → BitVec 8} {q q2 : Nat} (e1 : ∀ l, ∃ l1, (plainM o1 ⟨fetchedR r, 0#8⟩).run fnO (f, l) = ((q, ⟨y, p⟩), (g, l1))) (hy : y.hlt = false) (py : y.pre = 0#8) (h2 : g y.pc.toNat = o2)
    (e2 : ∀ l, ∃ l1, (plainM o2 ⟨fetchedR y, 0#8⟩).run fnO (g, l) = ((q2, ⟨z, p2⟩), (k, l1))) : ∃ l1, (stepsE 2 r).run fnO (f, l) = ((z, 0 + q + q2), (k, l1)) :=
  steps_snoc (steps_snoc (steps_nil r f l) fun l => step_of hh h1 g1.1 g1.2.1 g1.2.2 (by rw [hp]; exact e1)) fun l => step_of hy h2 g2.1 g2.2.1 g2.2.2 (by rw [py]; exact e2)
theorem backP_len (k : Nat) : (backP k).length ≤ 20 := by
  unfold backP
  repeat (first | decide | split)
theorem back_plain (k : Nat) (hk : k < 10) (r : Rg) (hh : r.hlt = false) (hp : r.pre = 0#8) (hs : 300 ≤ r.sp.toNat) (hs2 : r.sp.toNat ≤ 60000) (hpc : r.pc.toNat ≤ 200) :
    ∃ x q f l, (stepsE (backP k).length r).run fnO (codeS r.pc (backP k) 3#8 (backP k).length, []) = ((x, q), (f, l)) ∧ backR k r x = r := by
  have c0 : (r.pc + BitVec.ofNat 16 0) = r.pc := by simp
  have cd : ∀ j, j < (backP k).length → codeS r.pc (backP k) 3#8 (backP k).length (r.pc + BitVec.ofNat 16 j).toNat = (backP k).getD j 0#8 := fun j hj => code_at (backP_len k) hj _ hj (Nat.le_refl _)
  generalize hf : codeS r.pc (backP k) 3#8 (backP k).length = f0 at cd ⊢
  have hn := pc_next hpc 1 (by omega)
  have hn' : (r.pc + 1#16).toNat = r.pc.toNat + 1 := hn
  rcases (by omega : k = 0 ∨ k = 1 ∨ k = 2 ∨ k = 3 ∨ k = 4 ∨ k = 5 ∨ k = 6 ∨ k = 7 ∨ k = 8 ∨ k = 9) with rfl | rfl | rfl | rfl | rfl | rfl | rfl | rfl | rfl | rfl
  · have a0 := cd 0 (by decide); have a1 := cd 1 (by decide); rw [c0] at a0
    obtain ⟨l, e⟩ := two_of (l := []) hh hp a0 ⟨by decide, by decide, by decide⟩ ⟨by decide, by decide, by decide⟩ (fun l => pl_push 0 _ (by simp [backP]) _ f0 l) hh rfl ((pushF_far hs (by show (r.pc + 1#16).toNat < _; omega)).trans a1) (fun l => pl_pop 0 _ (by simp [backP]) _ _ l)
    refine ⟨_, _, _, l, e, ?_⟩
    simp only [fetchedR, tickR, backR, sp_back, sp_back1, pushF_lo, pushF_hi hs, pairR, setPairR, Nat.reduceEqDiff, if_pos, if_false, hi_join, lo_join]
    rw [← hp]
  · have a0 := cd 0 (by decide); have a1 := cd 1 (by decide); rw [c0] at a0
    obtain ⟨l, e⟩ := two_of (l := []) hh hp a0 ⟨by decide, by decide, by decide⟩ ⟨by decide, by decide, by decide⟩ (fun l => pl_push 2 _ (by simp [backP]) _ f0 l) hh rfl ((pushF_far hs (by show (r.pc + 1#16).toNat < _; omega)).trans a1) (fun l => pl_pop 2 _ (by simp [backP]) _ _ l)
    refine ⟨_, _, _, l, e, ?_⟩
    simp only [fetchedR, tickR, backR, sp_back, sp_back1, pushF_lo, pushF_hi hs, pairR, setPairR, Nat.reduceEqDiff, if_pos, if_false, hi_join, lo_join]
    rw [← hp]
  · have a0 := cd 0 (by decide); have a1 := cd 1 (by decide); rw [c0] at a0
    obtain ⟨l, e⟩ := two_of (l := []) hh hp a0 ⟨by decide, by decide, by decide⟩ ⟨by decide, by decide, by decide⟩ (fun l => pl_push 4 _ (by simp [backP]) _ f0 l) hh rfl ((pushF_far hs (by show (r.pc + 1#16).toNat < _; omega)).trans a1) (fun l => pl_pop 4 _ (by simp [backP]) _ _ l)
    refine ⟨_, _, _, l, e, ?_⟩
    simp only [fetchedR, tickR, backR, sp_back, sp_back1, pushF_lo, pushF_hi hs, pairR, setPairR, Nat.reduceEqDiff, if_pos, if_false, hi_join, lo_join]
    rw [← hp]
  · have a0 := cd 0 (by decide); have a1 := cd 1 (by decide); rw [c0] at a0
    obtain ⟨l, e⟩ := two_of (l := []) hh hp a0 ⟨by decide, by decide, by decide⟩ ⟨by decide, by decide, by decide⟩ (fun l => ⟨_, pl_D9 _ _⟩) hh rfl a1 (fun l => ⟨_, pl_D9 _ _⟩)
    refine ⟨_, _, _, l, e, ?_⟩
    simp only [fetchedR, tickR, backR, swapR]
    simp
    rw [← hp]
  · have a0 := cd 0 (by decide); have a1 := cd 1 (by decide); rw [c0] at a0
    obtain ⟨l, e⟩ := two_of (l := []) hh hp a0 ⟨by decide, by decide, by decide⟩ ⟨by decide, by decide, by decide⟩ (fun l => ⟨_, pl_08 _ _⟩) hh rfl a1 (fun l => ⟨_, pl_08 _ _⟩)
    refine ⟨_, _, _, l, e, ?_⟩
    simp only [fetchedR, tickR, backR, swapR]
    simp
    rw [← hp]
  · have a0 := cd 0 (by decide); have a1 := cd 1 (by decide); rw [c0] at a0
    obtain ⟨l, e⟩ := two_of (l := []) hh hp a0 ⟨by decide, by decide, by decide⟩ ⟨by decide, by decide, by decide⟩ (fun l => ⟨_, pl_EB _ _⟩) hh rfl a1 (fun l => ⟨_, pl_EB _ _⟩)
    refine ⟨_, _, _, l, e, ?_⟩
    simp only [fetchedR, tickR, backR, swapR]
    simp
    rw [← hp]
  · have a0 := cd 0 (by decide); have a1 := cd 1 (by decide); rw [c0] at a0
    have q1 : (r.sp + 1#16).toNat = r.sp.toNat + 1 := by simp only [BitVec.toNat_add, BitVec.toNat_ofNat]; omega
    obtain ⟨l, e⟩ := two_of (l := []) hh hp a0 ⟨by decide, by decide, by decide⟩ ⟨by decide, by decide, by decide⟩ (fun l => pl_E3 _ f0 l) hh rfl (by show (if (r.pc + 1#16).toNat = (r.sp + 1#16).toNat then _ else if (r.pc + 1#16).toNat = r.sp.toNat then _ else _) = _; rw [if_neg (by omega), if_neg (by omega)]; exact a1) (fun l => pl_E3 _ _ l)
    refine ⟨_, _, _, l, e, ?_⟩
    have q2 : ¬ r.sp.toNat = (r.sp + 1#16).toNat := by omega
    simp only [fetchedR, tickR, backR, q2, if_false, if_true, hi_join, lo_join]
    simp
    rw [← hp]
  · have a0 := cd 0 (by decide); have a1 := cd 1 (by decide); rw [c0] at a0
    obtain ⟨l, e⟩ := two_of (l := []) hh hp a0 ⟨by decide, by decide, by decide⟩ ⟨by decide, by decide, by decide⟩ (fun l => ⟨_, pl_3C _ _⟩) hh rfl a1 (fun l => ⟨_, pl_3D _ _⟩)
    refine ⟨_, _, _, l, e, ?_⟩
    simp only [fetchedR, tickR, backR, incdec]
    simp
    rw [← hp]
  · have a0 := cd 0 (by decide); have a1 := cd 1 (by decide); rw [c0] at a0
    obtain ⟨l, e⟩ := two_of (l := []) hh hp a0 ⟨by decide, by decide, by decide⟩ ⟨by decide, by decide, by decide⟩ (fun l => ⟨_, pl_03 _ _⟩) hh rfl a1 (fun l => ⟨_, pl_0B _ _⟩)
    refine ⟨_, _, _, l, e, ?_⟩
    simp only [fetchedR, tickR, backR, pairR, setPairR, if_pos, join_split, incdec16, hi_join, lo_join]
    simp
    rw [← hp]
  · have a0 := cd 0 (by decide); have a1 := cd 1 (by decide); have a2 := cd 2 (by decide); have a3 := cd 3 (by decide); rw [c0] at a0
    have m2 := pc_next hpc 2 (by omega)
    have m3 := pc_next hpc 3 (by omega)
    have b2 : (r.pc + 1#16 + 1#16).toNat = r.pc.toNat + 2 := by rw [bv_assoc1]; exact m2
    have b3 : (r.pc + 1#16 + 1#16 + 1#16).toNat = r.pc.toNat + 3 := by rw [bv_assoc2]; exact m3
    have s1 := fun l => step_pre (l := l) hh a0 (by decide)
    generalize h1 : ({ fetchedR r with pre := (backP 9).getD 0 0#8 } : Rg) = r1 at s1
    have p1 : r1.pc = r.pc + 1#16 := by rw [← h1]; rfl
    have k1 : r1.hlt = false := by have := congrArg Rg.hlt h1; simp only [fetchedR, tickR] at this; rw [← this]; exact hh
    have u1 : (fetchedR r1).sp = r.sp := by have := congrArg Rg.sp h1; simp only [fetchedR, tickR] at this ⊢; exact this.symm
    have s2 := fun l => step_of (l := l) (r := r1) (op := 0xE5#8) k1 (by rw [p1]; exact a1) (by decide) (by decide) (by decide) (fun l => by rw [show r1.pre = 0xFD#8 by rw [← h1]; rfl]; exact pl_pushy _ f0 l)
    generalize h2 : ({ fetchedR r1 with sp := (fetchedR r1).sp - 1#16 - 1#16 } : Rg) = r2 at s2
    have p2 : r2.pc = r.pc + 1#16 + 1#16 := by have := congrArg Rg.pc h2; simp only [fetchedR, tickR] at this; rw [← this, p1]
    have k2 : r2.hlt = false := by have := congrArg Rg.hlt h2; simp only [fetchedR, tickR] at this; rw [← this]; exact k1
    have s3 := fun l => step_pre (l := l) (r := r2) (f := pushF f0 (fetchedR r1).sp (fetchedR r1).iy) (op := 0xFD#8) k2 (by rw [pushF_far (by rw [u1]; exact hs) (by rw [p2]; omega), p2, bv_assoc1]; exact a2) (by decide)
    generalize h3 : ({ fetchedR r2 with pre := 0xFD#8 } : Rg) = r3 at s3
    have p3 : r3.pc = r.pc + 1#16 + 1#16 + 1#16 := by have := congrArg Rg.pc h3; simp only [fetchedR, tickR] at this; rw [← this, p2]
    have k3 : r3.hlt = false := by have := congrArg Rg.hlt h3; simp only [fetchedR, tickR] at this; rw [← this]; exact k2
    have s4 := fun l => step_of (l := l) (r := r3) (f := pushF f0 (fetchedR r1).sp (fetchedR r1).iy) (op := 0xE1#8) k3 (by rw [pushF_far (by rw [u1]; exact hs) (by rw [p3]; omega), p3, bv_assoc2]; exact a3) (by decide) (by decide) (by decide) (fun l => by rw [show r3.pre = 0xFD#8 by rw [← h3]]; exact pl_popy _ (pushF f0 (fetchedR r1).sp (fetchedR r1).iy) l)
    obtain ⟨l, e⟩ := steps_snoc (steps_snoc (steps_snoc (steps_snoc (steps_nil r f0 []) s1) s2) s3) s4
    refine ⟨_, _, _, l, e, ?_⟩
    subst h3 h2 h1
    simp only [fetchedR, tickR, backR, sp_back, sp_back1, pushF_lo, pushF_hi hs, join_split]
    simp
    rw [← hp]
end Go.Proofs.Joy
namespace Go.Proofs.Joy
open Go.Ab
set_option maxHeartbeats 1000000
/-! A call goes there and comes back -/
def callF (pc to : BitVec 16) : Nat → BitVec 8 := fun i => if i = to.toNat then 0xC9#8 else codeS pc [0xCD#8, loS to, hiS to] 0#8 3 i
theorem calls_plain (to : BitVec 16) (r : Rg) (h1 : 100 ≤ to.toNat) (h2 : to.toNat ≤ 0x7000) (hh : r.hlt = false) (hp : r.pre = 0#8) (hs : 0x8010 ≤ r.sp.toNat) (hpc : r.pc.toNat ≤ 50) (l : List Int) :
    ∃ a b : Rg, ∃ f1 f2, (∃ l1, (stepE r).run fnO (callF r.pc to, l) = ((a, 17), (f1, l1))) ∧ (∀ l1, ∃ l2, (stepE a).run fnO (f1, l1) = ((b, 10), (f2, l2))) ∧ a.pc = to ∧ a.sp = r.sp - 2#16 ∧ b.pc = r.pc + 3#16 ∧ b.wz = r.pc + 3#16 ∧ ({ b with pc := r.pc, r := r.r, wz := r.wz, dly := r.dly } : Rg) = r := by
  have c0 : (r.pc + BitVec.ofNat 16 0) = r.pc := by simp
  have m0 := pc_next (by omega : r.pc.toNat ≤ 200) 0 (by omega)
  have m1 := pc_next (by omega : r.pc.toNat ≤ 200) 1 (by omega)
  have m2 := pc_next (by omega : r.pc.toNat ≤ 200) 2 (by omega)
  have cd : ∀ j, j < 3 → callF r.pc to (r.pc + BitVec.ofNat 16 j).toNat = [0xCD#8, loS to, hiS to].getD j 0#8 := fun j hj => by
    unfold callF
    rw [if_neg (by have := pc_next (by omega : r.pc.toNat ≤ 200) j (by omega); omega)]
    exact code_at (by simp) hj 3 hj (Nat.le_refl _)
  have a0 : callF r.pc to (r.pc + BitVec.ofNat 16 0).toNat = 0xCD#8 := cd 0 (by decide)
  have a1 := cd 1 (by decide); have a2 := cd 2 (by decide); rw [c0] at a0
  have hto : callF r.pc to to.toNat = 0xC9#8 := by unfold callF; rw [if_pos rfl]
  generalize callF r.pc to = f0 at a0 a1 a2 hto ⊢
  have a1' : f0 (r.pc + 1#16).toNat = loS to := a1
  have a2' : f0 (r.pc + 1#16 + 1#16).toNat = hiS to := by rw [bv_assoc1]; exact a2
  have q1 : (r.sp - 1#16 - 1#16).toNat = r.sp.toNat - 2 := by have := r.sp.isLt; simp only [BitVec.toNat_sub, BitVec.toNat_ofNat]; omega
  have q2 : (r.sp - 1#16).toNat = r.sp.toNat - 1 := by have := r.sp.isLt; simp only [BitVec.toNat_sub, BitVec.toNat_ofNat]; omega
  have s1 := fun l => step_of (l := l) hh a0 (by decide) (by decide) (by decide) (fun l => by rw [hp]; exact pl_CD (fetchedR r) f0 l)
  have e1 : joinS (f0 ((fetchedR r).pc + 1#16).toNat) (f0 (fetchedR r).pc.toNat) = to := by rw [fetched_pc, a1', a2', join_split]
  rw [e1, fetched_pc] at s1
  generalize ha : ({ fetchedR r with sp := (fetchedR r).sp - 1#16 - 1#16, pc := to, wz := to } : Rg) = a at s1
  have pa : a.pc = to := by rw [← ha]
  have ka : a.hlt = false := by have := congrArg Rg.hlt ha; simp only [fetchedR, tickR] at this; rw [← this]; exact hh
  have ra : a.pre = 0#8 := by have := congrArg Rg.pre ha; simp only [fetchedR, tickR] at this; exact this.symm
  have sa : a.sp = r.sp - 1#16 - 1#16 := by have := congrArg Rg.sp ha; simp only [fetchedR, tickR] at this; exact this.symm
  have ef : (fetchedR r).sp = r.sp := by simp only [fetchedR, tickR]
  rw [ef, bv_assoc2] at s1
  have s2 := fun l => step_of (l := l) (r := a) (f := pushF f0 r.sp (r.pc + 3#16)) (op := 0xC9#8) ka (by unfold pushF; rw [pa, if_neg (by omega), if_neg (by omega)]; exact hto) (by decide) (by decide) (by decide) (fun l => by rw [ra]; exact pl_C9 (fetchedR a) (pushF f0 r.sp (r.pc + 3#16)) l)
  have eg : (fetchedR a).sp = r.sp - 1#16 - 1#16 := by simp only [fetchedR, tickR]; exact sa
  rw [eg, sp_back, sp_back1, pushF_lo, pushF_hi (by omega), join_split] at s2
  refine ⟨a, _, _, _, s1 l, s2, pa, by rw [sa]; rw [BitVec.sub_sub]; rfl, rfl, rfl, ?_⟩
  subst ha
  simp only [fetchedR, tickR]
  rw [← hp]
end Go.Proofs.Joy
namespace Go.Proofs.Joy
open Go.Ab
set_option maxHeartbeats 1000000
/-! A loop that counts -/
theorem pl_10t (r : Rg) (f : Nat → BitVec 8) (l : List Int) (hb : r.b - 1#8 ≠ 0#8) : ∃ l1, (plainM 0x10#8 ⟨r, 0#8⟩).run fnO (f, l) = ((13, ⟨{ r with b := r.b - 1#8, pc := moveS (r.pc + 1#16) (f r.pc.toNat), wz := moveS (r.pc + 1#16) (f r.pc.toNat) }, 0#8⟩), (f, l1)) := by
  have e : (r.b - 1#8 != 0#8) = true := by simpa using hb
  refine ⟨l ++ [(r.pc.toNat : Int)], ?_⟩
  show (jumpM 0x10#8 ⟨r, 0#8⟩).run fnO (f, l) = _
  unfold jumpM
  simp only [show yO 0x10#8 = 2 by rfl, if_true, Nat.reduceEqDiff, if_false, nextM, rdE, Eff.bind, e, Eff.run, Bool.true_eq_false]
  rfl
theorem pl_10f (r : Rg) (f : Nat → BitVec 8) (l : List Int) (hb : r.b - 1#8 = 0#8) : ∃ l1, (plainM 0x10#8 ⟨r, 0#8⟩).run fnO (f, l) = ((8, ⟨{ r with b := 0#8, pc := r.pc + 1#16 }, 0#8⟩), (f, l1)) := by
  have e : (r.b - 1#8 != 0#8) = false := by simpa using hb
  refine ⟨l ++ [(r.pc.toNat : Int)], ?_⟩
  show (jumpM 0x10#8 ⟨r, 0#8⟩).run fnO (f, l) = _
  unfold jumpM
  simp only [show yO 0x10#8 = 2 by rfl, if_true, Nat.reduceEqDiff, if_false, nextM, rdE, Eff.bind, e, Eff.run, hb]
  rfl
def countF : Nat → BitVec 8 := codeS 0#16 [0x3C#8, 0x10#8, 0xFD#8, 0x76#8] 0#8 4
theorem count_code : countF 0 = 0x3C#8 ∧ countF 1 = 0x10#8 ∧ countF 2 = 0xFD#8 ∧ countF 3 = 0x76#8 := by decide +kernel
def rounds (n : BitVec 8) : Nat := if n = 0#8 then 256 else n.toNat
theorem rounds_ge (n : BitVec 8) : 1 ≤ rounds n ∧ rounds n ≤ 256 := by
  unfold rounds
  by_cases h : n = 0#8
  · rw [if_pos h]; omega
  · rw [if_neg h]
    have := n.isLt
    have h2 : n.toNat ≠ 0 := fun e => h (BitVec.eq_of_toNat_eq (by simpa using e))
    omega
theorem rounds_b (n : BitVec 8) {m : Nat} (h : m < rounds n) : n - BitVec.ofNat 8 m - 1#8 = 0#8 ↔ m + 1 = rounds n := by
  have h1 := n.isLt
  unfold rounds at h ⊢
  constructor
  · intro e
    have e2 := congrArg BitVec.toNat e
    simp only [BitVec.toNat_sub, BitVec.toNat_ofNat] at e2
    by_cases h0 : n = 0#8
    · rw [if_pos h0] at h ⊢; subst h0; simp at e2; omega
    · rw [if_neg h0] at h ⊢; omega
  · intro e
    apply BitVec.eq_of_toNat_eq
    simp only [BitVec.toNat_sub, BitVec.toNat_ofNat]
    by_cases h0 : n = 0#8
    · rw [if_pos h0] at h e; subst h0; simp; omega
    · rw [if_neg h0] at h e; omega
structure CountAt (n a : BitVec 8) (j : Nat) (x : Rg) (q : Nat) : Prop where
  hlt : x.hlt = decide (j = 2 * rounds n + 1)
  pre : x.pre = 0#8
  acc : x.a = a + BitVec.ofNat 8 (min ((j + 1) / 2) (rounds n))
  b : x.b = n - BitVec.ofNat 8 (min (j / 2) (rounds n))
  pc : x.pc = if j = 2 * rounds n + 1 then 4#16 else if j = 2 * rounds n then 3#16 else if j % 2 = 0 then 0#16 else 1#16
  q : q = if j = 2 * rounds n + 1 then 17 * rounds n - 1 else if j = 2 * rounds n then 17 * rounds n - 5 else if j % 2 = 0 then 17 * (j / 2) else 17 * (j / 2) + 4
theorem ofNat_succ8 (k : Nat) : BitVec.ofNat 8 (k + 1) = BitVec.ofNat 8 k + 1#8 := by
  apply BitVec.eq_of_toNat_eq; simp [BitVec.toNat_add]
theorem counts_plain (n a : BitVec 8) : ∀ j, j ≤ 2 * rounds n + 1 → ∃ x q, (∃ l, (stepsE j { rg0 with b := n, a := a }).run fnO (countF, []) = ((x, q), (countF, l))) ∧ CountAt n a j x q
  | 0, _ => by
    have := rounds_ge n
    refine ⟨_, _, steps_nil _ _ _, ⟨?_, rfl, ?_, ?_, ?_, ?_⟩⟩
    · rw [decide_eq_false (by omega)]; rfl
    · simp
    · simp
    · rw [if_neg (by omega), if_neg (by omega)]; rfl
    · rw [if_neg (by omega), if_neg (by omega)]; rfl
  | j + 1, hj => by
    obtain ⟨x, q, e, C⟩ := counts_plain n a j (by omega)
    obtain ⟨c0, c1, c2, c3⟩ := count_code
    have hr := rounds_ge n
    have hh : x.hlt = false := by rw [C.hlt]; exact decide_eq_false (by omega)
    by_cases h1 : j = 2 * rounds n
    · have hpc : x.pc = 3#16 := by rw [C.pc, if_neg (by omega), if_pos h1]
      refine ⟨_, _, steps_snoc e fun l => step_of (op := 0x76#8) hh (by rw [hpc]; exact c3) (by decide) (by decide) (by decide) (fun l => by rw [C.pre]; exact ⟨_, pl_76 _ _⟩), ⟨?_, rfl, ?_, ?_, ?_, ?_⟩⟩
      · rw [decide_eq_true (by omega)]
      · show x.a = _
        rw [C.acc, show min ((j + 1 + 1) / 2) (rounds n) = min ((j + 1) / 2) (rounds n) by omega]
      · show x.b = _
        rw [C.b, show min ((j + 1) / 2) (rounds n) = min (j / 2) (rounds n) by omega]
      · rw [if_pos (by omega)]
        show x.pc + 1#16 = _
        rw [hpc]; rfl
      · rw [if_pos (by omega)]
        have := C.q
        rw [if_neg (by omega), if_pos h1] at this
        omega
    · by_cases h2 : j % 2 = 0
      · have hpc : x.pc = 0#16 := by rw [C.pc, if_neg (by omega), if_neg h1, if_pos h2]
        refine ⟨_, _, steps_snoc e fun l => step_of (op := 0x3C#8) hh (by rw [hpc]; exact c0) (by decide) (by decide) (by decide) (fun l => by rw [C.pre]; exact ⟨_, pl_3C _ _⟩), ⟨?_, rfl, ?_, ?_, ?_, ?_⟩⟩
        · rw [decide_eq_false (by omega)]; exact hh
        · show (incS x.a (fetchedR x).f).1 = _
          have : ∀ v : BitVec 8, (addS v 1#8 false).1 = v + 1#8 := by decide +kernel
          show (addS x.a 1#8 false).1 = _
          rw [this, C.acc, show min ((j + 1 + 1) / 2) (rounds n) = min ((j + 1) / 2) (rounds n) + 1 by omega, BitVec.add_assoc, ← ofNat_succ8]
        · show x.b = _
          rw [C.b, show min ((j + 1) / 2) (rounds n) = min (j / 2) (rounds n) by omega]
        · rw [if_neg (by omega), if_neg (by omega), if_neg (by omega)]
          show x.pc + 1#16 = _
          rw [hpc]; rfl
        · have := C.q
          rw [if_neg (by omega), if_neg h1, if_pos h2] at this
          rw [if_neg (by omega), if_neg (by omega), if_neg (by omega)]
          omega
      · have hpc : x.pc = 1#16 := by rw [C.pc, if_neg (by omega), if_neg h1, if_neg h2]
        have hm : j / 2 < rounds n := by omega
        have hb : x.b = n - BitVec.ofNat 8 (j / 2) := by rw [C.b, show min (j / 2) (rounds n) = j / 2 by omega]
        have hq := C.q
        rw [if_neg (by omega), if_neg h1, if_neg h2] at hq
        have hsub : n - BitVec.ofNat 8 (j / 2) - 1#8 = n - BitVec.ofNat 8 (j / 2 + 1) := by rw [BitVec.sub_sub, ← ofNat_succ8]
        by_cases h3 : j / 2 + 1 = rounds n
        · have hz : (fetchedR x).b - 1#8 = 0#8 := by show x.b - 1#8 = _; rw [hb]; exact (rounds_b n hm).2 h3
          refine ⟨_, _, steps_snoc e fun l => step_of (op := 0x10#8) hh (by rw [hpc]; exact c1) (by decide) (by decide) (by decide) (fun l => by rw [C.pre]; exact pl_10f _ _ _ hz), ⟨?_, rfl, ?_, ?_, ?_, ?_⟩⟩
          · rw [decide_eq_false (by omega)]; exact hh
          · show x.a = _
            rw [C.acc, show min ((j + 1 + 1) / 2) (rounds n) = min ((j + 1) / 2) (rounds n) by omega]
          · show 0#8 = _
            rw [← hz]
            show x.b - 1#8 = _
            rw [hb, hsub, show min ((j + 1) / 2) (rounds n) = j / 2 + 1 by omega]
          · rw [if_neg (by omega), if_pos (by omega)]
            show x.pc + 1#16 + 1#16 = _
            rw [hpc]; rfl
          · rw [if_neg (by omega), if_pos (by omega)]
            omega
        · have hz : (fetchedR x).b - 1#8 ≠ 0#8 := by show x.b - 1#8 ≠ _; rw [hb]; exact fun e => h3 ((rounds_b n hm).1 e)
          refine ⟨_, _, steps_snoc e fun l => step_of (op := 0x10#8) hh (by rw [hpc]; exact c1) (by decide) (by decide) (by decide) (fun l => by rw [C.pre]; exact pl_10t _ _ _ hz), ⟨?_, rfl, ?_, ?_, ?_, ?_⟩⟩
          · rw [decide_eq_false (by omega)]; exact hh
          · show x.a = _
            rw [C.acc, show min ((j + 1 + 1) / 2) (rounds n) = min ((j + 1) / 2) (rounds n) by omega]
          · show x.b - 1#8 = _
            rw [hb, hsub, show min ((j + 1) / 2) (rounds n) = j / 2 + 1 by omega]
          · rw [if_neg (by omega), if_neg (by omega), if_pos (by omega)]
            show moveS (x.pc + 1#16 + 1#16) (countF (x.pc + 1#16).toNat) = _
            rw [hpc]
            show moveS _ (countF 2) = _
            rw [c2]; rfl
          · rw [if_neg (by omega), if_neg (by omega), if_pos (by omega)]
            omega
end Go.Proofs.Joy
namespace Go.Proofs.Joy
open Go.Ab
set_option maxHeartbeats 1000000
/-! However many prefixes -/
def prefB (i : Nat) : BitVec 8 := if i % 3 = 1 then 0xFD#8 else 0xDD#8
def lastB (last : Bool) : BitVec 8 := if last then 0xFD#8 else 0xDD#8
def prefC (many : Nat) (last : Bool) (v : BitVec 8) : List (BitVec 8) := (List.range (many + 2)).map fun i => if i = many + 1 then v else if i = many then 0x2E#8 else if i + 1 = many then lastB last else prefB i
theorem prefC_len (many : Nat) (last : Bool) (v : BitVec 8) : (prefC many last v).length = many + 2 := by simp [prefC]
theorem prefC_get (many : Nat) (last : Bool) (v : BitVec 8) {i : Nat} (h : i < many + 2) : (prefC many last v).getD i 0#8 = if i = many + 1 then v else if i = many then 0x2E#8 else if i + 1 = many then lastB last else prefB i := by
  unfold prefC
  rw [List.getD_eq_getElem?_getD, List.getElem?_map, List.getElem?_range h]; rfl
theorem code_at' {at_ : BitVec 16} {code : List (BitVec 8)} {fill : BitVec 8} (hl : code.length ≤ 1000) {j : Nat} (hj : j < code.length) : ∀ m, j < m → m ≤ code.length → codeS at_ code fill m (at_ + BitVec.ofNat 16 j).toNat = code.getD j 0#8
  | 0, h, _ => by omega
  | m + 1, h, h2 => by
    unfold codeS
    by_cases e : j = m
    · subst e; rw [if_pos rfl]
    · rw [if_neg, code_at' hl hj m (by omega) (by omega)]
      intro e2
      have e3 := BitVec.eq_of_toNat_eq e2
      have e4 : BitVec.ofNat 16 j = BitVec.ofNat 16 m := by
        have := congrArg (fun x => x - at_) e3
        simpa [BitVec.add_comm at_, BitVec.add_sub_cancel] using this
      have e5 := congrArg BitVec.toNat e4
      simp only [BitVec.toNat_ofNat] at e5
      omega
def prefF (many : Nat) (last : Bool) (v : BitVec 8) : Nat → BitVec 8 := codeS 0#16 (prefC many last v) 0#8 (prefC many last v).length
theorem prefF_at {many : Nat} (last : Bool) (v : BitVec 8) (hm : many ≤ 100) {i : Nat} (h : i < many + 2) : prefF many last v i = if i = many + 1 then v else if i = many then 0x2E#8 else if i + 1 = many then lastB last else prefB i := by
  have := code_at' (at_ := 0#16) (fill := 0#8) (by rw [prefC_len]; omega) (j := i) (by rw [prefC_len]; exact h) _ (by rw [prefC_len]; exact h) (Nat.le_refl (prefC many last v).length)
  rw [BitVec.zero_add, BitVec.toNat_ofNat, Nat.mod_eq_of_lt (by omega), prefC_get _ _ _ h] at this
  exact this
theorem pref_or (b : BitVec 8) (h : b = 0xDD#8 ∨ b = 0xFD#8) : (b == 0xDD#8 || b == 0xFD#8) = true := by rcases h with rfl | rfl <;> rfl
theorem prefB_or (i : Nat) : prefB i = 0xDD#8 ∨ prefB i = 0xFD#8 := by unfold prefB; split <;> simp
theorem lastB_or (b : Bool) : lastB b = 0xDD#8 ∨ lastB b = 0xFD#8 := by cases b <;> simp [lastB]
/-- Behind j prefixes. -/
structure PrefAt (many : Nat) (last : Bool) (j : Nat) (x : Rg) : Prop where
  hlt : x.hlt = false
  pc : x.pc = BitVec.ofNat 16 j
  pre : j = 0 ∨ x.pre = 0xDD#8 ∨ x.pre = 0xFD#8
  lst : j = many → x.pre = lastB last
  ix : x.ix = 0x1111#16
  iy : x.iy = 0x2222#16
theorem pref_zero (many : Nat) (last : Bool) (hm : 1 ≤ many) : PrefAt many last 0 { rg0 with iff1 := true, ix := 0x1111#16, iy := 0x2222#16 } := ⟨rfl, rfl, .inl rfl, fun h => absurd h (by omega), rfl, rfl⟩
theorem ofNat_succ16 (k : Nat) : BitVec.ofNat 16 (k + 1) = BitVec.ofNat 16 k + 1#16 := by
  apply BitVec.eq_of_toNat_eq; simp [BitVec.toNat_add]
theorem pref_step {many : Nat} {last : Bool} (v : BitVec 8) (hm : many ≤ 100) {j : Nat} (hj : j < many) {x : Rg} (h : PrefAt many last j x) : ∃ y, PrefAt many last (j + 1) y ∧ ∀ l, ∃ l1, (stepE x).run fnO (prefF many last v, l) = ((y, 4), (prefF many last v, l1)) := by
  have hp : prefF many last v x.pc.toNat = if j + 1 = many then lastB last else prefB j := by
    rw [h.pc, BitVec.toNat_ofNat, Nat.mod_eq_of_lt (by omega), prefF_at last v hm (by omega), if_neg (by omega), if_neg (by omega)]
  have ho : (if j + 1 = many then lastB last else prefB j) = 0xDD#8 ∨ (if j + 1 = many then lastB last else prefB j) = 0xFD#8 := by
    split
    · exact lastB_or _
    · exact prefB_or _
  refine ⟨_, ?_, fun l => step_pre h.hlt hp (pref_or _ ho)⟩
  refine ⟨h.hlt, ?_, .inr ho, fun e => if_pos e, h.ix, h.iy⟩
  show x.pc + 1#16 = _
  rw [h.pc, ← ofNat_succ16]
theorem pl_2E (pr : BitVec 8) (hp : pr = 0xDD#8 ∨ pr = 0xFD#8) (r : Rg) (f : Nat → BitVec 8) (l : List Int) : ∃ l1, (plainM 0x2E#8 ⟨r, pr⟩).run fnO (f, l) = ((7, ⟨setPairR { r with pc := r.pc + 1#16 } (idxS pr) (joinS (hiS (pairR r (idxS pr))) (f r.pc.toNat)), pr⟩), (f, l1)) := by
  rcases hp with rfl | rfl <;> exact ⟨_, rfl⟩
theorem pref_last {many : Nat} {last : Bool} (v : BitVec 8) (hm : many ≤ 100) {x : Rg} (h : PrefAt many last many x) : ∃ y : Rg, (∀ l, ∃ l1, (stepE x).run fnO (prefF many last v, l) = ((y, 7), (prefF many last v, l1))) ∧ y.pc = BitVec.ofNat 16 (many + 2) ∧
    y.ix = (if last then 0x1111#16 else 0x1100#16 + v.setWidth 16) ∧ y.iy = (if last then 0x2200#16 + v.setWidth 16 else 0x2222#16) := by
  have hl : x.pre = lastB last := h.lst rfl
  have h0 : prefF many last v x.pc.toNat = 0x2E#8 := by
    rw [h.pc, BitVec.toNat_ofNat, Nat.mod_eq_of_lt (by omega), prefF_at last v hm (by omega), if_neg (by omega), if_pos rfl]
  have h1 : prefF many last v (fetchedR x).pc.toNat = v := by
    show prefF many last v (x.pc + 1#16).toNat = v
    rw [h.pc, ← ofNat_succ16, BitVec.toNat_ofNat, Nat.mod_eq_of_lt (by omega), prefF_at last v hm (by omega), if_pos rfl]
  have hi : ∀ v : BitVec 8, joinS (hiS 0x1111#16) v = 0x1100#16 + v.setWidth 16 ∧ joinS (hiS 0x2222#16) v = 0x2200#16 + v.setWidth 16 := by decide +kernel
  refine ⟨_, fun l => step_of h.hlt h0 (by decide) (by decide) (by decide) (fun l => by rw [hl]; exact pl_2E _ (lastB_or last) _ _ l), ?_⟩
  rw [h1]
  have e2 : (fetchedR x).pc + 1#16 = BitVec.ofNat 16 (many + 2) := by
    show x.pc + 1#16 + 1#16 = _
    rw [h.pc, ← ofNat_succ16, ← ofNat_succ16]
  have ex : (fetchedR x).ix = 0x1111#16 := h.ix
  have ey : (fetchedR x).iy = 0x2222#16 := h.iy
  cases last
  · refine ⟨e2, ?_, ey⟩
    show joinS (hiS (fetchedR x).ix) v = _
    rw [ex]; exact (hi v).1
  · refine ⟨e2, ex, ?_⟩
    show joinS (hiS (fetchedR x).iy) v = _
    rw [ey]; exact (hi v).2
/-- Nothing comes between behind a prefix. -/
theorem inter_pre {x : Rg} (h : x.pre ≠ 0#8) (pause line : Bool) : interE x pause line = .ret (x, 0) := by
  unfold interE
  rw [if_pos (by simpa using h)]
end Go.Proofs.Joy
namespace Go.Proofs.Joy
open Go.Ab
set_option maxHeartbeats 1000000
/-! A block that is brought -/
def fetched2R (r : Rg) : Rg := { tickR (fetchedR r) with pc := r.pc + 1#16 + 1#16 }
theorem step_ed {r : Rg} {f : Nat → BitVec 8} {l : List Int} {op : BitVec 8} (hh : r.hlt = false) (ho : f r.pc.toNat = 0xED#8) (h2 : f (r.pc + 1#16).toNat = op)
    {y : Rg} {p : BitVec 8} {g : Nat → BitVec 8} {q : Nat} (h : ∀ l, ∃ l1, (extendedM op ⟨fetched2R r, 0#8⟩).run fnO (f, l) = ((q, ⟨y, p⟩), (g, l1))) : ∃ l1, (stepE r).run fnO (f, l) = ((y, q), (g, l1)) := by
  obtain ⟨l1, hl⟩ := step_fetch r f l hh
  obtain ⟨l2, e2⟩ := h (l1 ++ [((r.pc + 1#16).toNat : Int)])
  refine ⟨l2, ?_⟩
  unfold stepE
  rw [if_neg (by rw [hh]; decide), hl]
  dsimp only
  rw [ho, if_neg (by decide), if_pos (by decide)]
  show ((extendedM (f (r.pc + 1#16).toNat) ⟨fetched2R r, 0#8⟩).bind _).run fnO (f, l1 ++ [((r.pc + 1#16).toNat : Int)]) = _
  rw [h2, Eff.run_bind, e2]
  rfl
def bringR (r : Rg) (v : BitVec 8) : Rg :=
  { r with d := hiS (joinS r.d r.e + 1#16), e := loS (joinS r.d r.e + 1#16), b := hiS (joinS r.b r.c - 1#16), c := loS (joinS r.b r.c - 1#16), f := repLoad r.a v r.f (joinS r.b r.c - 1#16), h := hiS (joinS r.h r.l + 1#16), l := loS (joinS r.h r.l + 1#16) }
theorem pl_B0 (r : Rg) (f : Nat → BitVec 8) (l : List Int) : ∃ l1, (extendedM 0xB0#8 ⟨r, 0#8⟩).run fnO (f, l) =
    ((if joinS r.b r.c = 1#16 then 16 else 21, ⟨if joinS r.b r.c = 1#16 then bringR r (f (joinS r.h r.l).toNat) else { bringR r (f (joinS r.h r.l).toNat) with pc := r.pc - 2#16, wz := r.pc - 2#16 + 1#16 }, 0#8⟩),
     (fun i => if i = (joinS r.d r.e).toNat then f (joinS r.h r.l).toNat else f i, l1)) := by
  refine ⟨(bxO.wr ⟨[], l ++ [((joinS r.h r.l).toNat : Int)]⟩ (joinS r.d r.e) (f (joinS r.h r.l).toNat)).log, ?_⟩
  show (manyM 0xB0#8 ⟨r, 0#8⟩).run fnO (f, l) = _
  by_cases hb : joinS r.b r.c = 1#16
  · have e : (joinS r.b r.c != 1#16) = false := by simpa using hb
    rw [if_pos hb, if_pos hb]
    unfold manyM
    simp only [show yO 0xB0#8 = 6 by rfl, show zO 0xB0#8 = 0 by rfl, if_true, rdE, wrE, Eff.bind, Core.pair, whichS, pairR, Core.setPair, setPairR, Nat.reduceEqDiff, if_false, Nat.reduceMod, show idxS 0#8 = 2 by rfl, e, or_true, Eff.run, Core.setF, Nat.reduceLT]
    rfl
  · have e : (joinS r.b r.c != 1#16) = true := by simpa using hb
    rw [if_neg hb, if_neg hb]
    unfold manyM
    simp only [show yO 0xB0#8 = 6 by rfl, show zO 0xB0#8 = 0 by rfl, if_true, rdE, wrE, Eff.bind, Core.pair, whichS, pairR, Core.setPair, setPairR, Nat.reduceEqDiff, if_false, Nat.reduceMod, show idxS 0#8 = 2 by rfl, e, or_false, Eff.run, Core.setF, Core.wz, Nat.reduceLT, Bool.true_eq_false]
    rfl
def copy0 : Nat → BitVec 8 := codeS 0#16 [0xED#8, 0xB0#8] 7#8 2
theorem copy_code : copy0 0 = 0xED#8 ∧ copy0 1 = 0xB0#8 := by decide +kernel
def copyF (from_ to j : Nat) : Nat → BitVec 8 := fun i => if to ≤ i ∧ i < to + j then copy0 (from_ + (i - to)) else copy0 i
structure CopyAt (from_ to many j : Nat) (x : Rg) : Prop where
  hlt : x.hlt = false
  hl : joinS x.h x.l = BitVec.ofNat 16 (from_ + j)
  h : x.h = hiS (BitVec.ofNat 16 (from_ + j))
  l : x.l = loS (BitVec.ofNat 16 (from_ + j))
  de : joinS x.d x.e = BitVec.ofNat 16 (to + j)
  bc : joinS x.b x.c = BitVec.ofNat 16 (many - j)
  b : x.b = hiS (BitVec.ofNat 16 (many - j))
  c : x.c = loS (BitVec.ofNat 16 (many - j))
  pc : x.pc = if j = many then 2#16 else 0#16
theorem copy_zero (from_ to : BitVec 16) (many : Nat) (hm : 1 ≤ many) (hm2 : many ≤ 300) : CopyAt from_.toNat to.toNat many 0 { rg0 with h := hiS from_, l := loS from_, d := hiS to, e := loS to, b := hiS (BitVec.ofNat 16 many), c := loS (BitVec.ofNat 16 many) } :=
  ⟨rfl, by simp only [join_split, Nat.add_zero, BitVec.ofNat_toNat, BitVec.setWidth_eq], by simp, by simp, by simp only [join_split, Nat.add_zero, BitVec.ofNat_toNat, BitVec.setWidth_eq], by simp only [join_split, Nat.sub_zero], rfl, rfl, by rw [if_neg (by omega)]; rfl⟩
theorem copy_step {from_ to many : Nat} (h1 : 0x1000 ≤ from_) (h2 : from_ ≤ 0x4000) (h3 : 0x5000 ≤ to) (h4 : to ≤ 0xF000) (hm : many ≤ 300) {j : Nat} (hj : j < many) {x : Rg} (h : CopyAt from_ to many j x) :
    ∃ y, CopyAt from_ to many (j + 1) y ∧ ∀ l, ∃ l1, (stepE x).run fnO (copyF from_ to j, l) = ((y, if j + 1 = many then 16 else 21), (copyF from_ to (j + 1), l1)) := by
  have hpc : x.pc = 0#16 := by rw [h.pc, if_neg (by omega)]
  obtain ⟨c0, c1⟩ := copy_code
  have g0 : copyF from_ to j 0 = 0xED#8 := by unfold copyF; rw [if_neg (by omega)]; exact c0
  have g1 : copyF from_ to j 1 = 0xB0#8 := by unfold copyF; rw [if_neg (by omega)]; exact c1
  have hbc : joinS x.b x.c = 1#16 ↔ j + 1 = many := by
    rw [h.bc]
    constructor
    · intro e
      have := congrArg BitVec.toNat e
      simp only [BitVec.toNat_ofNat] at this
      omega
    · intro e
      rw [show many - j = 1 by omega]
  have s := fun l => step_ed (l := l) (r := x) (f := copyF from_ to j) h.hlt (by rw [hpc, show (0#16 : BitVec 16).toNat = 0 from rfl]; exact g0) (op := 0xB0#8) (by rw [hpc, show (0#16 + 1#16 : BitVec 16).toNat = 1 from rfl]; exact g1) (fun l => pl_B0 (fetched2R x) (copyF from_ to j) l)
  have e1 : joinS (fetched2R x).h (fetched2R x).l = BitVec.ofNat 16 (from_ + j) := by simp only [fetched2R, fetchedR, tickR]; exact h.hl
  have e2 : joinS (fetched2R x).d (fetched2R x).e = BitVec.ofNat 16 (to + j) := by simp only [fetched2R, fetchedR, tickR]; exact h.de
  have e3 : joinS (fetched2R x).b (fetched2R x).c = joinS x.b x.c := by simp only [fetched2R, fetchedR, tickR]
  rw [e1, e2, e3] at s
  have ef : (fun i => if i = (BitVec.ofNat 16 (to + j)).toNat then copyF from_ to j (BitVec.ofNat 16 (from_ + j)).toNat else copyF from_ to j i) = copyF from_ to (j + 1) := by
    funext i
    rw [BitVec.toNat_ofNat, BitVec.toNat_ofNat, Nat.mod_eq_of_lt (by omega), Nat.mod_eq_of_lt (by omega)]
    unfold copyF
    by_cases e : i = to + j
    · subst e
      rw [if_pos rfl, if_neg (by omega), if_pos (by omega)]
      congr 1; omega
    · rw [if_neg e]
      by_cases e2 : to ≤ i ∧ i < to + j
      · rw [if_pos e2, if_pos (by omega)]
      · rw [if_neg e2, if_neg (by omega)]
  rw [ef] at s
  have hn1 : BitVec.ofNat 16 (from_ + j) + 1#16 = BitVec.ofNat 16 (from_ + (j + 1)) := (ofNat_succ16 _).symm
  have hn2 : BitVec.ofNat 16 (to + j) + 1#16 = BitVec.ofNat 16 (to + (j + 1)) := (ofNat_succ16 _).symm
  have hn3 : joinS x.b x.c - 1#16 = BitVec.ofNat 16 (many - (j + 1)) := by
    rw [h.bc]
    apply BitVec.eq_of_toNat_eq
    simp only [BitVec.toNat_sub, BitVec.toNat_ofNat]
    omega
  by_cases e : j + 1 = many
  · simp only [if_pos e, if_pos (hbc.2 e)] at s ⊢
    refine ⟨_, ?_, s⟩
    unfold bringR
    rw [e1, e2, e3, hn1, hn2, hn3]
    refine ⟨h.hlt, join_split _, rfl, rfl, join_split _, join_split _, rfl, rfl, ?_⟩
    rw [if_pos e]
    show x.pc + 1#16 + 1#16 = _
    rw [hpc]; rfl
  · simp only [if_neg e, if_neg (mt hbc.1 e)] at s ⊢
    refine ⟨_, ?_, s⟩
    unfold bringR
    rw [e1, e2, e3, hn1, hn2, hn3]
    refine ⟨h.hlt, join_split _, rfl, rfl, join_split _, join_split _, rfl, rfl, ?_⟩
    rw [if_neg e]
    show x.pc + 1#16 + 1#16 - 2#16 = _
    rw [hpc]; rfl
theorem copies_plain (from_ to : BitVec 16) (many : Nat) (h1 : 0x1000 ≤ from_.toNat) (h2 : from_.toNat ≤ 0x4000) (h3 : 0x5000 ≤ to.toNat) (h4 : to.toNat ≤ 0xF000) (hm1 : 1 ≤ many) (hm : many ≤ 300) : ∀ j, j ≤ many →
    ∃ x, CopyAt from_.toNat to.toNat many j x ∧ ∃ l, (stepsE j { rg0 with h := hiS from_, l := loS from_, d := hiS to, e := loS to, b := hiS (BitVec.ofNat 16 many), c := loS (BitVec.ofNat 16 many) }).run fnO (copy0, []) = ((x, if j = many then 21 * many - 5 else 21 * j), (copyF from_.toNat to.toNat j, l))
  | 0, _ => by
    refine ⟨_, copy_zero from_ to many hm1 hm, [], ?_⟩
    rw [if_neg (by omega)]
    have : copyF from_.toNat to.toNat 0 = copy0 := by funext i; unfold copyF; rw [if_neg (by omega)]
    rw [this]; rfl
  | j + 1, hj => by
    obtain ⟨x, hx, l, e⟩ := copies_plain from_ to many h1 h2 h3 h4 hm1 hm j (by omega)
    obtain ⟨y, hy, s⟩ := copy_step h1 h2 h3 h4 hm (by omega) hx
    obtain ⟨l1, e1⟩ := s l
    refine ⟨y, hy, l1, ?_⟩
    rw [stepsE_next e e1]
    congr 3
    rw [if_neg (by omega)]
    by_cases e2 : j + 1 = many
    · rw [if_pos e2, if_pos e2]; omega
    · rw [if_neg e2, if_neg e2]; omega
end Go.Proofs.Joy
namespace Go.Proofs.Joy
open Go.Ab Go.Proofs

set_option maxHeartbeats 1000000
set_option maxRecDepth 20000
/-- A box among blocks of a law's own (Q). -/
structure BS (b nb : Nat) (G : Heap) (Q : Nat → Prop) (s : Bx) (H : Heap) (m : Nat) : Prop where
  wf : H.wf m
  le : nb ≤ m
  rep : ∃ F, bxRep b s H m F ∧ ∀ i, F i → nb ≤ i ∧ ¬ Q i
  own : ∀ i, Q i → nb ≤ i ∧ i < m
  fr : ∀ i, i < nb → H i = G i
section
variable {b nb : Nat} {G : Heap} {Q : Nat → Prop} {s : Bx} {H : Heap} {m : Nat} {K : AV → Heap → Nat → Prop}
theorem BS.bm (B : BS b nb G Q s H m) : b < m ∧ nb ≤ b ∧ ¬ Q b := by
  obtain ⟨F, ⟨mm, L, h⟩, h2⟩ := B.rep
  exact ⟨h.low _ h.fb, (h2 _ h.fb).1, (h2 _ h.fb).2⟩
theorem BS.start {n : Nat} {F : Nat → Prop} (w : H.wf m) (l : n ≤ m) (r : bxRep b s H m F) (o : ∀ i, F i → n ≤ i) (f : ∀ i, i < n → H i = G i) : BS b n G (fun _ => False) s H m :=
  ⟨w, l, ⟨F, r, fun i hi => ⟨o i hi, fun h => h⟩⟩, fun _ h => h.elim, f⟩
/-- Something new of the law's own. -/
theorem BS.alloc (B : BS b nb G Q s H m) (bl : Blk) (ok : ∀ v ∈ bl.cells, v.ok (m + 1) = true) : BS b nb G (fun i => Q i ∨ i = m) s (H.upd m (some bl)) (m + 1) := by
  obtain ⟨F, h1, h2⟩ := B.rep
  have low : ∀ i, F i → i < m := fun i hi => (boxW b).low h1 hi
  refine ⟨Heap.wf_upd B.wf ok, by have := B.le; omega, ⟨F, bx_stable h1 (fun i hi => Heap.upd_ne _ _ (by have := low i hi; omega)) (by omega), fun i hi => ⟨(h2 i hi).1, fun h => ?_⟩⟩, fun i hi => ?_, fun i hi => by rw [Heap.upd_ne _ _ (by have := B.le; omega)]; exact B.fr i hi⟩
  · rcases h with h | h
    · exact (h2 i hi).2 h
    · have := low i hi; omega
  · rcases hi with h | h
    · have := B.own i h; omega
    · have := B.le; omega
/-- .. of which nothing stays known. -/
theorem BS.junk (B : BS b nb G Q s H m) (bl : Blk) (ok : ∀ v ∈ bl.cells, v.ok (m + 1) = true) : BS b nb G Q s (H.upd m (some bl)) (m + 1) := by
  have A := B.alloc bl ok
  obtain ⟨F, h1, h2⟩ := A.rep
  exact ⟨A.wf, A.le, ⟨F, h1, fun i hi => ⟨(h2 i hi).1, fun h => (h2 i hi).2 (.inl h)⟩⟩, fun i hi => A.own i (.inl hi), A.fr⟩
theorem BS.less {Q' : Nat → Prop} (B : BS b nb G Q s H m) (hq : ∀ i, Q' i → Q i) : BS b nb G Q' s H m := let ⟨F, h1, h2⟩ := B.rep; ⟨B.wf, B.le, ⟨F, h1, fun i hi => ⟨(h2 i hi).1, fun h => (h2 i hi).2 (hq i h)⟩⟩, fun i hi => B.own i (hq i hi), B.fr⟩
theorem BS.put (B : BS b nb G Q s H m) {k : Nat} (hk : Q k) (bl : Blk) (ok : ∀ v ∈ bl.cells, v.ok m = true) : BS b nb G Q s (H.upd k (some bl)) m := by
  obtain ⟨F, h1, h2⟩ := B.rep
  have hkm := B.own k hk
  exact ⟨Heap.wf_set B.wf hkm.2 ok, B.le, ⟨F, bx_stable h1 (fun i hi => Heap.upd_ne _ _ (fun e => (h2 i hi).2 (e ▸ hk))) (Nat.le_refl _), h2⟩, B.own, fun i hi => by rw [Heap.upd_ne _ _ (by omega)]; exact B.fr i hi⟩
theorem BS.step (B : BS b nb G Q s H m) (r : Rg) (hl : 6 ≤ bxLeft s) (h : ∀ (r' : Rg) (q : Nat) s' H' m', (stepE r).run bxO s = ((r', q), s') → bxLeft s ≤ bxLeft s' + 6 → BS b nb G Q s' H' m' → m ≤ m' → (∀ i, Q i → H' i = H i) → K (.tu [.ag r'.cells, .i64 q]) H' m') :
    ACalls Try.prog 12 [.ag r.cells, .ifc 30 (.pt b 0)] H m K := by
  obtain ⟨F, h1, h2⟩ := B.rep
  have hle := B.le
  refine c_step (boxM b) r h1 hl fun r' q s' H' m' F' e lf w l r2 o f => h r' q s' H' m' e lf ⟨w, by omega, ⟨F', r2, fun i hi => ?_⟩, fun i hi => by have := B.own i hi; omega, fun i hi => ?_⟩ l fun i hi => ?_
  · rcases o i hi with g | g
    · exact h2 i g
    · exact ⟨by omega, fun hq => by have := B.own i hq; omega⟩
  · rw [f i (by omega) (fun hF => by have := (h2 i hF).1; omega)]; exact B.fr i hi
  · exact f i (B.own i hi).2 fun hF => (h2 i hF).2 hi
theorem BS.inter (B : BS b nb G Q s H m) (r : Rg) (p line : Bool) (hl : 6 ≤ bxLeft s) (h : ∀ (r' : Rg) (q : Nat) s' H' m', (interE r p line).run bxO s = ((r', q), s') → bxLeft s ≤ bxLeft s' + 6 → BS b nb G Q s' H' m' → m ≤ m' → (∀ i, Q i → H' i = H i) → K (.tu [.ag r'.cells, .i64 q]) H' m') :
    ACalls Try.prog 13 [.ag r.cells, .ifc 30 (.pt b 0), .bo p, .bo line] H m K := by
  obtain ⟨F, h1, h2⟩ := B.rep
  have hle := B.le
  refine c_inter (boxM b) r p line h1 hl fun r' q s' H' m' F' e lf w l r2 o f => h r' q s' H' m' e lf ⟨w, by omega, ⟨F', r2, fun i hi => ?_⟩, fun i hi => by have := B.own i hi; omega, fun i hi => ?_⟩ l fun i hi => ?_
  · rcases o i hi with g | g
    · exact h2 i g
    · exact ⟨by omega, fun hq => by have := B.own i hq; omega⟩
  · rw [f i (by omega) (fun hF => by have := (h2 i hF).1; omega)]; exact B.fr i hi
  · exact f i (B.own i hi).2 fun hF => (h2 i hF).2 hi
end
/-- A loop of steps. -/
structure StS where
  j : Nat
  x : Rg
  q : Nat
  s : Bx
  H : Heap
  m : Nat
theorem steps_eq {j : Nat} {r x y : Rg} {q p : Nat} {at_ : BitVec 16} {code : List (BitVec 8)} {fill : BitVec 8} {s : Bx} {g : Nat → BitVec 8} {l : List Int} (h : (stepsE j r).run bxO (boxS at_ code fill) = ((x, q), s)) (h2 : (stepsE j r).run fnO (codeS at_ code fill code.length, []) = ((y, p), (g, l))) : x = y ∧ q = p ∧ s.mem = memL g := by
  obtain ⟨f', l', e, e2⟩ := steps_box h
  rw [h2] at e2
  simp only [Prod.mk.injEq] at e2
  obtain ⟨⟨rfl, rfl⟩, rfl, rfl⟩ := e2
  exact ⟨rfl, rfl, by rw [e]⟩
theorem left_box (at_ : BitVec 16) (code : List (BitVec 8)) (fill : BitVec 8) : bxLeft (boxS at_ code fill) = 4294967296 := rfl
theorem left_box0 (at_ : BitVec 16) (code : List (BitVec 8)) (fill : BitVec 8) : 4294967296 ≤ bxLeft (boxS at_ code fill) + 6 * 0 := by rw [left_box]; omega
theorem counts_walk (a0 c0 : BitVec 8) (H : Heap) (n : Nat) (K : AV → Heap → Nat → Prop) (h : K (.bo true) H n) : ACalls Try.prog 6 [.u8 a0, .u8 c0] H n K := by
  refine ACalls.of_awp Try.func6 rfl (by decide +kernel) (show 2 ≤ 79 by decide) (by simp) fun wf => ?_
  refine awp_step dr0 (by decide +kernel) ?_
  simp only [go_sem, Try.f6]
  refine awp_step dr0 (by decide +kernel) ?_
  simp only [go_sem]
  refine c_alive _ _ _ ?_
  simp only [go_sem]
  refine awp_step dr0 (by decide +kernel) ?_
  simp only [go_sem]
  refine c_box 0#16 [0x3C#8, 0x10#8, 0xFD#8, 0x76#8] 0#8 _ _ _ _ (bytesIn.whole (Heap.upd_same _ _ _) rfl (Nat.le_refl _)) (by simp [AV.ok]) (by decide) fun b H1 m1 F1 w1 l1 r1 o1 f1 => ?_
  simp only [go_sem]
  refine awp_step dr0 (by decide +kernel) ?_
  simp only [go_sem]
  refine awp_step dr0 (by decide +kernel) ?_
  simp only [go_sem]
  have B0 : BS b (n + 1) H1 (fun _ => False) (boxS 0#16 [0x3C#8, 0x10#8, 0xFD#8, 0x76#8] 0#8) H1 m1 := BS.start w1 l1 r1 o1 (fun _ _ => rfl)
  have B1 := B0.alloc ⟨({ rg0 with b := a0, a := c0 } : Rg).cells, 25, false⟩ (cells_ok ⟨{ rg0 with b := a0, a := c0 }, 0#8⟩ _)
  have f1' : ∀ i, i < n → H1 i = H i := fun i hi => by rw [f1 i (by omega), Heap.upd_ne _ _ (by omega)]
  generalize hQ : (fun i => False ∨ i = m1) = Q at B1
  have hQm : Q m1 := by rw [← hQ]; exact .inr rfl
  have hr := rounds_ge a0
  refine awp_seq ?_
  refine awp_block ?_
  refine awp_loopF (S := StS) (fun s => [(0, .u8 a0), (1, .u8 c0), (5, .pt b 0), (6, .pt m1 0), (7, .i64 s.q), (8, .i64 s.j)]) (fun s => s.H) (fun s => s.m)
    (fun s => BS b (n + 1) H1 Q s.s s.H s.m ∧ s.H m1 = some ⟨s.x.cells, 25, false⟩ ∧ (stepsE s.j { rg0 with b := a0, a := c0 }).run bxO (boxS 0#16 [0x3C#8, 0x10#8, 0xFD#8, 0x76#8] 0#8) = ((s.x, s.q), s.s) ∧ 4294967296 ≤ bxLeft s.s + 6 * s.j ∧ s.j ≤ 2 * rounds a0 + 1) (fun s => 2 * rounds a0 + 1 - s.j)
    (fun s ⟨B, _⟩ => ⟨B.wf, Env.okAt_of2 (by have := B.own m1 hQm; have := B.bm; simp [AV.ok]; omega)⟩) ?_ ⟨0, { rg0 with b := a0, a := c0 }, 0, _, _, m1 + 1⟩ ⟨B1, Heap.upd_same _ _ _, rfl, left_box0 _ _ _, Nat.zero_le _⟩ (by repeat (first | exact Env.le_nil _ | refine Env.le_cons rfl ?_)) (fun _ _ => rfl) rfl
  rintro ⟨j, x, q, s, X, m⟩ ⟨B, hx, e, hl, hj⟩
  simp only at B hx e hl hj ⊢
  obtain ⟨y, p, ⟨l, e2⟩, C⟩ := counts_plain a0 c0 j hj
  obtain ⟨rfl, rfl, -⟩ := steps_eq e (show (stepsE j _).run fnO (codeS 0#16 [0x3C#8, 0x10#8, 0xFD#8, 0x76#8] 0#8 [0x3C#8, 0x10#8, 0xFD#8, 0x76#8].length, []) = _ from e2)
  have hm := B.own m1 hQm
  have hx2 := hx
  simp only [Rg.cells] at hx2
  have hq := C.q
  have hqb : q ≤ 17 * 256 := by rw [hq]; split; omega; split; omega; split <;> omega
  refine awp_step dr0 (by decide +kernel) ?_
  simp only [go_sem, hx2]
  refine ⟨fun g1 => ⟨fun g2 => ?_, fun g2 => by exfalso; omega⟩, fun g1 => ?_⟩
  · refine awp_ev dr0 (by decide +kernel) ?_
    simp only [go_sem, hx2]
    refine B.step x (by omega) fun y p s' X' m' e3 lf B' hle hq' => ?_
    have hy := (hq' m1 hQm).trans hx
    simp only [Rg.cells] at hy
    have hz := fun Y => (Heap.upd_ne X' Y (show m1 ≠ m' by omega)).trans hy
    simp only [go_sem, Rg.cells, hz]
    have hjn : j ≠ 2 * rounds a0 + 1 := fun h => by rw [C.hlt, decide_eq_true h] at g1; cases g1
    have e4 := stepsE_next e e3
    obtain ⟨y2, p2, ⟨l2, e5⟩, C2⟩ := counts_plain a0 c0 (j + 1) (by omega)
    obtain ⟨rfl, rfl, -⟩ := steps_eq e4 (show (stepsE (j + 1) _).run fnO (codeS 0#16 [0x3C#8, 0x10#8, 0xFD#8, 0x76#8] 0#8 [0x3C#8, 0x10#8, 0xFD#8, 0x76#8].length, []) = _ from e5)
    have hq2 := C2.q
    have hqb2 : q + p ≤ 17 * 256 := by rw [hq2]; split; omega; split; omega; split <;> omega
    have w1 : wrap64 ((j : Int) + 1) = ((j + 1 : Nat) : Int) := by rw [wrap_id _ (by omega) (by omega)]; omega
    have w2 : wrap64 ((q : Int) + (p : Int)) = ((q + p : Nat) : Int) := by rw [wrap_id _ (by omega) (by omega)]; omega
    rw [w1, w2]
    refine Ends.mk (⟨j + 1, y, q + p, s', _, m' + 1⟩ : StS) ⟨by simp only; omega, (B'.junk ⟨y.cells, 25, false⟩ (cells_ok ⟨y, 0#8⟩ _)).put hQm ⟨y.cells, 25, false⟩ (cells_ok ⟨y, 0#8⟩ _), Heap.upd_same _ _ _, e4, by simp only; omega, by simp only; omega⟩ (by repeat (first | exact Env.le_nil _ | refine Env.le_cons rfl ?_)) (fun _ _ => rfl) (by simp only; omega) (Nat.le_refl _)
  · have hjn : j = 2 * rounds a0 + 1 := by
      by_cases h : j = 2 * rounds a0 + 1
      · exact h
      · rw [C.hlt, decide_eq_false h] at g1; cases g1
    have k1 := C.hlt
    have k2 := C.acc
    have k3 := C.b
    have k4 := C.pc
    rw [decide_eq_true hjn] at k1
    rw [if_pos hjn] at k4 hq
    rw [show min ((j + 1) / 2) (rounds a0) = rounds a0 by omega] at k2
    rw [show min (j / 2) (rounds a0) = rounds a0 by omega] at k3
    refine awp_ev dr0 (by decide +kernel) ?_
    simp only [go_sem, hx2]
    have hfin : Go.Ab.Fin n (.bo true) X m K := Fin.back wf h (fun i hi => by rw [B.fr i (by omega)]; exact f1' i hi) rfl
    have hl0 := a0.isLt
    have fin : ∀ z : Int, z = rounds a0 → BitVec.ofInt 8 z = BitVec.ofNat 8 (rounds a0) → ((x.a == c0 + BitVec.ofInt 8 z) = true) ∧ (x.b == 0#8) = true ∧ ((j : Int) == wrap64 (wrap64 (2 * z) + 1)) = true ∧ ((q : Int) == wrap64 (wrap64 (wrap64 (17 * z) - 5) + 4)) = true ∧ (x.pc == 4#16) = true := by
      intro z hz hz2
      refine ⟨by rw [k2, hz2]; exact beq_self_eq_true _, ?_, ?_, ?_, by rw [k4]; rfl⟩
      · rw [k3]
        have e0 : a0 - BitVec.ofNat 8 (rounds a0) = 0#8 := by
          unfold rounds
          by_cases h0 : a0 = 0#8
          · rw [if_pos h0, h0]; rfl
          · rw [if_neg h0]; simp
        rw [e0]; rfl
      · rw [wrap_id (2 * z) (by omega) (by omega), wrap_id _ (by omega) (by omega), hjn, hz]; simp
      · rw [wrap_id (17 * z) (by omega) (by omega), wrap_id (17 * z - 5) (by omega) (by omega), wrap_id _ (by omega) (by omega), hq, hz]
        simp; omega
    refine ⟨fun e0 => ?_, fun e0 => ?_⟩
    · have h0 : a0 = 0#8 := by simpa using e0
      obtain ⟨t1, t2, t3, t4, t5⟩ := fin 256 (by rw [rounds, if_pos h0]; rfl) (by rw [rounds, if_pos h0]; rfl)
      simp only [go_sem] at t1 t2 t3 t4 t5
      simp only [go_sem, k1, t1, t2, t3, t4, t5]
      exact hfin
    · have h0 : a0 ≠ 0#8 := by simpa using e0
      obtain ⟨t1, t2, t3, t4, t5⟩ := fin a0.toNat (by rw [rounds, if_neg h0]) (by rw [rounds, if_neg h0]; rfl)
      simp only [go_sem, k1, t1, t2, t3, t4, t5]
      exact hfin
end Go.Proofs.Joy
namespace Go.Proofs.Joy
open Go.Ab Go.Proofs

set_option maxHeartbeats 1000000
set_option maxRecDepth 20000
theorem pref_set (many : Nat) (last : Bool) (v : BitVec 8) (hm : 1 ≤ many) : ((((List.range (many + 2)).map prefB).set (many - 1) (lastB last)).set many 0x2E#8).set (many + 1) v = prefC many last v := by
  unfold prefC
  apply List.ext_getElem
  · simp
  · intro i h1 h2
    simp only [List.length_set, List.length_map, List.length_range] at h1
    rw [List.getElem_set, List.getElem_set, List.getElem_set]
    simp only [List.getElem_map, List.getElem_range]
    by_cases e1 : i = many + 1
    · rw [if_pos e1.symm, if_pos e1]
    · rw [if_neg (fun h => e1 h.symm), if_neg e1]
      by_cases e2 : i = many
      · rw [if_pos e2.symm, if_pos e2]
      · rw [if_neg (fun h => e2 h.symm), if_neg e2]
        by_cases e3 : i + 1 = many
        · rw [if_pos (by omega), if_pos e3]
        · rw [if_neg (by omega), if_neg e3]
def preF (len j : Nat) : List (BitVec 8) := (List.range len).map fun i => if i < j then prefB i else 0#8
theorem preF_len (len j : Nat) : (preF len j).length = len := by simp [preF]
theorem preF_set {len j : Nat} (x y : BitVec 8) (hx : y = prefB j) (h : j < len) : ((preF len j).set j x).set j y = preF len (j + 1) := by
  rw [List.set_set]
  unfold preF
  apply List.ext_getElem
  · simp
  · intro i h1 h2
    rw [List.getElem_set]
    simp only [List.getElem_map, List.getElem_range]
    by_cases e : j = i
    · subst e; rw [if_pos rfl, if_pos (by omega), hx]
    · rw [if_neg e]
      by_cases e2 : i < j
      · rw [if_pos e2, if_pos (by omega)]
      · rw [if_neg e2, if_neg (by omega)]
theorem preF_set1 {len j : Nat} (y : BitVec 8) (hx : y = prefB j) (h : j < len) : (preF len j).set j y = preF len (j + 1) := by
  have := preF_set y y hx h
  rwa [List.set_set] at this
/-- A step in a box, given the step by memory. -/
theorem step_mem {α : Type} {e : Eff α} {y y2 : α} {s s' : Bx} {f g : Nat → BitVec 8} (hm : s.mem = memL f) (h : e.run bxO s = (y, s')) (h2 : ∀ l, ∃ l1, e.run fnO (f, l) = (y2, (g, l1))) : y = y2 ∧ s'.mem = memL g := by
  obtain ⟨l1, h2⟩ := h2 s.log
  have hs : s = ⟨memL f, s.log⟩ := by rw [← hm]
  rw [hs, run_mem, h2] at h
  simp only [Prod.mk.injEq] at h
  exact ⟨h.1.symm, by rw [← h.2]⟩
theorem prefixes_walk (mi : Int) (last : Bool) (v : BitVec 8) (H : Heap) (n : Nat) (K : AV → Heap → Nat → Prop) (h : K (.bo true) H n) : ACalls Try.prog 8 [.i64 mi, .bo last, .u8 v] H n K := by
  refine ACalls.of_awp Try.func8 rfl (by decide +kernel) (show 3 ≤ 132 by decide) (by simp) fun wf => ?_
  refine awp_step dr0 (by decide +kernel) ?_
  simp only [go_sem, Try.f8]
  refine awp_step dr0 (by decide +kernel) ?_
  simp only [go_sem]
  refine c_alive _ _ _ ?_
  simp only [go_sem]
  have done : Go.Ab.Fin n (.bo true) H n K := Fin.back wf h (fun _ _ => rfl) rfl
  refine awp_seqF (S := Nat) (fun m => [(0, .i64 m), (1, .bo last), (2, .u8 v)]) (fun _ => H) (fun _ => n) (fun m => mi = m ∧ 1 ≤ m ∧ m ≤ 100) (fun _ _ => ⟨wf, Env.okAt_of2 (by simp [AV.ok])⟩) ?_ ?_
  · refine awp_ev dr0 (by decide +kernel) ?_
    simp only [go_sem]
    refine ⟨fun a1 => ⟨fun _ => done, fun a2 => ?_⟩, fun _ => done⟩
    exact Ends.mk mi.toNat ⟨by omega, by omega, by omega⟩ (by rw [show ((mi.toNat : Nat) : Int) = mi by omega]; exact (by repeat (first | exact Env.le_nil _ | refine Env.le_cons rfl ?_))) (fun _ _ => rfl) (Nat.le_refl _) (Nat.le_refl _)
  rintro many ⟨rfl, hm1, hm⟩
  have e2 : wrap64 ((many : Int) + 2) = ((many + 2 : Nat) : Int) := by rw [wrap_id _ (by omega) (by omega)]; omega
  refine awp_step dr0 (by decide +kernel) ?_
  simp only [go_sem, e2]
  refine ⟨by omega, by omega, by omega, ?_⟩
  refine awp_seq ?_
  refine awp_step dr0 (by decide +kernel) ?_
  simp only [go_sem]
  refine awp_block ?_
  have rep0 : repCells (many + 2) [AV.u8 0#8] = (preF (many + 2) 0).map .u8 := by
    rw [rep_u8]; congr 1
    apply List.ext_getElem
    · simp [preF]
    · intro i h1 h2
      simp [preF]
  refine awp_loopF (S := Nat) (fun j => [(0, .i64 many), (1, .bo last), (2, .u8 v), (7, .sl n 0 (many + 2) (many + 2)), (31, .i64 (many + 2 : Nat)), (32, .i64 j)]) (fun j => H.upd n (some ⟨(preF (many + 2) j).map .u8, 5, false⟩)) (fun _ => n + 1) (fun j => j ≤ many + 2) (fun j => many + 2 - j)
    (fun j _ => ⟨Heap.wf_upd wf (u8s_ok _ _), Env.okAt_of2 (by simp [AV.ok])⟩) ?_ 0 (Nat.zero_le _) (by repeat (first | exact Env.le_nil _ | refine Env.le_cons rfl ?_)) (fun i _ => by simp only [rep0, Int.toNat_natCast]) rfl
  intro j hj
  refine awp_step dr0 (by decide +kernel) ?_
  simp only [go_sem]
  refine awp_step dr0 (by decide +kernel) ?_
  simp only [go_sem]
  refine ⟨fun hlt => ?_, fun hge => ?_⟩
  · have hj1 : j < many + 2 := by omega
    refine awp_ev dr0 (by decide +kernel) ?_
    simp only [go_sem, List.length_map, preF_len]
    have e1 : wrap64 ((j : Int) + 1) = ((j + 1 : Nat) : Int) := by rw [wrap_id _ (by omega) (by omega)]; omega
    have e3 : ((j : Int).tmod 3 == 1) = decide (j % 3 = 1) := by
      rw [show (j : Int).tmod 3 = ((j % 3 : Nat) : Int) from rfl]
      by_cases h : j % 3 = 1
      · rw [h]; rfl
      · rw [decide_eq_false h]
        have : ¬ ((j % 3 : Nat) : Int) = 1 := by omega
        simpa using this
    rw [e1, e3]
    refine ⟨by omega, by omega, fun z => ⟨by omega, by simp [preF_len]; omega, ?_⟩, fun z => ?_⟩
    · have hz : j % 3 = 1 := of_decide_eq_true z
      refine Ends.mk (j + 1) ⟨by omega, by omega⟩ (by repeat (first | exact Env.le_nil _ | refine Env.le_cons rfl ?_)) (fun i _ => ?_) (Nat.le_refl _) (Nat.le_refl _)
      rw [← List.map_set, ← List.map_set, preF_set _ _ (by rw [prefB, if_pos hz]) hj1]
    · have hz : ¬ j % 3 = 1 := of_decide_eq_false z
      refine Ends.mk (j + 1) ⟨by omega, by omega⟩ (by repeat (first | exact Env.le_nil _ | refine Env.le_cons rfl ?_)) (fun i _ => ?_) (Nat.le_refl _) (Nat.le_refl _)
      rw [← List.map_set, preF_set1 _ (by rw [prefB, if_neg hz]) hj1]
  · obtain rfl : j = many + 2 := by omega
    have all : preF (many + 2) (many + 2) = (List.range (many + 2)).map prefB := by
      unfold preF
      exact List.map_congr_left fun i hi => if_pos (List.mem_range.1 hi)
    rw [all]
    have hset := pref_set many last v hm1
    have hpl : ((List.range (many + 2)).map prefB).length = many + 2 := by simp
    generalize (List.range (many + 2)).map prefB = pb at hset hpl
    have e1 : wrap64 ((many : Int) + 1) = ((many + 1 : Nat) : Int) := by rw [wrap_id _ (by omega) (by omega)]; omega
    have e1' : wrap64 ((many : Int) - 1) = ((many - 1 : Nat) : Int) := by rw [wrap_id _ (by omega) (by omega)]; omega
    refine awp_seqF (S := Unit) (fun _ => [(0, .i64 many), (1, .bo last), (2, .u8 v), (7, .sl n 0 (many + 2) (many + 2))]) (fun _ => H.upd n (some ⟨(pb.set (many - 1) 0xDD#8).map .u8, 5, false⟩)) (fun _ => n + 1) (fun _ => True)
      (fun _ _ => ⟨Heap.wf_upd wf (u8s_ok _ _), Env.okAt_of2 (by simp [AV.ok])⟩) ?_ ?_
    · refine awp_ev dr0 (by decide +kernel) ?_
      simp only [go_sem, e1']
      refine ⟨by omega, by simp; omega, ?_⟩
      refine Ends.mk () trivial (by repeat (first | exact Env.le_nil _ | refine Env.le_cons rfl ?_)) (fun i _ => by rw [← List.map_set]) (Nat.le_refl _) (Nat.le_refl _)
    rintro - -
    refine awp_seqF (S := Unit) (fun _ => [(0, .i64 many), (1, .bo last), (2, .u8 v), (7, .sl n 0 (many + 2) (many + 2))]) (fun _ => H.upd n (some ⟨(pb.set (many - 1) (lastB last)).map .u8, 5, false⟩)) (fun _ => n + 1) (fun _ => True)
      (fun _ _ => ⟨Heap.wf_upd wf (u8s_ok _ _), Env.okAt_of2 (by simp [AV.ok])⟩) ?_ ?_
    · refine awp_ev dr0 (by decide +kernel) ?_
      simp only [go_sem, e1']
      refine ⟨fun z => ⟨by omega, by simp; omega, ?_⟩, fun z => ?_⟩
      · refine Ends.mk () trivial (by repeat (first | exact Env.le_nil _ | refine Env.le_cons rfl ?_)) (fun i _ => by rw [← List.map_set, List.set_set, z]; rfl) (Nat.le_refl _) (Nat.le_refl _)
      · refine Ends.mk () trivial (by repeat (first | exact Env.le_nil _ | refine Env.le_cons rfl ?_)) (fun i _ => by rw [z]; rfl) (Nat.le_refl _) (Nat.le_refl _)
    rintro - -
    refine awp_step dr0 (by decide +kernel) ?_
    simp only [go_sem, e1]
    refine ⟨by omega, by simp; omega, by omega, by simp; omega, ?_⟩
    rw [← List.map_set, ← List.map_set, hset]
    refine awp_step dr0 (by decide +kernel) ?_
    simp only [go_sem]
    refine c_box 0#16 (prefC many last v) 0#8 _ _ _ _ (bytesIn.whole (Heap.upd_same _ _ _) (prefC_len _ _ _).symm (Nat.le_refl _)) (by simp [AV.ok]) (by rw [prefC_len]; omega) fun b H1 m1 F1 w1 l1 r1 o1 f1 => ?_
    have f1' : ∀ i, i < n → H1 i = H i := fun i hi => by rw [f1 i (by omega), Heap.upd_ne _ _ (by omega)]
    simp only [go_sem]
    refine awp_step dr0 (by decide +kernel) ?_
    simp only [go_sem]
    have B0 : BS b (n + 1) H1 (fun _ => False) (boxS 0#16 (prefC many last v) 0#8) H1 m1 := BS.start w1 l1 r1 o1 (fun _ _ => rfl)
    have B1 := B0.alloc ⟨({ rg0 with iff1 := true, ix := 0x1111#16, iy := 0x2222#16 } : Rg).cells, 25, false⟩ (cells_ok ⟨{ rg0 with iff1 := true, ix := 0x1111#16, iy := 0x2222#16 }, 0#8⟩ _)
    generalize hQ : (fun i => False ∨ i = m1) = Q at B1
    have hQm : Q m1 := by rw [← hQ]; exact .inr rfl
    refine awp_seq ?_
    refine awp_step dr0 (by decide +kernel) ?_
    simp only [go_sem]
    refine awp_block ?_
    refine awp_loopF (S := StS) (fun s => [(0, .i64 many), (1, .bo last), (2, .u8 v), (9, .pt b 0), (10, .pt m1 0), (11, .i64 s.j)]) (fun s => s.H) (fun s => s.m)
      (fun s => BS b (n + 1) H1 Q s.s s.H s.m ∧ s.H m1 = some ⟨s.x.cells, 25, false⟩ ∧ PrefAt many last s.j s.x ∧ s.s.mem = memL (prefF many last v) ∧ 4294967296 ≤ bxLeft s.s + 12 * s.j ∧ s.j ≤ many) (fun s => many - s.j)
      (fun s ⟨B, _⟩ => ⟨B.wf, Env.okAt_of2 (by have := B.own m1 hQm; have := B.bm; simp [AV.ok]; omega)⟩) ?_ ⟨0, { rg0 with iff1 := true, ix := 0x1111#16, iy := 0x2222#16 }, 0, _, _, m1 + 1⟩ ⟨B1, Heap.upd_same _ _ _, pref_zero many last hm1, rfl, by rw [Nat.mul_zero]; exact Nat.le_refl 4294967296, Nat.zero_le _⟩ (by repeat (first | exact Env.le_nil _ | refine Env.le_cons rfl ?_)) (fun _ _ => rfl) rfl
    rintro ⟨j, x, q, s, X, m⟩ ⟨B, hx, hp, hmem, hl, hj⟩
    simp only at B hx hp hmem hl hj ⊢
    have hmm := B.own m1 hQm
    have hx2 := hx
    simp only [Rg.cells] at hx2
    refine awp_step dr0 (by decide +kernel) ?_
    simp only [go_sem, hx2]
    refine ⟨fun hlt => ?_, fun hge => ?_⟩
    · have hj1 : j < many := by omega
      obtain ⟨y2, hy, hs⟩ := pref_step v hm hj1 hp
      refine awp_ev dr0 (by decide +kernel) ?_
      simp only [go_sem, hx2]
      refine B.step x (by omega) fun y p s' X' m' e3 lf B' hle hq' => ?_
      obtain ⟨e4, hmem'⟩ := step_mem hmem e3 hs
      simp only [Prod.mk.injEq] at e4
      obtain ⟨rfl, rfl⟩ := e4
      have hk := (hq' m1 hQm).trans hx
      simp only [Rg.cells] at hk
      have B2 := B'.alloc ⟨y.cells, 25, false⟩ (cells_ok ⟨y, 0#8⟩ _)
      simp only [go_sem, Rg.cells]
      refine B2.inter y true true (by omega) fun z p s'' X2 m2 e5 lf2 B3 hle2 hq2 => ?_
      have hne : y.pre ≠ 0#8 := by
        rcases hy.pre with h | h | h
        · omega
        · rw [h]; decide
        · rw [h]; decide
      rw [inter_pre hne] at e5
      simp only [Eff.run, Prod.mk.injEq] at e5
      obtain ⟨⟨rfl, rfl⟩, rfl⟩ := e5
      have z1 := (hq2 m1 (.inl hQm)).trans ((Heap.upd_ne X' _ (show m1 ≠ m' by omega)).trans hk)
      have z2 := (hq2 m' (.inr rfl)).trans (Heap.upd_same X' _ _)
      simp only [Rg.cells] at z1 z2
      have u1 := fun Y => (Heap.upd_ne X2 Y (show m1 ≠ m2 by omega)).trans z1
      have u2 := fun Y => (Heap.upd_ne X2 Y (show m' ≠ m2 by omega)).trans z2
      simp only [go_sem, Rg.cells, u1, u2]
      have w1 : wrap64 ((j : Int) + 1) = ((j + 1 : Nat) : Int) := by rw [wrap_id _ (by omega) (by omega)]; omega
      rw [w1]
      refine Ends.mk (⟨j + 1, y, 0, s', _, m2 + 1⟩ : StS) ⟨by simp only; omega, (((B3.less (Q' := Q) fun i hi => .inl hi).junk ⟨y.cells, 25, false⟩ (cells_ok ⟨y, 0#8⟩ _)).put hQm ⟨y.cells, 25, false⟩ (cells_ok ⟨y, 0#8⟩ _)), Heap.upd_same _ _ _, hy, hmem', by simp only; omega, by simp only; omega⟩ (by repeat (first | exact Env.le_nil _ | refine Env.le_cons rfl ?_)) (fun _ _ => rfl) (by simp only; omega) (Nat.le_refl _)
    · obtain rfl : j = many := by omega
      obtain ⟨y2, hs, hpc, hix, hiy⟩ := pref_last v hm hp
      have hfin : ∀ Y : Heap, (∀ i, i < n → Y i = H i) → ∀ k, Go.Ab.Fin n (.bo true) Y k K := fun Y hY k => Fin.back wf h hY rfl
      refine awp_ev dr0 (by decide +kernel) ?_
      simp only [go_sem, hx2]
      refine B.step x (by omega) fun y p s' X' m' e3 lf B' hle hq' => ?_
      obtain ⟨e4, -⟩ := step_mem hmem e3 hs
      simp only [Prod.mk.injEq] at e4
      obtain ⟨rfl, rfl⟩ := e4
      have hk := (hq' m1 hQm).trans hx
      simp only [Rg.cells] at hk
      have w2 : wrap64 ((j : Int) + 2) = ((j + 2 : Nat) : Int) := by rw [wrap_id _ (by omega) (by omega)]; omega
      have hpn : ((y.pc.toNat : Int) == ((j + 2 : Nat) : Int)) = true := by
        rw [hpc, BitVec.toNat_ofNat, Nat.mod_eq_of_lt (by omega)]; exact beq_self_eq_true _
      cases last
      · simp only [Bool.false_eq_true, if_false] at hix hiy
        simp only [go_sem, Rg.cells, hk, w2, hpn, hix, hiy]
        exact hfin _ (fun i hi => by rw [Heap.upd_ne _ _ (by omega), B'.fr i (by omega)]; exact f1' i hi) _
      · simp only [if_true] at hix hiy
        simp only [go_sem, Rg.cells, hk, w2, hpn, hix, hiy]
        exact hfin _ (fun i hi => by rw [Heap.upd_ne _ _ (by omega), B'.fr i (by omega)]; exact f1' i hi) _
end Go.Proofs.Joy
namespace Go.Proofs.Joy
open Go.Ab Go.Proofs

set_option maxHeartbeats 1000000
set_option maxRecDepth 20000
theorem copies_walk (fr to : BitVec 16) (mi : Int) (H : Heap) (n : Nat) (K : AV → Heap → Nat → Prop) (h : K (.bo true) H n) : ACalls Try.prog 4 [.u16 fr, .u16 to, .i64 mi] H n K := by
  refine ACalls.of_awp Try.func4 rfl (by decide +kernel) (show 3 ≤ 161 by decide) (by simp) fun wf => ?_
  refine awp_step dr0 (by decide +kernel) ?_
  simp only [go_sem, Try.f4]
  refine awp_step dr0 (by decide +kernel) ?_
  simp only [go_sem]
  refine c_alive _ _ _ ?_
  simp only [go_sem]
  have done : Go.Ab.Fin n (.bo true) H n K := Fin.back wf h (fun _ _ => rfl) rfl
  refine awp_seqF (S := Nat) (fun m => [(0, .u16 fr), (1, .u16 to), (2, .i64 m)]) (fun _ => H) (fun _ => n) (fun m => mi = m ∧ 1 ≤ m ∧ m ≤ 300 ∧ 0x1000 ≤ fr.toNat ∧ fr.toNat ≤ 0x4000 ∧ 0x5000 ≤ to.toNat ∧ to.toNat ≤ 0xF000) (fun _ _ => ⟨wf, Env.okAt_of2 (by simp [AV.ok])⟩) ?_ ?_
  · refine awp_ev dr0 (by decide +kernel) ?_
    simp only [go_sem]
    refine ⟨fun a1 => ⟨fun a2 => ⟨fun a3 => ⟨fun a4 => ⟨fun a5 => ⟨fun _ => done, fun a6 => ?_⟩, fun _ => done⟩, fun _ => done⟩, fun _ => done⟩, fun _ => done⟩, fun _ => done⟩
    simp only [BitVec.lt_def, BitVec.toNat_ofNat] at a1 a2 a3 a4
    exact Ends.mk mi.toNat ⟨by omega, by omega, by omega, by omega, by omega, by omega, by omega⟩ (by rw [show ((mi.toNat : Nat) : Int) = mi by omega]; exact (by repeat (first | exact Env.le_nil _ | refine Env.le_cons rfl ?_))) (fun _ _ => rfl) (Nat.le_refl _) (Nat.le_refl _)
  rintro many ⟨rfl, hm1, hm, h1, h2, h3, h4⟩
  refine awp_step dr0 (by decide +kernel) ?_
  simp only [go_sem]
  refine c_box 0#16 [0xED#8, 0xB0#8] 7#8 _ _ _ _ (bytesIn.whole (Heap.upd_same _ _ _) rfl (Nat.le_refl _)) (by simp [AV.ok]) (by decide) fun b H1 m1 F1 w1 l1 r1 o1 f1 => ?_
  have f1' : ∀ i, i < n → H1 i = H i := fun i hi => by rw [f1 i (by omega), Heap.upd_ne _ _ (by omega)]
  simp only [go_sem]
  have B0 : BS b (n + 1) H1 (fun _ => False) (boxS 0#16 [0xED#8, 0xB0#8] 7#8) H1 m1 := BS.start w1 l1 r1 o1 (fun _ _ => rfl)
  obtain ⟨mm, L, R1⟩ := r1
  have hb := R1.blk
  have hmm := R1.mem
  have lb := R1.low b R1.fb
  have lm := R1.low mm R1.fm
  have eb := fun Y => (Heap.upd_ne H1 Y (show b ≠ m1 by omega)).trans hb
  have em := fun Y => (Heap.upd_ne H1 Y (show mm ≠ m1 by omega)).trans hmm
  refine awp_step dr0 (by decide +kernel) ?_
  simp only [go_sem, eb, em]
  refine ⟨by rw [List.length_map]; show 65536 ≤ (memL _).length; rw [memL_len]; exact Nat.le_refl _, Nat.zero_le _, ?_⟩
  have et : List.take 65536 (List.map AV.u8 (boxS 0#16 [0xED#8, 0xB0#8] 7#8).mem) = (memL copy0).map .u8 := by
    rw [List.take_of_length_le (by rw [List.length_map]; show (memL _).length ≤ 65536; rw [memL_len]; exact Nat.le_refl _)]; rfl
  rw [et]
  have B1 := (B0.junk ⟨repCells 0 [.u8 0#8], 5, false⟩ (fun v hv => by simp [repCells] at hv)).alloc ⟨(memL copy0).map .u8, 5, false⟩ (u8s_ok _ _)
  generalize hX : (H1.upd m1 (some ⟨repCells 0 [.u8 0#8], 5, false⟩)).upd (m1 + 1) (some ⟨(memL copy0).map .u8, 5, false⟩) = X1 at B1
  have hw : X1 (m1 + 1) = some ⟨(memL copy0).map .u8, 5, false⟩ := by rw [← hX, Heap.upd_same]
  refine awp_step dr0 (by decide +kernel) ?_
  simp only [go_sem]
  refine awp_step dr0 (by decide +kernel) ?_
  simp only [go_sem]
  have em1 : BitVec.ofInt 8 ((many : Int) / 2 ^ 8) = hiS (BitVec.ofNat 16 many) := by
    apply BitVec.eq_of_toNat_eq
    show (BitVec.ofNat 8 (many / 256)).toNat = ((BitVec.ofNat 16 many >>> 8).setWidth 8).toNat
    simp only [BitVec.toNat_setWidth, BitVec.toNat_ushiftRight, BitVec.toNat_ofNat, Nat.shiftRight_eq_div_pow]
    omega
  have em2 : BitVec.ofInt 8 (many : Int) = loS (BitVec.ofNat 16 many) := by
    apply BitVec.eq_of_toNat_eq
    show (BitVec.ofNat 8 many).toNat = ((BitVec.ofNat 16 many).setWidth 8).toNat
    simp only [BitVec.toNat_setWidth, BitVec.toNat_ofNat]
    omega
  rw [em1, em2]
  have B2 := B1.alloc ⟨({ rg0 with h := hiS fr, l := loS fr, d := hiS to, e := loS to, b := hiS (BitVec.ofNat 16 many), c := loS (BitVec.ofNat 16 many) } : Rg).cells, 25, false⟩ (cells_ok ⟨{ rg0 with h := hiS fr, l := loS fr, d := hiS to, e := loS to, b := hiS (BitVec.ofNat 16 many), c := loS (BitVec.ofNat 16 many) }, 0#8⟩ _)
  generalize hQ : (fun i => (False ∨ i = m1 + 1) ∨ i = m1 + 1 + 1) = Q at B2
  have hQm : Q (m1 + 2) := by rw [← hQ]; exact .inr rfl
  have hQw : Q (m1 + 1) := by rw [← hQ]; exact .inl (.inr rfl)
  refine awp_seq ?_
  refine awp_step dr0 (by decide +kernel) ?_
  simp only [go_sem]
  refine awp_block ?_
  refine awp_loopF (S := StS) (fun s => [(0, .u16 fr), (1, .u16 to), (2, .i64 many), (7, .pt b 0), (8, .su (m1 + 1) 0 65536 1), (9, .pt (m1 + 2) 0), (10, .i64 s.q), (11, .i64 s.j)]) (fun s => s.H) (fun s => s.m)
    (fun s => BS b (n + 1) H1 Q s.s s.H s.m ∧ s.H (m1 + 2) = some ⟨s.x.cells, 25, false⟩ ∧ s.H (m1 + 1) = some ⟨(memL copy0).map .u8, 5, false⟩ ∧ (stepsE s.j { rg0 with h := hiS fr, l := loS fr, d := hiS to, e := loS to, b := hiS (BitVec.ofNat 16 many), c := loS (BitVec.ofNat 16 many) }).run bxO (boxS 0#16 [0xED#8, 0xB0#8] 7#8) = ((s.x, s.q), s.s) ∧ 4294967296 ≤ bxLeft s.s + 6 * s.j ∧ s.j ≤ many) (fun s => many - s.j)
    (fun s ⟨B, _⟩ => ⟨B.wf, Env.okAt_of2 (by have := B.own _ hQm; have := B.own _ hQw; have := B.bm; simp [AV.ok]; omega)⟩) ?_ ⟨0, { rg0 with h := hiS fr, l := loS fr, d := hiS to, e := loS to, b := hiS (BitVec.ofNat 16 many), c := loS (BitVec.ofNat 16 many) }, 0, _, _, m1 + 3⟩ ⟨B2, Heap.upd_same _ _ _, (Heap.upd_ne _ _ (by omega)).trans hw, rfl, left_box0 _ _ _, Nat.zero_le _⟩ (by repeat (first | exact Env.le_nil _ | refine Env.le_cons rfl ?_)) (fun _ _ => rfl) rfl
  rintro ⟨j, x, q, s, X, m⟩ ⟨B, hx, hwas, e, hl, hj⟩
  simp only at B hx hwas e hl hj ⊢
  obtain ⟨y, C, l, e2⟩ := copies_plain fr to many h1 h2 h3 h4 hm1 hm j hj
  obtain ⟨rfl, hq, hmem⟩ := steps_eq e (show (stepsE j _).run fnO (codeS 0#16 [0xED#8, 0xB0#8] 7#8 [0xED#8, 0xB0#8].length, []) = _ from e2)
  have hm2 := B.own _ hQm
  have hx2 := hx
  simp only [Rg.cells] at hx2
  have hqb : q ≤ 21 * 300 := by rw [hq]; split <;> omega
  refine awp_step dr0 (by decide +kernel) ?_
  simp only [go_sem, hx2]
  refine ⟨fun hlt => ?_, fun hge => ?_⟩
  · have hjn : j < many := by omega
    refine awp_ev dr0 (by decide +kernel) ?_
    simp only [go_sem, hx2]
    refine B.step x (by omega) fun y p s' X' m' e3 lf B' hle hq' => ?_
    have hy := (hq' _ hQm).trans hx
    have hw' := (hq' _ hQw).trans hwas
    simp only [Rg.cells] at hy
    have hz := fun Y => (Heap.upd_ne X' Y (show m1 + 2 ≠ m' by omega)).trans hy
    simp only [go_sem, Rg.cells, hz]
    have e4 := stepsE_next e e3
    obtain ⟨y2, C2, l2, e5⟩ := copies_plain fr to many h1 h2 h3 h4 hm1 hm (j + 1) (by omega)
    obtain ⟨rfl, hq2, -⟩ := steps_eq e4 (show (stepsE (j + 1) _).run fnO (codeS 0#16 [0xED#8, 0xB0#8] 7#8 [0xED#8, 0xB0#8].length, []) = _ from e5)
    have hqb2 : q + p ≤ 21 * 300 := by rw [hq2]; split <;> omega
    have w1 : wrap64 ((j : Int) + 1) = ((j + 1 : Nat) : Int) := by rw [wrap_id _ (by omega) (by omega)]; omega
    have w2 : wrap64 ((q : Int) + (p : Int)) = ((q + p : Nat) : Int) := by rw [wrap_id _ (by omega) (by omega)]; omega
    rw [w1, w2]
    refine Ends.mk (⟨j + 1, y, q + p, s', _, m' + 1⟩ : StS) ⟨by simp only; omega, (B'.junk ⟨y.cells, 25, false⟩ (cells_ok ⟨y, 0#8⟩ _)).put hQm ⟨y.cells, 25, false⟩ (cells_ok ⟨y, 0#8⟩ _), Heap.upd_same _ _ _, (Heap.upd_ne _ _ (by omega)).trans ((Heap.upd_ne _ _ (by omega)).trans hw'), e4, by simp only; omega, by simp only; omega⟩ (by repeat (first | exact Env.le_nil _ | refine Env.le_cons rfl ?_)) (fun _ _ => rfl) (by simp only; omega) (Nat.le_refl _)
  · obtain rfl : j = many := by omega
    have hwas' := B.own _ hQw
    obtain ⟨F2, ⟨mm2, L2, R2⟩, hF2⟩ := B.rep
    have hb2 := R2.blk
    have hm2' := R2.mem
    rw [hmem] at hm2'
    refine awp_seq ?_
    refine awp_step dr0 (by decide +kernel) ?_
    simp only [go_sem, hb2]
    refine awp_block ?_
    refine awp_loopF (S := Nat) (fun i => [(0, .u16 fr), (1, .u16 to), (2, .i64 j), (8, .su (m1 + 1) 0 65536 1), (9, .pt (m1 + 2) 0), (10, .i64 q), (85, .sl mm2 0 65536 65536), (86, .i64 65536), (87, .i64 i)]) (fun _ => X) (fun _ => m) (fun i => i ≤ 65536) (fun i => 65536 - i)
      (fun s _ => ⟨B.wf, Env.okAt_of2 (by have := R2.low _ R2.fm; simp [AV.ok]; omega)⟩) ?_ 0 (Nat.zero_le _) (by repeat (first | exact Env.le_nil _ | refine Env.le_cons rfl ?_)) (fun _ _ => rfl) rfl
    intro i hi
    refine awp_step dr0 (by decide +kernel) ?_
    simp only [go_sem]
    refine awp_step dr0 (by decide +kernel) ?_
    simp only [go_sem]
    refine ⟨fun hlt => ?_, fun hge => ?_⟩
    · have hi1 : i < 65536 := by omega
      have u1 := u8_getD (l := memL (copyF fr.toNat to.toNat j)) (i := i) (by rw [memL_len]; exact hi1)
      rw [memL_getD _ hi1] at u1
      have u2 := u8_getD (l := memL copy0) (i := i) (by rw [memL_len]; exact hi1)
      rw [memL_getD _ hi1] at u2
      refine awp_ev dr0 (by decide +kernel) ?_
      simp only [go_sem, hm2', hwas, u1, u2, List.length_map, memL_len]
      have wt : wrap64 ((to.toNat : Int) + (j : Int)) = ((to.toNat + j : Nat) : Int) := by rw [wrap_id _ (by omega) (by omega)]; omega
      have w1 : wrap64 ((i : Int) + 1) = ((i + 1 : Nat) : Int) := by rw [wrap_id _ (by omega) (by omega)]; omega
      have fin : ∀ (V : Env), Env.le [(0, .u16 fr), (1, .u16 to), (2, .i64 j), (8, .su (m1 + 1) 0 65536 1), (9, .pt (m1 + 2) 0), (10, .i64 q), (85, .sl mm2 0 65536 65536), (86, .i64 65536), (87, .i64 (i + 1 : Nat))] V →
          Go.Ab.Ends (fun i : Nat => [(0, .u16 fr), (1, .u16 to), (2, .i64 j), (8, .su (m1 + 1) 0 65536 1), (9, .pt (m1 + 2) 0), (10, .i64 q), (85, .sl mm2 0 65536 65536), (86, .i64 65536), (87, .i64 i)]) (fun _ => X) (fun _ => m) (fun s' => 65536 - s' < 65536 - i ∧ s' ≤ 65536) m V X m :=
        fun V hV => Ends.mk (i + 1) ⟨by omega, by omega⟩ hV (fun _ _ => rfl) (Nat.le_refl _) (Nat.le_refl _)
      rw [wt, w1]
      refine ⟨by omega, hi1, by omega, hi1, fun a => ⟨fun b => ?_, fun b => ?_⟩, fun a => ?_⟩
      · have ez : wrap64 (wrap64 ((fr.toNat : Int) + (i : Int)) - (to.toNat : Int)) = ((fr.toNat + (i - to.toNat) : Nat) : Int) := by
          rw [wrap_id ((fr.toNat : Int) + (i : Int)) (by omega) (by omega), wrap_id _ (by omega) (by omega)]; omega
        have hk : fr.toNat + (i - to.toNat) < 65536 := by omega
        have u3 := u8_getD (l := memL copy0) (i := fr.toNat + (i - to.toNat)) (by rw [memL_len]; exact hk)
        rw [memL_getD _ hk] at u3
        have cf : copyF fr.toNat to.toNat j i = copy0 (fr.toNat + (i - to.toNat)) := if_pos ⟨by omega, by omega⟩
        rw [ez]
        refine ⟨by omega, by omega, by rw [Int.toNat_natCast]; exact hk, ?_⟩
        simp only [Int.toNat_natCast, u3, go_sem, cf, w1]
        exact fin _ (by repeat (first | exact Env.le_nil _ | refine Env.le_cons rfl ?_))
      · have cf : copyF fr.toNat to.toNat j i = copy0 i := if_neg (by omega)
        refine ⟨fun z => by rw [cf] at z; simp at z, fun _ => fin _ (by repeat (first | exact Env.le_nil _ | refine Env.le_cons rfl ?_))⟩
      · have cf : copyF fr.toNat to.toNat j i = copy0 i := if_neg (by omega)
        refine ⟨fun z => by rw [cf] at z; simp at z, fun _ => fin _ (by repeat (first | exact Env.le_nil _ | refine Env.le_cons rfl ?_))⟩
    · refine awp_ev dr0 (by decide +kernel) ?_
      simp only [go_sem, hx2]
      have en : BitVec.ofNat 16 (fr.toNat + j) = fr + BitVec.ofInt 16 (j : Int) := by
        show _ = fr + BitVec.ofNat 16 j
        apply BitVec.eq_of_toNat_eq
        simp only [BitVec.toNat_add, BitVec.toNat_ofNat]; omega
      have t1 : ((q : Int) == wrap64 (wrap64 (21 * (j : Int)) - 5)) = true := by
        rw [wrap_id (21 * (j : Int)) (by omega) (by omega), wrap_id _ (by omega) (by omega), hq, if_pos rfl]
        simp; omega
      have t2 : (x.pc == 2#16) = true := by rw [C.pc, if_pos rfl]; rfl
      have t3 : (x.h == BitVec.setWidth 8 ((fr + BitVec.ofInt 16 (j : Int)) >>> 8)) = true := by rw [C.h, en]; exact beq_self_eq_true _
      have t4 : (x.l == BitVec.setWidth 8 (fr + BitVec.ofInt 16 (j : Int))) = true := by rw [C.l, en]; exact beq_self_eq_true _
      have t5 : (x.b == 0#8) = true := by rw [C.b, Nat.sub_self]; rfl
      have t6 : (x.c == 0#8) = true := by rw [C.c, Nat.sub_self]; rfl
      simp only [go_sem, t1, t2, t3, t4, t5, t6]
      exact Fin.back wf h (fun i hi => by rw [B.fr i (by omega)]; exact f1' i hi) rfl
end Go.Proofs.Joy
namespace Go.Proofs.Joy
open Go.Ab Go.Proofs

set_option maxHeartbeats 1000000
set_option maxRecDepth 20000
theorem back_fields {c r : Rg} (p : ({ c with pc := r.pc, r := r.r, wz := r.wz, dly := r.dly } : Rg) = r) : c.a = r.a ∧ c.f = r.f ∧ c.b = r.b ∧ c.c = r.c ∧ c.d = r.d ∧ c.e = r.e ∧ c.h = r.h ∧ c.l = r.l ∧ c.a2 = r.a2 ∧ c.f2 = r.f2 ∧ c.b2 = r.b2 ∧ c.c2 = r.c2 ∧ c.d2 = r.d2 ∧ c.e2 = r.e2 ∧ c.h2 = r.h2 ∧ c.l2 = r.l2 ∧ c.ix = r.ix ∧ c.iy = r.iy ∧ c.sp = r.sp ∧ c.i = r.i ∧ c.im = r.im ∧ c.pre = r.pre ∧ c.iff1 = r.iff1 ∧ c.iff2 = r.iff2 ∧ c.hlt = r.hlt :=
  ⟨by have h := congrArg Rg.a p; exact h, by have h := congrArg Rg.f p; exact h, by have h := congrArg Rg.b p; exact h, by have h := congrArg Rg.c p; exact h, by have h := congrArg Rg.d p; exact h, by have h := congrArg Rg.e p; exact h, by have h := congrArg Rg.h p; exact h, by have h := congrArg Rg.l p; exact h, by have h := congrArg Rg.a2 p; exact h, by have h := congrArg Rg.f2 p; exact h, by have h := congrArg Rg.b2 p; exact h, by have h := congrArg Rg.c2 p; exact h, by have h := congrArg Rg.d2 p; exact h, by have h := congrArg Rg.e2 p; exact h, by have h := congrArg Rg.h2 p; exact h, by have h := congrArg Rg.l2 p; exact h, by have h := congrArg Rg.ix p; exact h, by have h := congrArg Rg.iy p; exact h, by have h := congrArg Rg.sp p; exact h, by have h := congrArg Rg.i p; exact h, by have h := congrArg Rg.im p; exact h, by have h := congrArg Rg.pre p; exact h, by have h := congrArg Rg.iff1 p; exact h, by have h := congrArg Rg.iff2 p; exact h, by have h := congrArg Rg.hlt p; exact h⟩
/-- A byte of a box is set by hand. -/
theorem bx_poke {b : Nat} {s : Bx} {H : Heap} {n : Nat} {F : Nat → Prop} {mm : Nat} {L : AV} (R : BxAt b s H n F mm L) (mem' : List (BitVec 8)) (hl : mem'.length = 65536) : BxAt b ⟨mem', s.log⟩ (H.upd mm (some ⟨mem'.map .u8, 5, false⟩)) n F mm L := by
  refine ⟨hl, by rw [Heap.upd_ne _ _ R.bm]; exact R.blk, Heap.upd_same _ _ _, ?_, R.bm, R.fb, R.fm, R.low⟩
  rcases R.log with h | ⟨q, e1, e2, e3, e4, e5⟩
  · exact .inl h
  · exact .inr ⟨q, e1, by rw [Heap.upd_ne _ _ e4]; exact e2, e3, e4, e5⟩
theorem calls_walk (to : BitVec 16) (r : Rg) (H : Heap) (n : Nat) (K : AV → Heap → Nat → Prop) (h : K (.bo true) H n) : ACalls Try.prog 5 [.u16 to, .ag r.cells] H n K := by
  refine ACalls.of_awp Try.func5 rfl (by decide +kernel) (show 2 ≤ 125 by decide) (by simp) fun wf => ?_
  have hrl := c_right r
  simp only [Rg.cells] at hrl ⊢
  refine awp_step dr0 (by decide +kernel) ?_
  simp only [go_sem, Try.f5]
  refine awp_step dr0 (by decide +kernel) ?_
  simp only [go_sem]
  refine c_alive _ _ _ ?_
  simp only [go_sem]
  have done : ∀ Y : Heap, (∀ i, i < n → Y i = H i) → ∀ k, Go.Ab.Fin n (.bo true) Y k K := fun Y hY k => Fin.back wf h hY rfl
  refine awp_seqF (S := Unit) (fun _ => [(0, .u16 to), (3, .pt n 0)]) (fun _ => H.upd n (some ⟨r.cells, 25, false⟩)) (fun _ => n + 1) (fun _ => 100 ≤ to.toNat ∧ to.toNat ≤ 0x7000 ∧ r.hlt = false ∧ r.pre = 0#8 ∧ 0x8010 ≤ r.sp.toNat ∧ r.pc.toNat ≤ 50)
    (fun _ _ => ⟨Heap.wf_upd wf (cells_ok ⟨r, 0#8⟩ _), Env.okAt_of2 (by simp [AV.ok])⟩) ?_ ?_
  · refine awp_ev dr0 (by decide +kernel) ?_
    simp only [go_sem]
    have hN : ∀ i, i < n → (H.upd n (some ⟨r.cells, 25, false⟩)) i = H i := fun i hi => Heap.upd_ne _ _ (by omega)
    refine ⟨fun a1 => ⟨fun a2 => ?_, fun _ => done _ hN _⟩, fun _ => done _ hN _⟩
    refine hrl _ _ _ ?_
    simp only [go_sem]
    refine ⟨fun a3 => ⟨fun a4 => ⟨fun a5 => ⟨fun a6 => ⟨fun _ => done _ hN _, fun a7 => ?_⟩, fun _ => done _ hN _⟩, fun _ => done _ hN _⟩, fun _ => done _ hN _⟩, fun _ => done _ hN _⟩
    simp only [BitVec.lt_def, BitVec.toNat_ofNat] at a1 a2 a6 a7
    exact Ends.mk () ⟨by omega, by omega, a4, by simpa using a5, by omega, by omega⟩ (by repeat (first | exact Env.le_nil _ | refine Env.le_cons rfl ?_)) (fun _ _ => rfl) (Nat.le_refl _) (Nat.le_refl _)
  rintro - ⟨h1, h2, h3, h4, h5, h6⟩
  refine awp_step dr0 (by decide +kernel) ?_
  simp only [go_sem, Rg.cells]
  refine c_box r.pc [0xCD#8, loS to, hiS to] 0#8 _ _ _ _ (bytesIn.whole (Heap.upd_same _ _ _) rfl (Nat.le_refl _)) (by simp [AV.ok]) (by simp) fun b H1 m1 F1 w1 l1 r1 o1 f1 => ?_
  obtain ⟨mm, L, R1⟩ := r1
  have hb := R1.blk
  have hmm := R1.mem
  simp only [go_sem]
  refine awp_step dr0 (by decide +kernel) ?_
  simp only [go_sem, hb, hmm, List.length_map]
  have lb := R1.low b R1.fb
  have lm := R1.low mm R1.fm
  have hto := to.isLt
  have hlen : (boxS r.pc [0xCD#8, loS to, hiS to] 0#8).mem.length = 65536 := memL_len _
  refine ⟨by omega, by rw [hlen]; omega, ?_⟩
  have eset : (List.map AV.u8 (boxS r.pc [0xCD#8, loS to, hiS to] 0#8).mem).set to.toNat (.u8 0xC9#8) = (memL (callF r.pc to)).map .u8 := by
    rw [← List.map_set]
    show ((memL _).set _ _).map _ = _
    rw [memL_set]; rfl
  have R2 := bx_poke R1 (memL (callF r.pc to)) (memL_len _)
  rw [eset]
  have w2 : (H1.upd mm (some ⟨(memL (callF r.pc to)).map .u8, 5, false⟩)).wf m1 := Heap.wf_set w1 lm (u8s_ok _ _)
  have f2 : ∀ i, i < n + 2 → (H1.upd mm (some ⟨(memL (callF r.pc to)).map .u8, 5, false⟩)) i = H1 i := fun i hi => Heap.upd_ne _ _ (by have := o1 mm R1.fm; omega)
  have hrn : (H1.upd mm (some ⟨(memL (callF r.pc to)).map .u8, 5, false⟩)) n = some ⟨r.cells, 25, false⟩ := by rw [f2 n (by omega), f1 n (by omega), Heap.upd_ne _ _ (by omega), Heap.upd_same]; rfl
  have hin : ∀ i, i < n → (H1.upd mm (some ⟨(memL (callF r.pc to)).map .u8, 5, false⟩)) i = H i := fun i hi => by rw [f2 i (by omega), f1 i (by omega), Heap.upd_ne _ _ (by omega), Heap.upd_ne _ _ (by omega)]
  have B0 : BS b (n + 2) H1 (fun _ => False) ⟨memL (callF r.pc to), []⟩ (H1.upd mm (some ⟨(memL (callF r.pc to)).map .u8, 5, false⟩)) m1 := BS.start w2 l1 ⟨mm, L, R2⟩ o1 f2
  generalize hX : H1.upd mm (some ⟨(memL (callF r.pc to)).map .u8, 5, false⟩) = X at B0 hrn hin
  have hrn2 := hrn
  simp only [Rg.cells] at hrn2
  obtain ⟨a, c, g1, g2, s1, s2, p1, p2', p3, p4, p5⟩ := calls_plain to r h1 h2 h3 h4 h5 h6 []
  refine awp_step dr0 (by decide +kernel) ?_
  simp only [go_sem, hrn2]
  refine B0.step r (by show 6 ≤ 4294967296 - 0; omega) fun y p s' X' m' e3 lf B1 hle hq => ?_
  obtain ⟨l1, s1⟩ := s1
  rw [run_mem, s1] at e3
  simp only [Prod.mk.injEq] at e3
  obtain ⟨⟨rfl, rfl⟩, rfl⟩ := e3
  have hH1n : H1 n = some ⟨r.cells, 25, false⟩ := (f2 n (by omega)).symm.trans ((congrFun hX n).trans hrn)
  have B2 := B1.alloc ⟨a.cells, 25, false⟩ (cells_ok ⟨a, 0#8⟩ _)
  simp only [go_sem, Rg.cells]
  refine awp_step dr0 (by decide +kernel) ?_
  simp only [go_sem]
  obtain ⟨l2, s2⟩ := s2 l1
  refine B2.step a (by have : bxLeft ⟨memL (callF r.pc to), []⟩ = 4294967296 := rfl; omega) fun z p2 s'' X2 m2 e4 lf2 B3 hle2 hq2 => ?_
  rw [run_mem, s2] at e4
  simp only [Prod.mk.injEq] at e4
  obtain ⟨⟨rfl, rfl⟩, rfl⟩ := e4
  have kn := (B3.fr n (by omega)).trans hH1n
  have km := (hq2 m' (.inr rfl)).trans (Heap.upd_same X' _ _)
  simp only [Rg.cells] at kn km
  have en := fun Y => (Heap.upd_ne X2 Y (show n ≠ m2 by omega)).trans kn
  have em := fun Y => (Heap.upd_ne X2 Y (show m' ≠ m2 by omega)).trans km
  have en2 := fun Y Z => (Heap.upd_ne (X2.upd m2 Y) Z (show n ≠ m2 + 1 by omega)).trans (en Y)
  have em2 := fun Y Z => (Heap.upd_ne (X2.upd m2 Y) Z (show m' ≠ m2 + 1 by omega)).trans (em Y)
  have ez2 := fun Y Z => (Heap.upd_ne (X2.upd m2 Y) Z (show m2 ≠ m2 + 1 by omega)).trans (Heap.upd_same X2 m2 Y)
  simp only [go_sem, Rg.cells]
  refine awp_ev dr0 (by decide +kernel) ?_
  simp only [go_sem, Rg.cells, en, em, en2, em2, ez2]
  obtain ⟨v0, v1, v2, v3, v4, v5, v6, v7, v8, v9, v10, v11, v12, v13, v14, v15, v16, v17, v18, v19, v20, v21, v22, v23, v24⟩ := back_fields p5
  have t1 : (a.pc == to) = true := by rw [p1]; exact beq_self_eq_true _
  have t2 : (a.sp == r.sp - 2#16) = true := by rw [p2']; exact beq_self_eq_true _
  have t3 : (c.pc == r.pc + 3#16) = true := by rw [p3]; exact beq_self_eq_true _
  have t4 : (c.wz == c.pc) = true := by rw [p3, p4]; exact beq_self_eq_true _
  simp only [go_sem, t1, t2, t3, t4, v0, v1, v2, v3, v4, v5, v6, v7, v8, v9, v10, v11, v12, v13, v14, v15, v16, v17, v18, v19, v20, v21, v22, v23, v24]
  exact done _ (fun i hi => by rw [Heap.upd_ne _ _ (by omega), Heap.upd_ne _ _ (by omega), B3.fr i (by omega), ← f2 i (by omega), congrFun hX i]; exact hin i hi) _
end Go.Proofs.Joy
namespace Go.Proofs.Joy
open Go.Ab Go.Proofs

set_option maxHeartbeats 1000000
set_option maxRecDepth 20000
theorem back_fields2 {k : Nat} {x r : Rg} (p : backR k r x = r) : x.a = r.a ∧ x.b = r.b ∧ x.c = r.c ∧ x.d = r.d ∧ x.e = r.e ∧ x.h = r.h ∧ x.l = r.l ∧ x.a2 = r.a2 ∧ x.f2 = r.f2 ∧ x.b2 = r.b2 ∧ x.c2 = r.c2 ∧ x.d2 = r.d2 ∧ x.e2 = r.e2 ∧ x.h2 = r.h2 ∧ x.l2 = r.l2 ∧ x.ix = r.ix ∧ x.iy = r.iy ∧ x.sp = r.sp ∧ x.i = r.i ∧ x.im = r.im ∧ x.pre = r.pre ∧ x.iff1 = r.iff1 ∧ x.iff2 = r.iff2 ∧ x.hlt = r.hlt ∧ (k ≠ 7 → x.f = r.f) :=
  ⟨by have h := congrArg Rg.a p; exact h, by have h := congrArg Rg.b p; exact h, by have h := congrArg Rg.c p; exact h, by have h := congrArg Rg.d p; exact h, by have h := congrArg Rg.e p; exact h, by have h := congrArg Rg.h p; exact h, by have h := congrArg Rg.l p; exact h, by have h := congrArg Rg.a2 p; exact h, by have h := congrArg Rg.f2 p; exact h, by have h := congrArg Rg.b2 p; exact h, by have h := congrArg Rg.c2 p; exact h, by have h := congrArg Rg.d2 p; exact h, by have h := congrArg Rg.e2 p; exact h, by have h := congrArg Rg.h2 p; exact h, by have h := congrArg Rg.l2 p; exact h, by have h := congrArg Rg.ix p; exact h, by have h := congrArg Rg.iy p; exact h, by have h := congrArg Rg.sp p; exact h, by have h := congrArg Rg.i p; exact h, by have h := congrArg Rg.im p; exact h, by have h := congrArg Rg.pre p; exact h, by have h := congrArg Rg.iff1 p; exact h, by have h := congrArg Rg.iff2 p; exact h, by have h := congrArg Rg.hlt p; exact h, fun hk => by have h := congrArg Rg.f p; unfold backR at h; dsimp only at h; rw [if_neg hk] at h; exact h⟩
/-- The programs, as slices. -/
def bkC (n : Nat) : List AV := [.sl (n + 1) 0 2 2, .sl (n + 2) 0 2 2, .sl (n + 3) 0 2 2, .sl (n + 4) 0 2 2, .sl (n + 5) 0 2 2, .sl (n + 6) 0 2 2, .sl (n + 7) 0 2 2, .sl (n + 8) 0 2 2, .sl (n + 9) 0 2 2, .sl (n + 10) 0 4 4]
theorem bkC_len (n : Nat) : (bkC n).length = 10 := rfl
theorem bkC_get (n : Nat) {k : Nat} (hk : k < 10) : (bkC n).getD k .junk = .sl (n + 1 + k) 0 (backP k).length (backP k).length := by
  rcases (by omega : k = 0 ∨ k = 1 ∨ k = 2 ∨ k = 3 ∨ k = 4 ∨ k = 5 ∨ k = 6 ∨ k = 7 ∨ k = 8 ∨ k = 9) with rfl | rfl | rfl | rfl | rfl | rfl | rfl | rfl | rfl | rfl <;> rfl
theorem back_walk (r : Rg) (ni : Int) (H : Heap) (n : Nat) (K : AV → Heap → Nat → Prop) (h : K (.bo true) H n) : ACalls Try.prog 3 [.ag r.cells, .i64 ni] H n K := by
  refine ACalls.of_awp Try.func3 rfl (by decide +kernel) (show 2 ≤ 102 by decide) (by simp) fun wf => ?_
  have hrl := c_right r
  simp only [Rg.cells] at hrl ⊢
  refine awp_step dr3 (by decide +kernel) ?_
  simp only [go_sem, Try.f3]
  refine awp_step dr3 (by decide +kernel) ?_
  simp only [go_sem]
  refine c_alive _ _ _ ?_
  simp only [go_sem]
  have done : ∀ Y : Heap, (∀ i, i < n → Y i = H i) → ∀ k, Go.Ab.Fin n (.bo true) Y k K := fun Y hY k => Fin.back wf h hY rfl
  refine awp_seqF (S := Unit) (fun _ => [(1, .i64 ni), (2, .pt n 0)]) (fun _ => H.upd n (some ⟨r.cells, 25, false⟩)) (fun _ => n + 1) (fun _ => r.hlt = false ∧ r.pre = 0#8 ∧ 300 ≤ r.sp.toNat ∧ r.sp.toNat ≤ 60000 ∧ r.pc.toNat ≤ 200)
    (fun _ _ => ⟨Heap.wf_upd wf (cells_ok ⟨r, 0#8⟩ _), Env.okAt_of2 (by simp [AV.ok])⟩) ?_ ?_
  · refine awp_ev dr3 (by decide +kernel) ?_
    simp only [go_sem]
    have hN : ∀ i, i < n → (H.upd n (some ⟨r.cells, 25, false⟩)) i = H i := fun i hi => Heap.upd_ne _ _ (by omega)
    refine hrl _ _ _ ?_
    simp only [go_sem]
    refine ⟨fun a3 => ⟨fun a4 => ⟨fun a5 => ⟨fun a6 => ⟨fun a7 => ⟨fun _ => done _ hN _, fun a8 => ?_⟩, fun _ => done _ hN _⟩, fun _ => done _ hN _⟩, fun _ => done _ hN _⟩, fun _ => done _ hN _⟩, fun _ => done _ hN _⟩
    simp only [BitVec.lt_def, BitVec.toNat_ofNat] at a6 a7 a8
    exact Ends.mk () ⟨a5, by simpa using a4, by omega, by omega, by omega⟩ (by repeat (first | exact Env.le_nil _ | refine Env.le_cons rfl ?_)) (fun _ _ => rfl) (Nat.le_refl _) (Nat.le_refl _)
  rintro - ⟨h1, h2, h3, h4, h5⟩
  refine awp_step dr3 (by decide +kernel) ?_
  simp only [go_sem]
  refine awp_gen (fun X => X.wf (n + 12) ∧ X n = some ⟨r.cells, 25, false⟩ ∧ X (n + 11) = some ⟨bkC n, 28, false⟩ ∧ (∀ k, k < 10 → X (n + 1 + k) = some ⟨(backP k).map .u8, 5, false⟩) ∧ ∀ i, i < n → X i = H i) ?_ ?_
  · refine ⟨?_, ?_, Heap.upd_same _ _ _, fun k hk => ?_, fun i hi => ?_⟩
    · repeat' refine Heap.wf_upd ?_ ?_
      all_goals first | exact wf | exact cells_ok ⟨r, 0#8⟩ _ | (simp [AV.ok]; try omega)
    · repeat (rw [Heap.upd_ne _ _ (by omega)])
      rw [Heap.upd_same]
    · rcases (by omega : k = 0 ∨ k = 1 ∨ k = 2 ∨ k = 3 ∨ k = 4 ∨ k = 5 ∨ k = 6 ∨ k = 7 ∨ k = 8 ∨ k = 9) with rfl | rfl | rfl | rfl | rfl | rfl | rfl | rfl | rfl | rfl
      all_goals
        repeat (rw [Heap.upd_ne _ _ (by omega)])
        rw [Heap.upd_same]; rfl
    · repeat (rw [Heap.upd_ne _ _ (by omega)])
  rintro X ⟨xw, xr, xc, xk, xh⟩
  refine awp_step dr3 (by decide +kernel) ?_
  simp only [go_sem]
  have q1 : -10 < ni.tmod 10 := Int.lt_tmod_of_pos ni (by decide)
  have q2 : ni.tmod 10 < 10 := Int.tmod_lt_of_pos ni (by decide)
  refine awp_seqF (S := Nat) (fun k => [(5, .sl (n + 11) 0 10 10), (6, .i64 k), (2, .pt n 0)]) (fun _ => X) (fun _ => n + 12) (fun k => k < 10) (fun _ _ => ⟨xw, Env.okAt_of2 (by simp [AV.ok])⟩) ?_ ?_
  · refine awp_ev dr0 (by decide +kernel) ?_
    simp only [go_sem]
    generalize ni.tmod 10 = z at q1 q2 ⊢
    refine ⟨fun a => ?_, fun a => ?_⟩
    · have e : wrap64 (z + 10) = ((z + 10).toNat : Int) := by rw [wrap_id _ (by omega) (by omega)]; omega
      rw [e]
      exact Ends.mk (z + 10).toNat (by omega) (by repeat (first | exact Env.le_nil _ | refine Env.le_cons rfl ?_)) (fun _ _ => rfl) (Nat.le_refl _) (Nat.le_refl _)
    · have e : z = (z.toNat : Int) := by omega
      rw [e]
      exact Ends.mk z.toNat (by omega) (by repeat (first | exact Env.le_nil _ | refine Env.le_cons rfl ?_)) (fun _ _ => rfl) (Nat.le_refl _) (Nat.le_refl _)
  intro k hk
  have xr2 := xr
  simp only [Rg.cells] at xr2
  have hg := bkC_get n hk
  refine awp_step dr3 (by decide +kernel) ?_
  simp only [go_sem, xr2, xc, hg, bkC_len]
  have hlen : (backP k).length ≤ 4 := by
    unfold backP
    repeat (first | decide | split)
  refine ⟨by omega, hk, ?_⟩
  refine c_box r.pc (backP k) 3#8 _ _ _ _ (bytesIn.whole (by rw [← Nat.add_assoc]; exact xk k hk) rfl (Nat.le_refl _)) (by simp [AV.ok]; omega) (by omega) fun b H1 m1 F1 w1 l1 r1 o1 f1 => ?_
  have z1 : H1 n = some ⟨r.cells, 25, false⟩ := (f1 n (by omega)).trans xr
  have z2 : H1 (n + 11) = some ⟨bkC n, 28, false⟩ := (f1 (n + 11) (by omega)).trans xc
  have f1' : ∀ i, i < n → H1 i = H i := fun i hi => (f1 i (by omega)).trans (xh i hi)
  have z1' := z1
  simp only [Rg.cells] at z1'
  have en := fun Y => (Heap.upd_ne H1 Y (show n ≠ m1 by omega)).trans z1'
  have ec := fun Y => (Heap.upd_ne H1 Y (show n + 11 ≠ m1 by omega)).trans z2
  simp only [go_sem]
  refine awp_step dr3 (by decide +kernel) ?_
  simp only [go_sem, z1']
  have B0 : BS b (n + 12) H1 (fun _ => False) (boxS r.pc (backP k) 3#8) H1 m1 := BS.start w1 l1 r1 o1 (fun _ _ => rfl)
  have B1 := B0.alloc ⟨r.cells, 25, false⟩ (cells_ok ⟨r, 0#8⟩ _)
  generalize hQ : (fun i => False ∨ i = m1) = Q at B1
  have hQm : Q m1 := by rw [← hQ]; exact .inr rfl
  refine awp_seq ?_
  refine awp_step dr3 (by decide +kernel) ?_
  simp only [go_sem, ec, hg, bkC_len]
  refine ⟨by omega, hk, ?_⟩
  refine awp_block ?_
  refine awp_loopF (S := StS) (fun s => [(2, .pt n 0), (6, .i64 k), (7, .pt b 0), (8, .pt m1 0), (71, .i64 (backP k).length), (72, .i64 s.j)]) (fun s => s.H) (fun s => s.m)
    (fun s => BS b (n + 12) H1 Q s.s s.H s.m ∧ s.H m1 = some ⟨s.x.cells, 25, false⟩ ∧ (stepsE s.j r).run bxO (boxS r.pc (backP k) 3#8) = ((s.x, s.q), s.s) ∧ 4294967296 ≤ bxLeft s.s + 6 * s.j ∧ s.j ≤ (backP k).length) (fun s => (backP k).length - s.j)
    (fun s ⟨B, _⟩ => ⟨B.wf, Env.okAt_of2 (by have := B.own m1 hQm; have := B.bm; simp [AV.ok]; omega)⟩) ?_ ⟨0, r, 0, _, _, m1 + 1⟩ ⟨B1, Heap.upd_same _ _ _, rfl, left_box0 _ _ _, Nat.zero_le _⟩ (by repeat (first | exact Env.le_nil _ | refine Env.le_cons rfl ?_)) (fun _ _ => rfl) rfl
  rintro ⟨j, x, q, s, Y, m⟩ ⟨B, hx, e, hl, hj⟩
  simp only at B hx e hl hj ⊢
  have hm := B.own m1 hQm
  have hx2 := hx
  simp only [Rg.cells] at hx2
  refine awp_step dr3 (by decide +kernel) ?_
  simp only [go_sem]
  refine awp_step dr3 (by decide +kernel) ?_
  simp only [go_sem]
  refine ⟨fun hlt => ?_, fun hge => ?_⟩
  · refine awp_ev dr3 (by decide +kernel) ?_
    simp only [go_sem, hx2]
    refine B.step x (by omega) fun y p s' X' m' e3 lf B' hle hq' => ?_
    have hy := (hq' m1 hQm).trans hx
    simp only [Rg.cells] at hy
    simp only [go_sem, Rg.cells, hy]
    have e4 := stepsE_next e e3
    have w1 : wrap64 ((j : Int) + 1) = ((j + 1 : Nat) : Int) := by rw [wrap_id _ (by omega) (by omega)]; omega
    rw [w1]
    refine Ends.mk (⟨j + 1, y, q + p, s', _, m'⟩ : StS) ⟨by simp only; omega, B'.put hQm ⟨y.cells, 25, false⟩ (cells_ok ⟨y, 0#8⟩ _), Heap.upd_same _ _ _, e4, by simp only; omega, by simp only; omega⟩ (by repeat (first | exact Env.le_nil _ | refine Env.le_cons rfl ?_)) (fun _ _ => rfl) (by simp only; omega) (Nat.le_refl _)
  · have hjn : j = (backP k).length := by omega
    subst hjn
    obtain ⟨x2, q2, f2, l2, e2, hb⟩ := back_plain k hk r h1 h2 h3 h4 h5
    obtain ⟨rfl, -, -⟩ := steps_eq e e2
    have yn := (B.fr n (by omega)).trans z1'
    have yn1 := fun Z => (Heap.upd_ne Y Z (show n ≠ m1 by omega)).trans yn
    refine awp_ev dr3 (by decide +kernel) ?_
    simp only [go_sem, hx2, yn, yn1]
    obtain ⟨v0, v1, v2, v3, v4, v5, v6, v7, v8, v9, v10, v11, v12, v13, v14, v15, v16, v17, v18, v19, v20, v21, v22, v23, vf⟩ := back_fields2 hb
    refine ⟨fun a => ?_, fun a => ?_⟩
    · simp only [go_sem, v0, v1, v2, v3, v4, v5, v6, v7, v8, v9, v10, v11, v12, v13, v14, v15, v16, v17, v18, v19, v20, v21, v22, v23]
      exact done _ (fun i hi => by rw [Heap.upd_ne _ _ (by omega), B.fr i (by omega)]; exact f1' i hi) _
    · have vf' := vf (fun e => by rw [e] at a; cases a)
      simp only [go_sem, vf', v0, v1, v2, v3, v4, v5, v6, v7, v8, v9, v10, v11, v12, v13, v14, v15, v16, v17, v18, v19, v20, v21, v22, v23]
      exact done _ (fun i hi => by rw [Heap.upd_ne _ _ (by omega), B.fr i (by omega)]; exact f1' i hi) _
end Go.Proofs.Joy
