/- Parts of the proof: contracts of the seat's functions. -/
import Derived.Test.YtofkkcflpkcdaaaJoyX4
set_option linter.unusedSimpArgs false
set_option linter.unusedVariables false
namespace Go.Proofs.Joy
open Go.Ab Go.Proofs

set_option maxHeartbeats 4000000
set_option maxRecDepth 20000
section
variable {σ : Type} {W : WC Try.prog σ} {t : TypeId} {H0 : Heap} {n0 : Nat} {F0 : Nat → Prop} {k : Nat} {c : Core} {s : σ} {H : Heap} {n : Nat} {K : AV → Heap → Nat → Prop} (M : MT W t)
include M
theorem m_bits (A : AtC W t H0 n0 F0 k c s H n) (op v fr : BitVec 8) (h : ∀ H' n', AtC W t H0 n0 F0 k (c.setF (bitsS op v fr c.r.f).2.2) s H' n' → K (.tu [.u8 (bitsS op v fr c.r.f).1, .bo (bitsS op v fr c.r.f).2.1]) H' n') : ACalls Try.prog 39 [.pt k 0, .ag [.i64 (xO op), .i64 (yO op), .i64 (zO op), .i64 (yO op / 2 : Nat), .i64 (yO op % 2 : Nat)], .u8 v, .u8 fr] H n K := by
  refine ACalls.of_awp Try.func39 rfl (by decide +kernel) (show 4 ≤ 58 by decide) (by simp) fun wf => ?_
  obtain ⟨F1, A, up⟩ := A.boxed ⟨[.i64 (xO op), .i64 (yO op), .i64 (zO op), .i64 (yO op / 2 : Nat), .i64 (yO op % 2 : Nat)], 53, false⟩ (by simp [AV.ok])
  have hb := A.blk29
  have hk := (up A).2.2.1
  have hu := fun X Y => Heap.upd_ne X Y hk
  have mr := M.r
  have mw := M.w
  have mi := M.i
  have mo := M.o
  refine awp_ev dr39 (by decide +kernel) ?_
  unfold bitsS at h
  simp only [go_sem, Try.f39, hb, hu]
  (repeat' first | (((with_reducible refine And.intro ?_ ?_) <;> intro e <;> (first | (with_reducible replace e := nbT e) | (with_reducible replace e := nbF e) | (with_reducible replace e := dT e) | (with_reducible replace e := dF e) | (with_reducible replace e := iT e) | (with_reducible replace e := iF e) | skip) <;> (try (exfalso; omega)))) | ((with_reducible first | refine c_join _ _ _ _ _ ?_ | refine c_split _ _ _ _ ?_ | refine c_move _ _ _ _ _ ?_ | refine c_cut _ _ _ _ ?_ | refine c_do _ _ _ _ _ _ _ ?_ | refine c_daa _ _ _ _ _ ?_ | refine c_flip _ _ _ _ _ _ ?_ | refine c_quick _ _ _ _ _ _ ?_ | refine c_add16 _ _ _ _ _ _ ?_ | refine c_adc16 _ _ _ _ _ _ ?_ | refine c_sbc16 _ _ _ _ _ _ ?_ | refine c_rot _ _ _ _ _ _ ?_ | refine c_bitt _ _ _ _ _ _ _ ?_ | refine c_put _ _ _ _ _ _ ?_ | refine c_digits _ _ _ _ _ _ _ ?_ | refine c_rload _ _ _ _ _ _ _ ?_ | refine c_rseek _ _ _ _ _ _ _ ?_ | refine c_rport _ _ _ _ _ _ ?_ | refine c_inc _ _ _ _ _ ?_ | refine c_dec _ _ _ _ _ ?_ | refine c_shape _ _ _ _ ?_ | refine c_sub _ _ _ _ _ _ ?_ | refine c_pushed _ _ _ _ ?_); ((have hb := A.blk29; have hx := (up A).2.1; simp only [go_sem, hb, hx, hu, mr, mw, mi, mo, Rg.cells]))) | ((first | refine c_longer _ 7 15 _ _ _ ?_ | refine c_longer _ 10 15 _ _ _ ?_ | refine c_longer _ 11 19 _ _ _ ?_ | refine c_swap ⟨_, _, _, _, _, _, _, _, _, _, _, _, _, _, _, _, _, _, _, _, _, _, _, _, _, _, _, _, _⟩ _ _ _ _ ?_ | refine c_tick ⟨_, _, _, _, _, _, _, _, _, _, _, _, _, _, _, _, _, _, _, _, _, _, _, _, _, _, _, _, _⟩ _ _ _ ?_ | refine c_setpair ⟨_, _, _, _, _, _, _, _, _, _, _, _, _, _, _, _, _, _, _, _, _, _, _, _, _, _, _, _, _⟩ 2 (by decide) _ _ _ _ ?_ | refine m_pair A 2 (by decide) ?_ | refine m_pair A 0 (by decide) ?_ | refine m_pair A 1 (by decide) ?_ | refine m_pair A _ (by (first | decide | exact pushed_lt (by have := yO_lt op; omega) | exact yO_lt op | exact zO_lt op | (have := yO_lt op; have := zO_lt op; omega))) ?_ | refine m_one A _ (by (first | decide | exact pushed_lt (by have := yO_lt op; omega) | exact yO_lt op | exact zO_lt op | (have := yO_lt op; have := zO_lt op; omega))) ?_ | refine c_met _ _ (by (first | decide | exact pushed_lt (by have := yO_lt op; omega) | exact yO_lt op | exact zO_lt op | (have := yO_lt op; have := zO_lt op; omega))) _ _ _ ?_ | refine m_pair A.put29 2 (by decide) ?_ | refine m_pair A.put29 0 (by decide) ?_ | refine m_pair A.put29 1 (by decide) ?_ | refine m_pair A.put29 _ (by (first | decide | exact pushed_lt (by have := yO_lt op; omega) | exact yO_lt op | exact zO_lt op | (have := yO_lt op; have := zO_lt op; omega))) ?_ | refine m_one A.put29 _ (by (first | decide | exact pushed_lt (by have := yO_lt op; omega) | exact yO_lt op | exact zO_lt op | (have := yO_lt op; have := zO_lt op; omega))) ?_); ((have hb := A.blk29; have hx := (up A).2.1; simp only [go_sem, hb, hx, hu, mr, mw, mi, mo, Rg.cells]))) | ((first | refine m_next M A (by omega) fun v s H n r lf A => ?_ | refine m_next M A.put29 (by omega) fun v s H n r lf A => ?_ | refine m_fetch M A (by omega) fun v c s H n r lf A => ?_ | refine m_fetch M A.put29 (by omega) fun v c s H n r lf A => ?_ | refine m_word M A (by omega) fun v c s H n r lf A => ?_ | refine m_word M A.put29 (by omega) fun v c s H n r lf A => ?_ | refine m_load M A _ (by omega) fun v s H n r lf A => ?_ | refine m_load M A.put29 _ (by omega) fun v s H n r lf A => ?_ | refine m_store M A _ _ (by omega) fun s H n r lf A => ?_ | refine m_store M A.put29 _ _ (by omega) fun s H n r lf A => ?_ | refine m_push M A _ (by omega) fun c s H n r lf A => ?_ | refine m_push M A.put29 _ (by omega) fun c s H n r lf A => ?_ | refine m_pop M A (by omega) fun v c s H n r lf A => ?_ | refine m_pop M A.put29 (by omega) fun v c s H n r lf A => ?_ | refine m_pointed M A (by omega) fun v p w q s H n r lf A => ?_ | refine m_pointed M A.put29 (by omega) fun v p w q s H n r lf A => ?_ | refine m_setpair A 2 (by decide) _ fun H n A => ?_ | refine m_setpair A.put29 2 (by decide) _ fun H n A => ?_ | refine m_setpair A 1 (by decide) _ fun H n A => ?_ | refine m_setpair A.put29 1 (by decide) _ fun H n A => ?_ | refine m_setpair A 0 (by decide) _ fun H n A => ?_ | refine m_setpair A.put29 0 (by decide) _ fun H n A => ?_ | refine m_setpair A _ (by (first | decide | exact pushed_lt (by have := yO_lt op; omega) | exact yO_lt op | exact zO_lt op | (have := yO_lt op; have := zO_lt op; omega))) _ fun H n A => ?_ | refine m_setpair A.put29 _ (by (first | decide | exact pushed_lt (by have := yO_lt op; omega) | exact yO_lt op | exact zO_lt op | (have := yO_lt op; have := zO_lt op; omega))) _ fun H n A => ?_ | refine m_setone A _ (by (first | decide | exact pushed_lt (by have := yO_lt op; omega) | exact yO_lt op | exact zO_lt op | (have := yO_lt op; have := zO_lt op; omega))) _ fun H n A => ?_ | refine m_setone A.put29 _ (by (first | decide | exact pushed_lt (by have := yO_lt op; omega) | exact yO_lt op | exact zO_lt op | (have := yO_lt op; have := zO_lt op; omega))) _ fun H n A => ?_ | refine m_to A _ fun H n A => ?_ | refine m_to A.put29 _ fun H n A => ?_ | refine m_told A _ fun H n A => ?_ | refine m_told A.put29 _ fun H n A => ?_ | refine A.rd (by omega) fun v s H n r lf A => ?_ | refine A.put29.rd (by omega) fun v s H n r lf A => ?_ | refine A.wr (by omega) fun s H n r lf A => ?_ | refine A.put29.wr (by omega) fun s H n r lf A => ?_ | refine A.ip (by decide) (by omega) fun v s H n r lf A => ?_ | refine A.put29.ip (by decide) (by omega) fun v s H n r lf A => ?_ | refine A.op (by decide) (by omega) fun s H n r lf A => ?_ | refine A.put29.op (by decide) (by omega) fun s H n r lf A => ?_); ((have hb := A.blk29; have hx := (up A).2.1; simp only [go_sem, hb, hx, hu, mr, mw, mi, mo, Rg.cells]))) | ((first | refine m_bits M A _ _ _ fun H n A => ?_); ((have hb := A.blk29; have hx := (up A).2.1; simp only [go_sem, hb, hx, hu, mr, mw, mi, mo, Rg.cells]))) | ((first | refine m_bits M A.put29 _ _ _ fun H n A => ?_); ((have hb := A.blk29; have hx := (up A).2.1; simp only [go_sem, hb, hx, hu, mr, mw, mi, mo, Rg.cells]))))
  · have e0 : xO op = 0 := by omega
    simp +decide only [e0, if_true, if_false] at h
    exact Fin.keep (h _ _ (up A.put29).1)
  · have e0 : xO op = 1 := by omega
    simp +decide only [e0, if_true, if_false] at h
    exact Fin.keep (h _ _ (up A.put29).1)
  · have h4 := xO_lt op
    have hx : xO op = 2 ∨ xO op = 3 := by omega
    rcases hx with hx | hx
    · simp +decide only [hx, if_true, if_false] at h
      have e3 : ∀ b : Bool, b = ((xO op : Int) == 3) → b = false := fun b hb => by rw [hb, hx]; rfl
      have e9 := h _ _ (up A).1
      rw [e3 _ rfl]
      exact Fin.keep e9
    · simp +decide only [hx, if_true, if_false] at h
      have e3 : ∀ b : Bool, b = ((xO op : Int) == 3) → b = true := fun b hb => by rw [hb, hx]; rfl
      have e9 := h _ _ (up A).1
      rw [e3 _ rfl]
      exact Fin.keep e9
end
section
variable {σ : Type} {W : WC Try.prog σ} {t : TypeId} {H0 : Heap} {n0 : Nat} {F0 : Nat → Prop} {k : Nat} {c : Core} {s : σ} {H : Heap} {n : Nat} {K : AV → Heap → Nat → Prop} (M : MT W t)
include M
theorem m_turnedfar (A : AtC W t H0 n0 F0 k c s H n) (hl : 4 ≤ W.left s) (h : ∀ (v : Nat) c' s' H' n', (turnedFarM c).run W.O s = ((v, c'), s') → W.left s ≤ W.left s' + 4 → AtC W t H0 n0 F0 k c' s' H' n' → K (.i64 v) H' n') : ACalls Try.prog 38 [.pt k 0] H n K := by
  refine ACalls.of_awp Try.func38 rfl (by decide +kernel) (show 1 ≤ 48 by decide) (by simp) fun wf => ?_
  have mr := M.r
  have mw := M.w
  have mi := M.i
  have mo := M.o
  refine awp_ev dr38 (by decide +kernel) ?_
  simp only [go_sem, Try.f38]
  refine m_pointed M A (by omega) fun a p w q s H n r lf A => ?_
  simp only [go_sem]
  refine m_next M A (by omega) fun op s H n r lf A => ?_
  simp only [go_sem]
  refine c_cut _ _ _ _ ?_
  ((have hw := A; obtain ⟨F1, A, up⟩ := A.boxed ⟨[.i64 (xO op), .i64 (yO op), .i64 (zO op), .i64 (yO op / 2 : Nat), .i64 (yO op % 2 : Nat)], 53, false⟩ (by simp [AV.ok]); have hk := (up A).2.2.1; have hu := fun X Y => Heap.upd_ne X Y hk))
  have hb := A.blk29
  simp only [go_sem, hb, mr, mw, hu]
  (repeat' first | (((with_reducible refine And.intro ?_ ?_) <;> intro e <;> (first | (with_reducible replace e := nbT e) | (with_reducible replace e := nbF e) | (with_reducible replace e := dT e) | (with_reducible replace e := dF e) | (with_reducible replace e := iT e) | (with_reducible replace e := iF e) | skip) <;> (try (exfalso; omega)))) | ((with_reducible first | refine c_join _ _ _ _ _ ?_ | refine c_split _ _ _ _ ?_ | refine c_move _ _ _ _ _ ?_ | refine c_cut _ _ _ _ ?_ | refine c_do _ _ _ _ _ _ _ ?_ | refine c_daa _ _ _ _ _ ?_ | refine c_flip _ _ _ _ _ _ ?_ | refine c_quick _ _ _ _ _ _ ?_ | refine c_add16 _ _ _ _ _ _ ?_ | refine c_adc16 _ _ _ _ _ _ ?_ | refine c_sbc16 _ _ _ _ _ _ ?_ | refine c_rot _ _ _ _ _ _ ?_ | refine c_bitt _ _ _ _ _ _ _ ?_ | refine c_put _ _ _ _ _ _ ?_ | refine c_digits _ _ _ _ _ _ _ ?_ | refine c_rload _ _ _ _ _ _ _ ?_ | refine c_rseek _ _ _ _ _ _ _ ?_ | refine c_rport _ _ _ _ _ _ ?_ | refine c_inc _ _ _ _ _ ?_ | refine c_dec _ _ _ _ _ ?_ | refine c_shape _ _ _ _ ?_ | refine c_sub _ _ _ _ _ _ ?_ | refine c_pushed _ _ _ _ ?_); ((have hb := A.blk29; have hx := (up A).2.1; simp only [go_sem, hb, hx, hu, mr, mw, mi, mo, Rg.cells]))) | ((first | refine c_longer _ 7 15 _ _ _ ?_ | refine c_longer _ 10 15 _ _ _ ?_ | refine c_longer _ 11 19 _ _ _ ?_ | refine c_swap ⟨_, _, _, _, _, _, _, _, _, _, _, _, _, _, _, _, _, _, _, _, _, _, _, _, _, _, _, _, _⟩ _ _ _ _ ?_ | refine c_tick ⟨_, _, _, _, _, _, _, _, _, _, _, _, _, _, _, _, _, _, _, _, _, _, _, _, _, _, _, _, _⟩ _ _ _ ?_ | refine c_setpair ⟨_, _, _, _, _, _, _, _, _, _, _, _, _, _, _, _, _, _, _, _, _, _, _, _, _, _, _, _, _⟩ 2 (by decide) _ _ _ _ ?_ | refine m_pair A 2 (by decide) ?_ | refine m_pair A 0 (by decide) ?_ | refine m_pair A 1 (by decide) ?_ | refine m_pair A _ (by (first | decide | exact pushed_lt (by have := yO_lt op; omega) | exact yO_lt op | exact zO_lt op | (have := yO_lt op; have := zO_lt op; omega))) ?_ | refine m_one A _ (by (first | decide | exact pushed_lt (by have := yO_lt op; omega) | exact yO_lt op | exact zO_lt op | (have := yO_lt op; have := zO_lt op; omega))) ?_ | refine c_met _ _ (by (first | decide | exact pushed_lt (by have := yO_lt op; omega) | exact yO_lt op | exact zO_lt op | (have := yO_lt op; have := zO_lt op; omega))) _ _ _ ?_ | refine m_pair A.put29 2 (by decide) ?_ | refine m_pair A.put29 0 (by decide) ?_ | refine m_pair A.put29 1 (by decide) ?_ | refine m_pair A.put29 _ (by (first | decide | exact pushed_lt (by have := yO_lt op; omega) | exact yO_lt op | exact zO_lt op | (have := yO_lt op; have := zO_lt op; omega))) ?_ | refine m_one A.put29 _ (by (first | decide | exact pushed_lt (by have := yO_lt op; omega) | exact yO_lt op | exact zO_lt op | (have := yO_lt op; have := zO_lt op; omega))) ?_); ((have hb := A.blk29; have hx := (up A).2.1; simp only [go_sem, hb, hx, hu, mr, mw, mi, mo, Rg.cells]))) | ((first | refine m_next M A (by omega) fun v s H n r lf A => ?_ | refine m_next M A.put29 (by omega) fun v s H n r lf A => ?_ | refine m_fetch M A (by omega) fun v c s H n r lf A => ?_ | refine m_fetch M A.put29 (by omega) fun v c s H n r lf A => ?_ | refine m_word M A (by omega) fun v c s H n r lf A => ?_ | refine m_word M A.put29 (by omega) fun v c s H n r lf A => ?_ | refine m_load M A _ (by omega) fun v s H n r lf A => ?_ | refine m_load M A.put29 _ (by omega) fun v s H n r lf A => ?_ | refine m_store M A _ _ (by omega) fun s H n r lf A => ?_ | refine m_store M A.put29 _ _ (by omega) fun s H n r lf A => ?_ | refine m_push M A _ (by omega) fun c s H n r lf A => ?_ | refine m_push M A.put29 _ (by omega) fun c s H n r lf A => ?_ | refine m_pop M A (by omega) fun v c s H n r lf A => ?_ | refine m_pop M A.put29 (by omega) fun v c s H n r lf A => ?_ | refine m_pointed M A (by omega) fun v p w q s H n r lf A => ?_ | refine m_pointed M A.put29 (by omega) fun v p w q s H n r lf A => ?_ | refine m_setpair A 2 (by decide) _ fun H n A => ?_ | refine m_setpair A.put29 2 (by decide) _ fun H n A => ?_ | refine m_setpair A 1 (by decide) _ fun H n A => ?_ | refine m_setpair A.put29 1 (by decide) _ fun H n A => ?_ | refine m_setpair A 0 (by decide) _ fun H n A => ?_ | refine m_setpair A.put29 0 (by decide) _ fun H n A => ?_ | refine m_setpair A _ (by (first | decide | exact pushed_lt (by have := yO_lt op; omega) | exact yO_lt op | exact zO_lt op | (have := yO_lt op; have := zO_lt op; omega))) _ fun H n A => ?_ | refine m_setpair A.put29 _ (by (first | decide | exact pushed_lt (by have := yO_lt op; omega) | exact yO_lt op | exact zO_lt op | (have := yO_lt op; have := zO_lt op; omega))) _ fun H n A => ?_ | refine m_setone A _ (by (first | decide | exact pushed_lt (by have := yO_lt op; omega) | exact yO_lt op | exact zO_lt op | (have := yO_lt op; have := zO_lt op; omega))) _ fun H n A => ?_ | refine m_setone A.put29 _ (by (first | decide | exact pushed_lt (by have := yO_lt op; omega) | exact yO_lt op | exact zO_lt op | (have := yO_lt op; have := zO_lt op; omega))) _ fun H n A => ?_ | refine m_to A _ fun H n A => ?_ | refine m_to A.put29 _ fun H n A => ?_ | refine m_told A _ fun H n A => ?_ | refine m_told A.put29 _ fun H n A => ?_ | refine A.rd (by omega) fun v s H n r lf A => ?_ | refine A.put29.rd (by omega) fun v s H n r lf A => ?_ | refine A.wr (by omega) fun s H n r lf A => ?_ | refine A.put29.wr (by omega) fun s H n r lf A => ?_ | refine A.ip (by decide) (by omega) fun v s H n r lf A => ?_ | refine A.put29.ip (by decide) (by omega) fun v s H n r lf A => ?_ | refine A.op (by decide) (by omega) fun s H n r lf A => ?_ | refine A.put29.op (by decide) (by omega) fun s H n r lf A => ?_); ((have hb := A.blk29; have hx := (up A).2.1; simp only [go_sem, hb, hx, hu, mr, mw, mi, mo, Rg.cells]))) | ((first | refine m_bits M A _ _ _ fun H n A => ?_); ((have hb := A.blk29; have hx := (up A).2.1; simp only [go_sem, hb, hx, hu, mr, mw, mi, mo, Rg.cells]))) | ((first | refine m_bits M A.put29 _ _ _ fun H n A => ?_); ((have hb := A.blk29; have hx := (up A).2.1; simp only [go_sem, hb, hx, hu, mr, mw, mi, mo, Rg.cells]))))
  · refine Fin.keep (h _ _ _ _ _ ?_ (by omega) (up A).1)
    unfold turnedFarM
    (((repeat' first | assumption | (with_reducible rfl) | (refine Eff.run_of (by assumption) ?_; try dsimp only) | refine Eff.run_t (by (first | assumption | exact nF ‹_› | exact nT ‹_› | omega)) ?_ | refine Eff.run_f (by (first | assumption | exact nF ‹_› | exact nT ‹_› | omega)) ?_ | rfl); all_goals fail))
  · have hz : ¬ zO op = 6 := by omega
    refine Fin.keep (h _ _ _ _ _ ?_ (by omega) (up A).1)
    unfold turnedFarM
    ((repeat' first | assumption | (with_reducible rfl) | (refine Eff.run_of (by assumption) ?_; try dsimp only) | refine Eff.run_t (by (first | assumption | exact nF ‹_› | exact nT ‹_› | omega)) ?_ | refine Eff.run_f (by (first | assumption | exact nF ‹_› | exact nT ‹_› | omega)) ?_))
    simp only [hz, if_false]
    rfl
  · have hz : zO op = 6 := by omega
    refine Fin.keep (h _ _ _ _ _ ?_ (by omega) (up A).1)
    unfold turnedFarM
    ((repeat' first | assumption | (with_reducible rfl) | (refine Eff.run_of (by assumption) ?_; try dsimp only) | refine Eff.run_t (by (first | assumption | exact nF ‹_› | exact nT ‹_› | omega)) ?_ | refine Eff.run_f (by (first | assumption | exact nF ‹_› | exact nT ‹_› | omega)) ?_))
    simp only [hz, if_true]
    rfl
theorem m_turned (A : AtC W t H0 n0 F0 k c s H n) (hl : 4 ≤ W.left s) (h : ∀ (v : Nat) c' s' H' n', (turnedM c).run W.O s = ((v, c'), s') → W.left s ≤ W.left s' + 4 → AtC W t H0 n0 F0 k c' s' H' n' → K (.i64 v) H' n') : ACalls Try.prog 18 [.pt k 0] H n K := by
  refine ACalls.of_awp Try.func18 rfl (by decide +kernel) (show 1 ≤ 70 by decide) (by simp) fun wf => ?_
  have mr := M.r
  have mw := M.w
  have mi := M.i
  have mo := M.o
  have hb := A.blk29
  refine awp_ev dr18 (by decide +kernel) ?_
  simp only [go_sem, Try.f18, hb]
  refine ⟨fun e => ?_, fun e => ?_⟩
  · refine m_turnedfar M A (by omega) fun v c s H n r lf A => ?_
    simp only [go_sem]
    refine Fin.keep (h _ _ _ _ _ ?_ (by omega) A)
    unfold turnedM
    (((repeat' first | assumption | (with_reducible rfl) | (refine Eff.run_of (by assumption) ?_; try dsimp only) | refine Eff.run_t (by (first | assumption | exact nF ‹_› | exact nT ‹_› | omega)) ?_ | refine Eff.run_f (by (first | assumption | exact nF ‹_› | exact nT ‹_› | omega)) ?_ | rfl); all_goals fail))
  · refine m_fetch M A (by omega) fun op c s H n r lf A => ?_
    simp only [go_sem]
    refine c_cut _ _ _ _ ?_
    ((have hw := A; obtain ⟨F1, A, up⟩ := A.boxed ⟨[.i64 (xO op), .i64 (yO op), .i64 (zO op), .i64 (yO op / 2 : Nat), .i64 (yO op % 2 : Nat)], 53, false⟩ (by simp [AV.ok]); have hk := (up A).2.2.1; have hu := fun X Y => Heap.upd_ne X Y hk))
    have hb := A.blk29
    simp only [go_sem, hb, mr, mw, hu]
    (repeat' first | (((with_reducible refine And.intro ?_ ?_) <;> intro e <;> (first | (with_reducible replace e := nbT e) | (with_reducible replace e := nbF e) | (with_reducible replace e := dT e) | (with_reducible replace e := dF e) | (with_reducible replace e := iT e) | (with_reducible replace e := iF e) | skip) <;> (try (exfalso; omega)))) | ((with_reducible first | refine c_join _ _ _ _ _ ?_ | refine c_split _ _ _ _ ?_ | refine c_move _ _ _ _ _ ?_ | refine c_cut _ _ _ _ ?_ | refine c_do _ _ _ _ _ _ _ ?_ | refine c_daa _ _ _ _ _ ?_ | refine c_flip _ _ _ _ _ _ ?_ | refine c_quick _ _ _ _ _ _ ?_ | refine c_add16 _ _ _ _ _ _ ?_ | refine c_adc16 _ _ _ _ _ _ ?_ | refine c_sbc16 _ _ _ _ _ _ ?_ | refine c_rot _ _ _ _ _ _ ?_ | refine c_bitt _ _ _ _ _ _ _ ?_ | refine c_put _ _ _ _ _ _ ?_ | refine c_digits _ _ _ _ _ _ _ ?_ | refine c_rload _ _ _ _ _ _ _ ?_ | refine c_rseek _ _ _ _ _ _ _ ?_ | refine c_rport _ _ _ _ _ _ ?_ | refine c_inc _ _ _ _ _ ?_ | refine c_dec _ _ _ _ _ ?_ | refine c_shape _ _ _ _ ?_ | refine c_sub _ _ _ _ _ _ ?_ | refine c_pushed _ _ _ _ ?_); ((have hb := A.blk29; have hx := (up A).2.1; simp only [go_sem, hb, hx, hu, mr, mw, mi, mo, Rg.cells]))) | ((first | refine c_longer _ 7 15 _ _ _ ?_ | refine c_longer _ 10 15 _ _ _ ?_ | refine c_longer _ 11 19 _ _ _ ?_ | refine c_swap ⟨_, _, _, _, _, _, _, _, _, _, _, _, _, _, _, _, _, _, _, _, _, _, _, _, _, _, _, _, _⟩ _ _ _ _ ?_ | refine c_tick ⟨_, _, _, _, _, _, _, _, _, _, _, _, _, _, _, _, _, _, _, _, _, _, _, _, _, _, _, _, _⟩ _ _ _ ?_ | refine c_setpair ⟨_, _, _, _, _, _, _, _, _, _, _, _, _, _, _, _, _, _, _, _, _, _, _, _, _, _, _, _, _⟩ 2 (by decide) _ _ _ _ ?_ | refine m_pair A 2 (by decide) ?_ | refine m_pair A 0 (by decide) ?_ | refine m_pair A 1 (by decide) ?_ | refine m_pair A _ (by (first | decide | exact pushed_lt (by have := yO_lt op; omega) | exact yO_lt op | exact zO_lt op | (have := yO_lt op; have := zO_lt op; omega))) ?_ | refine m_one A _ (by (first | decide | exact pushed_lt (by have := yO_lt op; omega) | exact yO_lt op | exact zO_lt op | (have := yO_lt op; have := zO_lt op; omega))) ?_ | refine c_met _ _ (by (first | decide | exact pushed_lt (by have := yO_lt op; omega) | exact yO_lt op | exact zO_lt op | (have := yO_lt op; have := zO_lt op; omega))) _ _ _ ?_ | refine m_pair A.put29 2 (by decide) ?_ | refine m_pair A.put29 0 (by decide) ?_ | refine m_pair A.put29 1 (by decide) ?_ | refine m_pair A.put29 _ (by (first | decide | exact pushed_lt (by have := yO_lt op; omega) | exact yO_lt op | exact zO_lt op | (have := yO_lt op; have := zO_lt op; omega))) ?_ | refine m_one A.put29 _ (by (first | decide | exact pushed_lt (by have := yO_lt op; omega) | exact yO_lt op | exact zO_lt op | (have := yO_lt op; have := zO_lt op; omega))) ?_); ((have hb := A.blk29; have hx := (up A).2.1; simp only [go_sem, hb, hx, hu, mr, mw, mi, mo, Rg.cells]))) | ((first | refine m_next M A (by omega) fun v s H n r lf A => ?_ | refine m_next M A.put29 (by omega) fun v s H n r lf A => ?_ | refine m_fetch M A (by omega) fun v c s H n r lf A => ?_ | refine m_fetch M A.put29 (by omega) fun v c s H n r lf A => ?_ | refine m_word M A (by omega) fun v c s H n r lf A => ?_ | refine m_word M A.put29 (by omega) fun v c s H n r lf A => ?_ | refine m_load M A _ (by omega) fun v s H n r lf A => ?_ | refine m_load M A.put29 _ (by omega) fun v s H n r lf A => ?_ | refine m_store M A _ _ (by omega) fun s H n r lf A => ?_ | refine m_store M A.put29 _ _ (by omega) fun s H n r lf A => ?_ | refine m_push M A _ (by omega) fun c s H n r lf A => ?_ | refine m_push M A.put29 _ (by omega) fun c s H n r lf A => ?_ | refine m_pop M A (by omega) fun v c s H n r lf A => ?_ | refine m_pop M A.put29 (by omega) fun v c s H n r lf A => ?_ | refine m_pointed M A (by omega) fun v p w q s H n r lf A => ?_ | refine m_pointed M A.put29 (by omega) fun v p w q s H n r lf A => ?_ | refine m_setpair A 2 (by decide) _ fun H n A => ?_ | refine m_setpair A.put29 2 (by decide) _ fun H n A => ?_ | refine m_setpair A 1 (by decide) _ fun H n A => ?_ | refine m_setpair A.put29 1 (by decide) _ fun H n A => ?_ | refine m_setpair A 0 (by decide) _ fun H n A => ?_ | refine m_setpair A.put29 0 (by decide) _ fun H n A => ?_ | refine m_setpair A _ (by (first | decide | exact pushed_lt (by have := yO_lt op; omega) | exact yO_lt op | exact zO_lt op | (have := yO_lt op; have := zO_lt op; omega))) _ fun H n A => ?_ | refine m_setpair A.put29 _ (by (first | decide | exact pushed_lt (by have := yO_lt op; omega) | exact yO_lt op | exact zO_lt op | (have := yO_lt op; have := zO_lt op; omega))) _ fun H n A => ?_ | refine m_setone A _ (by (first | decide | exact pushed_lt (by have := yO_lt op; omega) | exact yO_lt op | exact zO_lt op | (have := yO_lt op; have := zO_lt op; omega))) _ fun H n A => ?_ | refine m_setone A.put29 _ (by (first | decide | exact pushed_lt (by have := yO_lt op; omega) | exact yO_lt op | exact zO_lt op | (have := yO_lt op; have := zO_lt op; omega))) _ fun H n A => ?_ | refine m_to A _ fun H n A => ?_ | refine m_to A.put29 _ fun H n A => ?_ | refine m_told A _ fun H n A => ?_ | refine m_told A.put29 _ fun H n A => ?_ | refine A.rd (by omega) fun v s H n r lf A => ?_ | refine A.put29.rd (by omega) fun v s H n r lf A => ?_ | refine A.wr (by omega) fun s H n r lf A => ?_ | refine A.put29.wr (by omega) fun s H n r lf A => ?_ | refine A.ip (by decide) (by omega) fun v s H n r lf A => ?_ | refine A.put29.ip (by decide) (by omega) fun v s H n r lf A => ?_ | refine A.op (by decide) (by omega) fun s H n r lf A => ?_ | refine A.put29.op (by decide) (by omega) fun s H n r lf A => ?_); ((have hb := A.blk29; have hx := (up A).2.1; simp only [go_sem, hb, hx, hu, mr, mw, mi, mo, Rg.cells]))) | ((first | refine m_bits M A _ _ _ fun H n A => ?_); ((have hb := A.blk29; have hx := (up A).2.1; simp only [go_sem, hb, hx, hu, mr, mw, mi, mo, Rg.cells]))) | ((first | refine m_bits M A.put29 _ _ _ fun H n A => ?_); ((have hb := A.blk29; have hx := (up A).2.1; simp only [go_sem, hb, hx, hu, mr, mw, mi, mo, Rg.cells]))))
    · refine Fin.keep (h _ _ _ _ _ ?_ (by omega) (up A).1)
      unfold turnedM
      ((repeat' first | assumption | (with_reducible rfl) | (refine Eff.run_of (by assumption) ?_; try dsimp only) | refine Eff.run_t (by (first | assumption | exact nF ‹_› | exact nT ‹_› | omega)) ?_ | refine Eff.run_f (by (first | assumption | exact nF ‹_› | exact nT ‹_› | omega)) ?_))
      simp only [e, Bool.true_eq_false, if_false]
      rfl
    · refine Fin.keep (h _ _ _ _ _ ?_ (by omega) (up A).1)
      unfold turnedM
      ((repeat' first | assumption | (with_reducible rfl) | (refine Eff.run_of (by assumption) ?_; try dsimp only) | refine Eff.run_t (by (first | assumption | exact nF ‹_› | exact nT ‹_› | omega)) ?_ | refine Eff.run_f (by (first | assumption | exact nF ‹_› | exact nT ‹_› | omega)) ?_))
      simp only [e, if_true]
      rfl
    · refine Fin.keep (h _ _ _ _ _ ?_ (by omega) (up A).1)
      unfold turnedM
      (((repeat' first | assumption | (with_reducible rfl) | (refine Eff.run_of (by assumption) ?_; try dsimp only) | refine Eff.run_t (by (first | assumption | exact nF ‹_› | exact nT ‹_› | omega)) ?_ | refine Eff.run_f (by (first | assumption | exact nF ‹_› | exact nT ‹_› | omega)) ?_ | rfl); all_goals fail))
    · refine Fin.keep (h _ _ _ _ _ ?_ (by omega) (up A).1)
      unfold turnedM
      (((repeat' first | assumption | (with_reducible rfl) | (refine Eff.run_of (by assumption) ?_; try dsimp only) | refine Eff.run_t (by (first | assumption | exact nF ‹_› | exact nT ‹_› | omega)) ?_ | refine Eff.run_f (by (first | assumption | exact nF ‹_› | exact nT ‹_› | omega)) ?_ | rfl); all_goals fail))
end
end Go.Proofs.Joy
namespace Go.Proofs.Joy
open Go.Ab Go.Proofs

set_option maxHeartbeats 4000000
set_option maxRecDepth 20000
theorem c_setpair29 {a f b c_ d e h_ l a2 f2 b2 c2 d2 e2 h2 l2 : BitVec 8} {ix iy sp pc wz : BitVec 16} {i r im pre : BitVec 8} {x1 x2 x3 x4 : Bool} (m : Nat) (hm : m < 7) (v : BitVec 16) (H : Heap) (n : Nat) (K : AV → Heap → Nat → Prop) (h : K (.ag (setPairR ⟨a, f, b, c_, d, e, h_, l, a2, f2, b2, c2, d2, e2, h2, l2, ix, iy, sp, pc, wz, i, r, im, pre, x1, x2, x3, x4⟩ m v).cells) H n) : ACalls Try.prog 49 [.ag [.u8 a, .u8 f, .u8 b, .u8 c_, .u8 d, .u8 e, .u8 h_, .u8 l, .u8 a2, .u8 f2, .u8 b2, .u8 c2, .u8 d2, .u8 e2, .u8 h2, .u8 l2, .u16 ix, .u16 iy, .u16 sp, .u16 pc, .u16 wz, .u8 i, .u8 r, .u8 im, .u8 pre, .bo x1, .bo x2, .bo x3, .bo x4], .i64 m, .u16 v] H n K := c_setpair ⟨a, f, b, c_, d, e, h_, l, a2, f2, b2, c2, d2, e2, h2, l2, ix, iy, sp, pc, wz, i, r, im, pre, x1, x2, x3, x4⟩ m hm v H n K h
section
variable {σ : Type} {W : WC Try.prog σ} {t : TypeId} {H0 : Heap} {n0 : Nat} {F0 : Nat → Prop} {k : Nat} {c : Core} {s : σ} {H : Heap} {n : Nat} {K : AV → Heap → Nat → Prop} (M : MT W t)
include M
end
theorem not0_16 : (~~~0#16 : BitVec 16) = 65535#16 := by decide
section
variable {σ : Type} {W : WC Try.prog σ} {t : TypeId} {H0 : Heap} {n0 : Nat} {F0 : Nat → Prop} {k : Nat} {c : Core} {s : σ} {H : Heap} {n : Nat} {K : AV → Heap → Nat → Prop} (M : MT W t)
include M
theorem m_many (A : AtC W t H0 n0 F0 k c s H n) (op : BitVec 8) (hl : 4 ≤ W.left s) (h : ∀ (v : Nat) c' s' H' n', (manyM op c).run W.O s = ((v, c'), s') → W.left s ≤ W.left s' + 4 → AtC W t H0 n0 F0 k c' s' H' n' → K (.i64 v) H' n') : ACalls Try.prog 25 [.pt k 0, .ag [.i64 (xO op), .i64 (yO op), .i64 (zO op), .i64 (yO op / 2 : Nat), .i64 (yO op % 2 : Nat)]] H n K := by
  refine ACalls.of_awp Try.func25 rfl (by decide +kernel) (show 2 ≤ 260 by decide) (by simp) fun wf => ?_
  obtain ⟨F1, A, up⟩ := A.boxed ⟨[.i64 (xO op), .i64 (yO op), .i64 (zO op), .i64 (yO op / 2 : Nat), .i64 (yO op % 2 : Nat)], 53, false⟩ (by simp [AV.ok])
  have hb := A.blk29
  have hk := (up A).2.2.1
  have hu := fun X Y => Heap.upd_ne X Y hk
  have mr := M.r
  have mw := M.w
  have mi := M.i
  have mo := M.o
  refine awp_ev dr25 (by decide +kernel) ?_
  simp only [go_sem, Try.f25, hb, hu]
  (repeat' first | (((with_reducible refine And.intro ?_ ?_) <;> intro e <;> (first | (with_reducible replace e := nbT e) | (with_reducible replace e := nbF e) | (with_reducible replace e := dT e) | (with_reducible replace e := dF e) | (with_reducible replace e := iT e) | (with_reducible replace e := iF e) | skip) <;> (try (exfalso; omega)))) | ((with_reducible first | refine c_join _ _ _ _ _ ?_ | refine c_split _ _ _ _ ?_ | refine c_move _ _ _ _ _ ?_ | refine c_cut _ _ _ _ ?_ | refine c_do _ _ _ _ _ _ _ ?_ | refine c_daa _ _ _ _ _ ?_ | refine c_flip _ _ _ _ _ _ ?_ | refine c_quick _ _ _ _ _ _ ?_ | refine c_add16 _ _ _ _ _ _ ?_ | refine c_adc16 _ _ _ _ _ _ ?_ | refine c_sbc16 _ _ _ _ _ _ ?_ | refine c_rot _ _ _ _ _ _ ?_ | refine c_bitt _ _ _ _ _ _ _ ?_ | refine c_put _ _ _ _ _ _ ?_ | refine c_digits _ _ _ _ _ _ _ ?_ | refine c_rload _ _ _ _ _ _ _ ?_ | refine c_rseek _ _ _ _ _ _ _ ?_ | refine c_rport _ _ _ _ _ _ ?_ | refine c_inc _ _ _ _ _ ?_ | refine c_dec _ _ _ _ _ ?_ | refine c_shape _ _ _ _ ?_ | refine c_sub _ _ _ _ _ _ ?_ | refine c_pushed _ _ _ _ ?_); ((have hb := A.blk29; have hx := (up A).2.1; simp only [go_sem, hb, hx, hu, mr, mw, mi, mo, Rg.cells]))) | ((first | refine c_longer _ 7 15 _ _ _ ?_ | refine c_longer _ 10 15 _ _ _ ?_ | refine c_longer _ 11 19 _ _ _ ?_ | refine c_swap ⟨_, _, _, _, _, _, _, _, _, _, _, _, _, _, _, _, _, _, _, _, _, _, _, _, _, _, _, _, _⟩ _ _ _ _ ?_ | refine c_tick ⟨_, _, _, _, _, _, _, _, _, _, _, _, _, _, _, _, _, _, _, _, _, _, _, _, _, _, _, _, _⟩ _ _ _ ?_ | refine c_setpair ⟨_, _, _, _, _, _, _, _, _, _, _, _, _, _, _, _, _, _, _, _, _, _, _, _, _, _, _, _, _⟩ 2 (by decide) _ _ _ _ ?_ | refine m_pair A 2 (by decide) ?_ | refine m_pair A 0 (by decide) ?_ | refine m_pair A 1 (by decide) ?_ | refine m_pair A _ (by (first | decide | exact pushed_lt (by have := yO_lt op; omega) | exact yO_lt op | exact zO_lt op | (have := yO_lt op; have := zO_lt op; omega))) ?_ | refine m_one A _ (by (first | decide | exact pushed_lt (by have := yO_lt op; omega) | exact yO_lt op | exact zO_lt op | (have := yO_lt op; have := zO_lt op; omega))) ?_ | refine c_met _ _ (by (first | decide | exact pushed_lt (by have := yO_lt op; omega) | exact yO_lt op | exact zO_lt op | (have := yO_lt op; have := zO_lt op; omega))) _ _ _ ?_ | refine m_pair A.put29 2 (by decide) ?_ | refine m_pair A.put29 0 (by decide) ?_ | refine m_pair A.put29 1 (by decide) ?_ | refine m_pair A.put29 _ (by (first | decide | exact pushed_lt (by have := yO_lt op; omega) | exact yO_lt op | exact zO_lt op | (have := yO_lt op; have := zO_lt op; omega))) ?_ | refine m_one A.put29 _ (by (first | decide | exact pushed_lt (by have := yO_lt op; omega) | exact yO_lt op | exact zO_lt op | (have := yO_lt op; have := zO_lt op; omega))) ?_); ((have hb := A.blk29; have hx := (up A).2.1; simp only [go_sem, hb, hx, hu, mr, mw, mi, mo, Rg.cells]))) | ((first | refine m_next M A (by omega) fun v s H n r lf A => ?_ | refine m_next M A.put29 (by omega) fun v s H n r lf A => ?_ | refine m_fetch M A (by omega) fun v c s H n r lf A => ?_ | refine m_fetch M A.put29 (by omega) fun v c s H n r lf A => ?_ | refine m_word M A (by omega) fun v c s H n r lf A => ?_ | refine m_word M A.put29 (by omega) fun v c s H n r lf A => ?_ | refine m_load M A _ (by omega) fun v s H n r lf A => ?_ | refine m_load M A.put29 _ (by omega) fun v s H n r lf A => ?_ | refine m_store M A _ _ (by omega) fun s H n r lf A => ?_ | refine m_store M A.put29 _ _ (by omega) fun s H n r lf A => ?_ | refine m_push M A _ (by omega) fun c s H n r lf A => ?_ | refine m_push M A.put29 _ (by omega) fun c s H n r lf A => ?_ | refine m_pop M A (by omega) fun v c s H n r lf A => ?_ | refine m_pop M A.put29 (by omega) fun v c s H n r lf A => ?_ | refine m_pointed M A (by omega) fun v p w q s H n r lf A => ?_ | refine m_pointed M A.put29 (by omega) fun v p w q s H n r lf A => ?_ | refine m_setpair A 2 (by decide) _ fun H n A => ?_ | refine m_setpair A.put29 2 (by decide) _ fun H n A => ?_ | refine m_setpair A 1 (by decide) _ fun H n A => ?_ | refine m_setpair A.put29 1 (by decide) _ fun H n A => ?_ | refine m_setpair A 0 (by decide) _ fun H n A => ?_ | refine m_setpair A.put29 0 (by decide) _ fun H n A => ?_ | refine m_setpair A _ (by (first | decide | exact pushed_lt (by have := yO_lt op; omega) | exact yO_lt op | exact zO_lt op | (have := yO_lt op; have := zO_lt op; omega))) _ fun H n A => ?_ | refine m_setpair A.put29 _ (by (first | decide | exact pushed_lt (by have := yO_lt op; omega) | exact yO_lt op | exact zO_lt op | (have := yO_lt op; have := zO_lt op; omega))) _ fun H n A => ?_ | refine m_setone A _ (by (first | decide | exact pushed_lt (by have := yO_lt op; omega) | exact yO_lt op | exact zO_lt op | (have := yO_lt op; have := zO_lt op; omega))) _ fun H n A => ?_ | refine m_setone A.put29 _ (by (first | decide | exact pushed_lt (by have := yO_lt op; omega) | exact yO_lt op | exact zO_lt op | (have := yO_lt op; have := zO_lt op; omega))) _ fun H n A => ?_ | refine m_to A _ fun H n A => ?_ | refine m_to A.put29 _ fun H n A => ?_ | refine m_told A _ fun H n A => ?_ | refine m_told A.put29 _ fun H n A => ?_ | refine A.rd (by omega) fun v s H n r lf A => ?_ | refine A.put29.rd (by omega) fun v s H n r lf A => ?_ | refine A.wr (by omega) fun s H n r lf A => ?_ | refine A.put29.wr (by omega) fun s H n r lf A => ?_ | refine A.ip (by decide) (by omega) fun v s H n r lf A => ?_ | refine A.put29.ip (by decide) (by omega) fun v s H n r lf A => ?_ | refine A.op (by decide) (by omega) fun s H n r lf A => ?_ | refine A.put29.op (by decide) (by omega) fun s H n r lf A => ?_); ((have hb := A.blk29; have hx := (up A).2.1; simp only [go_sem, hb, hx, hu, mr, mw, mi, mo, Rg.cells]))) | (refine c_setpair29 2 (by decide) _ _ _ _ ?_; ((have hb := A.blk29; have hx := (up A).2.1; simp only [go_sem, hb, hx, hu, mr, mw, mi, mo, Rg.cells]))))
  all_goals
    first
      | (have hq : yO op % 2 = 1 := (by omega)
         (first | (have hz : zO op = 0 := (by omega); ((refine Fin.keep (h _ _ _ _ _ ?_ (by omega) (up A.put29).1); unfold manyM; simp +decide only [hq, hz, if_true, if_false, not0_16]; (try generalize (65535#16 : BitVec 16) = w16 at *); ((repeat' first | assumption | (with_reducible rfl) | (refine Eff.run_of (by assumption) ?_; try dsimp only) | refine Eff.run_t (by (first | exact Or.inl (by omega) | exact Or.inr (by assumption) | exact not_or.2 ⟨by omega, nT (by assumption)⟩)) ?_ | refine Eff.run_f (by (first | exact Or.inl (by omega) | exact Or.inr (by assumption) | exact not_or.2 ⟨by omega, nT (by assumption)⟩)) ?_ | refine Eff.run_t (by (first | assumption | exact nF ‹_› | exact nT ‹_› | omega)) ?_ | refine Eff.run_f (by (first | assumption | exact nF ‹_› | exact nT ‹_› | omega)) ?_ | rfl))))) | (have hz : zO op = 1 := (by omega); ((refine Fin.keep (h _ _ _ _ _ ?_ (by omega) (up A.put29).1); unfold manyM; simp +decide only [hq, hz, if_true, if_false, not0_16]; (try generalize (65535#16 : BitVec 16) = w16 at *); ((repeat' first | assumption | (with_reducible rfl) | (refine Eff.run_of (by assumption) ?_; try dsimp only) | refine Eff.run_t (by (first | exact Or.inl (by omega) | exact Or.inr (by assumption) | exact not_or.2 ⟨by omega, nT (by assumption)⟩)) ?_ | refine Eff.run_f (by (first | exact Or.inl (by omega) | exact Or.inr (by assumption) | exact not_or.2 ⟨by omega, nT (by assumption)⟩)) ?_ | refine Eff.run_t (by (first | assumption | exact nF ‹_› | exact nT ‹_› | omega)) ?_ | refine Eff.run_f (by (first | assumption | exact nF ‹_› | exact nT ‹_› | omega)) ?_ | rfl))))) | (have hz : zO op = 2 := (by omega); ((refine Fin.keep (h _ _ _ _ _ ?_ (by omega) (up A.put29).1); unfold manyM; simp +decide only [hq, hz, if_true, if_false, not0_16]; (try generalize (65535#16 : BitVec 16) = w16 at *); ((repeat' first | assumption | (with_reducible rfl) | (refine Eff.run_of (by assumption) ?_; try dsimp only) | refine Eff.run_t (by (first | exact Or.inl (by omega) | exact Or.inr (by assumption) | exact not_or.2 ⟨by omega, nT (by assumption)⟩)) ?_ | refine Eff.run_f (by (first | exact Or.inl (by omega) | exact Or.inr (by assumption) | exact not_or.2 ⟨by omega, nT (by assumption)⟩)) ?_ | refine Eff.run_t (by (first | assumption | exact nF ‹_› | exact nT ‹_› | omega)) ?_ | refine Eff.run_f (by (first | assumption | exact nF ‹_› | exact nT ‹_› | omega)) ?_ | rfl))))) | (have hz : ¬ zO op = 0 := (by omega); have hz1 : ¬ zO op = 1 := (by omega); have hz2 : ¬ zO op = 2 := (by omega); have hz3 : ¬ zO op < 2 := (by omega); refine Fin.keep (h _ _ _ _ _ ?_ (by omega) (up A.put29).1); unfold manyM; simp +decide only [hq, hz, hz1, hz2, hz3, if_true, if_false, not0_16]; (try generalize (65535#16 : BitVec 16) = w16 at *); ((repeat' first | assumption | (with_reducible rfl) | (refine Eff.run_of (by assumption) ?_; try dsimp only) | refine Eff.run_t (by (first | exact Or.inl (by omega) | exact Or.inr (by assumption) | exact not_or.2 ⟨by omega, nT (by assumption)⟩)) ?_ | refine Eff.run_f (by (first | exact Or.inl (by omega) | exact Or.inr (by assumption) | exact not_or.2 ⟨by omega, nT (by assumption)⟩)) ?_ | refine Eff.run_t (by (first | assumption | exact nF ‹_› | exact nT ‹_› | omega)) ?_ | refine Eff.run_f (by (first | assumption | exact nF ‹_› | exact nT ‹_› | omega)) ?_ | rfl)))))
      | (have hq : ¬ yO op % 2 = 1 := (by omega)
         (first | (have hz : zO op = 0 := (by omega); ((refine Fin.keep (h _ _ _ _ _ ?_ (by omega) (up A.put29).1); unfold manyM; simp +decide only [hq, hz, if_true, if_false, not0_16]; (try generalize (65535#16 : BitVec 16) = w16 at *); ((repeat' first | assumption | (with_reducible rfl) | (refine Eff.run_of (by assumption) ?_; try dsimp only) | refine Eff.run_t (by (first | exact Or.inl (by omega) | exact Or.inr (by assumption) | exact not_or.2 ⟨by omega, nT (by assumption)⟩)) ?_ | refine Eff.run_f (by (first | exact Or.inl (by omega) | exact Or.inr (by assumption) | exact not_or.2 ⟨by omega, nT (by assumption)⟩)) ?_ | refine Eff.run_t (by (first | assumption | exact nF ‹_› | exact nT ‹_› | omega)) ?_ | refine Eff.run_f (by (first | assumption | exact nF ‹_› | exact nT ‹_› | omega)) ?_ | rfl))))) | (have hz : zO op = 1 := (by omega); ((refine Fin.keep (h _ _ _ _ _ ?_ (by omega) (up A.put29).1); unfold manyM; simp +decide only [hq, hz, if_true, if_false, not0_16]; (try generalize (65535#16 : BitVec 16) = w16 at *); ((repeat' first | assumption | (with_reducible rfl) | (refine Eff.run_of (by assumption) ?_; try dsimp only) | refine Eff.run_t (by (first | exact Or.inl (by omega) | exact Or.inr (by assumption) | exact not_or.2 ⟨by omega, nT (by assumption)⟩)) ?_ | refine Eff.run_f (by (first | exact Or.inl (by omega) | exact Or.inr (by assumption) | exact not_or.2 ⟨by omega, nT (by assumption)⟩)) ?_ | refine Eff.run_t (by (first | assumption | exact nF ‹_› | exact nT ‹_› | omega)) ?_ | refine Eff.run_f (by (first | assumption | exact nF ‹_› | exact nT ‹_› | omega)) ?_ | rfl))))) | (have hz : zO op = 2 := (by omega); ((refine Fin.keep (h _ _ _ _ _ ?_ (by omega) (up A.put29).1); unfold manyM; simp +decide only [hq, hz, if_true, if_false, not0_16]; (try generalize (65535#16 : BitVec 16) = w16 at *); ((repeat' first | assumption | (with_reducible rfl) | (refine Eff.run_of (by assumption) ?_; try dsimp only) | refine Eff.run_t (by (first | exact Or.inl (by omega) | exact Or.inr (by assumption) | exact not_or.2 ⟨by omega, nT (by assumption)⟩)) ?_ | refine Eff.run_f (by (first | exact Or.inl (by omega) | exact Or.inr (by assumption) | exact not_or.2 ⟨by omega, nT (by assumption)⟩)) ?_ | refine Eff.run_t (by (first | assumption | exact nF ‹_› | exact nT ‹_› | omega)) ?_ | refine Eff.run_f (by (first | assumption | exact nF ‹_› | exact nT ‹_› | omega)) ?_ | rfl))))) | (have hz : ¬ zO op = 0 := (by omega); have hz1 : ¬ zO op = 1 := (by omega); have hz2 : ¬ zO op = 2 := (by omega); have hz3 : ¬ zO op < 2 := (by omega); refine Fin.keep (h _ _ _ _ _ ?_ (by omega) (up A.put29).1); unfold manyM; simp +decide only [hq, hz, hz1, hz2, hz3, if_true, if_false, not0_16]; (try generalize (65535#16 : BitVec 16) = w16 at *); ((repeat' first | assumption | (with_reducible rfl) | (refine Eff.run_of (by assumption) ?_; try dsimp only) | refine Eff.run_t (by (first | exact Or.inl (by omega) | exact Or.inr (by assumption) | exact not_or.2 ⟨by omega, nT (by assumption)⟩)) ?_ | refine Eff.run_f (by (first | exact Or.inl (by omega) | exact Or.inr (by assumption) | exact not_or.2 ⟨by omega, nT (by assumption)⟩)) ?_ | refine Eff.run_t (by (first | assumption | exact nF ‹_› | exact nT ‹_› | omega)) ?_ | refine Eff.run_f (by (first | assumption | exact nF ‹_› | exact nT ‹_› | omega)) ?_ | rfl)))))
end
end Go.Proofs.Joy
namespace Go.Proofs.Joy
open Go.Ab Go.Proofs

set_option maxHeartbeats 4000000
set_option maxRecDepth 20000
section
variable {σ : Type} {W : WC Try.prog σ} {t : TypeId} {H0 : Heap} {n0 : Nat} {F0 : Nat → Prop} {k : Nat} {c : Core} {s : σ} {H : Heap} {n : Nat} {K : AV → Heap → Nat → Prop} (M : MT W t)
include M
theorem m_special (A : AtC W t H0 n0 F0 k c s H n) (op : Nat) (h8 : op < 8) (hl : 4 ≤ W.left s) (h : ∀ (v : Nat) c' s' H' n', (specialM op c).run W.O s = ((v, c'), s') → W.left s ≤ W.left s' + 4 → AtC W t H0 n0 F0 k c' s' H' n' → K (.i64 v) H' n') : ACalls Try.prog 37 [.pt k 0, .i64 op] H n K := by
  refine ACalls.of_awp Try.func37 rfl (by decide +kernel) (show 2 ≤ 137 by decide) (by simp) fun wf => ?_
  have up : ∀ {c' : Core} {s' : σ} {H' : Heap} {n' : Nat}, AtC W t H0 n0 F0 k c' s' H' n' → AtC W t H0 n0 F0 k c' s' H' n' ∧ True ∧ True := fun X => ⟨X, trivial, trivial⟩
  have hu := True.intro
  have hb := A.blk29
  have mr := M.r
  have mw := M.w
  have mi := M.i
  have mo := M.o
  refine awp_ev dr37 (by decide +kernel) ?_
  simp only [go_sem, Try.f37, hb]
  (repeat' first | (((with_reducible refine And.intro ?_ ?_) <;> intro e <;> (first | (with_reducible replace e := nbT e) | (with_reducible replace e := nbF e) | (with_reducible replace e := dT e) | (with_reducible replace e := dF e) | (with_reducible replace e := iT e) | (with_reducible replace e := iF e) | skip) <;> (try (exfalso; omega)))) | ((with_reducible first | refine c_join _ _ _ _ _ ?_ | refine c_split _ _ _ _ ?_ | refine c_move _ _ _ _ _ ?_ | refine c_cut _ _ _ _ ?_ | refine c_do _ _ _ _ _ _ _ ?_ | refine c_daa _ _ _ _ _ ?_ | refine c_flip _ _ _ _ _ _ ?_ | refine c_quick _ _ _ _ _ _ ?_ | refine c_add16 _ _ _ _ _ _ ?_ | refine c_adc16 _ _ _ _ _ _ ?_ | refine c_sbc16 _ _ _ _ _ _ ?_ | refine c_rot _ _ _ _ _ _ ?_ | refine c_bitt _ _ _ _ _ _ _ ?_ | refine c_put _ _ _ _ _ _ ?_ | refine c_digits _ _ _ _ _ _ _ ?_ | refine c_rload _ _ _ _ _ _ _ ?_ | refine c_rseek _ _ _ _ _ _ _ ?_ | refine c_rport _ _ _ _ _ _ ?_ | refine c_inc _ _ _ _ _ ?_ | refine c_dec _ _ _ _ _ ?_ | refine c_shape _ _ _ _ ?_ | refine c_sub _ _ _ _ _ _ ?_ | refine c_pushed _ _ _ _ ?_); ((have hb := A.blk29; have hx := (up A).2.1; simp only [go_sem, hb, hx, hu, mr, mw, mi, mo, Rg.cells]))) | ((first | refine c_longer _ 7 15 _ _ _ ?_ | refine c_longer _ 10 15 _ _ _ ?_ | refine c_longer _ 11 19 _ _ _ ?_ | refine c_swap ⟨_, _, _, _, _, _, _, _, _, _, _, _, _, _, _, _, _, _, _, _, _, _, _, _, _, _, _, _, _⟩ _ _ _ _ ?_ | refine c_tick ⟨_, _, _, _, _, _, _, _, _, _, _, _, _, _, _, _, _, _, _, _, _, _, _, _, _, _, _, _, _⟩ _ _ _ ?_ | refine c_setpair ⟨_, _, _, _, _, _, _, _, _, _, _, _, _, _, _, _, _, _, _, _, _, _, _, _, _, _, _, _, _⟩ 2 (by decide) _ _ _ _ ?_ | refine m_pair A 2 (by decide) ?_ | refine m_pair A 0 (by decide) ?_ | refine m_pair A 1 (by decide) ?_ | refine m_pair A _ (by (first | decide | exact pushed_lt (by have := yO_lt op; omega) | exact yO_lt op | exact zO_lt op | (have := yO_lt op; have := zO_lt op; omega))) ?_ | refine m_one A _ (by (first | decide | exact pushed_lt (by have := yO_lt op; omega) | exact yO_lt op | exact zO_lt op | (have := yO_lt op; have := zO_lt op; omega))) ?_ | refine c_met _ _ (by (first | decide | exact pushed_lt (by have := yO_lt op; omega) | exact yO_lt op | exact zO_lt op | (have := yO_lt op; have := zO_lt op; omega))) _ _ _ ?_ | refine m_pair A.put29 2 (by decide) ?_ | refine m_pair A.put29 0 (by decide) ?_ | refine m_pair A.put29 1 (by decide) ?_ | refine m_pair A.put29 _ (by (first | decide | exact pushed_lt (by have := yO_lt op; omega) | exact yO_lt op | exact zO_lt op | (have := yO_lt op; have := zO_lt op; omega))) ?_ | refine m_one A.put29 _ (by (first | decide | exact pushed_lt (by have := yO_lt op; omega) | exact yO_lt op | exact zO_lt op | (have := yO_lt op; have := zO_lt op; omega))) ?_); ((have hb := A.blk29; have hx := (up A).2.1; simp only [go_sem, hb, hx, hu, mr, mw, mi, mo, Rg.cells]))) | ((first | refine m_next M A (by omega) fun v s H n r lf A => ?_ | refine m_next M A.put29 (by omega) fun v s H n r lf A => ?_ | refine m_fetch M A (by omega) fun v c s H n r lf A => ?_ | refine m_fetch M A.put29 (by omega) fun v c s H n r lf A => ?_ | refine m_word M A (by omega) fun v c s H n r lf A => ?_ | refine m_word M A.put29 (by omega) fun v c s H n r lf A => ?_ | refine m_load M A _ (by omega) fun v s H n r lf A => ?_ | refine m_load M A.put29 _ (by omega) fun v s H n r lf A => ?_ | refine m_store M A _ _ (by omega) fun s H n r lf A => ?_ | refine m_store M A.put29 _ _ (by omega) fun s H n r lf A => ?_ | refine m_push M A _ (by omega) fun c s H n r lf A => ?_ | refine m_push M A.put29 _ (by omega) fun c s H n r lf A => ?_ | refine m_pop M A (by omega) fun v c s H n r lf A => ?_ | refine m_pop M A.put29 (by omega) fun v c s H n r lf A => ?_ | refine m_pointed M A (by omega) fun v p w q s H n r lf A => ?_ | refine m_pointed M A.put29 (by omega) fun v p w q s H n r lf A => ?_ | refine m_setpair A 2 (by decide) _ fun H n A => ?_ | refine m_setpair A.put29 2 (by decide) _ fun H n A => ?_ | refine m_setpair A 1 (by decide) _ fun H n A => ?_ | refine m_setpair A.put29 1 (by decide) _ fun H n A => ?_ | refine m_setpair A 0 (by decide) _ fun H n A => ?_ | refine m_setpair A.put29 0 (by decide) _ fun H n A => ?_ | refine m_setpair A _ (by (first | decide | exact pushed_lt (by have := yO_lt op; omega) | exact yO_lt op | exact zO_lt op | (have := yO_lt op; have := zO_lt op; omega))) _ fun H n A => ?_ | refine m_setpair A.put29 _ (by (first | decide | exact pushed_lt (by have := yO_lt op; omega) | exact yO_lt op | exact zO_lt op | (have := yO_lt op; have := zO_lt op; omega))) _ fun H n A => ?_ | refine m_setone A _ (by (first | decide | exact pushed_lt (by have := yO_lt op; omega) | exact yO_lt op | exact zO_lt op | (have := yO_lt op; have := zO_lt op; omega))) _ fun H n A => ?_ | refine m_setone A.put29 _ (by (first | decide | exact pushed_lt (by have := yO_lt op; omega) | exact yO_lt op | exact zO_lt op | (have := yO_lt op; have := zO_lt op; omega))) _ fun H n A => ?_ | refine m_to A _ fun H n A => ?_ | refine m_to A.put29 _ fun H n A => ?_ | refine m_told A _ fun H n A => ?_ | refine m_told A.put29 _ fun H n A => ?_ | refine A.rd (by omega) fun v s H n r lf A => ?_ | refine A.put29.rd (by omega) fun v s H n r lf A => ?_ | refine A.wr (by omega) fun s H n r lf A => ?_ | refine A.put29.wr (by omega) fun s H n r lf A => ?_ | refine A.ip (by decide) (by omega) fun v s H n r lf A => ?_ | refine A.put29.ip (by decide) (by omega) fun v s H n r lf A => ?_ | refine A.op (by decide) (by omega) fun s H n r lf A => ?_ | refine A.put29.op (by decide) (by omega) fun s H n r lf A => ?_); ((have hb := A.blk29; have hx := (up A).2.1; simp only [go_sem, hb, hx, hu, mr, mw, mi, mo, Rg.cells]))))
  · (first | (refine Fin.keep (h _ _ _ _ _ ?_ (by omega) (up A).1); unfold specialM; (((repeat' first | assumption | (with_reducible rfl) | (refine Eff.run_of (by assumption) ?_; try dsimp only) | refine Eff.run_t (by (first | assumption | exact nF ‹_› | exact nT ‹_› | omega)) ?_ | refine Eff.run_f (by (first | assumption | exact nF ‹_› | exact nT ‹_› | omega)) ?_ | rfl); all_goals fail))) | (refine Fin.keep (h _ _ _ _ _ ?_ (by omega) (up A.put29).1); unfold specialM; (((repeat' first | assumption | (with_reducible rfl) | (refine Eff.run_of (by assumption) ?_; try dsimp only) | refine Eff.run_t (by (first | assumption | exact nF ‹_› | exact nT ‹_› | omega)) ?_ | refine Eff.run_f (by (first | assumption | exact nF ‹_› | exact nT ‹_› | omega)) ?_ | rfl); all_goals fail))))
  · (first | (refine Fin.keep (h _ _ _ _ _ ?_ (by omega) (up A).1); unfold specialM; (((repeat' first | assumption | (with_reducible rfl) | (refine Eff.run_of (by assumption) ?_; try dsimp only) | refine Eff.run_t (by (first | assumption | exact nF ‹_› | exact nT ‹_› | omega)) ?_ | refine Eff.run_f (by (first | assumption | exact nF ‹_› | exact nT ‹_› | omega)) ?_ | rfl); all_goals fail))) | (refine Fin.keep (h _ _ _ _ _ ?_ (by omega) (up A.put29).1); unfold specialM; (((repeat' first | assumption | (with_reducible rfl) | (refine Eff.run_of (by assumption) ?_; try dsimp only) | refine Eff.run_t (by (first | assumption | exact nF ‹_› | exact nT ‹_› | omega)) ?_ | refine Eff.run_f (by (first | assumption | exact nF ‹_› | exact nT ‹_› | omega)) ?_ | rfl); all_goals fail))))
  · have hy : op = 2 := by omega
    refine Fin.keep (h _ _ _ _ _ ?_ (by omega) (up A.put29).1)
    unfold specialM
    simp +decide only [hy, e, if_true, if_false]
    rfl
  · have hy : op = 2 := by omega
    refine Fin.keep (h _ _ _ _ _ ?_ (by omega) (up A.put29).1)
    unfold specialM
    simp +decide only [hy, e, if_true, if_false]
    rfl
  · have hy : op = 3 := by omega
    refine Fin.keep (h _ _ _ _ _ ?_ (by omega) (up A.put29).1)
    unfold specialM
    simp +decide only [hy, e, if_true, if_false]
    rfl
  · have hy : op = 3 := by omega
    refine Fin.keep (h _ _ _ _ _ ?_ (by omega) (up A.put29).1)
    unfold specialM
    simp +decide only [hy, e, if_true, if_false]
    rfl
  · have hy : op = 4 := by omega
    have e5 : ∀ b : Bool, b = ((op : Int) == 5) → b = false := fun b hb => by rw [hb, hy]; rfl
    rw [e5 _ rfl] at r ⊢
    refine Fin.keep (h _ _ _ _ _ ?_ (by omega) (up A.put29).1)
    unfold specialM
    simp +decide only [hy, if_true, if_false]
    (((repeat' first | assumption | (with_reducible rfl) | (refine Eff.run_of (by assumption) ?_; try dsimp only) | refine Eff.run_t (by (first | assumption | exact nF ‹_› | exact nT ‹_› | omega)) ?_ | refine Eff.run_f (by (first | assumption | exact nF ‹_› | exact nT ‹_› | omega)) ?_ | rfl); all_goals fail))
  · have hy : op = 5 := by omega
    have e5 : ∀ b : Bool, b = ((op : Int) == 5) → b = true := fun b hb => by rw [hb, hy]; rfl
    rw [e5 _ rfl] at r ⊢
    refine Fin.keep (h _ _ _ _ _ ?_ (by omega) (up A.put29).1)
    unfold specialM
    simp +decide only [hy, if_true, if_false]
    (((repeat' first | assumption | (with_reducible rfl) | (refine Eff.run_of (by assumption) ?_; try dsimp only) | refine Eff.run_t (by (first | assumption | exact nF ‹_› | exact nT ‹_› | omega)) ?_ | refine Eff.run_f (by (first | assumption | exact nF ‹_› | exact nT ‹_› | omega)) ?_ | rfl); all_goals fail))
  · (first | (refine Fin.keep (h _ _ _ _ _ ?_ (by omega) (up A).1); unfold specialM; (((repeat' first | assumption | (with_reducible rfl) | (refine Eff.run_of (by assumption) ?_; try dsimp only) | refine Eff.run_t (by (first | assumption | exact nF ‹_› | exact nT ‹_› | omega)) ?_ | refine Eff.run_f (by (first | assumption | exact nF ‹_› | exact nT ‹_› | omega)) ?_ | rfl); all_goals fail))) | (refine Fin.keep (h _ _ _ _ _ ?_ (by omega) (up A.put29).1); unfold specialM; (((repeat' first | assumption | (with_reducible rfl) | (refine Eff.run_of (by assumption) ?_; try dsimp only) | refine Eff.run_t (by (first | assumption | exact nF ‹_› | exact nT ‹_› | omega)) ?_ | refine Eff.run_f (by (first | assumption | exact nF ‹_› | exact nT ‹_› | omega)) ?_ | rfl); all_goals fail))))
end
end Go.Proofs.Joy
namespace Go.Proofs.Joy
open Go.Ab Go.Proofs

set_option maxHeartbeats 4000000
set_option maxRecDepth 20000
section
variable {σ : Type} {W : WC Try.prog σ} {t : TypeId} {H0 : Heap} {n0 : Nat} {F0 : Nat → Prop} {k : Nat} {c : Core} {s : σ} {H : Heap} {n : Nat} {K : AV → Heap → Nat → Prop} (M : MT W t)
include M
end
theorem and64_3 {y : Nat} (hy : y < 8) : and64 (y : Int) 3 = ((y % 4 : Nat) : Int) := by
  have h : ∀ y : Fin 8, and64 (y.val : Int) 3 = ((y.val % 4 : Nat) : Int) := by decide +kernel
  exact h ⟨y, hy⟩
section
variable {σ : Type} {W : WC Try.prog σ} {t : TypeId} {H0 : Heap} {n0 : Nat} {F0 : Nat → Prop} {k : Nat} {c : Core} {s : σ} {H : Heap} {n : Nat} {K : AV → Heap → Nat → Prop} (M : MT W t)
include M
theorem m_extended (A : AtC W t H0 n0 F0 k c s H n) (op : BitVec 8) (hl : 4 ≤ W.left s) (h : ∀ (v : Nat) c' s' H' n', (extendedM op c).run W.O s = ((v, c'), s') → W.left s ≤ W.left s' + 4 → AtC W t H0 n0 F0 k c' s' H' n' → K (.i64 v) H' n') : ACalls Try.prog 16 [.pt k 0, .ag [.i64 (xO op), .i64 (yO op), .i64 (zO op), .i64 (yO op / 2 : Nat), .i64 (yO op % 2 : Nat)]] H n K := by
  refine ACalls.of_awp Try.func16 rfl (by decide +kernel) (show 2 ≤ 195 by decide) (by simp) fun wf => ?_
  obtain ⟨F1, A, up⟩ := A.boxed ⟨[.i64 (xO op), .i64 (yO op), .i64 (zO op), .i64 (yO op / 2 : Nat), .i64 (yO op % 2 : Nat)], 53, false⟩ (by simp [AV.ok])
  have hb := A.blk29
  have hk := (up A).2.2.1
  have hu := fun X Y => Heap.upd_ne X Y hk
  have mr := M.r
  have mw := M.w
  have mi := M.i
  have mo := M.o
  refine awp_ev dr16 (by decide +kernel) ?_
  simp only [go_sem, Try.f16, hb, hu]
  (repeat' first | (((with_reducible refine And.intro ?_ ?_) <;> intro e <;> (first | (with_reducible replace e := nbT e) | (with_reducible replace e := nbF e) | (with_reducible replace e := dT e) | (with_reducible replace e := dF e) | (with_reducible replace e := iT e) | (with_reducible replace e := iF e) | skip) <;> (try (exfalso; omega)))) | ((with_reducible first | refine c_join _ _ _ _ _ ?_ | refine c_split _ _ _ _ ?_ | refine c_move _ _ _ _ _ ?_ | refine c_cut _ _ _ _ ?_ | refine c_do _ _ _ _ _ _ _ ?_ | refine c_daa _ _ _ _ _ ?_ | refine c_flip _ _ _ _ _ _ ?_ | refine c_quick _ _ _ _ _ _ ?_ | refine c_add16 _ _ _ _ _ _ ?_ | refine c_adc16 _ _ _ _ _ _ ?_ | refine c_sbc16 _ _ _ _ _ _ ?_ | refine c_rot _ _ _ _ _ _ ?_ | refine c_bitt _ _ _ _ _ _ _ ?_ | refine c_put _ _ _ _ _ _ ?_ | refine c_digits _ _ _ _ _ _ _ ?_ | refine c_rload _ _ _ _ _ _ _ ?_ | refine c_rseek _ _ _ _ _ _ _ ?_ | refine c_rport _ _ _ _ _ _ ?_ | refine c_inc _ _ _ _ _ ?_ | refine c_dec _ _ _ _ _ ?_ | refine c_shape _ _ _ _ ?_ | refine c_sub _ _ _ _ _ _ ?_ | refine c_pushed _ _ _ _ ?_); ((have hb := A.blk29; have hx := (up A).2.1; simp only [go_sem, hb, hx, hu, mr, mw, mi, mo, Rg.cells]))) | ((first | refine c_longer _ 7 15 _ _ _ ?_ | refine c_longer _ 10 15 _ _ _ ?_ | refine c_longer _ 11 19 _ _ _ ?_ | refine c_swap ⟨_, _, _, _, _, _, _, _, _, _, _, _, _, _, _, _, _, _, _, _, _, _, _, _, _, _, _, _, _⟩ _ _ _ _ ?_ | refine c_tick ⟨_, _, _, _, _, _, _, _, _, _, _, _, _, _, _, _, _, _, _, _, _, _, _, _, _, _, _, _, _⟩ _ _ _ ?_ | refine c_setpair ⟨_, _, _, _, _, _, _, _, _, _, _, _, _, _, _, _, _, _, _, _, _, _, _, _, _, _, _, _, _⟩ 2 (by decide) _ _ _ _ ?_ | refine m_pair A 2 (by decide) ?_ | refine m_pair A 0 (by decide) ?_ | refine m_pair A 1 (by decide) ?_ | refine m_pair A _ (by (first | decide | exact pushed_lt (by have := yO_lt op; omega) | exact yO_lt op | exact zO_lt op | (have := yO_lt op; have := zO_lt op; omega))) ?_ | refine m_one A _ (by (first | decide | exact pushed_lt (by have := yO_lt op; omega) | exact yO_lt op | exact zO_lt op | (have := yO_lt op; have := zO_lt op; omega))) ?_ | refine c_met _ _ (by (first | decide | exact pushed_lt (by have := yO_lt op; omega) | exact yO_lt op | exact zO_lt op | (have := yO_lt op; have := zO_lt op; omega))) _ _ _ ?_ | refine m_pair A.put29 2 (by decide) ?_ | refine m_pair A.put29 0 (by decide) ?_ | refine m_pair A.put29 1 (by decide) ?_ | refine m_pair A.put29 _ (by (first | decide | exact pushed_lt (by have := yO_lt op; omega) | exact yO_lt op | exact zO_lt op | (have := yO_lt op; have := zO_lt op; omega))) ?_ | refine m_one A.put29 _ (by (first | decide | exact pushed_lt (by have := yO_lt op; omega) | exact yO_lt op | exact zO_lt op | (have := yO_lt op; have := zO_lt op; omega))) ?_); ((have hb := A.blk29; have hx := (up A).2.1; simp only [go_sem, hb, hx, hu, mr, mw, mi, mo, Rg.cells]))) | ((first | refine m_next M A (by omega) fun v s H n r lf A => ?_ | refine m_next M A.put29 (by omega) fun v s H n r lf A => ?_ | refine m_fetch M A (by omega) fun v c s H n r lf A => ?_ | refine m_fetch M A.put29 (by omega) fun v c s H n r lf A => ?_ | refine m_word M A (by omega) fun v c s H n r lf A => ?_ | refine m_word M A.put29 (by omega) fun v c s H n r lf A => ?_ | refine m_load M A _ (by omega) fun v s H n r lf A => ?_ | refine m_load M A.put29 _ (by omega) fun v s H n r lf A => ?_ | refine m_store M A _ _ (by omega) fun s H n r lf A => ?_ | refine m_store M A.put29 _ _ (by omega) fun s H n r lf A => ?_ | refine m_push M A _ (by omega) fun c s H n r lf A => ?_ | refine m_push M A.put29 _ (by omega) fun c s H n r lf A => ?_ | refine m_pop M A (by omega) fun v c s H n r lf A => ?_ | refine m_pop M A.put29 (by omega) fun v c s H n r lf A => ?_ | refine m_pointed M A (by omega) fun v p w q s H n r lf A => ?_ | refine m_pointed M A.put29 (by omega) fun v p w q s H n r lf A => ?_ | refine m_setpair A 2 (by decide) _ fun H n A => ?_ | refine m_setpair A.put29 2 (by decide) _ fun H n A => ?_ | refine m_setpair A 1 (by decide) _ fun H n A => ?_ | refine m_setpair A.put29 1 (by decide) _ fun H n A => ?_ | refine m_setpair A 0 (by decide) _ fun H n A => ?_ | refine m_setpair A.put29 0 (by decide) _ fun H n A => ?_ | refine m_setpair A _ (by (first | decide | exact pushed_lt (by have := yO_lt op; omega) | exact yO_lt op | exact zO_lt op | (have := yO_lt op; have := zO_lt op; omega))) _ fun H n A => ?_ | refine m_setpair A.put29 _ (by (first | decide | exact pushed_lt (by have := yO_lt op; omega) | exact yO_lt op | exact zO_lt op | (have := yO_lt op; have := zO_lt op; omega))) _ fun H n A => ?_ | refine m_setone A _ (by (first | decide | exact pushed_lt (by have := yO_lt op; omega) | exact yO_lt op | exact zO_lt op | (have := yO_lt op; have := zO_lt op; omega))) _ fun H n A => ?_ | refine m_setone A.put29 _ (by (first | decide | exact pushed_lt (by have := yO_lt op; omega) | exact yO_lt op | exact zO_lt op | (have := yO_lt op; have := zO_lt op; omega))) _ fun H n A => ?_ | refine m_to A _ fun H n A => ?_ | refine m_to A.put29 _ fun H n A => ?_ | refine m_told A _ fun H n A => ?_ | refine m_told A.put29 _ fun H n A => ?_ | refine A.rd (by omega) fun v s H n r lf A => ?_ | refine A.put29.rd (by omega) fun v s H n r lf A => ?_ | refine A.wr (by omega) fun s H n r lf A => ?_ | refine A.put29.wr (by omega) fun s H n r lf A => ?_ | refine A.ip (by decide) (by omega) fun v s H n r lf A => ?_ | refine A.put29.ip (by decide) (by omega) fun v s H n r lf A => ?_ | refine A.op (by decide) (by omega) fun s H n r lf A => ?_ | refine A.put29.op (by decide) (by omega) fun s H n r lf A => ?_); ((have hb := A.blk29; have hx := (up A).2.1; simp only [go_sem, hb, hx, hu, mr, mw, mi, mo, Rg.cells]))) | (refine m_special M A _ (by (first | decide | exact pushed_lt (by have := yO_lt op; omega) | exact yO_lt op | exact zO_lt op | (have := yO_lt op; have := zO_lt op; omega))) (by omega) fun v c s H n r lf A => ?_; ((have hb := A.blk29; have hx := (up A).2.1; simp only [go_sem, hb, hx, hu, mr, mw, mi, mo, Rg.cells]))) | ((first | refine m_many M A _ (by omega) fun v c s H n r lf A => ?_ | refine m_many M A.put29 _ (by omega) fun v c s H n r lf A => ?_); ((have hb := A.blk29; have hx := (up A).2.1; simp only [go_sem, hb, hx, hu, mr, mw, mi, mo, Rg.cells]))))
  all_goals try first
    | (first | (refine Fin.keep (h _ _ _ _ _ ?_ (by omega) (up A).1); unfold extendedM; (((repeat' first | assumption | (with_reducible rfl) | (refine Eff.run_of (by assumption) ?_; try dsimp only) | refine Eff.run_t (by (first | assumption | exact nF ‹_› | exact nT ‹_› | omega)) ?_ | refine Eff.run_f (by (first | assumption | exact nF ‹_› | exact nT ‹_› | omega)) ?_ | rfl); all_goals fail))) | (refine Fin.keep (h _ _ _ _ _ ?_ (by omega) (up A.put29).1); unfold extendedM; (((repeat' first | assumption | (with_reducible rfl) | (refine Eff.run_of (by assumption) ?_; try dsimp only) | refine Eff.run_t (by (first | assumption | exact nF ‹_› | exact nT ‹_› | omega)) ?_ | refine Eff.run_f (by (first | assumption | exact nF ‹_› | exact nT ‹_› | omega)) ?_ | rfl); all_goals fail))))
    | (have hq : yO op % 2 = 1 := (by omega)
       (first | (refine Fin.keep (h _ _ _ _ _ ?_ (by omega) (up A).1); unfold extendedM; simp +decide only [hq, if_true, if_false]; (((repeat' first | assumption | (with_reducible rfl) | (refine Eff.run_of (by assumption) ?_; try dsimp only) | refine Eff.run_t (by (first | assumption | exact nF ‹_› | exact nT ‹_› | omega)) ?_ | refine Eff.run_f (by (first | assumption | exact nF ‹_› | exact nT ‹_› | omega)) ?_ | rfl); all_goals fail))) | (refine Fin.keep (h _ _ _ _ _ ?_ (by omega) (up A.put29).1); unfold extendedM; simp +decide only [hq, if_true, if_false]; (((repeat' first | assumption | (with_reducible rfl) | (refine Eff.run_of (by assumption) ?_; try dsimp only) | refine Eff.run_t (by (first | assumption | exact nF ‹_› | exact nT ‹_› | omega)) ?_ | refine Eff.run_f (by (first | assumption | exact nF ‹_› | exact nT ‹_› | omega)) ?_ | rfl); all_goals fail)))))
    | (have hq : ¬ yO op % 2 = 1 := (by omega)
       (first | (refine Fin.keep (h _ _ _ _ _ ?_ (by omega) (up A).1); unfold extendedM; simp +decide only [hq, if_true, if_false]; (((repeat' first | assumption | (with_reducible rfl) | (refine Eff.run_of (by assumption) ?_; try dsimp only) | refine Eff.run_t (by (first | assumption | exact nF ‹_› | exact nT ‹_› | omega)) ?_ | refine Eff.run_f (by (first | assumption | exact nF ‹_› | exact nT ‹_› | omega)) ?_ | rfl); all_goals fail))) | (refine Fin.keep (h _ _ _ _ _ ?_ (by omega) (up A.put29).1); unfold extendedM; simp +decide only [hq, if_true, if_false]; (((repeat' first | assumption | (with_reducible rfl) | (refine Eff.run_of (by assumption) ?_; try dsimp only) | refine Eff.run_t (by (first | assumption | exact nF ‹_› | exact nT ‹_› | omega)) ?_ | refine Eff.run_f (by (first | assumption | exact nF ‹_› | exact nT ‹_› | omega)) ?_ | rfl); all_goals fail)))))
  · have ha : and64 (yO op : Int) 3 = ((yO op % 4 : Nat) : Int) := and64_3 (yO_lt op)
    have hy4 : yO op % 4 = 0 ∨ yO op % 4 = 1 ∨ yO op % 4 = 2 ∨ yO op % 4 = 3 := by omega
    rw [ha]
    rcases hy4 with hy | hy | hy | hy
    · rw [hy]
      refine ⟨by decide, by decide, by decide, ?_⟩
      have hb := A.blk29
      have e5 : imS (yO op) = 0#8 := by unfold imS; rw [hy]; rfl
      simp only [go_sem, hb, hu, List.getD_cons_zero, List.getD_cons_succ, Int.toNat_natCast]
      refine Fin.keep (h _ _ _ _ _ ?_ (by omega) (up A.put29).1)
      unfold extendedM
      ((repeat' first | assumption | (with_reducible rfl) | (refine Eff.run_of (by assumption) ?_; try dsimp only) | refine Eff.run_t (by (first | assumption | exact nF ‹_› | exact nT ‹_› | omega)) ?_ | refine Eff.run_f (by (first | assumption | exact nF ‹_› | exact nT ‹_› | omega)) ?_))
      simp only [e5]
      rfl
    · rw [hy]
      refine ⟨by decide, by decide, by decide, ?_⟩
      have hb := A.blk29
      have e5 : imS (yO op) = 0#8 := by unfold imS; rw [hy]; rfl
      simp only [go_sem, hb, hu, List.getD_cons_zero, List.getD_cons_succ, Int.toNat_natCast]
      refine Fin.keep (h _ _ _ _ _ ?_ (by omega) (up A.put29).1)
      unfold extendedM
      ((repeat' first | assumption | (with_reducible rfl) | (refine Eff.run_of (by assumption) ?_; try dsimp only) | refine Eff.run_t (by (first | assumption | exact nF ‹_› | exact nT ‹_› | omega)) ?_ | refine Eff.run_f (by (first | assumption | exact nF ‹_› | exact nT ‹_› | omega)) ?_))
      simp only [e5]
      rfl
    · rw [hy]
      refine ⟨by decide, by decide, by decide, ?_⟩
      have hb := A.blk29
      have e5 : imS (yO op) = 1#8 := by unfold imS; rw [hy]; rfl
      simp only [go_sem, hb, hu, List.getD_cons_zero, List.getD_cons_succ, Int.toNat_natCast]
      refine Fin.keep (h _ _ _ _ _ ?_ (by omega) (up A.put29).1)
      unfold extendedM
      ((repeat' first | assumption | (with_reducible rfl) | (refine Eff.run_of (by assumption) ?_; try dsimp only) | refine Eff.run_t (by (first | assumption | exact nF ‹_› | exact nT ‹_› | omega)) ?_ | refine Eff.run_f (by (first | assumption | exact nF ‹_› | exact nT ‹_› | omega)) ?_))
      simp only [e5]
      rfl
    · rw [hy]
      refine ⟨by decide, by decide, by decide, ?_⟩
      have hb := A.blk29
      have e5 : imS (yO op) = 2#8 := by unfold imS; rw [hy]; rfl
      simp only [go_sem, hb, hu, List.getD_cons_zero, List.getD_cons_succ, Int.toNat_natCast]
      refine Fin.keep (h _ _ _ _ _ ?_ (by omega) (up A.put29).1)
      unfold extendedM
      ((repeat' first | assumption | (with_reducible rfl) | (refine Eff.run_of (by assumption) ?_; try dsimp only) | refine Eff.run_t (by (first | assumption | exact nF ‹_› | exact nT ‹_› | omega)) ?_ | refine Eff.run_f (by (first | assumption | exact nF ‹_› | exact nT ‹_› | omega)) ?_))
      simp only [e5]
      rfl
end
end Go.Proofs.Joy
namespace Go.Proofs.Joy
open Go.Ab
section
variable {P : Program} {σ : Type} {W : WC P σ} {T t : TypeId} {k : Nat} {c : Core} {s : σ} {H : Heap} {n : Nat} {F : Nat → Prop}
/-- A processor of a function's own: two blocks of the function stand ahead of it. -/
theorem At.start (hw : H.wf n) (hr : W.rep s H n F) (b0 b1 : Blk) (h0 : ∀ m, ∀ v ∈ b0.cells, v.ok m = true) (h1 : ∀ m, ∀ v ∈ b1.cells, v.ok m = true) (c : Core) :
    At W T t ((H.upd n (some b0)).upd (n + 1) (some b1)) (n + 2) F (n + 2) c s (((H.upd n (some b0)).upd (n + 1) (some b1)).upd (n + 2) (some ⟨c.r.cells ++ [.ifc t W.v, .u8 c.pr], T, false⟩)) (n + 3) := by
  have hv : ∀ m, n ≤ m → W.v.ok m = true := fun m hm => AV.ok_mono hm _ (W.vok hr)
  refine ⟨Heap.wf_upd (Heap.wf_upd (Heap.wf_upd hw (h0 _)) (h1 _)) (fun v hv' => ?_), by omega, Heap.upd_same _ _ _, ⟨F, W.stable hr (fun i hi => ?_) (by omega), fun h => ?_, fun i hi => .inl hi⟩, fun i hi hk _ => Heap.upd_ne _ _ hk⟩
  · rcases List.mem_append.1 hv' with hv' | hv'
    · exact cells_ok _ _ v hv'
    · simp only [List.mem_cons, List.not_mem_nil, or_false] at hv'
      rcases hv' with rfl | rfl
      · exact hv _ (by omega)
      · rfl
  · have := W.low hr hi
    rw [Heap.upd_ne _ _ (by omega), Heap.upd_ne _ _ (by omega), Heap.upd_ne _ _ (by omega)]
  · have := W.low hr h; omega
/-- What stays of it. -/
theorem At.done {b0 b1 : Blk} (hr : W.rep s H n F) {s' : σ} {H' : Heap} {n' : Nat} (A : At W T t ((H.upd n (some b0)).upd (n + 1) (some b1)) (n + 2) F (n + 2) c s' H' n') (b : Blk) (hb : ∀ m, ∀ v ∈ b.cells, v.ok m = true) :
    (H'.upd (n + 1) (some b)).wf n' ∧ n ≤ n' ∧ ∃ F', W.rep s' (H'.upd (n + 1) (some b)) n' F' ∧ (∀ i, F' i → F i ∨ n ≤ i) ∧ ∀ i, i < n → ¬ F i → (H'.upd (n + 1) (some b)) i = H i := by
  obtain ⟨F', g1, g2, g3⟩ := A.fp
  have hle := A.le
  refine ⟨Heap.wf_set A.wf (by omega) (hb _), by omega, F', W.stable g1 (fun i hi => Heap.upd_ne _ _ fun e => ?_) (Nat.le_refl _), fun i hi => ?_, fun i hi hF => ?_⟩
  · rcases g3 i hi with h | h
    · have := W.low hr h; omega
    · omega
  · rcases g3 i hi with h | h
    · exact .inl h
    · exact .inr (by omega)
  · rw [Heap.upd_ne _ _ (by omega), A.fr i (by omega) (by omega) hF, Heap.upd_ne _ _ (by omega), Heap.upd_ne _ _ (by omega)]
end
end Go.Proofs.Joy
namespace Go.Proofs.Joy
open Go.Ab Go.Proofs

set_option maxHeartbeats 4000000
set_option maxRecDepth 20000
theorem c_tick29 {a f b c_ d e h_ l a2 f2 b2 c2 d2 e2 h2 l2 : BitVec 8} {ix iy sp pc wz : BitVec 16} {i r im pre : BitVec 8} {x1 x2 x3 x4 : Bool} (H : Heap) (n : Nat) (K : AV → Heap → Nat → Prop) (h : K (.ag (tickR ⟨a, f, b, c_, d, e, h_, l, a2, f2, b2, c2, d2, e2, h2, l2, ix, iy, sp, pc, wz, i, r, im, pre, x1, x2, x3, x4⟩).cells) H n) : ACalls Try.prog 14 [.ag [.u8 a, .u8 f, .u8 b, .u8 c_, .u8 d, .u8 e, .u8 h_, .u8 l, .u8 a2, .u8 f2, .u8 b2, .u8 c2, .u8 d2, .u8 e2, .u8 h2, .u8 l2, .u16 ix, .u16 iy, .u16 sp, .u16 pc, .u16 wz, .u8 i, .u8 r, .u8 im, .u8 pre, .bo x1, .bo x2, .bo x3, .bo x4]] H n K := c_tick ⟨a, f, b, c_, d, e, h_, l, a2, f2, b2, c2, d2, e2, h2, l2, ix, iy, sp, pc, wz, i, r, im, pre, x1, x2, x3, x4⟩ H n K h
def rgZ : Rg := ⟨0#8, 0#8, 0#8, 0#8, 0#8, 0#8, 0#8, 0#8, 0#8, 0#8, 0#8, 0#8, 0#8, 0#8, 0#8, 0#8, 0#16, 0#16, 0#16, 0#16, 0#16, 0#8, 0#8, 0#8, 0#8, false, false, false, false⟩
section
variable {σ : Type} {W : WC Try.prog σ} {t : TypeId} {H0 : Heap} {n0 : Nat} {F0 : Nat → Prop} {k : Nat} {c : Core} {s : σ} {H : Heap} {n : Nat} {K : AV → Heap → Nat → Prop} (M : MT W t)
include M
theorem m_begin (A : AtC W t H0 n0 F0 k c s H n) (a : BitVec 16) (hl : 2 ≤ W.left s) (h : ∀ c' s' H' n', (beginM a c).run W.O s = (((), c'), s') → W.left s ≤ W.left s' + 2 → AtC W t H0 n0 F0 k c' s' H' n' → K (.tu []) H' n') : ACalls Try.prog 20 [.pt k 0, .u16 a] H n K := by
  refine ACalls.of_awp Try.func20 rfl (by decide +kernel) (show 2 ≤ 26 by decide) (by simp) fun wf => ?_
  have hb := A.blk29
  refine awp_ev dr0 (by decide +kernel) ?_
  simp only [go_sem, Try.f20, hb]
  refine c_tick29 _ _ _ ?_
  simp only [go_sem, Rg.cells]
  refine m_push M A.put29 _ (by omega) fun c s H n r lf A => ?_
  simp only [go_sem]
  refine m_to A _ fun H n A => ?_
  simp only [go_sem]
  exact Fin.keep (h _ _ _ _ (Eff.run_of r rfl) (by omega) A)
/-- One step, as the code takes it. -/
theorem c_step (r : Rg) {F : Nat → Prop} (hr : W.rep s H n F) (hl : 6 ≤ W.left s) (h : ∀ (r' : Rg) (q : Nat) s' H' n' F', (stepE r).run W.O s = ((r', q), s') → W.left s ≤ W.left s' + 6 → H'.wf n' → n ≤ n' → W.rep s' H' n' F' → (∀ i, F' i → F i ∨ n ≤ i) → (∀ i, i < n → ¬ F i → H' i = H i) → K (.tu [.ag r'.cells, .i64 q]) H' n') : ACalls Try.prog 12 [.ag r.cells, .ifc t W.v] H n K := by
  refine ACalls.of_awp Try.func12 rfl (by decide +kernel) (show 2 ≤ 69 by decide) (by simp) fun wf => ?_
  have low : ∀ {i}, F i → i < n := fun hi => W.low hr hi
  have A0 := fun c => At.start (T := 48) (t := t) wf hr ⟨r.cells, 25, false⟩ ⟨rgZ.cells, 25, false⟩ (fun _ => cells_ok ⟨r, 0#8⟩ _) (fun _ => cells_ok ⟨rgZ, 0#8⟩ _) c
  have D := fun {c' : Core} {s' : σ} {H' : Heap} {n' : Nat} (A : AtC W t _ (n + 2) F (n + 2) c' s' H' n') (x : Rg) => At.done (b0 := ⟨r.cells, 25, false⟩) (b1 := ⟨rgZ.cells, 25, false⟩) hr A ⟨x.cells, 25, false⟩ (fun _ => cells_ok ⟨x, 0#8⟩ _)
  refine awp_ev dr0 (by decide +kernel) ?_
  have X := fun {c' : Core} {s' : σ} {H' : Heap} {n' : Nat} (A : AtC W t ((H.upd n (some ⟨r.cells, 25, false⟩)).upd (n + 1) (some ⟨rgZ.cells, 25, false⟩)) (n + 2) F (n + 2) c' s' H' n') =>
    (⟨by rw [A.fr n (by omega) (by omega) (fun hi => absurd (low hi) (by omega)), Heap.upd_ne _ _ (by omega), Heap.upd_same]; rfl, by rw [A.fr (n + 1) (by omega) (by omega) (fun hi => absurd (low hi) (by omega)), Heap.upd_same]; rfl⟩ : H' n = some ⟨[.u8 r.a, .u8 r.f, .u8 r.b, .u8 r.c, .u8 r.d, .u8 r.e, .u8 r.h, .u8 r.l, .u8 r.a2, .u8 r.f2, .u8 r.b2, .u8 r.c2, .u8 r.d2, .u8 r.e2, .u8 r.h2, .u8 r.l2, .u16 r.ix, .u16 r.iy, .u16 r.sp, .u16 r.pc, .u16 r.wz, .u8 r.i, .u8 r.r, .u8 r.im, .u8 r.pre, .bo r.iff1, .bo r.iff2, .bo r.hlt, .bo r.dly], 25, false⟩ ∧ H' (n + 1) = some ⟨[.u8 0#8, .u8 0#8, .u8 0#8, .u8 0#8, .u8 0#8, .u8 0#8, .u8 0#8, .u8 0#8, .u8 0#8, .u8 0#8, .u8 0#8, .u8 0#8, .u8 0#8, .u8 0#8, .u8 0#8, .u8 0#8, .u16 0#16, .u16 0#16, .u16 0#16, .u16 0#16, .u16 0#16, .u8 0#8, .u8 0#8, .u8 0#8, .u8 0#8, .bo false, .bo false, .bo false, .bo false], 25, false⟩)
  simp only [go_sem, Try.f12, Rg.cells]
  refine ⟨fun e => ?_, fun e => ?_⟩
  · refine c_tick29 _ _ _ ?_
    simp only [go_sem, Rg.cells]
    exact Fin.back wf (h (tickR r) 4 s H n F (by unfold stepE; rw [if_pos e]; rfl) (by omega) wf (Nat.le_refl _) hr (fun _ hi => .inl hi) (fun _ _ _ => rfl)) (fun i hi => by repeat (rw [Heap.upd_ne _ _ (by omega)])) (by simp [AV.ok, AV.oks, AV.one])
  · have h2 := h
    unfold stepE at h2
    rw [if_neg (by rw [e]; decide)] at h2
    refine m_fetch M (A0 ⟨{ r with dly := false, pre := 0#8 }, 0#8⟩) (by omega) fun op c s H n q lf A => ?_
    have hb := A.blk29
    obtain ⟨ha, hz⟩ := X A
    simp only [go_sem, hb, ha, hz]
    refine ⟨fun e1 => ⟨fun _ => ?_, fun e2 => absurd (e1.symm.trans e2) (by decide)⟩, fun e1 => ⟨fun e2 => ?_, fun e2 => ⟨fun e3 => ?_, fun e3 => ⟨fun e4 => ?_, fun e4 => ?_⟩⟩⟩⟩
    · obtain ⟨w1, w2, F', w3, w4, w5⟩ := D A.put29 { c.r with pre := op }
      exact Fin.keep (h2 { c.r with pre := op } 4 _ _ _ F' (Eff.run_of q (Eff.run_t (by dsimp only; rw [e1]; rfl) rfl)) (by omega) w1 w2 w3 w4 w5)
    · obtain ⟨w1, w2, F', w3, w4, w5⟩ := D A.put29 { c.r with pre := op }
      exact Fin.keep (h2 { c.r with pre := op } 4 _ _ _ F' (Eff.run_of q (Eff.run_t (by dsimp only; rw [e1, e2]; rfl) rfl)) (by omega) w1 w2 w3 w4 w5)
    · refine m_fetch M A (by omega) fun o2 c s H n q2 lf A => ?_
      simp only [go_sem]
      refine c_cut _ _ _ _ ?_
      simp only [go_sem]
      refine m_extended M A _ (by omega) fun v c s H n q3 lf A => ?_
      have hb := A.blk29
      obtain ⟨ha, hz⟩ := X A
      simp only [go_sem, hb, ha, hz]
      obtain ⟨w1, w2, F', w3, w4, w5⟩ := D A c.r
      exact Fin.keep (h2 c.r v _ _ _ F' (Eff.run_of q (Eff.run_f (by dsimp only; rw [e1, e2]; decide) (Eff.run_t (by dsimp only; exact e3) (Eff.run_of q2 (Eff.run_of q3 rfl))))) (by omega) w1 w2 w3 w4 w5)
    · refine m_turned M A.put29 (by omega) fun v c s H n q3 lf A => ?_
      have hb := A.blk29
      obtain ⟨ha, hz⟩ := X A
      simp only [go_sem, hb, ha, hz]
      obtain ⟨w1, w2, F', w3, w4, w5⟩ := D A c.r
      exact Fin.keep (h2 c.r v _ _ _ F' (Eff.run_of q (Eff.run_f (by dsimp only; rw [e1, e2]; decide) (Eff.run_f (by dsimp only; rw [e3]; decide) (Eff.run_t (by dsimp only; exact e4) (Eff.run_of q3 rfl))))) (by omega) w1 w2 w3 w4 w5)
    · refine c_cut _ _ _ _ ?_
      simp only [go_sem]
      refine m_plain M A.put29 _ (by omega) fun v c s H n q3 lf A => ?_
      have hb := A.blk29
      obtain ⟨ha, hz⟩ := X A
      simp only [go_sem, hb, ha, hz]
      obtain ⟨w1, w2, F', w3, w4, w5⟩ := D A c.r
      exact Fin.keep (h2 c.r v _ _ _ F' (Eff.run_of q (Eff.run_f (by dsimp only; rw [e1, e2]; decide) (Eff.run_f (by dsimp only; rw [e3]; decide) (Eff.run_f (by dsimp only; rw [e4]; decide) (Eff.run_of q3 rfl))))) (by omega) w1 w2 w3 w4 w5)
omit M in
theorem begin_im {a : BitVec 16} {c c' : Core} {s s' : σ} (q : (beginM a c).run W.O s = (((), c'), s')) : c'.r.im = c.r.im := by
  unfold beginM pushM wrE at q
  simp only [Eff.bind, Eff.run] at q
  have := congrArg (fun x => x.1.2.r.im) q
  exact this.symm
/-- Something comes between, as the code takes it. -/
theorem c_inter (r : Rg) (pause line : Bool) {F : Nat → Prop} (hr : W.rep s H n F) (hl : 6 ≤ W.left s) (h : ∀ (r' : Rg) (q : Nat) s' H' n' F', (interE r pause line).run W.O s = ((r', q), s') → W.left s ≤ W.left s' + 6 → H'.wf n' → n ≤ n' → W.rep s' H' n' F' → (∀ i, F' i → F i ∨ n ≤ i) → (∀ i, i < n → ¬ F i → H' i = H i) → K (.tu [.ag r'.cells, .i64 q]) H' n') : ACalls Try.prog 13 [.ag r.cells, .ifc t W.v, .bo pause, .bo line] H n K := by
  refine ACalls.of_awp Try.func13 rfl (by decide +kernel) (show 4 ≤ 76 by decide) (by simp) fun wf => ?_
  have low : ∀ {i}, F i → i < n := fun hi => W.low hr hi
  have A0 := fun c => At.start (T := 48) (t := t) wf hr ⟨r.cells, 25, false⟩ ⟨rgZ.cells, 25, false⟩ (fun _ => cells_ok ⟨r, 0#8⟩ _) (fun _ => cells_ok ⟨rgZ, 0#8⟩ _) c
  have D := fun {c' : Core} {s' : σ} {H' : Heap} {n' : Nat} (A : AtC W t _ (n + 2) F (n + 2) c' s' H' n') (x : Rg) => At.done (b0 := ⟨r.cells, 25, false⟩) (b1 := ⟨rgZ.cells, 25, false⟩) hr A ⟨x.cells, 25, false⟩ (fun _ => cells_ok ⟨x, 0#8⟩ _)
  refine awp_ev dr0 (by decide +kernel) ?_
  have X := fun {c' : Core} {s' : σ} {H' : Heap} {n' : Nat} (A : AtC W t ((H.upd n (some ⟨r.cells, 25, false⟩)).upd (n + 1) (some ⟨rgZ.cells, 25, false⟩)) (n + 2) F (n + 2) c' s' H' n') =>
    (⟨by rw [A.fr n (by omega) (by omega) (fun hi => absurd (low hi) (by omega)), Heap.upd_ne _ _ (by omega), Heap.upd_same]; rfl, by rw [A.fr (n + 1) (by omega) (by omega) (fun hi => absurd (low hi) (by omega)), Heap.upd_same]; rfl⟩ : H' n = some ⟨[.u8 r.a, .u8 r.f, .u8 r.b, .u8 r.c, .u8 r.d, .u8 r.e, .u8 r.h, .u8 r.l, .u8 r.a2, .u8 r.f2, .u8 r.b2, .u8 r.c2, .u8 r.d2, .u8 r.e2, .u8 r.h2, .u8 r.l2, .u16 r.ix, .u16 r.iy, .u16 r.sp, .u16 r.pc, .u16 r.wz, .u8 r.i, .u8 r.r, .u8 r.im, .u8 r.pre, .bo r.iff1, .bo r.iff2, .bo r.hlt, .bo r.dly], 25, false⟩ ∧ H' (n + 1) = some ⟨[.u8 0#8, .u8 0#8, .u8 0#8, .u8 0#8, .u8 0#8, .u8 0#8, .u8 0#8, .u8 0#8, .u8 0#8, .u8 0#8, .u8 0#8, .u8 0#8, .u8 0#8, .u8 0#8, .u8 0#8, .u8 0#8, .u16 0#16, .u16 0#16, .u16 0#16, .u16 0#16, .u16 0#16, .u8 0#8, .u8 0#8, .u8 0#8, .u8 0#8, .bo false, .bo false, .bo false, .bo false], 25, false⟩)
  simp only [go_sem, Try.f13, Rg.cells]
  refine ⟨fun e => ?_, fun e => ⟨fun e1 => ?_, fun e1 => ⟨fun e2 => ⟨fun e3 => ⟨fun e4 => ?_, fun e4 => ?_⟩, fun e3 => ?_⟩, fun e2 => ?_⟩⟩⟩
  · exact Fin.back wf (h r 0 s H n F (by unfold interE; rw [if_pos e]; rfl) (by omega) wf (Nat.le_refl _) hr (fun _ hi => .inl hi) (fun _ _ _ => rfl)) (fun i hi => by repeat (rw [Heap.upd_ne _ _ (by omega)])) (by simp [AV.ok, AV.oks, AV.one])
  · have h2 := h
    unfold interE at h2
    rw [if_neg (nF e), if_pos e1] at h2
    refine m_begin M (A0 ⟨{ r with iff1 := false }, 0#8⟩) _ (by omega) fun c s H n q lf A => ?_
    have hb := A.blk29
    obtain ⟨ha, hz⟩ := X A
    simp only [go_sem, hb, ha, hz]
    obtain ⟨w1, w2, F', w3, w4, w5⟩ := D A c.r
    exact Fin.keep (h2 c.r 11 _ _ _ F' (Eff.run_of q rfl) (by omega) w1 w2 w3 w4 w5)
  · exact Fin.back wf (h r 0 s H n F (by unfold interE; rw [if_neg (nF e), if_neg (nF e1), if_pos (.inr (.inr e4))]; rfl) (by omega) wf (Nat.le_refl _) hr (fun _ hi => .inl hi) (fun _ _ _ => rfl)) (fun i hi => by repeat (rw [Heap.upd_ne _ _ (by omega)])) (by simp [AV.ok, AV.oks, AV.one])
  · have h2 := h
    unfold interE at h2
    rw [if_neg (nF e), if_neg (nF e1), if_neg (by rw [nbF e2, nbF e3, e4]; decide)] at h2
    refine m_begin M (A0 ⟨{ r with iff1 := false, iff2 := false }, 0#8⟩) _ (by omega) fun c s H n q lf A => ?_
    have him := begin_im q
    have hb := A.blk29
    obtain ⟨ha, hz⟩ := X A
    simp only [go_sem, hb, ha, hz]
    refine ⟨fun e5 => ?_, fun e5 => ?_⟩
    · obtain ⟨w1, w2, F', w3, w4, w5⟩ := D A c.r
      exact Fin.keep (h2 c.r 13 _ _ _ F' (Eff.run_of q (Eff.run_t (by dsimp only at him ⊢; rw [him]; first | exact e5 | exact dT e5) rfl)) (by omega) w1 w2 w3 w4 w5)
    · refine c_join _ _ _ _ _ ?_
      simp only [go_sem]
      refine m_load M A _ (by omega) fun v s H n q2 lf A => ?_
      simp only [go_sem]
      refine m_to A _ fun H n A => ?_
      have hb := A.blk29
      obtain ⟨ha, hz⟩ := X A
      simp only [go_sem, hb, ha, hz]
      obtain ⟨w1, w2, F', w3, w4, w5⟩ := D A (c.to v).r
      exact Fin.keep (h2 (c.to v).r 19 _ _ _ F' (Eff.run_of q (Eff.run_f (by dsimp only at him ⊢; rw [him]; first | exact e5 | exact dF e5) (Eff.run_of q2 rfl))) (by omega) w1 w2 w3 w4 w5)
  · exact Fin.back wf (h r 0 s H n F (by unfold interE; rw [if_neg (nF e), if_neg (nF e1), if_pos (.inr (.inl (nbT e3)))]; rfl) (by omega) wf (Nat.le_refl _) hr (fun _ hi => .inl hi) (fun _ _ _ => rfl)) (fun i hi => by repeat (rw [Heap.upd_ne _ _ (by omega)])) (by simp [AV.ok, AV.oks, AV.one])
  · exact Fin.back wf (h r 0 s H n F (by unfold interE; rw [if_neg (nF e), if_neg (nF e1), if_pos (.inl (nbT e2))]; rfl) (by omega) wf (Nat.le_refl _) hr (fun _ hi => .inl hi) (fun _ _ _ => rfl)) (fun i hi => by repeat (rw [Heap.upd_ne _ _ (by omega)])) (by simp [AV.ok, AV.oks, AV.one])
end
end Go.Proofs.Joy
namespace Go.Proofs.Joy
open Go.Ab
/-- A world of memory, and all that was done with it. -/
structure Bx where
  mem : List (BitVec 8)
  log : List Int
def bxO : Ops Bx where
  rd s a := (s.mem.getD a.toNat 0#8, { s with log := s.log ++ [(a.toNat : Int)] })
  wr s a x := { mem := s.mem.set a.toNat x, log := s.log ++ [wrap64 (wrap64 (1000000 + wrap64 ((a.toNat : Int) * 256)) + (x.toNat : Int))] }
  inp s p u := (BitVec.ofInt 8 (wrap64 (wrap64 ((p.toNat : Int) * 7) + wrap64 (((s.log.length + 1 : Nat) : Int) * 13))), { s with log := s.log ++ [wrap64 (wrap64 (100000000 + wrap64 ((p.toNat : Int) * 64)) + u)] })
  out s p x u := { s with log := s.log ++ [wrap64 (wrap64 (1000000000 + wrap64 (wrap64 (wrap64 ((p.toNat : Int) * 64) + u) * 256)) + (x.toNat : Int))] }
def bxLeft (s : Bx) : Nat := 4294967296 - s.log.length
theorem bx_lrd (s : Bx) (a : BitVec 16) : bxLeft s ≤ bxLeft (bxO.rd s a).2 + 1 := by simp only [bxLeft, bxO, List.length_append, List.length_cons, List.length_nil]; omega
theorem bx_lwr (s : Bx) (a : BitVec 16) (x : BitVec 8) : bxLeft s ≤ bxLeft (bxO.wr s a x) + 1 := by simp only [bxLeft, bxO, List.length_append, List.length_cons, List.length_nil]; omega
theorem bx_lin (s : Bx) (p : BitVec 16) (u : Int) : bxLeft s ≤ bxLeft (bxO.inp s p u).2 + 1 := by simp only [bxLeft, bxO, List.length_append, List.length_cons, List.length_nil]; omega
theorem bx_lout (s : Bx) (p : BitVec 16) (x : BitVec 8) (u : Int) : bxLeft s ≤ bxLeft (bxO.out s p x u) + 1 := by simp only [bxLeft, bxO, List.length_append, List.length_cons, List.length_nil]; omega
end Go.Proofs.Joy
namespace Go.Proofs.Joy
open Go.Ab Go.Proofs

set_option maxHeartbeats 2000000
set_option maxRecDepth 20000

/-- A box stands at b. -/
structure BxAt (b : Nat) (s : Bx) (H : Heap) (n : Nat) (F : Nat → Prop) (m : Nat) (L : AV) : Prop where
  len : s.mem.length = 65536
  blk : H b = some ⟨[.sl m 0 65536 65536, L], 37, false⟩
  mem : H m = some ⟨s.mem.map .u8, 5, false⟩
  log : (s.log = [] ∧ L = .sn) ∨ ∃ q, L = .su q 0 s.log.length 1 ∧ H q = some ⟨s.log.map .i64, 3, false⟩ ∧ q ≠ b ∧ q ≠ m ∧ F q
  bm : b ≠ m
  fb : F b
  fm : F m
  low : ∀ i, F i → i < n
def bxRep (b : Nat) (s : Bx) (H : Heap) (n : Nat) (F : Nat → Prop) : Prop := ∃ m L, BxAt b s H n F m L
theorem bx_stable {b : Nat} {s : Bx} {H : Heap} {n : Nat} {F : Nat → Prop} {H' : Heap} {n' : Nat} (h : bxRep b s H n F) (he : ∀ i, F i → H' i = H i) (hn : n ≤ n') : bxRep b s H' n' F := by
  obtain ⟨m, L, h⟩ := h
  refine ⟨m, L, h.len, by rw [he _ h.fb]; exact h.blk, by rw [he _ h.fm]; exact h.mem, ?_, h.bm, h.fb, h.fm, fun i hi => Nat.lt_of_lt_of_le (h.low i hi) hn⟩
  rcases h.log with h1 | ⟨q, h1, h2, h3, h4, h5⟩
  · exact .inl h1
  · exact .inr ⟨q, h1, by rw [he _ h5]; exact h2, h3, h4, h5⟩
theorem u8s_ok (l : List (BitVec 8)) (n : Nat) : ∀ v ∈ l.map AV.u8, v.ok n = true := fun v hv => by obtain ⟨x, _, rfl⟩ := List.mem_map.1 hv; rfl
theorem i64s_ok (l : List Int) (n : Nat) : ∀ v ∈ l.map AV.i64, v.ok n = true := fun v hv => by obtain ⟨x, _, rfl⟩ := List.mem_map.1 hv; rfl
/-- Something has been done: the log is longer by one. -/
theorem bx_end {b : Nat} {s : Bx} {H : Heap} {n : Nat} {F : Nat → Prop} {m : Nat} {L : AV} (hB : BxAt b s H n F m L) (mem' : List (BitVec 8)) (hl : mem'.length = 65536) (x : Int) {H' : Heap} (hb' : H' b = some ⟨[.sl m 0 65536 65536, .su (n + 1) 0 (s.log.length + 1) 1], 37, false⟩)
    (hm' : H' m = some ⟨mem'.map .u8, 5, false⟩) (hq' : H' (n + 1) = some ⟨(s.log ++ [x]).map .i64, 3, false⟩) (hfr : ∀ i, i < n → ¬ F i → H' i = H i) :
    ∃ F', bxRep b ⟨mem', s.log ++ [x]⟩ H' (n + 2) F' ∧ (∀ i, F' i → F i ∨ n ≤ i) ∧ ∀ i, i < n → ¬ F i → H' i = H i := by
  have lb := hB.low b hB.fb
  have lm := hB.low m hB.fm
  refine ⟨fun i => F i ∨ i = n + 1, ⟨m, _, hl, hb', hm', .inr ⟨n + 1, by simp, hq', by omega, by omega, .inr rfl⟩, hB.bm, .inl hB.fb, .inl hB.fm, fun i hi => ?_⟩, fun i hi => ?_, hfr⟩
  · rcases hi with h | h
    · have := hB.low i h; omega
    · omega
  · rcases hi with h | h
    · exact .inl h
    · exact .inr (by omega)
/-- .. and so one goes on. -/
theorem bx_fin {b : Nat} {s : Bx} {H : Heap} {n : Nat} {F : Nat → Prop} {m : Nat} {L : AV} {K : AV → Heap → Nat → Prop} {V : AV} (hB : BxAt b s H n F m L) (mem' : List (BitVec 8)) (hl : mem'.length = 65536) (x : Int)
    (h : ∀ H' n' F', H'.wf n' → n ≤ n' → bxRep b ⟨mem', s.log ++ [x]⟩ H' n' F' → (∀ i, F' i → F i ∨ n ≤ i) → (∀ i, i < n → ¬ F i → H' i = H i) → K V H' n') {H' : Heap} (hwf : H'.wf (n + 2)) (hb' : H' b = some ⟨[.sl m 0 65536 65536, .su (n + 1) 0 (s.log.length + 1) 1], 37, false⟩)
    (hm' : H' m = some ⟨mem'.map .u8, 5, false⟩) (hq' : H' (n + 1) = some ⟨(s.log ++ [x]).map .i64, 3, false⟩) (hfr : ∀ i, i < n → ¬ F i → H' i = H i) : K V H' (n + 2) := by
  obtain ⟨F', w1, w2, w3⟩ := bx_end hB mem' hl x hb' hm' hq' hfr
  exact h _ _ F' hwf (by omega) w1 w2 w3
theorem u8_getD {l : List (BitVec 8)} {i : Nat} (h : i < l.length) : (l.map AV.u8).getD i .junk = .u8 (l.getD i 0#8) := by
  simp [List.getD, List.getElem?_map, List.getElem?_eq_getElem h]
theorem bx_read {b : Nat} {s : Bx} {a : BitVec 16} {H : Heap} {n : Nat} {F : Nat → Prop} {K : AV → Heap → Nat → Prop} (hl : 1 ≤ bxLeft s) (hr : bxRep b s H n F) (h : ∀ H' n' F', H'.wf n' → n ≤ n' → bxRep b (bxO.rd s a).2 H' n' F' → (∀ i, F' i → F i ∨ n ≤ i) → (∀ i, i < n → ¬ F i → H' i = H i) → K (.u8 (bxO.rd s a).1) H' n') : ACalls Try.prog 115 [.pt b 0, .u16 a] H n K := by
  refine ACalls.of_awp Try.func115 rfl (by decide +kernel) (show 2 ≤ 23 by decide) (by simp) fun wf => ?_
  obtain ⟨m, L, hB⟩ := hr
  have hb := hB.blk
  have hm := hB.mem
  have lb := hB.low b hB.fb
  have lm := hB.low m hB.fm
  have eb := fun X Y => Heap.upd_ne X (i := n) (j := b) Y (by omega)
  have eb1 := fun X Y => Heap.upd_ne X (i := n + 1) (j := b) Y (by omega)
  have em := fun X Y => Heap.upd_ne X (i := n) (j := m) Y (by omega)
  have em1 := fun X Y => Heap.upd_ne X (i := n + 1) (j := m) Y (by omega)
  have emb := fun X Y => Heap.upd_ne X (i := b) (j := m) Y (Ne.symm hB.bm)
  have ebm := fun X Y => Heap.upd_ne X (i := m) (j := b) Y hB.bm
  have e1b := fun X Y => Heap.upd_ne X (i := b) (j := n + 1) Y (by omega)
  have e1m := fun X Y => Heap.upd_ne X (i := m) (j := n + 1) Y (by omega)
  have hlen := hB.len
  refine awp_ev dr0 (by decide +kernel) ?_
  unfold bxLeft at hl
  rcases hB.log with ⟨hl0, rfl⟩ | ⟨q, rfl, hq, h3, h4, h5⟩
  · simp only [go_sem, Try.f115, hb, hm, eb, eb1, em, em1, emb, ebm]
    have ha : a.toNat < s.mem.length := by rw [hlen]; exact a.isLt
    rw [u8_getD ha]
    refine ⟨by have := a.isLt; omega, by rw [List.length_map]; exact ha, by simp, ?_⟩
    refine Fin.keep (bx_fin hB s.mem (by exact hlen) _ h ?_ ?_ ?_ ?_ ?_)
    · exact Heap.wf_set (Heap.wf_upd (Heap.wf_upd wf (by simp [AV.ok])) (by simp [AV.ok])) (by omega) (by simp [AV.ok]; omega)
    · rw [Heap.upd_same]; simp [hl0]
    · rw [emb, em1, em]; exact hm
    · rw [e1b, Heap.upd_same]; simp [hl0]
    · intro i hi hF
      have hib : i ≠ b := fun e => hF (e ▸ hB.fb)
      have him : i ≠ m := fun e => hF (e ▸ hB.fm)
      rw [Heap.upd_ne _ _ hib, Heap.upd_ne _ _ (by omega), Heap.upd_ne _ _ (by omega)]
  · have lq := hB.low q h5
    have eq := fun X Y => Heap.upd_ne X (i := n) (j := q) Y (by omega)
    have ebq := fun X Y => Heap.upd_ne X (i := q) (j := b) Y (Ne.symm h3)
    have emq := fun X Y => Heap.upd_ne X (i := q) (j := m) Y (Ne.symm h4)
    simp only [go_sem, Try.f115, hb, hm, hq, eb, eb1, em, em1, emb, ebm, eq, ebq, emq, List.take_of_length_le (Nat.le_refl (s.log.map AV.i64).length)]
    have ha : a.toNat < s.mem.length := by rw [hlen]; exact a.isLt
    rw [u8_getD ha]
    refine ⟨by rw [List.length_map]; exact Nat.le_refl _, by omega, by have := a.isLt; omega, by rw [List.length_map]; exact ha, by simp, ?_⟩
    rw [List.take_of_length_le (l := s.log.map AV.i64) (by rw [List.length_map]; exact Nat.le_refl _)]
    refine Fin.keep (bx_fin hB s.mem (by exact hlen) _ h ?_ ?_ ?_ ?_ ?_)
    · exact Heap.wf_set (Heap.wf_upd (Heap.wf_upd_none (Heap.wf_upd wf (by simp [AV.ok]))) (fun v hv => by rcases List.mem_append.1 hv with hv | hv; exact i64s_ok _ _ v hv; simp only [List.mem_cons, List.not_mem_nil, or_false] at hv; rw [hv]; rfl)) (by omega) (by simp [AV.ok]; omega)
    · rw [Heap.upd_same]
    · rw [emb, em1, emq, em]; exact hm
    · rw [e1b, Heap.upd_same]; simp
    · intro i hi hF
      have hib : i ≠ b := fun e => hF (e ▸ hB.fb)
      have him : i ≠ m := fun e => hF (e ▸ hB.fm)
      have hiq : i ≠ q := fun e => hF (e ▸ h5)
      rw [Heap.upd_ne _ _ hib, Heap.upd_ne _ _ (by omega), Heap.upd_ne _ _ hiq, Heap.upd_ne _ _ (by omega)]
theorem bx_write {b : Nat} {s : Bx} {a : BitVec 16} {x : BitVec 8} {H : Heap} {n : Nat} {F : Nat → Prop} {K : AV → Heap → Nat → Prop} (hl : 1 ≤ bxLeft s) (hr : bxRep b s H n F) (h : ∀ H' n' F', H'.wf n' → n ≤ n' → bxRep b (bxO.wr s a x) H' n' F' → (∀ i, F' i → F i ∨ n ≤ i) → (∀ i, i < n → ¬ F i → H' i = H i) → K (.tu []) H' n') : ACalls Try.prog 116 [.pt b 0, .u16 a, .u8 x] H n K := by
  refine ACalls.of_awp Try.func116 rfl (by decide +kernel) (show 3 ≤ 29 by decide) (by simp) fun wf => ?_
  obtain ⟨m, L, hB⟩ := hr
  have hb := hB.blk
  have hm := hB.mem
  have lb := hB.low b hB.fb
  have lm := hB.low m hB.fm
  have eb := fun X Y => Heap.upd_ne X (i := n) (j := b) Y (by omega)
  have eb1 := fun X Y => Heap.upd_ne X (i := n + 1) (j := b) Y (by omega)
  have em := fun X Y => Heap.upd_ne X (i := n) (j := m) Y (by omega)
  have em1 := fun X Y => Heap.upd_ne X (i := n + 1) (j := m) Y (by omega)
  have emb := fun X Y => Heap.upd_ne X (i := b) (j := m) Y (Ne.symm hB.bm)
  have ebm := fun X Y => Heap.upd_ne X (i := m) (j := b) Y hB.bm
  have e1b := fun X Y => Heap.upd_ne X (i := b) (j := n + 1) Y (by omega)
  have e1m := fun X Y => Heap.upd_ne X (i := m) (j := n + 1) Y (by omega)
  have hlen := hB.len
  refine awp_ev dr0 (by decide +kernel) ?_
  unfold bxLeft at hl
  rcases hB.log with ⟨hl0, rfl⟩ | ⟨q, rfl, hq, h3, h4, h5⟩
  · simp only [go_sem, Try.f116, hb, hm, eb, eb1, em, em1, emb, ebm]
    have ha : a.toNat < s.mem.length := by rw [hlen]; exact a.isLt
    refine ⟨by have := a.isLt; omega, by rw [List.length_map]; exact ha, ?_⟩
    refine Fin.keep (bx_fin hB (s.mem.set a.toNat x) (by rw [List.length_set]; exact hlen) _ h ?_ ?_ ?_ ?_ ?_)
    · exact Heap.wf_set (Heap.wf_set (Heap.wf_upd (Heap.wf_upd wf (by simp [AV.ok])) (by simp [AV.ok])) (by omega) (by simp [AV.ok]; omega)) (by omega) (fun v hv => by rw [← List.map_set] at hv; exact u8s_ok _ _ v hv)
    · rw [ebm, Heap.upd_same]; simp [hl0]
    · rw [Heap.upd_same, List.map_set]
    · rw [e1m, e1b, Heap.upd_same]; simp [hl0]
    · intro i hi hF
      have hib : i ≠ b := fun e => hF (e ▸ hB.fb)
      have him : i ≠ m := fun e => hF (e ▸ hB.fm)
      rw [Heap.upd_ne _ _ him, Heap.upd_ne _ _ hib, Heap.upd_ne _ _ (by omega), Heap.upd_ne _ _ (by omega)]
  · have lq := hB.low q h5
    have eq := fun X Y => Heap.upd_ne X (i := n) (j := q) Y (by omega)
    have ebq := fun X Y => Heap.upd_ne X (i := q) (j := b) Y (Ne.symm h3)
    have emq := fun X Y => Heap.upd_ne X (i := q) (j := m) Y (Ne.symm h4)
    simp only [go_sem, Try.f116, hb, hm, hq, eb, eb1, em, em1, emb, ebm, eq, ebq, emq, List.take_of_length_le (Nat.le_refl (s.log.map AV.i64).length)]
    have ha : a.toNat < s.mem.length := by rw [hlen]; exact a.isLt
    refine ⟨by rw [List.length_map]; exact Nat.le_refl _, by omega, by have := a.isLt; omega, by rw [List.length_map]; exact ha, ?_⟩
    rw [List.take_of_length_le (l := s.log.map AV.i64) (by rw [List.length_map]; exact Nat.le_refl _)]
    refine Fin.keep (bx_fin hB (s.mem.set a.toNat x) (by rw [List.length_set]; exact hlen) _ h ?_ ?_ ?_ ?_ ?_)
    · exact Heap.wf_set (Heap.wf_set (Heap.wf_upd (Heap.wf_upd_none (Heap.wf_upd wf (by simp [AV.ok]))) (fun v hv => by rcases List.mem_append.1 hv with hv | hv; exact i64s_ok _ _ v hv; simp only [List.mem_cons, List.not_mem_nil, or_false] at hv; rw [hv]; rfl)) (by omega) (by simp [AV.ok]; omega)) (by omega) (fun v hv => by rw [← List.map_set] at hv; exact u8s_ok _ _ v hv)
    · rw [ebm, Heap.upd_same]
    · rw [Heap.upd_same, List.map_set]
    · rw [e1m, e1b, Heap.upd_same]; simp
    · intro i hi hF
      have hib : i ≠ b := fun e => hF (e ▸ hB.fb)
      have him : i ≠ m := fun e => hF (e ▸ hB.fm)
      have hiq : i ≠ q := fun e => hF (e ▸ h5)
      rw [Heap.upd_ne _ _ him, Heap.upd_ne _ _ hib, Heap.upd_ne _ _ (by omega), Heap.upd_ne _ _ hiq, Heap.upd_ne _ _ (by omega)]
theorem bx_inp {b : Nat} {s : Bx} {p : BitVec 16} {u : Int} {H : Heap} {n : Nat} {F : Nat → Prop} {K : AV → Heap → Nat → Prop} (hu : 0 ≤ u ∧ u ≤ 100) (hl : 1 ≤ bxLeft s) (hr : bxRep b s H n F) (h : ∀ H' n' F', H'.wf n' → n ≤ n' → bxRep b (bxO.inp s p u).2 H' n' F' → (∀ i, F' i → F i ∨ n ≤ i) → (∀ i, i < n → ¬ F i → H' i = H i) → K (.u8 (bxO.inp s p u).1) H' n') : ACalls Try.prog 113 [.pt b 0, .u16 p, .i64 u] H n K := by
  refine ACalls.of_awp Try.func113 rfl (by decide +kernel) (show 3 ≤ 33 by decide) (by simp) fun wf => ?_
  obtain ⟨m, L, hB⟩ := hr
  have hb := hB.blk
  have hm := hB.mem
  have lb := hB.low b hB.fb
  have lm := hB.low m hB.fm
  have eb := fun X Y => Heap.upd_ne X (i := n) (j := b) Y (by omega)
  have eb1 := fun X Y => Heap.upd_ne X (i := n + 1) (j := b) Y (by omega)
  have em := fun X Y => Heap.upd_ne X (i := n) (j := m) Y (by omega)
  have em1 := fun X Y => Heap.upd_ne X (i := n + 1) (j := m) Y (by omega)
  have emb := fun X Y => Heap.upd_ne X (i := b) (j := m) Y (Ne.symm hB.bm)
  have ebm := fun X Y => Heap.upd_ne X (i := m) (j := b) Y hB.bm
  have e1b := fun X Y => Heap.upd_ne X (i := b) (j := n + 1) Y (by omega)
  have e1m := fun X Y => Heap.upd_ne X (i := m) (j := n + 1) Y (by omega)
  have hlen := hB.len
  refine awp_ev dr0 (by decide +kernel) ?_
  unfold bxLeft at hl
  rcases hB.log with ⟨hl0, rfl⟩ | ⟨q, rfl, hq, h3, h4, h5⟩
  · simp only [go_sem, Try.f113, hb, hm, eb, eb1, em, em1, emb, ebm]
    have e13 : wrap64 13 = wrap64 (((s.log.length + 1 : Nat) : Int) * 13) := by rw [hl0]; rfl
    rw [e13]
    refine Fin.keep (bx_fin hB s.mem (by exact hlen) _ h ?_ ?_ ?_ ?_ ?_)
    · exact Heap.wf_set (Heap.wf_upd (Heap.wf_upd wf (by simp [AV.ok])) (by simp [AV.ok])) (by omega) (by simp [AV.ok]; omega)
    · rw [Heap.upd_same]; simp [hl0]
    · rw [emb, em1, em]; exact hm
    · rw [e1b, Heap.upd_same]; simp [hl0]
    · intro i hi hF
      have hib : i ≠ b := fun e => hF (e ▸ hB.fb)
      have him : i ≠ m := fun e => hF (e ▸ hB.fm)
      rw [Heap.upd_ne _ _ hib, Heap.upd_ne _ _ (by omega), Heap.upd_ne _ _ (by omega)]
  · have lq := hB.low q h5
    have eq := fun X Y => Heap.upd_ne X (i := n) (j := q) Y (by omega)
    have ebq := fun X Y => Heap.upd_ne X (i := q) (j := b) Y (Ne.symm h3)
    have emq := fun X Y => Heap.upd_ne X (i := q) (j := m) Y (Ne.symm h4)
    simp only [go_sem, Try.f113, hb, hm, hq, eb, eb1, em, em1, emb, ebm, eq, ebq, emq, List.take_of_length_le (Nat.le_refl (s.log.map AV.i64).length)]
    refine ⟨by rw [List.length_map]; exact Nat.le_refl _, by omega, ?_⟩
    rw [List.take_of_length_le (l := s.log.map AV.i64) (by rw [List.length_map]; exact Nat.le_refl _)]
    refine Fin.keep (bx_fin hB s.mem (by exact hlen) _ h ?_ ?_ ?_ ?_ ?_)
    · exact Heap.wf_set (Heap.wf_upd (Heap.wf_upd_none (Heap.wf_upd wf (by simp [AV.ok]))) (fun v hv => by rcases List.mem_append.1 hv with hv | hv; exact i64s_ok _ _ v hv; simp only [List.mem_cons, List.not_mem_nil, or_false] at hv; rw [hv]; rfl)) (by omega) (by simp [AV.ok]; omega)
    · rw [Heap.upd_same]
    · rw [emb, em1, emq, em]; exact hm
    · rw [e1b, Heap.upd_same]; simp
    · intro i hi hF
      have hib : i ≠ b := fun e => hF (e ▸ hB.fb)
      have him : i ≠ m := fun e => hF (e ▸ hB.fm)
      have hiq : i ≠ q := fun e => hF (e ▸ h5)
      rw [Heap.upd_ne _ _ hib, Heap.upd_ne _ _ (by omega), Heap.upd_ne _ _ hiq, Heap.upd_ne _ _ (by omega)]
theorem bx_out {b : Nat} {s : Bx} {p : BitVec 16} {x : BitVec 8} {u : Int} {H : Heap} {n : Nat} {F : Nat → Prop} {K : AV → Heap → Nat → Prop} (hu : 0 ≤ u ∧ u ≤ 100) (hl : 1 ≤ bxLeft s) (hr : bxRep b s H n F) (h : ∀ H' n' F', H'.wf n' → n ≤ n' → bxRep b (bxO.out s p x u) H' n' F' → (∀ i, F' i → F i ∨ n ≤ i) → (∀ i, i < n → ¬ F i → H' i = H i) → K (.tu []) H' n') : ACalls Try.prog 114 [.pt b 0, .u16 p, .u8 x, .i64 u] H n K := by
  refine ACalls.of_awp Try.func114 rfl (by decide +kernel) (show 4 ≤ 27 by decide) (by simp) fun wf => ?_
  obtain ⟨m, L, hB⟩ := hr
  have hb := hB.blk
  have hm := hB.mem
  have lb := hB.low b hB.fb
  have lm := hB.low m hB.fm
  have eb := fun X Y => Heap.upd_ne X (i := n) (j := b) Y (by omega)
  have eb1 := fun X Y => Heap.upd_ne X (i := n + 1) (j := b) Y (by omega)
  have em := fun X Y => Heap.upd_ne X (i := n) (j := m) Y (by omega)
  have em1 := fun X Y => Heap.upd_ne X (i := n + 1) (j := m) Y (by omega)
  have emb := fun X Y => Heap.upd_ne X (i := b) (j := m) Y (Ne.symm hB.bm)
  have ebm := fun X Y => Heap.upd_ne X (i := m) (j := b) Y hB.bm
  have e1b := fun X Y => Heap.upd_ne X (i := b) (j := n + 1) Y (by omega)
  have e1m := fun X Y => Heap.upd_ne X (i := m) (j := n + 1) Y (by omega)
  have hlen := hB.len
  refine awp_ev dr0 (by decide +kernel) ?_
  unfold bxLeft at hl
  rcases hB.log with ⟨hl0, rfl⟩ | ⟨q, rfl, hq, h3, h4, h5⟩
  · simp only [go_sem, Try.f114, hb, hm, eb, eb1, em, em1, emb, ebm]
    refine Fin.keep (bx_fin hB s.mem (by exact hlen) _ h ?_ ?_ ?_ ?_ ?_)
    · exact Heap.wf_set (Heap.wf_upd (Heap.wf_upd wf (by simp [AV.ok])) (by simp [AV.ok])) (by omega) (by simp [AV.ok]; omega)
    · rw [Heap.upd_same]; simp [hl0]
    · rw [emb, em1, em]; exact hm
    · rw [e1b, Heap.upd_same]; simp [hl0]
    · intro i hi hF
      have hib : i ≠ b := fun e => hF (e ▸ hB.fb)
      have him : i ≠ m := fun e => hF (e ▸ hB.fm)
      rw [Heap.upd_ne _ _ hib, Heap.upd_ne _ _ (by omega), Heap.upd_ne _ _ (by omega)]
  · have lq := hB.low q h5
    have eq := fun X Y => Heap.upd_ne X (i := n) (j := q) Y (by omega)
    have ebq := fun X Y => Heap.upd_ne X (i := q) (j := b) Y (Ne.symm h3)
    have emq := fun X Y => Heap.upd_ne X (i := q) (j := m) Y (Ne.symm h4)
    simp only [go_sem, Try.f114, hb, hm, hq, eb, eb1, em, em1, emb, ebm, eq, ebq, emq, List.take_of_length_le (Nat.le_refl (s.log.map AV.i64).length)]
    refine ⟨by rw [List.length_map]; exact Nat.le_refl _, by omega, ?_⟩
    rw [List.take_of_length_le (l := s.log.map AV.i64) (by rw [List.length_map]; exact Nat.le_refl _)]
    refine Fin.keep (bx_fin hB s.mem (by exact hlen) _ h ?_ ?_ ?_ ?_ ?_)
    · exact Heap.wf_set (Heap.wf_upd (Heap.wf_upd_none (Heap.wf_upd wf (by simp [AV.ok]))) (fun v hv => by rcases List.mem_append.1 hv with hv | hv; exact i64s_ok _ _ v hv; simp only [List.mem_cons, List.not_mem_nil, or_false] at hv; rw [hv]; rfl)) (by omega) (by simp [AV.ok]; omega)
    · rw [Heap.upd_same]
    · rw [emb, em1, emq, em]; exact hm
    · rw [e1b, Heap.upd_same]; simp
    · intro i hi hF
      have hib : i ≠ b := fun e => hF (e ▸ hB.fb)
      have him : i ≠ m := fun e => hF (e ▸ hB.fm)
      have hiq : i ≠ q := fun e => hF (e ▸ h5)
      rw [Heap.upd_ne _ _ hib, Heap.upd_ne _ _ (by omega), Heap.upd_ne _ _ hiq, Heap.upd_ne _ _ (by omega)]
end Go.Proofs.Joy
namespace Go.Proofs.Joy
open Go.Ab
/-- All of memory, by addresses. -/
@[irreducible] def memL (f : Nat → BitVec 8) : List (BitVec 8) := (List.range 65536).map f
theorem memL_len (f : Nat → BitVec 8) : (memL f).length = 65536 := by unfold memL; rw [List.length_map, List.length_range]
theorem memL_getD (f : Nat → BitVec 8) {i : Nat} (h : i < 65536) : (memL f).getD i 0#8 = f i := by
  unfold memL
  rw [List.getD_eq_getElem?_getD, List.getElem?_map, List.getElem?_range h]; rfl
theorem mapSet (l : List Nat) (f : Nat → BitVec 8) (x : BitVec 8) (N j : Nat) (hl : l = List.range N) : (l.map f).set j x = l.map (fun i => if i = j then x else f i) := by
  subst hl
  apply List.ext_getElem
  · simp
  · intro i h1 h2
    rw [List.getElem_set]
    simp only [List.getElem_map, List.getElem_range]
    by_cases h : j = i
    · rw [if_pos h, if_pos h.symm]
    · rw [if_neg h, if_neg (Ne.symm h)]
theorem memL_set (f : Nat → BitVec 8) {j : Nat} (x : BitVec 8) : (memL f).set j x = memL (fun i => if i = j then x else f i) := by unfold memL; exact mapSet _ f x 65536 j rfl
theorem memL_congr {f g : Nat → BitVec 8} (h : ∀ i, i < 65536 → f i = g i) : memL f = memL g := by
  unfold memL
  exact List.map_congr_left fun i hi => h i (List.mem_range.1 hi)
theorem memL_zero : memL (fun _ => 0#8) = List.replicate 65536 0#8 := by
  unfold memL
  rw [List.map_const', List.length_range]
/-- What a box is of, ahead of its code. -/
def fillS (fill : BitVec 8) (i : Nat) : BitVec 8 := BitVec.ofNat 8 i * fill ^^^ BitVec.ofNat 8 (i / 256)
/-- .. and with its first bytes. -/
def codeS (at_ : BitVec 16) (code : List (BitVec 8)) (fill : BitVec 8) : Nat → Nat → BitVec 8
  | 0, i => fillS fill i
  | j + 1, i => if i = (at_ + BitVec.ofNat 16 j).toNat then code.getD j 0#8 else codeS at_ code fill j i
def boxS (at_ : BitVec 16) (code : List (BitVec 8)) (fill : BitVec 8) : Bx := ⟨memL (codeS at_ code fill code.length), []⟩
end Go.Proofs.Joy
namespace Go.Proofs.Joy
open Go.Ab Go.Proofs

set_option maxHeartbeats 2000000
set_option maxRecDepth 20000

def boxW (b : Nat) : WC Try.prog Bx where
  O := bxO
  v := .pt b 0
  kr := 115
  kw := 116
  ki := 113
  ko := 114
  rep := bxRep b
  left := bxLeft
  lrd := bx_lrd
  lwr := bx_lwr
  lin := bx_lin
  lout := bx_lout
  vok := fun ⟨_, _, h⟩ => by have := h.low b h.fb; simp [AV.ok, this]
  low := fun ⟨_, _, h⟩ hi => h.low _ hi
  stable := bx_stable
  read := bx_read
  write := bx_write
  inp := bx_inp
  out := bx_out
theorem boxM (b : Nat) : MT (boxW b) 30 := ⟨(by show mthT Try.prog 30 "Read" = some 115; decide +kernel), (by show mthT Try.prog 30 "Write" = some 116; decide +kernel), (by show mthT Try.prog 30 "In" = some 113; decide +kernel), (by show mthT Try.prog 30 "Out" = some 114; decide +kernel)⟩
theorem c_right (r : Rg) (H : Heap) (n : Nat) (K : AV → Heap → Nat → Prop) (h : K (.bo r.right) H n) : ACalls Try.prog 10 [.ag r.cells] H n K := by
  refine ACalls.of_awp Try.func10 rfl (by decide +kernel) (show 1 ≤ 21 by decide) (by simp) fun wf => ?_
  refine awp_ev dr0 (by decide +kernel) ?_
  simp only [go_sem, Try.f10, Rg.cells]
  have hle : (decide (r.im ≤ 2#8)) = decide (r.im < 3#8) := by
    generalize r.im = x
    revert x; decide +kernel
  unfold Rg.right at h
  rw [hle] at h
  have hf : ∀ i, i < n → (H.upd n (some ⟨r.cells, 25, false⟩)) i = H i := fun i hi => Heap.upd_ne _ _ (by omega)
  refine ⟨fun e => ⟨fun e0 => ⟨fun e1 => ?_, fun e1 => ?_⟩, fun e0 => ?_⟩, fun e => ?_⟩
  · simp only [e, e0, e1, decide_true, Bool.true_and, Bool.false_or] at h
    exact Fin.back wf h hf rfl
  · simp only [e, e0, e1, decide_true, Bool.true_and, Bool.false_or, Bool.true_or] at h
    exact Fin.back wf h hf rfl
  · simp only [e, e0, decide_true, Bool.true_and, Bool.true_or] at h
    exact Fin.back wf h hf rfl
  · simp only [e, decide_false, Bool.false_and] at h
    exact Fin.back wf h hf rfl
structure BoS where
  j : Nat
def boH (H : Heap) (n : Nat) (f : Nat → BitVec 8) : Heap := (H.upd n (some ⟨(memL f).map .u8, 5, false⟩)).upd (n + 1) (some ⟨[.sl n 0 65536 65536, .sn], 37, false⟩)
theorem boH_wf {H : Heap} {n : Nat} (wf : H.wf n) (f : Nat → BitVec 8) : (boH H n f).wf (n + 2) := Heap.wf_upd (Heap.wf_upd wf (u8s_ok (memL f) _)) (fun v hv => by simp only [List.mem_cons, List.not_mem_nil, or_false] at hv; rcases hv with rfl | rfl; exact decide_eq_true (by omega); rfl)
def half1 (fill : BitVec 8) (j : Nat) : Nat → BitVec 8 := fun i => if i < j then fillS fill i else 0#8
theorem c_box (at_ : BitVec 16) (code : List (BitVec 8)) (fill : BitVec 8) (cv : AV) (H : Heap) (n : Nat) (K : AV → Heap → Nat → Prop) (hc : bytesIn H cv code) (hok : cv.ok n = true) (hl : code.length ≤ 1000)
    (h : ∀ b H' n' F', H'.wf n' → n ≤ n' → bxRep b (boxS at_ code fill) H' n' F' → (∀ i, F' i → n ≤ i) → (∀ i, i < n → H' i = H i) → K (.pt b 0) H' n') : ACalls Try.prog 11 [.u16 at_, cv, .u8 fill] H n K := by
  have hne : cv ≠ .junk := hc.ne
  refine ACalls.of_awp Try.func11 rfl (by decide +kernel) (show 3 ≤ 56 by decide) (by simp; exact hne) fun wf => ?_
  refine awp_step dr0 (by decide +kernel) ?_
  simp only [go_sem, Try.f11]
  refine awp_step dr0 (by decide +kernel) ?_
  simp only [go_sem]
  refine awp_step dr0 (by decide +kernel) ?_
  simp only [go_sem]
  have e0 : (repCells 65536 [AV.u8 0#8]) = (memL (half1 fill 0)).map .u8 := by
    rw [rep_u8, ← memL_zero]; rfl
  rw [e0]
  refine awp_loopF (S := BoS) (fun s => [(0, .u16 at_), (1, cv), (2, .u8 fill), (7, .pt (n + 1) 0), (18, .i64 65536), (19, .i64 s.j)]) (fun s => boH H n (half1 fill s.j)) (fun _ => n + 2) (fun s => s.j ≤ 65536) (fun s => 65536 - s.j)
    (fun s _ => ⟨boH_wf wf _, Env.okAt_of2 (by simp [AV.ok]; exact AV.ok_mono (by omega) _ hok)⟩) ?_ ⟨0⟩ (Nat.zero_le _) (by repeat (first | exact Env.le_nil _ | refine Env.le_cons rfl ?_)) (fun _ _ => rfl) rfl
  rintro ⟨j⟩ hj
  simp only at hj ⊢
  refine awp_step dr0 (by decide +kernel) ?_
  simp only [go_sem]
  refine awp_step dr0 (by decide +kernel) ?_
  simp only [go_sem]
  refine ⟨fun hlt => ?_, fun hlt => ?_⟩
  · refine awp_ev dr0 (by decide +kernel) ?_
    simp only [go_sem, boH]
    refine ⟨by omega, by rw [List.length_map, memL_len]; omega, ?_⟩
    have e1 : (wrap64 ((j : Int) + 1)) = ((j + 1 : Nat) : Int) := by rw [wrap_id _ (by omega) (by omega)]; omega
    have e2 : BitVec.ofInt 8 (j : Int) * fill ^^^ BitVec.ofInt 8 (wrap64 ((j : Int).tdiv 256)) = fillS fill j := by
      unfold fillS
      have : wrap64 ((j : Int).tdiv 256) = ((j / 256 : Nat) : Int) := by
        rw [show (j : Int).tdiv 256 = ((j / 256 : Nat) : Int) from rfl]; exact wrap_id _ (by omega) (by omega)
      rw [this]; rfl
    have e3 : (List.map AV.u8 (memL (half1 fill j))).set j (AV.u8 (fillS fill j)) = (memL (half1 fill (j + 1))).map .u8 := by
      rw [← List.map_set, memL_set]
      congr 1
      apply memL_congr
      intro i _
      simp only [half1]
      by_cases h1 : i = j
      · subst h1; rw [if_pos rfl, if_pos (by omega)]
      · rw [if_neg h1]
        by_cases h2 : i < j
        · rw [if_pos h2, if_pos (by omega)]
        · rw [if_neg h2, if_neg (by omega)]
    rw [e1, e2, e3]
    refine Ends.mk (⟨j + 1⟩ : BoS) ⟨by simp only; omega, by simp only; omega⟩ (by repeat (first | exact Env.le_nil _ | refine Env.le_cons rfl ?_)) (fun i _ => ?_) (Nat.le_refl _) (Nat.le_refl _)
    simp only [Heap.upd]
    by_cases h1 : i = n
    · subst h1; simp
    · simp [h1]
  · have hj2 : j = 65536 := by omega
    subst hj2
    have e4 : boH H n (half1 fill 65536) = boH H n (codeS at_ code fill 0) := by unfold boH; rw [memL_congr (f := half1 fill 65536) (g := codeS at_ code fill 0) fun i hi => if_pos hi]
    rw [e4]
    have hvok : cv.ok n = true := hok
    have hlb : ∀ K, lenB (some .slice) cv K = K (.i64 code.length) := lenB_bytes hc
    have hcc : bytesIn (boH H n (codeS at_ code fill 0)) cv code := hc.mono hok (fun i hi => by unfold boH; rw [Heap.upd_ne _ _ (by omega), Heap.upd_ne _ _ (by omega)])
    refine awp_seq (awp_step dr0 (by decide +kernel) ?_)
    simp only [go_sem, hlb]
    refine awp_block ?_
    refine awp_loopF (S := BoS) (fun s => [(0, .u16 at_), (37, cv), (7, .pt (n + 1) 0), (38, .i64 code.length), (39, .i64 s.j)]) (fun s => boH H n (codeS at_ code fill s.j)) (fun _ => n + 2) (fun s => s.j ≤ code.length) (fun s => code.length - s.j)
      (fun s _ => ⟨boH_wf wf _, Env.okAt_of2 (by simp [AV.ok]; exact AV.ok_mono (by omega) _ hok)⟩) ?_ ⟨0⟩ (Nat.zero_le _) (by repeat (first | exact Env.le_nil _ | refine Env.le_cons rfl ?_)) (fun _ _ => rfl) rfl
    rintro ⟨j⟩ hj
    simp only at hj ⊢
    refine awp_step dr0 (by decide +kernel) ?_
    simp only [go_sem]
    refine awp_step dr0 (by decide +kernel) ?_
    simp only [go_sem]
    refine ⟨fun hlt => ?_, fun hlt => ?_⟩
    · have hlt' : j < code.length := by omega
      refine awp_ev dr0 (by decide +kernel) ?_
      simp only [go_sem]
      rcases hc with ⟨rfl, rfl⟩ | ⟨su, b, o, c, blk, rfl, h0, h1, h2, h3⟩
      · simp at hlt'
      have hbn := (wf b _ h1).1
      have hbb : boH H n (codeS at_ code fill j) b = some blk := by unfold boH; rw [Heap.upd_ne _ _ (by omega), Heap.upd_ne _ _ (by omega)]; exact h1
      refine ixB_vw hlt' ?_
      obtain ⟨q1, q2⟩ := cells_at h2 h3 hlt'
      simp only [go_sem, hbb, q1, q2, true_and]
      simp only [go_sem, boH]
      have e1 : (wrap64 ((j : Int) + 1)) = ((j + 1 : Nat) : Int) := by rw [wrap_id _ (by omega) (by omega)]; omega
      have e2 : BitVec.ofInt 16 (j : Int) = BitVec.ofNat 16 j := rfl
      rw [e2]
      have ha := (at_ + BitVec.ofNat 16 j).isLt
      refine ⟨by omega, by rw [List.length_map, memL_len]; omega, ?_⟩
      have e3 : (List.map AV.u8 (memL (codeS at_ code fill j))).set (at_ + BitVec.ofNat 16 j).toNat (AV.u8 (code.getD j 0#8)) = (memL (codeS at_ code fill (j + 1))).map .u8 := by
        rw [← List.map_set, memL_set]; rfl
      rw [e1, e3]
      refine Ends.mk (⟨j + 1⟩ : BoS) ⟨by simp only; omega, by simp only; omega⟩ (by repeat (first | exact Env.le_nil _ | refine Env.le_cons rfl ?_)) (fun i _ => ?_) (Nat.le_refl _) (Nat.le_refl _)
      simp only [Heap.upd]
      by_cases h1 : i = n
      · subst h1; simp
      · simp [h1]
    · have hj3 : j = code.length := by omega
      subst hj3
      refine awp_ev dr0 (by decide +kernel) ?_
      simp only [go_sem]
      refine Fin.keep (h (n + 1) _ _ (fun i => i = n ∨ i = n + 1) (boH_wf wf _) (by omega) ⟨n, .sn, memL_len _, ?_, ?_, .inl ⟨rfl, rfl⟩, by omega, .inr rfl, .inl rfl, fun i hi => by rcases hi with h | h <;> omega⟩ (fun i hi => by rcases hi with h | h <;> omega) (fun i hi => ?_))
      · unfold boH; rw [Heap.upd_same]
      · unfold boH; rw [Heap.upd_ne _ _ (by omega), Heap.upd_same]; rfl
      · unfold boH; rw [Heap.upd_ne _ _ (by omega), Heap.upd_ne _ _ (by omega)]
end Go.Proofs.Joy
namespace Go.Proofs.Joy
open Go.Ab
/-- A world as a function of addresses. -/
def fnO : Ops ((Nat → BitVec 8) × List Int) where
  rd s a := (s.1 a.toNat, (s.1, (bxO.rd ⟨[], s.2⟩ a).2.log))
  wr s a x := (fun i => if i = a.toNat then x else s.1 i, (bxO.wr ⟨[], s.2⟩ a x).log)
  inp s p u := ((bxO.inp ⟨[], s.2⟩ p u).1, (s.1, (bxO.inp ⟨[], s.2⟩ p u).2.log))
  out s p x u := (s.1, (bxO.out ⟨[], s.2⟩ p x u).log)
theorem run_mem {α : Type} : ∀ (e : Eff α) (f : Nat → BitVec 8) (l : List Int), e.run bxO ⟨memL f, l⟩ = ((e.run fnO (f, l)).1, ⟨memL (e.run fnO (f, l)).2.1, (e.run fnO (f, l)).2.2⟩)
  | .ret _, _, _ => rfl
  | .rd a k, f, l => by
    have h1 : (bxO.rd ⟨memL f, l⟩ a) = (f a.toNat, ⟨memL f, l ++ [(a.toNat : Int)]⟩) := by
      show ((memL f).getD a.toNat 0#8, _) = _
      rw [memL_getD f a.isLt]
    simp only [Eff.run, h1]
    exact run_mem (k (f a.toNat)) f _
  | .wr a v k, f, l => by
    have h1 : (bxO.wr ⟨memL f, l⟩ a v) = ⟨memL (fun i => if i = a.toNat then v else f i), (bxO.wr ⟨[], l⟩ a v).log⟩ := by
      show (⟨(memL f).set a.toNat v, _⟩ : Bx) = _
      rw [memL_set]; rfl
    simp only [Eff.run, h1]
    exact run_mem k _ _
  | .inp p t k, f, l => by simp only [Eff.run]; exact run_mem (k _) f _
  | .out p v t k, f, l => by simp only [Eff.run]; exact run_mem k f _
theorem run_box {α : Type} {e : Eff α} {at_ : BitVec 16} {code : List (BitVec 8)} {fill : BitVec 8} {x : α} {s2 : Bx} (h : e.run bxO (boxS at_ code fill) = (x, s2)) : (e.run fnO (codeS at_ code fill code.length, [])).1 = x := by
  unfold boxS at h
  rw [run_mem] at h
  exact congrArg Prod.fst h
def rg0 : Rg := ⟨0#8, 0#8, 0#8, 0#8, 0#8, 0#8, 0#8, 0#8, 0#8, 0#8, 0#8, 0#8, 0#8, 0#8, 0#8, 0#8, 0#16, 0#16, 0#16, 0#16, 0#16, 0#8, 0#8, 0#8, 0#8, false, false, false, false⟩
theorem alive_eq : ((stepE { rg0 with pc := 100#16 }).run fnO (codeS 100#16 [0x3E#8, 5#8] 0#8 2, [])).1 = ({ rg0 with a := 5#8, pc := 102#16, r := 1#8 }, 7) := by decide +kernel
theorem names_a : ((stepE rg0).run fnO (codeS 0#16 [0xDD#8] 0#8 1, [])).1 = ({ rg0 with pc := 1#16, r := 1#8, pre := 0xDD#8 }, 4) := by decide +kernel
theorem names_b : ((stepE { rg0 with pc := 1#16, r := 1#8, pre := 0xDD#8 }).run fnO (codeS 0#16 [0xDD#8, 0x21#8, 1#8, 2#8] 0#8 4, [])).1 = ({ rg0 with pc := 4#16, r := 2#8, ix := 0x201#16 }, 10) := by decide +kernel
theorem names_c : ((stepE { rg0 with pc := 7#16, hlt := true }).run fnO (codeS 0#16 [] 0#8 0, [])).1 = ({ rg0 with pc := 7#16, r := 1#8, hlt := true }, 4) := by decide +kernel
theorem names_d : ((interE { rg0 with iff1 := true, dly := true } false true).run fnO (codeS 0#16 [] 0#8 0, [])).1 = ({ rg0 with iff1 := true, dly := true }, 0) := by decide +kernel
theorem names_e : ((interE { rg0 with iff1 := true, iff2 := true, pc := 5#16, hlt := true, im := 1#8 } false true).run fnO (codeS 0#16 [] 0#8 0, [])).1 = ({ rg0 with pc := 56#16, wz := 56#16, sp := 65534#16, im := 1#8, r := 1#8 }, 13) := by decide +kernel
theorem names_f : ((interE { rg0 with iff1 := true, iff2 := true, pc := 5#16 } true true).run fnO (codeS 0#16 [] 0#8 0, [])).1 = ({ rg0 with pc := 102#16, wz := 102#16, sp := 65534#16, r := 1#8, iff2 := true }, 11) := by decide +kernel
theorem box_left (at_ : BitVec 16) (code : List (BitVec 8)) (fill : BitVec 8) : 6 ≤ bxLeft (boxS at_ code fill) := by unfold bxLeft boxS; simp
end Go.Proofs.Joy
namespace Go.Proofs.Joy
open Go.Ab Go.Proofs

set_option maxHeartbeats 4000000
set_option maxRecDepth 20000

theorem c_alive (H : Heap) (n : Nat) (K : AV → Heap → Nat → Prop) (h : K (.bo true) H n) : ACalls Try.prog 9 [] H n K := by
  refine ACalls.of_awp Try.func9 rfl (by decide +kernel) (show 0 ≤ 18 by decide) (by simp) fun wf => ?_
  refine awp_ev dr0 (by decide +kernel) ?_
  simp only [go_sem, Try.f9]
  refine c_box 100#16 [0x3E#8, 5#8] 0#8 _ _ _ _ (bytesIn.whole (Heap.upd_same _ _ _) rfl (Nat.le_refl _)) (by simp [AV.ok]) (by decide) fun b H1 n1 F1 w1 l1 r1 o1 f1 => ?_
  simp only [go_sem]
  refine c_step (boxM b) ({ rg0 with pc := 100#16 }) r1 (box_left _ _ _) fun r' q s2 H2 n2 F2 e2 lf w2 l2 r2 o2 f2 => ?_
  have kk : ∀ i, i < n → H2 i = H i := fun i hi => (f2 i (by omega) (fun hF => absurd (o1 i hF) (by omega))).trans ((f1 i (by omega)).trans (Heap.upd_ne _ _ (by omega)))
  have hx := (run_box e2).symm.trans alive_eq
  simp only [Prod.mk.injEq] at hx
  obtain ⟨rfl, rfl⟩ := hx
  simp only [go_sem, Rg.cells, rg0]
  exact Fin.back wf h (fun i hi => by rw [Heap.upd_ne _ _ (by omega)]; exact kk i hi) rfl
theorem names_walk (H : Heap) (n : Nat) (K : AV → Heap → Nat → Prop) (h : K (.bo true) H n) : ACalls Try.prog 7 [] H n K := by
  refine ACalls.of_awp Try.func7 rfl (by decide +kernel) (show 0 ≤ 140 by decide) (by simp) fun wf => ?_
  refine awp_ev dr7 (by decide +kernel) ?_
  simp only [go_sem, Try.f7]
  refine c_box 0#16 [0xDD#8] 0#8 _ _ _ _ (bytesIn.whole (Heap.upd_same _ _ _) rfl (Nat.le_refl _)) (by simp [AV.ok]) (by decide) fun b0 H0 m0 F0 w0 l0 r0 o0 f0 => ?_
  simp only [go_sem]
  first
  | refine c_step (boxM b0) (rg0)  r0 (box_left _ _ _) fun x0 q0 s0 G0 n0 E0 e0 lf0 v0 g0 t0 p0 d0 => ?_
  | refine ⟨rfl, c_step (boxM b0) (rg0)  r0 (box_left _ _ _) fun x0 q0 s0 G0 n0 E0 e0 lf0 v0 g0 t0 p0 d0 => ?_⟩
  have kk0 := fun i (hi : i < n + 1) => (d0 i (by omega) (fun hF => absurd (o0 i hF) (by omega))).trans (f0 i (by omega))
  have hx0 := (run_box e0).symm.trans names_a
  simp only [Prod.mk.injEq] at hx0
  obtain ⟨rfl, rfl⟩ := hx0
  simp only [go_sem, Rg.cells, rg0]
  refine c_box 0#16 [0xDD#8, 0x21#8, 1#8, 2#8] 0#8 _ _ _ _ (bytesIn.whole (Heap.upd_same _ _ _) rfl (Nat.le_refl _)) (by simp [AV.ok]) (by decide) fun b1 H1 m1 F1 w1 l1 r1 o1 f1 => ?_
  have u1_0 : H1 n0 = some ⟨({ rg0 with pc := 1#16, r := 1#8, pre := 0xDD#8 } : Rg).cells, 25, false⟩ := by rw [f1 n0 (by omega), Heap.upd_ne _ _ (by omega), Heap.upd_same]; rfl
  simp only [Rg.cells, rg0] at u1_0
  simp only [go_sem, u1_0]
  first
  | refine c_step (boxM b1) ({ rg0 with pc := 1#16, r := 1#8, pre := 0xDD#8 })  r1 (box_left _ _ _) fun x1 q1 s1 G1 n1 E1 e1 lf1 v1 g1 t1 p1 d1 => ?_
  | refine ⟨rfl, c_step (boxM b1) ({ rg0 with pc := 1#16, r := 1#8, pre := 0xDD#8 })  r1 (box_left _ _ _) fun x1 q1 s1 G1 n1 E1 e1 lf1 v1 g1 t1 p1 d1 => ?_⟩
  have kk1 := fun i (hi : i < n0 + 2) => (d1 i (by omega) (fun hF => absurd (o1 i hF) (by omega))).trans (f1 i (by omega))
  have hx1 := (run_box e1).symm.trans names_b
  simp only [Prod.mk.injEq] at hx1
  obtain ⟨rfl, rfl⟩ := hx1
  have z1_0 : G1 n0 = some ⟨({ rg0 with pc := 1#16, r := 1#8, pre := 0xDD#8 } : Rg).cells, 25, false⟩ := by rw [kk1 n0 (by omega), Heap.upd_ne _ _ (by omega), Heap.upd_same]; rfl
  have yz1_0 := z1_0
  simp only [Rg.cells, rg0] at yz1_0
  have eu1_0 := fun X Y => Heap.upd_ne X (i := n1) (j := n0) Y (by omega)
  simp only [go_sem, Rg.cells, rg0, yz1_0, eu1_0]
  refine c_box 0#16 [] 0#8 _ _ _ _ (.inl ⟨rfl, rfl⟩) rfl (by decide) fun b2 H2 m2 F2 w2 l2 r2 o2 f2 => ?_
  have u2_0 : H2 n0 = some ⟨({ rg0 with pc := 1#16, r := 1#8, pre := 0xDD#8 } : Rg).cells, 25, false⟩ := by rw [f2 n0 (by omega), Heap.upd_ne _ _ (by omega)]; exact z1_0
  simp only [Rg.cells, rg0] at u2_0
  have u2_1 : H2 n1 = some ⟨({ rg0 with pc := 4#16, r := 2#8, ix := 0x201#16 } : Rg).cells, 25, false⟩ := by rw [f2 n1 (by omega), Heap.upd_same]; rfl
  simp only [Rg.cells, rg0] at u2_1
  simp only [go_sem, u2_0, u2_1]
  first
  | refine c_step (boxM b2) ({ rg0 with pc := 7#16, hlt := true })  r2 (box_left _ _ _) fun x2 q2 s2 G2 n2 E2 e2 lf2 v2 g2 t2 p2 d2 => ?_
  | refine ⟨rfl, c_step (boxM b2) ({ rg0 with pc := 7#16, hlt := true })  r2 (box_left _ _ _) fun x2 q2 s2 G2 n2 E2 e2 lf2 v2 g2 t2 p2 d2 => ?_⟩
  have kk2 := fun i (hi : i < n1 + 1) => (d2 i (by omega) (fun hF => absurd (o2 i hF) (by omega))).trans (f2 i (by omega))
  have hx2 := (run_box e2).symm.trans names_c
  simp only [Prod.mk.injEq] at hx2
  obtain ⟨rfl, rfl⟩ := hx2
  have z2_0 : G2 n0 = some ⟨({ rg0 with pc := 1#16, r := 1#8, pre := 0xDD#8 } : Rg).cells, 25, false⟩ := by rw [kk2 n0 (by omega), Heap.upd_ne _ _ (by omega)]; exact z1_0
  have z2_1 : G2 n1 = some ⟨({ rg0 with pc := 4#16, r := 2#8, ix := 0x201#16 } : Rg).cells, 25, false⟩ := by rw [kk2 n1 (by omega), Heap.upd_same]; rfl
  have yz2_0 := z2_0
  simp only [Rg.cells, rg0] at yz2_0
  have yz2_1 := z2_1
  simp only [Rg.cells, rg0] at yz2_1
  have eu2_0 := fun X Y => Heap.upd_ne X (i := n2) (j := n0) Y (by omega)
  have eu2_1 := fun X Y => Heap.upd_ne X (i := n2) (j := n1) Y (by omega)
  simp only [go_sem, Rg.cells, rg0, yz2_0, yz2_1, eu2_0, eu2_1]
  refine c_box 0#16 [] 0#8 _ _ _ _ (.inl ⟨rfl, rfl⟩) rfl (by decide) fun b3 H3 m3 F3 w3 l3 r3 o3 f3 => ?_
  have u3_0 : H3 n0 = some ⟨({ rg0 with pc := 1#16, r := 1#8, pre := 0xDD#8 } : Rg).cells, 25, false⟩ := by rw [f3 n0 (by omega), Heap.upd_ne _ _ (by omega)]; exact z2_0
  simp only [Rg.cells, rg0] at u3_0
  have u3_1 : H3 n1 = some ⟨({ rg0 with pc := 4#16, r := 2#8, ix := 0x201#16 } : Rg).cells, 25, false⟩ := by rw [f3 n1 (by omega), Heap.upd_ne _ _ (by omega)]; exact z2_1
  simp only [Rg.cells, rg0] at u3_1
  have u3_2 : H3 n2 = some ⟨({ rg0 with pc := 7#16, r := 1#8, hlt := true } : Rg).cells, 25, false⟩ := by rw [f3 n2 (by omega), Heap.upd_same]; rfl
  simp only [Rg.cells, rg0] at u3_2
  simp only [go_sem, u3_0, u3_1, u3_2]
  first
  | refine c_inter (boxM b3) ({ rg0 with iff1 := true, dly := true }) false true r3 (box_left _ _ _) fun x3 q3 s3 G3 n3 E3 e3 lf3 v3 g3 t3 p3 d3 => ?_
  | refine ⟨rfl, c_inter (boxM b3) ({ rg0 with iff1 := true, dly := true }) false true r3 (box_left _ _ _) fun x3 q3 s3 G3 n3 E3 e3 lf3 v3 g3 t3 p3 d3 => ?_⟩
  have kk3 := fun i (hi : i < n2 + 1) => (d3 i (by omega) (fun hF => absurd (o3 i hF) (by omega))).trans (f3 i (by omega))
  have hx3 := (run_box e3).symm.trans names_d
  simp only [Prod.mk.injEq] at hx3
  obtain ⟨rfl, rfl⟩ := hx3
  have z3_0 : G3 n0 = some ⟨({ rg0 with pc := 1#16, r := 1#8, pre := 0xDD#8 } : Rg).cells, 25, false⟩ := by rw [kk3 n0 (by omega), Heap.upd_ne _ _ (by omega)]; exact z2_0
  have z3_1 : G3 n1 = some ⟨({ rg0 with pc := 4#16, r := 2#8, ix := 0x201#16 } : Rg).cells, 25, false⟩ := by rw [kk3 n1 (by omega), Heap.upd_ne _ _ (by omega)]; exact z2_1
  have z3_2 : G3 n2 = some ⟨({ rg0 with pc := 7#16, r := 1#8, hlt := true } : Rg).cells, 25, false⟩ := by rw [kk3 n2 (by omega), Heap.upd_same]; rfl
  have yz3_0 := z3_0
  simp only [Rg.cells, rg0] at yz3_0
  have yz3_1 := z3_1
  simp only [Rg.cells, rg0] at yz3_1
  have yz3_2 := z3_2
  simp only [Rg.cells, rg0] at yz3_2
  have eu3_0 := fun X Y => Heap.upd_ne X (i := n3) (j := n0) Y (by omega)
  have eu3_1 := fun X Y => Heap.upd_ne X (i := n3) (j := n1) Y (by omega)
  have eu3_2 := fun X Y => Heap.upd_ne X (i := n3) (j := n2) Y (by omega)
  simp only [go_sem, Rg.cells, rg0, yz3_0, yz3_1, yz3_2, eu3_0, eu3_1, eu3_2]
  refine c_box 0#16 [] 0#8 _ _ _ _ (.inl ⟨rfl, rfl⟩) rfl (by decide) fun b4 H4 m4 F4 w4 l4 r4 o4 f4 => ?_
  have u4_0 : H4 n0 = some ⟨({ rg0 with pc := 1#16, r := 1#8, pre := 0xDD#8 } : Rg).cells, 25, false⟩ := by rw [f4 n0 (by omega), Heap.upd_ne _ _ (by omega)]; exact z3_0
  simp only [Rg.cells, rg0] at u4_0
  have u4_1 : H4 n1 = some ⟨({ rg0 with pc := 4#16, r := 2#8, ix := 0x201#16 } : Rg).cells, 25, false⟩ := by rw [f4 n1 (by omega), Heap.upd_ne _ _ (by omega)]; exact z3_1
  simp only [Rg.cells, rg0] at u4_1
  have u4_2 : H4 n2 = some ⟨({ rg0 with pc := 7#16, r := 1#8, hlt := true } : Rg).cells, 25, false⟩ := by rw [f4 n2 (by omega), Heap.upd_ne _ _ (by omega)]; exact z3_2
  simp only [Rg.cells, rg0] at u4_2
  have u4_3 : H4 n3 = some ⟨({ rg0 with iff1 := true, dly := true } : Rg).cells, 25, false⟩ := by rw [f4 n3 (by omega), Heap.upd_same]; rfl
  simp only [Rg.cells, rg0] at u4_3
  simp only [go_sem, u4_0, u4_1, u4_2, u4_3]
  first
  | refine c_inter (boxM b4) ({ rg0 with iff1 := true, iff2 := true, pc := 5#16, hlt := true, im := 1#8 }) false true r4 (box_left _ _ _) fun x4 q4 s4 G4 n4 E4 e4 lf4 v4 g4 t4 p4 d4 => ?_
  | refine ⟨rfl, c_inter (boxM b4) ({ rg0 with iff1 := true, iff2 := true, pc := 5#16, hlt := true, im := 1#8 }) false true r4 (box_left _ _ _) fun x4 q4 s4 G4 n4 E4 e4 lf4 v4 g4 t4 p4 d4 => ?_⟩
  have kk4 := fun i (hi : i < n3 + 1) => (d4 i (by omega) (fun hF => absurd (o4 i hF) (by omega))).trans (f4 i (by omega))
  have hx4 := (run_box e4).symm.trans names_e
  simp only [Prod.mk.injEq] at hx4
  obtain ⟨rfl, rfl⟩ := hx4
  have z4_0 : G4 n0 = some ⟨({ rg0 with pc := 1#16, r := 1#8, pre := 0xDD#8 } : Rg).cells, 25, false⟩ := by rw [kk4 n0 (by omega), Heap.upd_ne _ _ (by omega)]; exact z3_0
  have z4_1 : G4 n1 = some ⟨({ rg0 with pc := 4#16, r := 2#8, ix := 0x201#16 } : Rg).cells, 25, false⟩ := by rw [kk4 n1 (by omega), Heap.upd_ne _ _ (by omega)]; exact z3_1
  have z4_2 : G4 n2 = some ⟨({ rg0 with pc := 7#16, r := 1#8, hlt := true } : Rg).cells, 25, false⟩ := by rw [kk4 n2 (by omega), Heap.upd_ne _ _ (by omega)]; exact z3_2
  have z4_3 : G4 n3 = some ⟨({ rg0 with iff1 := true, dly := true } : Rg).cells, 25, false⟩ := by rw [kk4 n3 (by omega), Heap.upd_same]; rfl
  have yz4_0 := z4_0
  simp only [Rg.cells, rg0] at yz4_0
  have yz4_1 := z4_1
  simp only [Rg.cells, rg0] at yz4_1
  have yz4_2 := z4_2
  simp only [Rg.cells, rg0] at yz4_2
  have yz4_3 := z4_3
  simp only [Rg.cells, rg0] at yz4_3
  have eu4_0 := fun X Y => Heap.upd_ne X (i := n4) (j := n0) Y (by omega)
  have eu4_1 := fun X Y => Heap.upd_ne X (i := n4) (j := n1) Y (by omega)
  have eu4_2 := fun X Y => Heap.upd_ne X (i := n4) (j := n2) Y (by omega)
  have eu4_3 := fun X Y => Heap.upd_ne X (i := n4) (j := n3) Y (by omega)
  simp only [go_sem, Rg.cells, rg0, yz4_0, yz4_1, yz4_2, yz4_3, eu4_0, eu4_1, eu4_2, eu4_3]
  refine c_box 0#16 [] 0#8 _ _ _ _ (.inl ⟨rfl, rfl⟩) rfl (by decide) fun b5 H5 m5 F5 w5 l5 r5 o5 f5 => ?_
  have u5_0 : H5 n0 = some ⟨({ rg0 with pc := 1#16, r := 1#8, pre := 0xDD#8 } : Rg).cells, 25, false⟩ := by rw [f5 n0 (by omega), Heap.upd_ne _ _ (by omega)]; exact z4_0
  simp only [Rg.cells, rg0] at u5_0
  have u5_1 : H5 n1 = some ⟨({ rg0 with pc := 4#16, r := 2#8, ix := 0x201#16 } : Rg).cells, 25, false⟩ := by rw [f5 n1 (by omega), Heap.upd_ne _ _ (by omega)]; exact z4_1
  simp only [Rg.cells, rg0] at u5_1
  have u5_2 : H5 n2 = some ⟨({ rg0 with pc := 7#16, r := 1#8, hlt := true } : Rg).cells, 25, false⟩ := by rw [f5 n2 (by omega), Heap.upd_ne _ _ (by omega)]; exact z4_2
  simp only [Rg.cells, rg0] at u5_2
  have u5_3 : H5 n3 = some ⟨({ rg0 with iff1 := true, dly := true } : Rg).cells, 25, false⟩ := by rw [f5 n3 (by omega), Heap.upd_ne _ _ (by omega)]; exact z4_3
  simp only [Rg.cells, rg0] at u5_3
  have u5_4 : H5 n4 = some ⟨({ rg0 with pc := 56#16, wz := 56#16, sp := 65534#16, im := 1#8, r := 1#8 } : Rg).cells, 25, false⟩ := by rw [f5 n4 (by omega), Heap.upd_same]; rfl
  simp only [Rg.cells, rg0] at u5_4
  simp only [go_sem, u5_0, u5_1, u5_2, u5_3, u5_4]
  first
  | refine c_inter (boxM b5) ({ rg0 with iff1 := true, iff2 := true, pc := 5#16 }) true true r5 (box_left _ _ _) fun x5 q5 s5 G5 n5 E5 e5 lf5 v5 g5 t5 p5 d5 => ?_
  | refine ⟨rfl, c_inter (boxM b5) ({ rg0 with iff1 := true, iff2 := true, pc := 5#16 }) true true r5 (box_left _ _ _) fun x5 q5 s5 G5 n5 E5 e5 lf5 v5 g5 t5 p5 d5 => ?_⟩
  have kk5 := fun i (hi : i < n4 + 1) => (d5 i (by omega) (fun hF => absurd (o5 i hF) (by omega))).trans (f5 i (by omega))
  have hx5 := (run_box e5).symm.trans names_f
  simp only [Prod.mk.injEq] at hx5
  obtain ⟨rfl, rfl⟩ := hx5
  have z5_0 : G5 n0 = some ⟨({ rg0 with pc := 1#16, r := 1#8, pre := 0xDD#8 } : Rg).cells, 25, false⟩ := by rw [kk5 n0 (by omega), Heap.upd_ne _ _ (by omega)]; exact z4_0
  have z5_1 : G5 n1 = some ⟨({ rg0 with pc := 4#16, r := 2#8, ix := 0x201#16 } : Rg).cells, 25, false⟩ := by rw [kk5 n1 (by omega), Heap.upd_ne _ _ (by omega)]; exact z4_1
  have z5_2 : G5 n2 = some ⟨({ rg0 with pc := 7#16, r := 1#8, hlt := true } : Rg).cells, 25, false⟩ := by rw [kk5 n2 (by omega), Heap.upd_ne _ _ (by omega)]; exact z4_2
  have z5_3 : G5 n3 = some ⟨({ rg0 with iff1 := true, dly := true } : Rg).cells, 25, false⟩ := by rw [kk5 n3 (by omega), Heap.upd_ne _ _ (by omega)]; exact z4_3
  have z5_4 : G5 n4 = some ⟨({ rg0 with pc := 56#16, wz := 56#16, sp := 65534#16, im := 1#8, r := 1#8 } : Rg).cells, 25, false⟩ := by rw [kk5 n4 (by omega), Heap.upd_same]; rfl
  have yz5_0 := z5_0
  simp only [Rg.cells, rg0] at yz5_0
  have yz5_1 := z5_1
  simp only [Rg.cells, rg0] at yz5_1
  have yz5_2 := z5_2
  simp only [Rg.cells, rg0] at yz5_2
  have yz5_3 := z5_3
  simp only [Rg.cells, rg0] at yz5_3
  have yz5_4 := z5_4
  simp only [Rg.cells, rg0] at yz5_4
  have eu5_0 := fun X Y => Heap.upd_ne X (i := n5) (j := n0) Y (by omega)
  have eu5_1 := fun X Y => Heap.upd_ne X (i := n5) (j := n1) Y (by omega)
  have eu5_2 := fun X Y => Heap.upd_ne X (i := n5) (j := n2) Y (by omega)
  have eu5_3 := fun X Y => Heap.upd_ne X (i := n5) (j := n3) Y (by omega)
  have eu5_4 := fun X Y => Heap.upd_ne X (i := n5) (j := n4) Y (by omega)
  simp only [go_sem, Rg.cells, rg0, yz5_0, yz5_1, yz5_2, yz5_3, yz5_4, eu5_0, eu5_1, eu5_2, eu5_3, eu5_4]
  refine c_alive _ _ _ ?_
  simp only [go_sem, List.append, yz5_0, eu5_0, yz5_1, eu5_1, yz5_2, eu5_2, yz5_3, eu5_3, yz5_4, eu5_4]
  exact Fin.back wf h (fun i hi => by rw [Heap.upd_ne _ _ (by omega), kk5 i (by omega), Heap.upd_ne _ _ (by omega), kk4 i (by omega), Heap.upd_ne _ _ (by omega), kk3 i (by omega), Heap.upd_ne _ _ (by omega), kk2 i (by omega), Heap.upd_ne _ _ (by omega), kk1 i (by omega), Heap.upd_ne _ _ (by omega), Heap.upd_ne _ _ (by omega), kk0 i (by omega), Heap.upd_ne _ _ (by omega)]) rfl
end Go.Proofs.Joy
namespace Go.Proofs.Joy
open Go.Ab Go.Proofs

theorem names_all (H : Heap) (n : Nat) (L : List AV) (_ : RO H) (_ : H.wf n) (_ : ∀ x ∈ L, x.ok n = true) (hf : fitAs H [] L) : ACalls Try.prog 7 L H n fun v _ _ => v = .bo true := by
  match L, hf with
  | [], _ => exact names_walk _ _ _ rfl
end Go.Proofs.Joy
