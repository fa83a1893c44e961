/- Parts of the proof: contracts of the seat's functions. -/
import Derived.Test.YtofkkcflpkcdaaaGreatJoyX2
set_option linter.unusedSimpArgs false
set_option linter.unusedVariables false
set_option linter.unnecessarySimpa false
namespace Go.Proofs.Joy
open Go.Ab Go.Proofs
set_option maxHeartbeats 2000000
set_option maxRecDepth 20000
abbrev AtC {σ:Type} (W:WC Tryz.prog σ) (t:TypeId):=At W 59 t
section
variable {σ:Type} {W:WC Tryz.prog σ} {t:TypeId} {H0:Heap} {n0:Nat} {F0:Nat→Prop} {k:Nat} {c:Core} {s:σ} {H:Heap} {n:Nat} {K:AV→Heap→Nat→Prop}
theorem m_which (A:AtC W t H0 n0 F0 k c s H n) (m:Nat) (h:K (.i64 (whichS c.pr m)) H n):ACalls Tryz.prog 96 [.pt k 0,.i64 m] H n K:=by
  refine ACalls.of_awp Tryz.func96 rfl (by decide +kernel) (show 2≤13 by decide) (by simp) fun wf=>?_
  have hb:=A.blk29
  unfold whichS at h
  refine awp_ev dr0 (by decide +kernel) ?_
  simp only[go_sem,Tryz.f96,hb]
  refine⟨fun e=>?_,fun e=>?_⟩
  · rw[if_pos (by have:=of_decide_eq_true e; omega)] at h
    refine c_index _ _ _ _ ?_
    simp only[go_sem]
    exact Fin.keep h
  · rw[if_neg (by have:=of_decide_eq_false e; omega)] at h
    exact Fin.keep h
theorem which_lt (pr:BitVec 8) {m:Nat} (hm:m<7):whichS pr m<7:=by unfold whichS; split; exact idxS_lt _; exact hm
theorem m_pair (A:AtC W t H0 n0 F0 k c s H n) (m:Nat) (hm:m<7) (h:K (.u16 (c.pair m)) H n):ACalls Tryz.prog 46 [.pt k 0,.i64 m] H n K:=by
  refine ACalls.of_awp Tryz.func46 rfl (by decide +kernel) (show 2≤13 by decide) (by simp) fun wf=>?_
  have hb:=A.blk29
  refine awp_ev dr46 (by decide +kernel) ?_
  simp only[go_sem,Tryz.f46,hb]
  refine m_which A m ?_
  simp only[go_sem,hb]
  refine c_pair c.r _ (which_lt _ hm) _ _ _ ?_
  simp only[go_sem]
  exact Fin.keep h
theorem m_setpair (A:AtC W t H0 n0 F0 k c s H n) (m:Nat) (hm:m<7) (v:BitVec 16) (h:∀H' n',AtC W t H0 n0 F0 k (c.setPair m v) s H' n'→K (.tu []) H' n'):ACalls Tryz.prog 52 [.pt k 0,.i64 m,.u16 v] H n K:=by
  refine ACalls.of_awp Tryz.func52 rfl (by decide +kernel) (show 3≤18 by decide) (by simp) fun wf=>?_
  have hb:=A.blk29
  refine awp_ev dr52 (by decide +kernel) ?_
  simp only[go_sem,Tryz.f52,hb]
  refine m_which A m ?_
  simp only[go_sem,hb]
  refine c_setpair c.r _ (which_lt _ hm) _ _ _ _ ?_
  simp only[go_sem,hb,Rg.cells]
  exact Fin.keep (h _ _ A.put29)
theorem m_one (A:AtC W t H0 n0 F0 k c s H n) (m:Nat) (hm:m<8) (h:K (.u8 (c.one m)) H n):ACalls Tryz.prog 49 [.pt k 0,.i64 m] H n K:=by
  refine ACalls.of_awp Tryz.func49 rfl (by decide +kernel) (show 2≤15 by decide) (by simp) fun wf=>?_
  have hb:=A.blk29
  refine awp_ev dr49 (by decide +kernel) ?_
  simp only[go_sem,Tryz.f49,hb]
  refine c_one c.r m hm _ _ _ _ ?_
  simp only[go_sem]
  exact Fin.keep h
theorem m_setone (A:AtC W t H0 n0 F0 k c s H n) (m:Nat) (hm:m<8) (v:BitVec 8) (h:∀H' n',AtC W t H0 n0 F0 k (c.setOne m v) s H' n'→K (.tu []) H' n'):ACalls Tryz.prog 48 [.pt k 0,.i64 m,.u8 v] H n K:=by
  refine ACalls.of_awp Tryz.func48 rfl (by decide +kernel) (show 3≤20 by decide) (by simp) fun wf=>?_
  have hb:=A.blk29
  refine awp_ev dr48 (by decide +kernel) ?_
  simp only[go_sem,Tryz.f48,hb]
  refine c_setone c.r m hm _ _ _ _ _ ?_
  simp only[go_sem,hb,Rg.cells]
  exact Fin.keep (h _ _ A.put29)
theorem m_to (A:AtC W t H0 n0 F0 k c s H n) (a:BitVec 16) (h:∀H' n',AtC W t H0 n0 F0 k (c.to a) s H' n'→K (.tu []) H' n'):ACalls Tryz.prog 37 [.pt k 0,.u16 a] H n K:=by
  refine ACalls.of_awp Tryz.func37 rfl (by decide +kernel) (show 2≤14 by decide) (by simp) fun wf=>?_
  have hb:=A.blk29
  refine awp_ev dr0 (by decide +kernel) ?_
  simp only[go_sem,Tryz.f37,hb]
  exact Fin.keep (h _ _ A.put29)
theorem m_told (A:AtC W t H0 n0 F0 k c s H n) (v:BitVec 8) (h:∀H' n',AtC W t H0 n0 F0 k (c.setF (toldS v c.r.f)) s H' n'→K (.tu []) H' n'):ACalls Tryz.prog 47 [.pt k 0,.u8 v] H n K:=by
  refine ACalls.of_awp Tryz.func47 rfl (by decide +kernel) (show 2≤28 by decide) (by simp) fun wf=>?_
  have hb:=A.blk29
  unfold toldS at h
  refine awp_ev dr47 (by decide +kernel) ?_
  simp only[go_sem,Tryz.f47,hb]
  refine c_shape _ _ _ _ ?_
  simp only[go_sem,hb]
  refine c_parity _ _ _ _ ?_
  simp only[go_sem]
  refine⟨fun e=>?_,fun e=>?_⟩
  · rw[if_pos e] at h
    exact Fin.keep (h _ _ A.put29)
  · rw[if_neg (by rw[e]; decide)] at h
    exact Fin.keep (h _ _ A.put29)
theorem c_longer (pr:BitVec 8) (x y:Nat) (H:Heap) (n:Nat) (K:AV→Heap→Nat→Prop) (h:K (.i64 (longerS pr x y)) H n):ACalls Tryz.prog 113 [.u8 pr,.i64 x,.i64 y] H n K:=by
  refine ACalls.of_awp Tryz.func113 rfl (by decide +kernel) (show 3≤11 by decide) (by simp) fun wf=>?_
  unfold longerS at h
  refine awp_ev dr0 (by decide +kernel) ?_
  simp only[go_sem,Tryz.f113]
  refine⟨fun e=>?_,fun e=>?_⟩
  · rw[if_pos e] at h; exact Fin.keep h
  · rw[if_neg (by rw[e]; decide)] at h; exact Fin.keep h
theorem c_pushed (p:Nat) (H:Heap) (n:Nat) (K:AV→Heap→Nat→Prop) (h:K (.i64 (pushedS p)) H n):ACalls Tryz.prog 121 [.i64 p] H n K:=by
  refine ACalls.of_awp Tryz.func121 rfl (by decide +kernel) (show 1≤6 by decide) (by simp) fun wf=>?_
  unfold pushedS at h
  refine awp_ev dr0 (by decide +kernel) ?_
  simp only[go_sem,Tryz.f121]
  refine⟨fun e=>?_,fun e=>?_⟩
  · rw[if_pos (by have:=of_decide_eq_true e; omega)] at h; exact Fin.keep h
  · rw[if_neg (by have:=of_decide_eq_false e; omega)] at h; exact Fin.keep h
theorem cut_p:∀op:BitVec 8,wrap64 (((op>>>3&&&7#8).toNat:Int).tdiv 2)=(((op>>>3&&&7#8).toNat / 2:Nat):Int):=by decide +kernel
theorem cut_q:∀op:BitVec 8,((op>>>3&&&7#8).toNat:Int).tmod 2=(((op>>>3&&&7#8).toNat%2:Nat):Int):=by decide +kernel
theorem c_cut (op:BitVec 8) (H:Heap) (n:Nat) (K:AV→Heap→Nat→Prop) (h:K (.ag [.i64 (xO op),.i64 (yO op),.i64 (zO op),.i64 (yO op / 2:Nat),.i64 (yO op%2:Nat)]) H n):ACalls Tryz.prog 21 [.u8 op] H n K:=by
  refine ACalls.of_awp Tryz.func21 rfl (by decide +kernel) (show 1≤20 by decide) (by simp) fun wf=>?_
  refine awp_ev dr0 (by decide +kernel) ?_
  simp only[go_sem,Tryz.f21]
  rw[cut_p,cut_q]
  exact Fin.back wf h (fun i hi=>by rw[Heap.upd_ne _ _ (by omega)]) rfl
variable (M:MT W t)
include M
theorem m_next (A:AtC W t H0 n0 F0 k c s H n) (hl:1≤W.left s) (h:∀v s' H' n',(nextM c).run W.O s=((v,⟨{ c.r with pc:=c.r.pc+1#16},c.pr⟩),s')→W.left s≤W.left s'+1→AtC W t H0 n0 F0 k ⟨{ c.r with pc:=c.r.pc+1#16},c.pr⟩ s' H' n'→K (.u8 v) H' n'):ACalls Tryz.prog 44 [.pt k 0] H n K:=by
  refine ACalls.of_awp Tryz.func44 rfl (by decide +kernel) (show 1≤26 by decide) (by simp) fun wf=>?_
  have hb:=A.blk29
  have mr:=M.r
  refine awp_ev dr44 (by decide +kernel) ?_
  simp only[go_sem,Tryz.f44,hb,mr]
  refine A.rd (by omega) fun v s H n e lf A=>?_
  have hb:=A.blk29
  simp only[go_sem,hb]
  exact Fin.keep (h _ _ _ _ (Eff.run_of e rfl) (by omega) A.put29)
theorem m_fetch (A:AtC W t H0 n0 F0 k c s H n) (hl:1≤W.left s) (h:∀v c' s' H' n',(fetchM c).run W.O s=((v,c'),s')→W.left s≤W.left s'+1→AtC W t H0 n0 F0 k c' s' H' n'→K (.u8 v) H' n'):ACalls Tryz.prog 19 [.pt k 0] H n K:=by
  refine ACalls.of_awp Tryz.func19 rfl (by decide +kernel) (show 1≤13 by decide) (by simp) fun wf=>?_
  have hb:=A.blk29
  refine awp_ev dr0 (by decide +kernel) ?_
  simp only[go_sem,Tryz.f19,hb]
  refine c_tick c.r _ _ _ ?_
  simp only[go_sem,hb,Rg.cells]
  refine m_next M A.put29 (by omega) fun v s H n e lf A=>?_
  simp only[go_sem]
  exact Fin.keep (h _ _ _ _ _ e (by omega) A)
theorem m_word (A:AtC W t H0 n0 F0 k c s H n) (hl:2≤W.left s) (h:∀v c' s' H' n',(wordM c).run W.O s=((v,c'),s')→W.left s≤W.left s'+2→AtC W t H0 n0 F0 k c' s' H' n'→K (.u16 v) H' n'):ACalls Tryz.prog 53 [.pt k 0] H n K:=by
  refine ACalls.of_awp Tryz.func53 rfl (by decide +kernel) (show 1≤10 by decide) (by simp) fun wf=>?_
  refine awp_ev dr0 (by decide +kernel) ?_
  simp only[go_sem,Tryz.f53]
  refine m_next M A (by omega) fun v s H n e lf A=>?_
  simp only[go_sem]
  refine m_next M A (by omega) fun v2 s H n e2 lf A=>?_
  simp only[go_sem]
  refine c_join _ _ _ _ _ ?_
  simp only[go_sem]
  exact Fin.keep (h _ _ _ _ _ (Eff.run_of e (Eff.run_of e2 rfl)) (by omega) A)
theorem m_load (A:AtC W t H0 n0 F0 k c s H n) (a:BitVec 16) (hl:2≤W.left s) (h:∀v s' H' n',(loadM a c).run W.O s=((v,c),s')→W.left s≤W.left s'+2→AtC W t H0 n0 F0 k c s' H' n'→K (.u16 v) H' n'):ACalls Tryz.prog 38 [.pt k 0,.u16 a] H n K:=by
  refine ACalls.of_awp Tryz.func38 rfl (by decide +kernel) (show 2≤21 by decide) (by simp) fun wf=>?_
  have hb:=A.blk29
  have mr:=M.r
  refine awp_ev dr0 (by decide +kernel) ?_
  simp only[go_sem,Tryz.f38,hb,mr]
  refine A.rd (by omega) fun v s H n e lf A=>?_
  have hb:=A.blk29
  simp only[go_sem,hb,mr]
  refine A.rd (by omega) fun v s H n e2 lf A=>?_
  simp only[go_sem]
  refine c_join _ _ _ _ _ ?_
  simp only[go_sem]
  exact Fin.keep (h _ _ _ _ (Eff.run_of e (Eff.run_of e2 rfl)) (by omega) A)
theorem m_store (A:AtC W t H0 n0 F0 k c s H n) (a v:BitVec 16) (hl:2≤W.left s) (h:∀s' H' n',(storeM a v c).run W.O s=(((),c),s')→W.left s≤W.left s'+2→AtC W t H0 n0 F0 k c s' H' n'→K (.tu []) H' n'):ACalls Tryz.prog 54 [.pt k 0,.u16 a,.u16 v] H n K:=by
  refine ACalls.of_awp Tryz.func54 rfl (by decide +kernel) (show 3≤28 by decide) (by simp) fun wf=>?_
  have mw:=M.w
  refine awp_ev dr0 (by decide +kernel) ?_
  simp only[go_sem,Tryz.f54]
  refine c_split _ _ _ _ ?_
  have hb:=A.blk29
  simp only[go_sem,hb,mw]
  refine A.wr (by omega) fun s H n e lf A=>?_
  have hb:=A.blk29
  simp only[go_sem,hb,mw]
  refine A.wr (by omega) fun s H n e2 lf A=>?_
  simp only[go_sem]
  exact Fin.keep (h _ _ _ (Eff.run_of e (Eff.run_of e2 rfl)) (by omega) A)
theorem m_push (A:AtC W t H0 n0 F0 k c s H n) (v:BitVec 16) (hl:2≤W.left s) (h:∀c' s' H' n',(pushM v c).run W.O s=(((),c'),s')→W.left s≤W.left s'+2→AtC W t H0 n0 F0 k c' s' H' n'→K (.tu []) H' n'):ACalls Tryz.prog 88 [.pt k 0,.u16 v] H n K:=by
  refine ACalls.of_awp Tryz.func88 rfl (by decide +kernel) (show 2≤55 by decide) (by simp) fun wf=>?_
  have mw:=M.w
  refine awp_ev dr88 (by decide +kernel) ?_
  simp only[go_sem,Tryz.f88]
  refine c_split _ _ _ _ ?_
  have hb:=A.blk29
  simp only[go_sem,hb,mw]
  refine A.put29.wr (by omega) fun s H n e lf A=>?_
  have hb:=A.blk29
  simp only[go_sem,hb,mw]
  refine A.put29.wr (by omega) fun s H n e2 lf A=>?_
  simp only[go_sem]
  exact Fin.keep (h _ _ _ _ (Eff.run_of e (Eff.run_of e2 rfl)) (by omega) A)
theorem m_pop (A:AtC W t H0 n0 F0 k c s H n) (hl:2≤W.left s) (h:∀v c' s' H' n',(popM c).run W.O s=((v,c'),s')→W.left s≤W.left s'+2→AtC W t H0 n0 F0 k c' s' H' n'→K (.u16 v) H' n'):ACalls Tryz.prog 56 [.pt k 0] H n K:=by
  refine ACalls.of_awp Tryz.func56 rfl (by decide +kernel) (show 1≤21 by decide) (by simp) fun wf=>?_
  have hb:=A.blk29
  refine awp_ev dr0 (by decide +kernel) ?_
  simp only[go_sem,Tryz.f56,hb]
  refine m_load M A _ (by omega) fun v s H n e lf A=>?_
  have hb:=A.blk29
  simp only[go_sem,hb]
  exact Fin.keep (h _ _ _ _ _ (Eff.run_of e rfl) (by omega) A.put29)
theorem m_pointed (A:AtC W t H0 n0 F0 k c s H n) (hl:1≤W.left s) (h:∀v p w q s' H' n',(pointedM c).run W.O s=((v,⟨{ c.r with pc:=p,wz:=w},q⟩),s')→W.left s≤W.left s'+1→AtC W t H0 n0 F0 k ⟨{ c.r with pc:=p,wz:=w},q⟩ s' H' n'→K (.u16 v) H' n'):ACalls Tryz.prog 60 [.pt k 0] H n K:=by
  refine ACalls.of_awp Tryz.func60 rfl (by decide +kernel) (show 1≤24 by decide) (by simp) fun wf=>?_
  have hb:=A.blk29
  unfold pointedM at h
  refine awp_ev dr0 (by decide +kernel) ?_
  simp only[go_sem,Tryz.f60,hb]
  refine m_pair A 2 (by decide) ?_
  simp only[go_sem,hb]
  refine⟨fun e=>?_,fun e=>?_⟩
  · rw[if_pos e] at h
    refine m_next M A (by omega) fun v s H n e lf A=>?_
    have hb:=A.blk29
    simp only[go_sem]
    refine c_move _ _ _ _ _ ?_
    simp only[go_sem,hb]
    exact Fin.keep (h _ _ _ _ _ _ _ (Eff.run_of e rfl) (by omega) A.put29)
  · rw[if_neg (by rw[e]; decide)] at h
    exact Fin.keep (h _ c.r.pc c.r.wz c.pr _ _ _ rfl (by omega) A)
end
end Go.Proofs.Joy
namespace Go.Proofs.Joy
open Go.Ab Go.Proofs
set_option maxHeartbeats 4000000
set_option maxRecDepth 20000
theorem yO_lt (op:BitVec 8):yO op<8:=by revert op; decide +kernel
theorem zO_lt (op:BitVec 8):zO op<8:=by revert op; decide +kernel
theorem xO_lt (op:BitVec 8):xO op<4:=by revert op; decide +kernel
theorem pushed_lt {p:Nat} (h:p<4):pushedS p<7:=by unfold pushedS; split <;> omega
section
variable {σ:Type} {W:WC Tryz.prog σ} {t:TypeId} {H0:Heap} {n0:Nat} {F0:Nat→Prop} {k:Nat} {c:Core} {s:σ} {H:Heap} {n:Nat} {K:AV→Heap→Nat→Prop} (M:MT W t)
include M
theorem m_move (A:AtC W t H0 n0 F0 k c s H n) (op:BitVec 8) (hl:4≤W.left s) (h:∀(v:Nat) c' s' H' n',(moveM op c).run W.O s=((v,c'),s')→W.left s≤W.left s'+4→AtC W t H0 n0 F0 k c' s' H' n'→K (.i64 v) H' n'):ACalls Tryz.prog 62 [.pt k 0,.ag [.i64 (xO op),.i64 (yO op),.i64 (zO op),.i64 (yO op / 2:Nat),.i64 (yO op%2:Nat)]] H n K:=by
  refine ACalls.of_awp Tryz.func62 rfl (by decide +kernel) (show 2≤56 by decide) (by simp) fun wf=>?_
  obtain⟨F1,A,up⟩:=A.boxed ⟨[.i64 (xO op),.i64 (yO op),.i64 (zO op),.i64 (yO op / 2:Nat),.i64 (yO op%2:Nat)],64,false⟩ (by simp[AV.ok])
  have hb:=A.blk29
  have hk:=(up A).2.2.1
  have hu:=fun X Y=>Heap.upd_ne X Y hk
  have mr:=M.r
  have mw:=M.w
  have mi:=M.i
  have mo:=M.o
  refine awp_ev dr62 (by decide +kernel) ?_
  simp only[go_sem,Tryz.f62,hb,hu]
  (repeat' first | (((with_reducible refine And.intro ?_ ?_) <;> intro e <;> (first | (with_reducible replace e:=nbT e) | (with_reducible replace e:=nbF e) | (with_reducible replace e:=dT e) | (with_reducible replace e:=dF e) | (with_reducible replace e:=iT e) | (with_reducible replace e:=iF e) | skip) <;> (try (exfalso; omega)))) | ((with_reducible first | refine c_join _ _ _ _ _ ?_ | refine c_split _ _ _ _ ?_ | refine c_move _ _ _ _ _ ?_ | refine c_cut _ _ _ _ ?_ | refine c_do _ _ _ _ _ _ _ ?_ | refine c_daa _ _ _ _ _ ?_ | refine c_flip _ _ _ _ _ _ ?_ | refine c_quick _ _ _ _ _ _ ?_ | refine c_add16 _ _ _ _ _ _ ?_ | refine c_adc16 _ _ _ _ _ _ ?_ | refine c_sbc16 _ _ _ _ _ _ ?_ | refine c_rot _ _ _ _ _ _ ?_ | refine c_bitt _ _ _ _ _ _ _ ?_ | refine c_put _ _ _ _ _ _ ?_ | refine c_digits _ _ _ _ _ _ _ ?_ | refine c_rload _ _ _ _ _ _ _ ?_ | refine c_rseek _ _ _ _ _ _ _ ?_ | refine c_rport _ _ _ _ _ _ ?_ | refine c_inc _ _ _ _ _ ?_ | refine c_dec _ _ _ _ _ ?_ | refine c_shape _ _ _ _ ?_ | refine c_sub _ _ _ _ _ _ ?_ | refine c_pushed _ _ _ _ ?_); ((have hb:=A.blk29; have hx:=(up A).2.1; simp only[go_sem,hb,hx,hu,mr,mw,mi,mo,Rg.cells]))) | ((first | refine c_longer _ 7 15 _ _ _ ?_ | refine c_longer _ 10 15 _ _ _ ?_ | refine c_longer _ 11 19 _ _ _ ?_ | refine c_swap ⟨_,_,_,_,_,_,_,_,_,_,_,_,_,_,_,_,_,_,_,_,_,_,_,_,_,_,_,_,_⟩ _ _ _ _ ?_ | refine c_tick ⟨_,_,_,_,_,_,_,_,_,_,_,_,_,_,_,_,_,_,_,_,_,_,_,_,_,_,_,_,_⟩ _ _ _ ?_ | refine c_setpair ⟨_,_,_,_,_,_,_,_,_,_,_,_,_,_,_,_,_,_,_,_,_,_,_,_,_,_,_,_,_⟩ 2 (by decide) _ _ _ _ ?_ | refine m_pair A 2 (by decide) ?_ | refine m_pair A 0 (by decide) ?_ | refine m_pair A 1 (by decide) ?_ | refine m_pair A _ (by(first | decide | exact pushed_lt (by have:=yO_lt op; omega) | exact yO_lt op | exact zO_lt op | (have:=yO_lt op; have:=zO_lt op; omega))) ?_ | refine m_one A _ (by(first | decide | exact pushed_lt (by have:=yO_lt op; omega) | exact yO_lt op | exact zO_lt op | (have:=yO_lt op; have:=zO_lt op; omega))) ?_ | refine c_met _ _ (by(first | decide | exact pushed_lt (by have:=yO_lt op; omega) | exact yO_lt op | exact zO_lt op | (have:=yO_lt op; have:=zO_lt op; omega))) _ _ _ ?_ | refine m_pair A.put29 2 (by decide) ?_ | refine m_pair A.put29 0 (by decide) ?_ | refine m_pair A.put29 1 (by decide) ?_ | refine m_pair A.put29 _ (by(first | decide | exact pushed_lt (by have:=yO_lt op; omega) | exact yO_lt op | exact zO_lt op | (have:=yO_lt op; have:=zO_lt op; omega))) ?_ | refine m_one A.put29 _ (by(first | decide | exact pushed_lt (by have:=yO_lt op; omega) | exact yO_lt op | exact zO_lt op | (have:=yO_lt op; have:=zO_lt op; omega))) ?_); ((have hb:=A.blk29; have hx:=(up A).2.1; simp only[go_sem,hb,hx,hu,mr,mw,mi,mo,Rg.cells]))) | ((first | refine m_next M A (by omega) fun v s H n r lf A=>?_ | refine m_next M A.put29 (by omega) fun v s H n r lf A=>?_ | refine m_fetch M A (by omega) fun v c s H n r lf A=>?_ | refine m_fetch M A.put29 (by omega) fun v c s H n r lf A=>?_ | refine m_word M A (by omega) fun v c s H n r lf A=>?_ | refine m_word M A.put29 (by omega) fun v c s H n r lf A=>?_ | refine m_load M A _ (by omega) fun v s H n r lf A=>?_ | refine m_load M A.put29 _ (by omega) fun v s H n r lf A=>?_ | refine m_store M A _ _ (by omega) fun s H n r lf A=>?_ | refine m_store M A.put29 _ _ (by omega) fun s H n r lf A=>?_ | refine m_push M A _ (by omega) fun c s H n r lf A=>?_ | refine m_push M A.put29 _ (by omega) fun c s H n r lf A=>?_ | refine m_pop M A (by omega) fun v c s H n r lf A=>?_ | refine m_pop M A.put29 (by omega) fun v c s H n r lf A=>?_ | refine m_pointed M A (by omega) fun v p w q s H n r lf A=>?_ | refine m_pointed M A.put29 (by omega) fun v p w q s H n r lf A=>?_ | refine m_setpair A 2 (by decide) _ fun H n A=>?_ | refine m_setpair A.put29 2 (by decide) _ fun H n A=>?_ | refine m_setpair A 1 (by decide) _ fun H n A=>?_ | refine m_setpair A.put29 1 (by decide) _ fun H n A=>?_ | refine m_setpair A 0 (by decide) _ fun H n A=>?_ | refine m_setpair A.put29 0 (by decide) _ fun H n A=>?_ | refine m_setpair A _ (by(first | decide | exact pushed_lt (by have:=yO_lt op; omega) | exact yO_lt op | exact zO_lt op | (have:=yO_lt op; have:=zO_lt op; omega))) _ fun H n A=>?_ | refine m_setpair A.put29 _ (by(first | decide | exact pushed_lt (by have:=yO_lt op; omega) | exact yO_lt op | exact zO_lt op | (have:=yO_lt op; have:=zO_lt op; omega))) _ fun H n A=>?_ | refine m_setone A _ (by(first | decide | exact pushed_lt (by have:=yO_lt op; omega) | exact yO_lt op | exact zO_lt op | (have:=yO_lt op; have:=zO_lt op; omega))) _ fun H n A=>?_ | refine m_setone A.put29 _ (by(first | decide | exact pushed_lt (by have:=yO_lt op; omega) | exact yO_lt op | exact zO_lt op | (have:=yO_lt op; have:=zO_lt op; omega))) _ fun H n A=>?_ | refine m_to A _ fun H n A=>?_ | refine m_to A.put29 _ fun H n A=>?_ | refine m_told A _ fun H n A=>?_ | refine m_told A.put29 _ fun H n A=>?_ | refine A.rd (by omega) fun v s H n r lf A=>?_ | refine A.put29.rd (by omega) fun v s H n r lf A=>?_ | refine A.wr (by omega) fun s H n r lf A=>?_ | refine A.put29.wr (by omega) fun s H n r lf A=>?_ | refine A.ip (by decide) (by omega) fun v s H n r lf A=>?_ | refine A.put29.ip (by decide) (by omega) fun v s H n r lf A=>?_ | refine A.op (by decide) (by omega) fun s H n r lf A=>?_ | refine A.put29.op (by decide) (by omega) fun s H n r lf A=>?_); ((have hb:=A.blk29; have hx:=(up A).2.1; simp only[go_sem,hb,hx,hu,mr,mw,mi,mo,Rg.cells]))))
  all_goals (first | (refine Fin.keep (h _ _ _ _ _ ?_ (by omega) (up A).1); unfold moveM; (((repeat' first | assumption | (with_reducible rfl) | (refine Eff.run_of (by assumption) ?_; try dsimp only) | refine Eff.run_t (by(first | assumption | exact nF ‹_› | exact nT ‹_› | omega)) ?_ | refine Eff.run_f (by(first | assumption | exact nF ‹_› | exact nT ‹_› | omega)) ?_ | rfl); all_goals fail))) | (refine Fin.keep (h _ _ _ _ _ ?_ (by omega) (up A.put29).1); unfold moveM; (((repeat' first | assumption | (with_reducible rfl) | (refine Eff.run_of (by assumption) ?_; try dsimp only) | refine Eff.run_t (by(first | assumption | exact nF ‹_› | exact nT ‹_› | omega)) ?_ | refine Eff.run_f (by(first | assumption | exact nF ‹_› | exact nT ‹_› | omega)) ?_ | rfl); all_goals fail))))
theorem m_sum (A:AtC W t H0 n0 F0 k c s H n) (op:BitVec 8) (hl:4≤W.left s) (h:∀(v:Nat) c' s' H' n',(sumM op c).run W.O s=((v,c'),s')→W.left s≤W.left s'+4→AtC W t H0 n0 F0 k c' s' H' n'→K (.i64 v) H' n'):ACalls Tryz.prog 63 [.pt k 0,.ag [.i64 (xO op),.i64 (yO op),.i64 (zO op),.i64 (yO op / 2:Nat),.i64 (yO op%2:Nat)]] H n K:=by
  refine ACalls.of_awp Tryz.func63 rfl (by decide +kernel) (show 2≤76 by decide) (by simp) fun wf=>?_
  obtain⟨F1,A,up⟩:=A.boxed ⟨[.i64 (xO op),.i64 (yO op),.i64 (zO op),.i64 (yO op / 2:Nat),.i64 (yO op%2:Nat)],64,false⟩ (by simp[AV.ok])
  have hb:=A.blk29
  have hk:=(up A).2.2.1
  have hu:=fun X Y=>Heap.upd_ne X Y hk
  have mr:=M.r
  have mw:=M.w
  have mi:=M.i
  have mo:=M.o
  refine awp_ev dr63 (by decide +kernel) ?_
  simp only[go_sem,Tryz.f63,hb,hu]
  (repeat' first | (((with_reducible refine And.intro ?_ ?_) <;> intro e <;> (first | (with_reducible replace e:=nbT e) | (with_reducible replace e:=nbF e) | (with_reducible replace e:=dT e) | (with_reducible replace e:=dF e) | (with_reducible replace e:=iT e) | (with_reducible replace e:=iF e) | skip) <;> (try (exfalso; omega)))) | ((with_reducible first | refine c_join _ _ _ _ _ ?_ | refine c_split _ _ _ _ ?_ | refine c_move _ _ _ _ _ ?_ | refine c_cut _ _ _ _ ?_ | refine c_do _ _ _ _ _ _ _ ?_ | refine c_daa _ _ _ _ _ ?_ | refine c_flip _ _ _ _ _ _ ?_ | refine c_quick _ _ _ _ _ _ ?_ | refine c_add16 _ _ _ _ _ _ ?_ | refine c_adc16 _ _ _ _ _ _ ?_ | refine c_sbc16 _ _ _ _ _ _ ?_ | refine c_rot _ _ _ _ _ _ ?_ | refine c_bitt _ _ _ _ _ _ _ ?_ | refine c_put _ _ _ _ _ _ ?_ | refine c_digits _ _ _ _ _ _ _ ?_ | refine c_rload _ _ _ _ _ _ _ ?_ | refine c_rseek _ _ _ _ _ _ _ ?_ | refine c_rport _ _ _ _ _ _ ?_ | refine c_inc _ _ _ _ _ ?_ | refine c_dec _ _ _ _ _ ?_ | refine c_shape _ _ _ _ ?_ | refine c_sub _ _ _ _ _ _ ?_ | refine c_pushed _ _ _ _ ?_); ((have hb:=A.blk29; have hx:=(up A).2.1; simp only[go_sem,hb,hx,hu,mr,mw,mi,mo,Rg.cells]))) | ((first | refine c_longer _ 7 15 _ _ _ ?_ | refine c_longer _ 10 15 _ _ _ ?_ | refine c_longer _ 11 19 _ _ _ ?_ | refine c_swap ⟨_,_,_,_,_,_,_,_,_,_,_,_,_,_,_,_,_,_,_,_,_,_,_,_,_,_,_,_,_⟩ _ _ _ _ ?_ | refine c_tick ⟨_,_,_,_,_,_,_,_,_,_,_,_,_,_,_,_,_,_,_,_,_,_,_,_,_,_,_,_,_⟩ _ _ _ ?_ | refine c_setpair ⟨_,_,_,_,_,_,_,_,_,_,_,_,_,_,_,_,_,_,_,_,_,_,_,_,_,_,_,_,_⟩ 2 (by decide) _ _ _ _ ?_ | refine m_pair A 2 (by decide) ?_ | refine m_pair A 0 (by decide) ?_ | refine m_pair A 1 (by decide) ?_ | refine m_pair A _ (by(first | decide | exact pushed_lt (by have:=yO_lt op; omega) | exact yO_lt op | exact zO_lt op | (have:=yO_lt op; have:=zO_lt op; omega))) ?_ | refine m_one A _ (by(first | decide | exact pushed_lt (by have:=yO_lt op; omega) | exact yO_lt op | exact zO_lt op | (have:=yO_lt op; have:=zO_lt op; omega))) ?_ | refine c_met _ _ (by(first | decide | exact pushed_lt (by have:=yO_lt op; omega) | exact yO_lt op | exact zO_lt op | (have:=yO_lt op; have:=zO_lt op; omega))) _ _ _ ?_ | refine m_pair A.put29 2 (by decide) ?_ | refine m_pair A.put29 0 (by decide) ?_ | refine m_pair A.put29 1 (by decide) ?_ | refine m_pair A.put29 _ (by(first | decide | exact pushed_lt (by have:=yO_lt op; omega) | exact yO_lt op | exact zO_lt op | (have:=yO_lt op; have:=zO_lt op; omega))) ?_ | refine m_one A.put29 _ (by(first | decide | exact pushed_lt (by have:=yO_lt op; omega) | exact yO_lt op | exact zO_lt op | (have:=yO_lt op; have:=zO_lt op; omega))) ?_); ((have hb:=A.blk29; have hx:=(up A).2.1; simp only[go_sem,hb,hx,hu,mr,mw,mi,mo,Rg.cells]))) | ((first | refine m_next M A (by omega) fun v s H n r lf A=>?_ | refine m_next M A.put29 (by omega) fun v s H n r lf A=>?_ | refine m_fetch M A (by omega) fun v c s H n r lf A=>?_ | refine m_fetch M A.put29 (by omega) fun v c s H n r lf A=>?_ | refine m_word M A (by omega) fun v c s H n r lf A=>?_ | refine m_word M A.put29 (by omega) fun v c s H n r lf A=>?_ | refine m_load M A _ (by omega) fun v s H n r lf A=>?_ | refine m_load M A.put29 _ (by omega) fun v s H n r lf A=>?_ | refine m_store M A _ _ (by omega) fun s H n r lf A=>?_ | refine m_store M A.put29 _ _ (by omega) fun s H n r lf A=>?_ | refine m_push M A _ (by omega) fun c s H n r lf A=>?_ | refine m_push M A.put29 _ (by omega) fun c s H n r lf A=>?_ | refine m_pop M A (by omega) fun v c s H n r lf A=>?_ | refine m_pop M A.put29 (by omega) fun v c s H n r lf A=>?_ | refine m_pointed M A (by omega) fun v p w q s H n r lf A=>?_ | refine m_pointed M A.put29 (by omega) fun v p w q s H n r lf A=>?_ | refine m_setpair A 2 (by decide) _ fun H n A=>?_ | refine m_setpair A.put29 2 (by decide) _ fun H n A=>?_ | refine m_setpair A 1 (by decide) _ fun H n A=>?_ | refine m_setpair A.put29 1 (by decide) _ fun H n A=>?_ | refine m_setpair A 0 (by decide) _ fun H n A=>?_ | refine m_setpair A.put29 0 (by decide) _ fun H n A=>?_ | refine m_setpair A _ (by(first | decide | exact pushed_lt (by have:=yO_lt op; omega) | exact yO_lt op | exact zO_lt op | (have:=yO_lt op; have:=zO_lt op; omega))) _ fun H n A=>?_ | refine m_setpair A.put29 _ (by(first | decide | exact pushed_lt (by have:=yO_lt op; omega) | exact yO_lt op | exact zO_lt op | (have:=yO_lt op; have:=zO_lt op; omega))) _ fun H n A=>?_ | refine m_setone A _ (by(first | decide | exact pushed_lt (by have:=yO_lt op; omega) | exact yO_lt op | exact zO_lt op | (have:=yO_lt op; have:=zO_lt op; omega))) _ fun H n A=>?_ | refine m_setone A.put29 _ (by(first | decide | exact pushed_lt (by have:=yO_lt op; omega) | exact yO_lt op | exact zO_lt op | (have:=yO_lt op; have:=zO_lt op; omega))) _ fun H n A=>?_ | refine m_to A _ fun H n A=>?_ | refine m_to A.put29 _ fun H n A=>?_ | refine m_told A _ fun H n A=>?_ | refine m_told A.put29 _ fun H n A=>?_ | refine A.rd (by omega) fun v s H n r lf A=>?_ | refine A.put29.rd (by omega) fun v s H n r lf A=>?_ | refine A.wr (by omega) fun s H n r lf A=>?_ | refine A.put29.wr (by omega) fun s H n r lf A=>?_ | refine A.ip (by decide) (by omega) fun v s H n r lf A=>?_ | refine A.put29.ip (by decide) (by omega) fun v s H n r lf A=>?_ | refine A.op (by decide) (by omega) fun s H n r lf A=>?_ | refine A.put29.op (by decide) (by omega) fun s H n r lf A=>?_); ((have hb:=A.blk29; have hx:=(up A).2.1; simp only[go_sem,hb,hx,hu,mr,mw,mi,mo,Rg.cells]))))
  all_goals (first | (refine Fin.keep (h _ _ _ _ _ ?_ (by omega) (up A).1); unfold sumM; (((repeat' first | assumption | (with_reducible rfl) | (refine Eff.run_of (by assumption) ?_; try dsimp only) | refine Eff.run_t (by(first | assumption | exact nF ‹_› | exact nT ‹_› | omega)) ?_ | refine Eff.run_f (by(first | assumption | exact nF ‹_› | exact nT ‹_› | omega)) ?_ | rfl); all_goals fail))) | (refine Fin.keep (h _ _ _ _ _ ?_ (by omega) (up A.put29).1); unfold sumM; (((repeat' first | assumption | (with_reducible rfl) | (refine Eff.run_of (by assumption) ?_; try dsimp only) | refine Eff.run_t (by(first | assumption | exact nF ‹_› | exact nT ‹_› | omega)) ?_ | refine Eff.run_f (by(first | assumption | exact nF ‹_› | exact nT ‹_› | omega)) ?_ | rfl); all_goals fail))))
theorem m_there (A:AtC W t H0 n0 F0 k c s H n) (op:BitVec 8) (hl:4≤W.left s) (h:∀(v:Nat) c' s' H' n',(thereM op c).run W.O s=((v,c'),s')→W.left s≤W.left s'+4→AtC W t H0 n0 F0 k c' s' H' n'→K (.i64 v) H' n'):ACalls Tryz.prog 111 [.pt k 0,.ag [.i64 (xO op),.i64 (yO op),.i64 (zO op),.i64 (yO op / 2:Nat),.i64 (yO op%2:Nat)]] H n K:=by
  refine ACalls.of_awp Tryz.func111 rfl (by decide +kernel) (show 2≤88 by decide) (by simp) fun wf=>?_
  obtain⟨F1,A,up⟩:=A.boxed ⟨[.i64 (xO op),.i64 (yO op),.i64 (zO op),.i64 (yO op / 2:Nat),.i64 (yO op%2:Nat)],64,false⟩ (by simp[AV.ok])
  have hb:=A.blk29
  have hk:=(up A).2.2.1
  have hu:=fun X Y=>Heap.upd_ne X Y hk
  have mr:=M.r
  have mw:=M.w
  have mi:=M.i
  have mo:=M.o
  refine awp_ev dr111 (by decide +kernel) ?_
  simp only[go_sem,Tryz.f111,hb,hu]
  (repeat' first | (((with_reducible refine And.intro ?_ ?_) <;> intro e <;> (first | (with_reducible replace e:=nbT e) | (with_reducible replace e:=nbF e) | (with_reducible replace e:=dT e) | (with_reducible replace e:=dF e) | (with_reducible replace e:=iT e) | (with_reducible replace e:=iF e) | skip) <;> (try (exfalso; omega)))) | ((with_reducible first | refine c_join _ _ _ _ _ ?_ | refine c_split _ _ _ _ ?_ | refine c_move _ _ _ _ _ ?_ | refine c_cut _ _ _ _ ?_ | refine c_do _ _ _ _ _ _ _ ?_ | refine c_daa _ _ _ _ _ ?_ | refine c_flip _ _ _ _ _ _ ?_ | refine c_quick _ _ _ _ _ _ ?_ | refine c_add16 _ _ _ _ _ _ ?_ | refine c_adc16 _ _ _ _ _ _ ?_ | refine c_sbc16 _ _ _ _ _ _ ?_ | refine c_rot _ _ _ _ _ _ ?_ | refine c_bitt _ _ _ _ _ _ _ ?_ | refine c_put _ _ _ _ _ _ ?_ | refine c_digits _ _ _ _ _ _ _ ?_ | refine c_rload _ _ _ _ _ _ _ ?_ | refine c_rseek _ _ _ _ _ _ _ ?_ | refine c_rport _ _ _ _ _ _ ?_ | refine c_inc _ _ _ _ _ ?_ | refine c_dec _ _ _ _ _ ?_ | refine c_shape _ _ _ _ ?_ | refine c_sub _ _ _ _ _ _ ?_ | refine c_pushed _ _ _ _ ?_); ((have hb:=A.blk29; have hx:=(up A).2.1; simp only[go_sem,hb,hx,hu,mr,mw,mi,mo,Rg.cells]))) | ((first | refine c_longer _ 7 15 _ _ _ ?_ | refine c_longer _ 10 15 _ _ _ ?_ | refine c_longer _ 11 19 _ _ _ ?_ | refine c_swap ⟨_,_,_,_,_,_,_,_,_,_,_,_,_,_,_,_,_,_,_,_,_,_,_,_,_,_,_,_,_⟩ _ _ _ _ ?_ | refine c_tick ⟨_,_,_,_,_,_,_,_,_,_,_,_,_,_,_,_,_,_,_,_,_,_,_,_,_,_,_,_,_⟩ _ _ _ ?_ | refine c_setpair ⟨_,_,_,_,_,_,_,_,_,_,_,_,_,_,_,_,_,_,_,_,_,_,_,_,_,_,_,_,_⟩ 2 (by decide) _ _ _ _ ?_ | refine m_pair A 2 (by decide) ?_ | refine m_pair A 0 (by decide) ?_ | refine m_pair A 1 (by decide) ?_ | refine m_pair A _ (by(first | decide | exact pushed_lt (by have:=yO_lt op; omega) | exact yO_lt op | exact zO_lt op | (have:=yO_lt op; have:=zO_lt op; omega))) ?_ | refine m_one A _ (by(first | decide | exact pushed_lt (by have:=yO_lt op; omega) | exact yO_lt op | exact zO_lt op | (have:=yO_lt op; have:=zO_lt op; omega))) ?_ | refine c_met _ _ (by(first | decide | exact pushed_lt (by have:=yO_lt op; omega) | exact yO_lt op | exact zO_lt op | (have:=yO_lt op; have:=zO_lt op; omega))) _ _ _ ?_ | refine m_pair A.put29 2 (by decide) ?_ | refine m_pair A.put29 0 (by decide) ?_ | refine m_pair A.put29 1 (by decide) ?_ | refine m_pair A.put29 _ (by(first | decide | exact pushed_lt (by have:=yO_lt op; omega) | exact yO_lt op | exact zO_lt op | (have:=yO_lt op; have:=zO_lt op; omega))) ?_ | refine m_one A.put29 _ (by(first | decide | exact pushed_lt (by have:=yO_lt op; omega) | exact yO_lt op | exact zO_lt op | (have:=yO_lt op; have:=zO_lt op; omega))) ?_); ((have hb:=A.blk29; have hx:=(up A).2.1; simp only[go_sem,hb,hx,hu,mr,mw,mi,mo,Rg.cells]))) | ((first | refine m_next M A (by omega) fun v s H n r lf A=>?_ | refine m_next M A.put29 (by omega) fun v s H n r lf A=>?_ | refine m_fetch M A (by omega) fun v c s H n r lf A=>?_ | refine m_fetch M A.put29 (by omega) fun v c s H n r lf A=>?_ | refine m_word M A (by omega) fun v c s H n r lf A=>?_ | refine m_word M A.put29 (by omega) fun v c s H n r lf A=>?_ | refine m_load M A _ (by omega) fun v s H n r lf A=>?_ | refine m_load M A.put29 _ (by omega) fun v s H n r lf A=>?_ | refine m_store M A _ _ (by omega) fun s H n r lf A=>?_ | refine m_store M A.put29 _ _ (by omega) fun s H n r lf A=>?_ | refine m_push M A _ (by omega) fun c s H n r lf A=>?_ | refine m_push M A.put29 _ (by omega) fun c s H n r lf A=>?_ | refine m_pop M A (by omega) fun v c s H n r lf A=>?_ | refine m_pop M A.put29 (by omega) fun v c s H n r lf A=>?_ | refine m_pointed M A (by omega) fun v p w q s H n r lf A=>?_ | refine m_pointed M A.put29 (by omega) fun v p w q s H n r lf A=>?_ | refine m_setpair A 2 (by decide) _ fun H n A=>?_ | refine m_setpair A.put29 2 (by decide) _ fun H n A=>?_ | refine m_setpair A 1 (by decide) _ fun H n A=>?_ | refine m_setpair A.put29 1 (by decide) _ fun H n A=>?_ | refine m_setpair A 0 (by decide) _ fun H n A=>?_ | refine m_setpair A.put29 0 (by decide) _ fun H n A=>?_ | refine m_setpair A _ (by(first | decide | exact pushed_lt (by have:=yO_lt op; omega) | exact yO_lt op | exact zO_lt op | (have:=yO_lt op; have:=zO_lt op; omega))) _ fun H n A=>?_ | refine m_setpair A.put29 _ (by(first | decide | exact pushed_lt (by have:=yO_lt op; omega) | exact yO_lt op | exact zO_lt op | (have:=yO_lt op; have:=zO_lt op; omega))) _ fun H n A=>?_ | refine m_setone A _ (by(first | decide | exact pushed_lt (by have:=yO_lt op; omega) | exact yO_lt op | exact zO_lt op | (have:=yO_lt op; have:=zO_lt op; omega))) _ fun H n A=>?_ | refine m_setone A.put29 _ (by(first | decide | exact pushed_lt (by have:=yO_lt op; omega) | exact yO_lt op | exact zO_lt op | (have:=yO_lt op; have:=zO_lt op; omega))) _ fun H n A=>?_ | refine m_to A _ fun H n A=>?_ | refine m_to A.put29 _ fun H n A=>?_ | refine m_told A _ fun H n A=>?_ | refine m_told A.put29 _ fun H n A=>?_ | refine A.rd (by omega) fun v s H n r lf A=>?_ | refine A.put29.rd (by omega) fun v s H n r lf A=>?_ | refine A.wr (by omega) fun s H n r lf A=>?_ | refine A.put29.wr (by omega) fun s H n r lf A=>?_ | refine A.ip (by decide) (by omega) fun v s H n r lf A=>?_ | refine A.put29.ip (by decide) (by omega) fun v s H n r lf A=>?_ | refine A.op (by decide) (by omega) fun s H n r lf A=>?_ | refine A.put29.op (by decide) (by omega) fun s H n r lf A=>?_); ((have hb:=A.blk29; have hx:=(up A).2.1; simp only[go_sem,hb,hx,hu,mr,mw,mi,mo,Rg.cells]))))
  all_goals (first | (refine Fin.keep (h _ _ _ _ _ ?_ (by omega) (up A).1); unfold thereM; (((repeat' first | assumption | (with_reducible rfl) | (refine Eff.run_of (by assumption) ?_; try dsimp only) | refine Eff.run_t (by(first | assumption | exact nF ‹_› | exact nT ‹_› | omega)) ?_ | refine Eff.run_f (by(first | assumption | exact nF ‹_› | exact nT ‹_› | omega)) ?_ | rfl); all_goals fail))) | (refine Fin.keep (h _ _ _ _ _ ?_ (by omega) (up A.put29).1); unfold thereM; (((repeat' first | assumption | (with_reducible rfl) | (refine Eff.run_of (by assumption) ?_; try dsimp only) | refine Eff.run_t (by(first | assumption | exact nF ‹_› | exact nT ‹_› | omega)) ?_ | refine Eff.run_f (by(first | assumption | exact nF ‹_› | exact nT ‹_› | omega)) ?_ | rfl); all_goals fail))))
end
end Go.Proofs.Joy
namespace Go.Proofs.Joy
open Go.Ab Go.Proofs
set_option maxHeartbeats 4000000
set_option maxRecDepth 20000
theorem jW12:wrap64 12=((12:Nat):Int):=by decide
theorem jW13:wrap64 13=((13:Nat):Int):=by decide
section
variable {σ:Type} {W:WC Tryz.prog σ} {t:TypeId} {H0:Heap} {n0:Nat} {F0:Nat→Prop} {k:Nat} {c:Core} {s:σ} {H:Heap} {n:Nat} {K:AV→Heap→Nat→Prop}
theorem m_quick (A:AtC W t H0 n0 F0 k c s H n) (m:Nat) (hm:m<8) (h:∀H' n',AtC W t H0 n0 F0 k (quickC m c) s H' n'→K (.tu []) H' n'):ACalls Tryz.prog 114 [.pt k 0,.i64 m] H n K:=by
  refine ACalls.of_awp Tryz.func114 rfl (by decide +kernel) (show 2≤79 by decide) (by simp) fun wf=>?_
  have hb:=A.blk29
  refine awp_ev dr114 (by decide +kernel) ?_
  unfold quickC at h
  simp only[go_sem,Tryz.f114,hb]
  refine⟨fun e=>?_,fun e=>⟨fun e2=>?_,fun e2=>?_⟩⟩
  · rw[if_pos (by omega)] at h
    refine c_quick _ _ _ _ _ _ ?_
    simp only[go_sem,hb]
    exact Fin.keep (h _ _ A.put29)
  · rw[if_neg (by omega),if_pos (by have:=dT e2; omega)] at h
    refine c_daa _ _ _ _ _ ?_
    simp only[go_sem,hb]
    exact Fin.keep (h _ _ A.put29)
  · have e4:wrap64 ((m:Int)-5)=((m-5:Nat):Int):=wrap_sub (j:=5) (by have:=dF e2; omega) hm
    rw[if_neg (by omega),if_neg (by have:=dF e2; omega)] at h
    simp only[e4]
    refine c_flip _ _ _ _ _ _ ?_
    simp only[go_sem,hb]
    exact Fin.keep (h _ _ A.put29)
end
section
variable {σ:Type} {W:WC Tryz.prog σ} {t:TypeId} {H0:Heap} {n0:Nat} {F0:Nat→Prop} {k:Nat} {c:Core} {s:σ} {H:Heap} {n:Nat} {K:AV→Heap→Nat→Prop} (M:MT W t)
include M
theorem m_jump (A:AtC W t H0 n0 F0 k c s H n) (op:BitVec 8) (hl:4≤W.left s) (h:∀(v:Nat) c' s' H' n',(jumpM op c).run W.O s=((v,c'),s')→W.left s≤W.left s'+4→AtC W t H0 n0 F0 k c' s' H' n'→K (.i64 v) H' n'):ACalls Tryz.prog 109 [.pt k 0,.ag [.i64 (xO op),.i64 (yO op),.i64 (zO op),.i64 (yO op / 2:Nat),.i64 (yO op%2:Nat)]] H n K:=by
  refine ACalls.of_awp Tryz.func109 rfl (by decide +kernel) (show 2≤66 by decide) (by simp) fun wf=>?_
  obtain⟨F1,A,up⟩:=A.boxed ⟨[.i64 (xO op),.i64 (yO op),.i64 (zO op),.i64 (yO op / 2:Nat),.i64 (yO op%2:Nat)],64,false⟩ (by simp[AV.ok])
  have hb:=A.blk29
  have hk:=(up A).2.2.1
  have hu:=fun X Y=>Heap.upd_ne X Y hk
  have mr:=M.r
  have mw:=M.w
  have mi:=M.i
  have mo:=M.o
  refine awp_ev dr109 (by decide +kernel) ?_
  simp only[go_sem,Tryz.f109,hb,hu]
  (repeat' first | (((with_reducible refine And.intro ?_ ?_) <;> intro e <;> (first | (with_reducible replace e:=nbT e) | (with_reducible replace e:=nbF e) | (with_reducible replace e:=dT e) | (with_reducible replace e:=dF e) | (with_reducible replace e:=iT e) | (with_reducible replace e:=iF e) | skip) <;> (try (exfalso; omega)))) | ((with_reducible first | refine c_join _ _ _ _ _ ?_ | refine c_split _ _ _ _ ?_ | refine c_move _ _ _ _ _ ?_ | refine c_cut _ _ _ _ ?_ | refine c_do _ _ _ _ _ _ _ ?_ | refine c_daa _ _ _ _ _ ?_ | refine c_flip _ _ _ _ _ _ ?_ | refine c_quick _ _ _ _ _ _ ?_ | refine c_add16 _ _ _ _ _ _ ?_ | refine c_adc16 _ _ _ _ _ _ ?_ | refine c_sbc16 _ _ _ _ _ _ ?_ | refine c_rot _ _ _ _ _ _ ?_ | refine c_bitt _ _ _ _ _ _ _ ?_ | refine c_put _ _ _ _ _ _ ?_ | refine c_digits _ _ _ _ _ _ _ ?_ | refine c_rload _ _ _ _ _ _ _ ?_ | refine c_rseek _ _ _ _ _ _ _ ?_ | refine c_rport _ _ _ _ _ _ ?_ | refine c_inc _ _ _ _ _ ?_ | refine c_dec _ _ _ _ _ ?_ | refine c_shape _ _ _ _ ?_ | refine c_sub _ _ _ _ _ _ ?_ | refine c_pushed _ _ _ _ ?_); ((have hb:=A.blk29; have hx:=(up A).2.1; simp only[go_sem,hb,hx,hu,mr,mw,mi,mo,Rg.cells]))) | ((first | refine c_longer _ 7 15 _ _ _ ?_ | refine c_longer _ 10 15 _ _ _ ?_ | refine c_longer _ 11 19 _ _ _ ?_ | refine c_swap ⟨_,_,_,_,_,_,_,_,_,_,_,_,_,_,_,_,_,_,_,_,_,_,_,_,_,_,_,_,_⟩ _ _ _ _ ?_ | refine c_tick ⟨_,_,_,_,_,_,_,_,_,_,_,_,_,_,_,_,_,_,_,_,_,_,_,_,_,_,_,_,_⟩ _ _ _ ?_ | refine c_setpair ⟨_,_,_,_,_,_,_,_,_,_,_,_,_,_,_,_,_,_,_,_,_,_,_,_,_,_,_,_,_⟩ 2 (by decide) _ _ _ _ ?_ | refine m_pair A 2 (by decide) ?_ | refine m_pair A 0 (by decide) ?_ | refine m_pair A 1 (by decide) ?_ | refine m_pair A _ (by(first | decide | exact pushed_lt (by have:=yO_lt op; omega) | exact yO_lt op | exact zO_lt op | (have:=yO_lt op; have:=zO_lt op; omega))) ?_ | refine m_one A _ (by(first | decide | exact pushed_lt (by have:=yO_lt op; omega) | exact yO_lt op | exact zO_lt op | (have:=yO_lt op; have:=zO_lt op; omega))) ?_ | refine c_met _ _ (by(first | decide | exact pushed_lt (by have:=yO_lt op; omega) | exact yO_lt op | exact zO_lt op | (have:=yO_lt op; have:=zO_lt op; omega))) _ _ _ ?_ | refine m_pair A.put29 2 (by decide) ?_ | refine m_pair A.put29 0 (by decide) ?_ | refine m_pair A.put29 1 (by decide) ?_ | refine m_pair A.put29 _ (by(first | decide | exact pushed_lt (by have:=yO_lt op; omega) | exact yO_lt op | exact zO_lt op | (have:=yO_lt op; have:=zO_lt op; omega))) ?_ | refine m_one A.put29 _ (by(first | decide | exact pushed_lt (by have:=yO_lt op; omega) | exact yO_lt op | exact zO_lt op | (have:=yO_lt op; have:=zO_lt op; omega))) ?_); ((have hb:=A.blk29; have hx:=(up A).2.1; simp only[go_sem,hb,hx,hu,mr,mw,mi,mo,Rg.cells]))) | ((first | refine m_next M A (by omega) fun v s H n r lf A=>?_ | refine m_next M A.put29 (by omega) fun v s H n r lf A=>?_ | refine m_fetch M A (by omega) fun v c s H n r lf A=>?_ | refine m_fetch M A.put29 (by omega) fun v c s H n r lf A=>?_ | refine m_word M A (by omega) fun v c s H n r lf A=>?_ | refine m_word M A.put29 (by omega) fun v c s H n r lf A=>?_ | refine m_load M A _ (by omega) fun v s H n r lf A=>?_ | refine m_load M A.put29 _ (by omega) fun v s H n r lf A=>?_ | refine m_store M A _ _ (by omega) fun s H n r lf A=>?_ | refine m_store M A.put29 _ _ (by omega) fun s H n r lf A=>?_ | refine m_push M A _ (by omega) fun c s H n r lf A=>?_ | refine m_push M A.put29 _ (by omega) fun c s H n r lf A=>?_ | refine m_pop M A (by omega) fun v c s H n r lf A=>?_ | refine m_pop M A.put29 (by omega) fun v c s H n r lf A=>?_ | refine m_pointed M A (by omega) fun v p w q s H n r lf A=>?_ | refine m_pointed M A.put29 (by omega) fun v p w q s H n r lf A=>?_ | refine m_setpair A 2 (by decide) _ fun H n A=>?_ | refine m_setpair A.put29 2 (by decide) _ fun H n A=>?_ | refine m_setpair A 1 (by decide) _ fun H n A=>?_ | refine m_setpair A.put29 1 (by decide) _ fun H n A=>?_ | refine m_setpair A 0 (by decide) _ fun H n A=>?_ | refine m_setpair A.put29 0 (by decide) _ fun H n A=>?_ | refine m_setpair A _ (by(first | decide | exact pushed_lt (by have:=yO_lt op; omega) | exact yO_lt op | exact zO_lt op | (have:=yO_lt op; have:=zO_lt op; omega))) _ fun H n A=>?_ | refine m_setpair A.put29 _ (by(first | decide | exact pushed_lt (by have:=yO_lt op; omega) | exact yO_lt op | exact zO_lt op | (have:=yO_lt op; have:=zO_lt op; omega))) _ fun H n A=>?_ | refine m_setone A _ (by(first | decide | exact pushed_lt (by have:=yO_lt op; omega) | exact yO_lt op | exact zO_lt op | (have:=yO_lt op; have:=zO_lt op; omega))) _ fun H n A=>?_ | refine m_setone A.put29 _ (by(first | decide | exact pushed_lt (by have:=yO_lt op; omega) | exact yO_lt op | exact zO_lt op | (have:=yO_lt op; have:=zO_lt op; omega))) _ fun H n A=>?_ | refine m_to A _ fun H n A=>?_ | refine m_to A.put29 _ fun H n A=>?_ | refine m_told A _ fun H n A=>?_ | refine m_told A.put29 _ fun H n A=>?_ | refine A.rd (by omega) fun v s H n r lf A=>?_ | refine A.put29.rd (by omega) fun v s H n r lf A=>?_ | refine A.wr (by omega) fun s H n r lf A=>?_ | refine A.put29.wr (by omega) fun s H n r lf A=>?_ | refine A.ip (by decide) (by omega) fun v s H n r lf A=>?_ | refine A.put29.ip (by decide) (by omega) fun v s H n r lf A=>?_ | refine A.op (by decide) (by omega) fun s H n r lf A=>?_ | refine A.put29.op (by decide) (by omega) fun s H n r lf A=>?_); ((have hb:=A.blk29; have hx:=(up A).2.1; simp only[go_sem,hb,hx,hu,mr,mw,mi,mo,Rg.cells]))))
  · (first | (refine Fin.keep (h _ _ _ _ _ ?_ (by omega) (up A).1); unfold jumpM; (((repeat' first | assumption | (with_reducible rfl) | (refine Eff.run_of (by assumption) ?_; try dsimp only) | refine Eff.run_t (by(first | assumption | exact nF ‹_› | exact nT ‹_› | omega)) ?_ | refine Eff.run_f (by(first | assumption | exact nF ‹_› | exact nT ‹_› | omega)) ?_ | rfl); all_goals fail))) | (refine Fin.keep (h _ _ _ _ _ ?_ (by omega) (up A.put29).1); unfold jumpM; (((repeat' first | assumption | (with_reducible rfl) | (refine Eff.run_of (by assumption) ?_; try dsimp only) | refine Eff.run_t (by(first | assumption | exact nF ‹_› | exact nT ‹_› | omega)) ?_ | refine Eff.run_f (by(first | assumption | exact nF ‹_› | exact nT ‹_› | omega)) ?_ | rfl); all_goals fail))))
  · (first | (refine Fin.keep (h _ _ _ _ _ ?_ (by omega) (up A).1); unfold jumpM; (((repeat' first | assumption | (with_reducible rfl) | (refine Eff.run_of (by assumption) ?_; try dsimp only) | refine Eff.run_t (by(first | assumption | exact nF ‹_› | exact nT ‹_› | omega)) ?_ | refine Eff.run_f (by(first | assumption | exact nF ‹_› | exact nT ‹_› | omega)) ?_ | rfl); all_goals fail))) | (refine Fin.keep (h _ _ _ _ _ ?_ (by omega) (up A.put29).1); unfold jumpM; (((repeat' first | assumption | (with_reducible rfl) | (refine Eff.run_of (by assumption) ?_; try dsimp only) | refine Eff.run_t (by(first | assumption | exact nF ‹_› | exact nT ‹_› | omega)) ?_ | refine Eff.run_f (by(first | assumption | exact nF ‹_› | exact nT ‹_› | omega)) ?_ | rfl); all_goals fail))))
  · have ey:yO op=2:=by omega
    (first | (refine Fin.keep (h _ _ _ _ _ ?_ (by omega) (up A).1); unfold jumpM; simp +decide only[ey,if_true,if_false]; (((repeat' first | assumption | (with_reducible rfl) | (refine Eff.run_of (by assumption) ?_; try dsimp only) | refine Eff.run_t (by(first | assumption | exact nF ‹_› | exact nT ‹_› | omega)) ?_ | refine Eff.run_f (by(first | assumption | exact nF ‹_› | exact nT ‹_› | omega)) ?_ | rfl); all_goals fail))) | (refine Fin.keep (h _ _ _ _ _ ?_ (by omega) (up A.put29).1); unfold jumpM; simp +decide only[ey,if_true,if_false]; (((repeat' first | assumption | (with_reducible rfl) | (refine Eff.run_of (by assumption) ?_; try dsimp only) | refine Eff.run_t (by(first | assumption | exact nF ‹_› | exact nT ‹_› | omega)) ?_ | refine Eff.run_f (by(first | assumption | exact nF ‹_› | exact nT ‹_› | omega)) ?_ | rfl); all_goals fail))))
  · have ey:yO op=2:=by omega
    rw[jW13]
    (first | (refine Fin.keep (h _ _ _ _ _ ?_ (by omega) (up A).1); unfold jumpM; simp +decide only[ey,if_true,if_false]; (((repeat' first | assumption | (with_reducible rfl) | (refine Eff.run_of (by assumption) ?_; try dsimp only) | refine Eff.run_t (by(first | assumption | exact nF ‹_› | exact nT ‹_› | omega)) ?_ | refine Eff.run_f (by(first | assumption | exact nF ‹_› | exact nT ‹_› | omega)) ?_ | rfl); all_goals fail))) | (refine Fin.keep (h _ _ _ _ _ ?_ (by omega) (up A.put29).1); unfold jumpM; simp +decide only[ey,if_true,if_false]; (((repeat' first | assumption | (with_reducible rfl) | (refine Eff.run_of (by assumption) ?_; try dsimp only) | refine Eff.run_t (by(first | assumption | exact nF ‹_› | exact nT ‹_› | omega)) ?_ | refine Eff.run_f (by(first | assumption | exact nF ‹_› | exact nT ‹_› | omega)) ?_ | rfl); all_goals fail))))
  · have ey:yO op=3:=by omega
    rw[jW12]
    (first | (refine Fin.keep (h _ _ _ _ _ ?_ (by omega) (up A).1); unfold jumpM; simp +decide only[ey,if_true,if_false]; (((repeat' first | assumption | (with_reducible rfl) | (refine Eff.run_of (by assumption) ?_; try dsimp only) | refine Eff.run_t (by(first | assumption | exact nF ‹_› | exact nT ‹_› | omega)) ?_ | refine Eff.run_f (by(first | assumption | exact nF ‹_› | exact nT ‹_› | omega)) ?_ | rfl); all_goals fail))) | (refine Fin.keep (h _ _ _ _ _ ?_ (by omega) (up A.put29).1); unfold jumpM; simp +decide only[ey,if_true,if_false]; (((repeat' first | assumption | (with_reducible rfl) | (refine Eff.run_of (by assumption) ?_; try dsimp only) | refine Eff.run_t (by(first | assumption | exact nF ‹_› | exact nT ‹_› | omega)) ?_ | refine Eff.run_f (by(first | assumption | exact nF ‹_› | exact nT ‹_› | omega)) ?_ | rfl); all_goals fail))))
  · have e4:wrap64 ((yO op:Int)-4)=((yO op-4:Nat):Int):=wrap_sub (j:=4) (by omega) (yO_lt op)
    have h2:¬yO op=2:=by omega
    have h3:¬yO op=3:=by omega
    simp only[e4]
    refine c_met _ (yO op-4) (by have:=yO_lt op; omega) _ _ _ ?_
    ((have hb:=A.blk29; have hx:=(up A).2.1; simp only[go_sem,hb,hx,hu,mr,mw,mi,mo,Rg.cells]))
    (repeat' first | (((with_reducible refine And.intro ?_ ?_) <;> intro e <;> (first | (with_reducible replace e:=nbT e) | (with_reducible replace e:=nbF e) | (with_reducible replace e:=dT e) | (with_reducible replace e:=dF e) | (with_reducible replace e:=iT e) | (with_reducible replace e:=iF e) | skip) <;> (try (exfalso; omega)))) | ((with_reducible first | refine c_join _ _ _ _ _ ?_ | refine c_split _ _ _ _ ?_ | refine c_move _ _ _ _ _ ?_ | refine c_cut _ _ _ _ ?_ | refine c_do _ _ _ _ _ _ _ ?_ | refine c_daa _ _ _ _ _ ?_ | refine c_flip _ _ _ _ _ _ ?_ | refine c_quick _ _ _ _ _ _ ?_ | refine c_add16 _ _ _ _ _ _ ?_ | refine c_adc16 _ _ _ _ _ _ ?_ | refine c_sbc16 _ _ _ _ _ _ ?_ | refine c_rot _ _ _ _ _ _ ?_ | refine c_bitt _ _ _ _ _ _ _ ?_ | refine c_put _ _ _ _ _ _ ?_ | refine c_digits _ _ _ _ _ _ _ ?_ | refine c_rload _ _ _ _ _ _ _ ?_ | refine c_rseek _ _ _ _ _ _ _ ?_ | refine c_rport _ _ _ _ _ _ ?_ | refine c_inc _ _ _ _ _ ?_ | refine c_dec _ _ _ _ _ ?_ | refine c_shape _ _ _ _ ?_ | refine c_sub _ _ _ _ _ _ ?_ | refine c_pushed _ _ _ _ ?_); ((have hb:=A.blk29; have hx:=(up A).2.1; simp only[go_sem,hb,hx,hu,mr,mw,mi,mo,Rg.cells]))) | ((first | refine c_longer _ 7 15 _ _ _ ?_ | refine c_longer _ 10 15 _ _ _ ?_ | refine c_longer _ 11 19 _ _ _ ?_ | refine c_swap ⟨_,_,_,_,_,_,_,_,_,_,_,_,_,_,_,_,_,_,_,_,_,_,_,_,_,_,_,_,_⟩ _ _ _ _ ?_ | refine c_tick ⟨_,_,_,_,_,_,_,_,_,_,_,_,_,_,_,_,_,_,_,_,_,_,_,_,_,_,_,_,_⟩ _ _ _ ?_ | refine c_setpair ⟨_,_,_,_,_,_,_,_,_,_,_,_,_,_,_,_,_,_,_,_,_,_,_,_,_,_,_,_,_⟩ 2 (by decide) _ _ _ _ ?_ | refine m_pair A 2 (by decide) ?_ | refine m_pair A 0 (by decide) ?_ | refine m_pair A 1 (by decide) ?_ | refine m_pair A _ (by(first | decide | exact pushed_lt (by have:=yO_lt op; omega) | exact yO_lt op | exact zO_lt op | (have:=yO_lt op; have:=zO_lt op; omega))) ?_ | refine m_one A _ (by(first | decide | exact pushed_lt (by have:=yO_lt op; omega) | exact yO_lt op | exact zO_lt op | (have:=yO_lt op; have:=zO_lt op; omega))) ?_ | refine c_met _ _ (by(first | decide | exact pushed_lt (by have:=yO_lt op; omega) | exact yO_lt op | exact zO_lt op | (have:=yO_lt op; have:=zO_lt op; omega))) _ _ _ ?_ | refine m_pair A.put29 2 (by decide) ?_ | refine m_pair A.put29 0 (by decide) ?_ | refine m_pair A.put29 1 (by decide) ?_ | refine m_pair A.put29 _ (by(first | decide | exact pushed_lt (by have:=yO_lt op; omega) | exact yO_lt op | exact zO_lt op | (have:=yO_lt op; have:=zO_lt op; omega))) ?_ | refine m_one A.put29 _ (by(first | decide | exact pushed_lt (by have:=yO_lt op; omega) | exact yO_lt op | exact zO_lt op | (have:=yO_lt op; have:=zO_lt op; omega))) ?_); ((have hb:=A.blk29; have hx:=(up A).2.1; simp only[go_sem,hb,hx,hu,mr,mw,mi,mo,Rg.cells]))) | ((first | refine m_next M A (by omega) fun v s H n r lf A=>?_ | refine m_next M A.put29 (by omega) fun v s H n r lf A=>?_ | refine m_fetch M A (by omega) fun v c s H n r lf A=>?_ | refine m_fetch M A.put29 (by omega) fun v c s H n r lf A=>?_ | refine m_word M A (by omega) fun v c s H n r lf A=>?_ | refine m_word M A.put29 (by omega) fun v c s H n r lf A=>?_ | refine m_load M A _ (by omega) fun v s H n r lf A=>?_ | refine m_load M A.put29 _ (by omega) fun v s H n r lf A=>?_ | refine m_store M A _ _ (by omega) fun s H n r lf A=>?_ | refine m_store M A.put29 _ _ (by omega) fun s H n r lf A=>?_ | refine m_push M A _ (by omega) fun c s H n r lf A=>?_ | refine m_push M A.put29 _ (by omega) fun c s H n r lf A=>?_ | refine m_pop M A (by omega) fun v c s H n r lf A=>?_ | refine m_pop M A.put29 (by omega) fun v c s H n r lf A=>?_ | refine m_pointed M A (by omega) fun v p w q s H n r lf A=>?_ | refine m_pointed M A.put29 (by omega) fun v p w q s H n r lf A=>?_ | refine m_setpair A 2 (by decide) _ fun H n A=>?_ | refine m_setpair A.put29 2 (by decide) _ fun H n A=>?_ | refine m_setpair A 1 (by decide) _ fun H n A=>?_ | refine m_setpair A.put29 1 (by decide) _ fun H n A=>?_ | refine m_setpair A 0 (by decide) _ fun H n A=>?_ | refine m_setpair A.put29 0 (by decide) _ fun H n A=>?_ | refine m_setpair A _ (by(first | decide | exact pushed_lt (by have:=yO_lt op; omega) | exact yO_lt op | exact zO_lt op | (have:=yO_lt op; have:=zO_lt op; omega))) _ fun H n A=>?_ | refine m_setpair A.put29 _ (by(first | decide | exact pushed_lt (by have:=yO_lt op; omega) | exact yO_lt op | exact zO_lt op | (have:=yO_lt op; have:=zO_lt op; omega))) _ fun H n A=>?_ | refine m_setone A _ (by(first | decide | exact pushed_lt (by have:=yO_lt op; omega) | exact yO_lt op | exact zO_lt op | (have:=yO_lt op; have:=zO_lt op; omega))) _ fun H n A=>?_ | refine m_setone A.put29 _ (by(first | decide | exact pushed_lt (by have:=yO_lt op; omega) | exact yO_lt op | exact zO_lt op | (have:=yO_lt op; have:=zO_lt op; omega))) _ fun H n A=>?_ | refine m_to A _ fun H n A=>?_ | refine m_to A.put29 _ fun H n A=>?_ | refine m_told A _ fun H n A=>?_ | refine m_told A.put29 _ fun H n A=>?_ | refine A.rd (by omega) fun v s H n r lf A=>?_ | refine A.put29.rd (by omega) fun v s H n r lf A=>?_ | refine A.wr (by omega) fun s H n r lf A=>?_ | refine A.put29.wr (by omega) fun s H n r lf A=>?_ | refine A.ip (by decide) (by omega) fun v s H n r lf A=>?_ | refine A.put29.ip (by decide) (by omega) fun v s H n r lf A=>?_ | refine A.op (by decide) (by omega) fun s H n r lf A=>?_ | refine A.put29.op (by decide) (by omega) fun s H n r lf A=>?_); ((have hb:=A.blk29; have hx:=(up A).2.1; simp only[go_sem,hb,hx,hu,mr,mw,mi,mo,Rg.cells]))))
    · exact Fin.keep (h _ _ _ _ _ (by unfold jumpM; simp only[h2,h3,if_false]; (((repeat' first | assumption | (with_reducible rfl) | (refine Eff.run_of (by assumption) ?_; try dsimp only) | refine Eff.run_t (by(first | assumption | exact nF ‹_› | exact nT ‹_› | omega)) ?_ | refine Eff.run_f (by(first | assumption | exact nF ‹_› | exact nT ‹_› | omega)) ?_ | rfl); all_goals fail))) (by omega) (up A).1)
    · rw[jW12]
      exact Fin.keep (h _ _ _ _ _ (by unfold jumpM; simp only[h2,h3,if_false]; (((repeat' first | assumption | (with_reducible rfl) | (refine Eff.run_of (by assumption) ?_; try dsimp only) | refine Eff.run_t (by(first | assumption | exact nF ‹_› | exact nT ‹_› | omega)) ?_ | refine Eff.run_f (by(first | assumption | exact nF ‹_› | exact nT ‹_› | omega)) ?_ | rfl); all_goals fail))) (by omega) (up A).1)
theorem m_count (A:AtC W t H0 n0 F0 k c s H n) (op:BitVec 8) (hl:4≤W.left s) (h:∀(v:Nat) c' s' H' n',(countM op c).run W.O s=((v,c'),s')→W.left s≤W.left s'+4→AtC W t H0 n0 F0 k c' s' H' n'→K (.i64 v) H' n'):ACalls Tryz.prog 112 [.pt k 0,.ag [.i64 (xO op),.i64 (yO op),.i64 (zO op),.i64 (yO op / 2:Nat),.i64 (yO op%2:Nat)]] H n K:=by
  refine ACalls.of_awp Tryz.func112 rfl (by decide +kernel) (show 2≤78 by decide) (by simp) fun wf=>?_
  obtain⟨F1,A,up⟩:=A.boxed ⟨[.i64 (xO op),.i64 (yO op),.i64 (zO op),.i64 (yO op / 2:Nat),.i64 (yO op%2:Nat)],64,false⟩ (by simp[AV.ok])
  have hb:=A.blk29
  have hk:=(up A).2.2.1
  have hu:=fun X Y=>Heap.upd_ne X Y hk
  have mr:=M.r
  have mw:=M.w
  have mi:=M.i
  have mo:=M.o
  refine awp_ev dr112 (by decide +kernel) ?_
  simp only[go_sem,Tryz.f112,hb,hu]
  (repeat' first | (((with_reducible refine And.intro ?_ ?_) <;> intro e <;> (first | (with_reducible replace e:=nbT e) | (with_reducible replace e:=nbF e) | (with_reducible replace e:=dT e) | (with_reducible replace e:=dF e) | (with_reducible replace e:=iT e) | (with_reducible replace e:=iF e) | skip) <;> (try (exfalso; omega)))) | ((with_reducible first | refine c_join _ _ _ _ _ ?_ | refine c_split _ _ _ _ ?_ | refine c_move _ _ _ _ _ ?_ | refine c_cut _ _ _ _ ?_ | refine c_do _ _ _ _ _ _ _ ?_ | refine c_daa _ _ _ _ _ ?_ | refine c_flip _ _ _ _ _ _ ?_ | refine c_quick _ _ _ _ _ _ ?_ | refine c_add16 _ _ _ _ _ _ ?_ | refine c_adc16 _ _ _ _ _ _ ?_ | refine c_sbc16 _ _ _ _ _ _ ?_ | refine c_rot _ _ _ _ _ _ ?_ | refine c_bitt _ _ _ _ _ _ _ ?_ | refine c_put _ _ _ _ _ _ ?_ | refine c_digits _ _ _ _ _ _ _ ?_ | refine c_rload _ _ _ _ _ _ _ ?_ | refine c_rseek _ _ _ _ _ _ _ ?_ | refine c_rport _ _ _ _ _ _ ?_ | refine c_inc _ _ _ _ _ ?_ | refine c_dec _ _ _ _ _ ?_ | refine c_shape _ _ _ _ ?_ | refine c_sub _ _ _ _ _ _ ?_ | refine c_pushed _ _ _ _ ?_); ((have hb:=A.blk29; have hx:=(up A).2.1; simp only[go_sem,hb,hx,hu,mr,mw,mi,mo,Rg.cells]))) | ((first | refine c_longer _ 7 15 _ _ _ ?_ | refine c_longer _ 10 15 _ _ _ ?_ | refine c_longer _ 11 19 _ _ _ ?_ | refine c_swap ⟨_,_,_,_,_,_,_,_,_,_,_,_,_,_,_,_,_,_,_,_,_,_,_,_,_,_,_,_,_⟩ _ _ _ _ ?_ | refine c_tick ⟨_,_,_,_,_,_,_,_,_,_,_,_,_,_,_,_,_,_,_,_,_,_,_,_,_,_,_,_,_⟩ _ _ _ ?_ | refine c_setpair ⟨_,_,_,_,_,_,_,_,_,_,_,_,_,_,_,_,_,_,_,_,_,_,_,_,_,_,_,_,_⟩ 2 (by decide) _ _ _ _ ?_ | refine m_pair A 2 (by decide) ?_ | refine m_pair A 0 (by decide) ?_ | refine m_pair A 1 (by decide) ?_ | refine m_pair A _ (by(first | decide | exact pushed_lt (by have:=yO_lt op; omega) | exact yO_lt op | exact zO_lt op | (have:=yO_lt op; have:=zO_lt op; omega))) ?_ | refine m_one A _ (by(first | decide | exact pushed_lt (by have:=yO_lt op; omega) | exact yO_lt op | exact zO_lt op | (have:=yO_lt op; have:=zO_lt op; omega))) ?_ | refine c_met _ _ (by(first | decide | exact pushed_lt (by have:=yO_lt op; omega) | exact yO_lt op | exact zO_lt op | (have:=yO_lt op; have:=zO_lt op; omega))) _ _ _ ?_ | refine m_pair A.put29 2 (by decide) ?_ | refine m_pair A.put29 0 (by decide) ?_ | refine m_pair A.put29 1 (by decide) ?_ | refine m_pair A.put29 _ (by(first | decide | exact pushed_lt (by have:=yO_lt op; omega) | exact yO_lt op | exact zO_lt op | (have:=yO_lt op; have:=zO_lt op; omega))) ?_ | refine m_one A.put29 _ (by(first | decide | exact pushed_lt (by have:=yO_lt op; omega) | exact yO_lt op | exact zO_lt op | (have:=yO_lt op; have:=zO_lt op; omega))) ?_); ((have hb:=A.blk29; have hx:=(up A).2.1; simp only[go_sem,hb,hx,hu,mr,mw,mi,mo,Rg.cells]))) | ((first | refine m_next M A (by omega) fun v s H n r lf A=>?_ | refine m_next M A.put29 (by omega) fun v s H n r lf A=>?_ | refine m_fetch M A (by omega) fun v c s H n r lf A=>?_ | refine m_fetch M A.put29 (by omega) fun v c s H n r lf A=>?_ | refine m_word M A (by omega) fun v c s H n r lf A=>?_ | refine m_word M A.put29 (by omega) fun v c s H n r lf A=>?_ | refine m_load M A _ (by omega) fun v s H n r lf A=>?_ | refine m_load M A.put29 _ (by omega) fun v s H n r lf A=>?_ | refine m_store M A _ _ (by omega) fun s H n r lf A=>?_ | refine m_store M A.put29 _ _ (by omega) fun s H n r lf A=>?_ | refine m_push M A _ (by omega) fun c s H n r lf A=>?_ | refine m_push M A.put29 _ (by omega) fun c s H n r lf A=>?_ | refine m_pop M A (by omega) fun v c s H n r lf A=>?_ | refine m_pop M A.put29 (by omega) fun v c s H n r lf A=>?_ | refine m_pointed M A (by omega) fun v p w q s H n r lf A=>?_ | refine m_pointed M A.put29 (by omega) fun v p w q s H n r lf A=>?_ | refine m_setpair A 2 (by decide) _ fun H n A=>?_ | refine m_setpair A.put29 2 (by decide) _ fun H n A=>?_ | refine m_setpair A 1 (by decide) _ fun H n A=>?_ | refine m_setpair A.put29 1 (by decide) _ fun H n A=>?_ | refine m_setpair A 0 (by decide) _ fun H n A=>?_ | refine m_setpair A.put29 0 (by decide) _ fun H n A=>?_ | refine m_setpair A _ (by(first | decide | exact pushed_lt (by have:=yO_lt op; omega) | exact yO_lt op | exact zO_lt op | (have:=yO_lt op; have:=zO_lt op; omega))) _ fun H n A=>?_ | refine m_setpair A.put29 _ (by(first | decide | exact pushed_lt (by have:=yO_lt op; omega) | exact yO_lt op | exact zO_lt op | (have:=yO_lt op; have:=zO_lt op; omega))) _ fun H n A=>?_ | refine m_setone A _ (by(first | decide | exact pushed_lt (by have:=yO_lt op; omega) | exact yO_lt op | exact zO_lt op | (have:=yO_lt op; have:=zO_lt op; omega))) _ fun H n A=>?_ | refine m_setone A.put29 _ (by(first | decide | exact pushed_lt (by have:=yO_lt op; omega) | exact yO_lt op | exact zO_lt op | (have:=yO_lt op; have:=zO_lt op; omega))) _ fun H n A=>?_ | refine m_to A _ fun H n A=>?_ | refine m_to A.put29 _ fun H n A=>?_ | refine m_told A _ fun H n A=>?_ | refine m_told A.put29 _ fun H n A=>?_ | refine A.rd (by omega) fun v s H n r lf A=>?_ | refine A.put29.rd (by omega) fun v s H n r lf A=>?_ | refine A.wr (by omega) fun s H n r lf A=>?_ | refine A.put29.wr (by omega) fun s H n r lf A=>?_ | refine A.ip (by decide) (by omega) fun v s H n r lf A=>?_ | refine A.put29.ip (by decide) (by omega) fun v s H n r lf A=>?_ | refine A.op (by decide) (by omega) fun s H n r lf A=>?_ | refine A.put29.op (by decide) (by omega) fun s H n r lf A=>?_); ((have hb:=A.blk29; have hx:=(up A).2.1; simp only[go_sem,hb,hx,hu,mr,mw,mi,mo,Rg.cells]))))
  all_goals first
    | (have hz:zO op=5:=(by omega)
       (first | (refine Fin.keep (h _ _ _ _ _ ?_ (by omega) (up A).1); unfold countM; simp +decide only[hz,if_true,if_false]; (((repeat' first | assumption | (with_reducible rfl) | (refine Eff.run_of (by assumption) ?_; try dsimp only) | refine Eff.run_t (by(first | assumption | exact nF ‹_› | exact nT ‹_› | omega)) ?_ | refine Eff.run_f (by(first | assumption | exact nF ‹_› | exact nT ‹_› | omega)) ?_ | rfl); all_goals fail))) | (refine Fin.keep (h _ _ _ _ _ ?_ (by omega) (up A.put29).1); unfold countM; simp +decide only[hz,if_true,if_false]; (((repeat' first | assumption | (with_reducible rfl) | (refine Eff.run_of (by assumption) ?_; try dsimp only) | refine Eff.run_t (by(first | assumption | exact nF ‹_› | exact nT ‹_› | omega)) ?_ | refine Eff.run_f (by(first | assumption | exact nF ‹_› | exact nT ‹_› | omega)) ?_ | rfl); all_goals fail)))))
    | (have hz:¬zO op=5:=(by omega)
       (first | (refine Fin.keep (h _ _ _ _ _ ?_ (by omega) (up A).1); unfold countM; simp +decide only[hz,if_true,if_false]; (((repeat' first | assumption | (with_reducible rfl) | (refine Eff.run_of (by assumption) ?_; try dsimp only) | refine Eff.run_t (by(first | assumption | exact nF ‹_› | exact nT ‹_› | omega)) ?_ | refine Eff.run_f (by(first | assumption | exact nF ‹_› | exact nT ‹_› | omega)) ?_ | rfl); all_goals fail))) | (refine Fin.keep (h _ _ _ _ _ ?_ (by omega) (up A.put29).1); unfold countM; simp +decide only[hz,if_true,if_false]; (((repeat' first | assumption | (with_reducible rfl) | (refine Eff.run_of (by assumption) ?_; try dsimp only) | refine Eff.run_t (by(first | assumption | exact nF ‹_› | exact nT ‹_› | omega)) ?_ | refine Eff.run_f (by(first | assumption | exact nF ‹_› | exact nT ‹_› | omega)) ?_ | rfl); all_goals fail)))))
end
end Go.Proofs.Joy
namespace Go.Proofs.Joy
open Go.Ab Go.Proofs
set_option maxHeartbeats 4000000
set_option maxRecDepth 20000
section
variable {σ:Type} {W:WC Tryz.prog σ} {t:TypeId} {H0:Heap} {n0:Nat} {F0:Nat→Prop} {k:Nat} {c:Core} {s:σ} {H:Heap} {n:Nat} {K:AV→Heap→Nat→Prop} (M:MT W t)
include M
theorem m_low (A:AtC W t H0 n0 F0 k c s H n) (op:BitVec 8) (hl:4≤W.left s) (h:∀(v:Nat) c' s' H' n',(lowM op c).run W.O s=((v,c'),s')→W.left s≤W.left s'+4→AtC W t H0 n0 F0 k c' s' H' n'→K (.i64 v) H' n'):ACalls Tryz.prog 61 [.pt k 0,.ag [.i64 (xO op),.i64 (yO op),.i64 (zO op),.i64 (yO op / 2:Nat),.i64 (yO op%2:Nat)]] H n K:=by
  refine ACalls.of_awp Tryz.func61 rfl (by decide +kernel) (show 2≤120 by decide) (by simp) fun wf=>?_
  obtain⟨F1,A,up⟩:=A.boxed ⟨[.i64 (xO op),.i64 (yO op),.i64 (zO op),.i64 (yO op / 2:Nat),.i64 (yO op%2:Nat)],64,false⟩ (by simp[AV.ok])
  have hb:=A.blk29
  have hk:=(up A).2.2.1
  have hu:=fun X Y=>Heap.upd_ne X Y hk
  have mr:=M.r
  have mw:=M.w
  have mi:=M.i
  have mo:=M.o
  refine awp_ev dr61 (by decide +kernel) ?_
  simp only[go_sem,Tryz.f61,hb,hu]
  (repeat' first | (((with_reducible refine And.intro ?_ ?_) <;> intro e <;> (first | (with_reducible replace e:=nbT e) | (with_reducible replace e:=nbF e) | (with_reducible replace e:=dT e) | (with_reducible replace e:=dF e) | (with_reducible replace e:=iT e) | (with_reducible replace e:=iF e) | skip) <;> (try (exfalso; omega)))) | ((with_reducible first | refine c_join _ _ _ _ _ ?_ | refine c_split _ _ _ _ ?_ | refine c_move _ _ _ _ _ ?_ | refine c_cut _ _ _ _ ?_ | refine c_do _ _ _ _ _ _ _ ?_ | refine c_daa _ _ _ _ _ ?_ | refine c_flip _ _ _ _ _ _ ?_ | refine c_quick _ _ _ _ _ _ ?_ | refine c_add16 _ _ _ _ _ _ ?_ | refine c_adc16 _ _ _ _ _ _ ?_ | refine c_sbc16 _ _ _ _ _ _ ?_ | refine c_rot _ _ _ _ _ _ ?_ | refine c_bitt _ _ _ _ _ _ _ ?_ | refine c_put _ _ _ _ _ _ ?_ | refine c_digits _ _ _ _ _ _ _ ?_ | refine c_rload _ _ _ _ _ _ _ ?_ | refine c_rseek _ _ _ _ _ _ _ ?_ | refine c_rport _ _ _ _ _ _ ?_ | refine c_inc _ _ _ _ _ ?_ | refine c_dec _ _ _ _ _ ?_ | refine c_shape _ _ _ _ ?_ | refine c_sub _ _ _ _ _ _ ?_ | refine c_pushed _ _ _ _ ?_); ((have hb:=A.blk29; have hx:=(up A).2.1; simp only[go_sem,hb,hx,hu,mr,mw,mi,mo,Rg.cells]))) | ((first | refine c_longer _ 7 15 _ _ _ ?_ | refine c_longer _ 10 15 _ _ _ ?_ | refine c_longer _ 11 19 _ _ _ ?_ | refine c_swap ⟨_,_,_,_,_,_,_,_,_,_,_,_,_,_,_,_,_,_,_,_,_,_,_,_,_,_,_,_,_⟩ _ _ _ _ ?_ | refine c_tick ⟨_,_,_,_,_,_,_,_,_,_,_,_,_,_,_,_,_,_,_,_,_,_,_,_,_,_,_,_,_⟩ _ _ _ ?_ | refine c_setpair ⟨_,_,_,_,_,_,_,_,_,_,_,_,_,_,_,_,_,_,_,_,_,_,_,_,_,_,_,_,_⟩ 2 (by decide) _ _ _ _ ?_ | refine m_pair A 2 (by decide) ?_ | refine m_pair A 0 (by decide) ?_ | refine m_pair A 1 (by decide) ?_ | refine m_pair A _ (by(first | decide | exact pushed_lt (by have:=yO_lt op; omega) | exact yO_lt op | exact zO_lt op | (have:=yO_lt op; have:=zO_lt op; omega))) ?_ | refine m_one A _ (by(first | decide | exact pushed_lt (by have:=yO_lt op; omega) | exact yO_lt op | exact zO_lt op | (have:=yO_lt op; have:=zO_lt op; omega))) ?_ | refine c_met _ _ (by(first | decide | exact pushed_lt (by have:=yO_lt op; omega) | exact yO_lt op | exact zO_lt op | (have:=yO_lt op; have:=zO_lt op; omega))) _ _ _ ?_ | refine m_pair A.put29 2 (by decide) ?_ | refine m_pair A.put29 0 (by decide) ?_ | refine m_pair A.put29 1 (by decide) ?_ | refine m_pair A.put29 _ (by(first | decide | exact pushed_lt (by have:=yO_lt op; omega) | exact yO_lt op | exact zO_lt op | (have:=yO_lt op; have:=zO_lt op; omega))) ?_ | refine m_one A.put29 _ (by(first | decide | exact pushed_lt (by have:=yO_lt op; omega) | exact yO_lt op | exact zO_lt op | (have:=yO_lt op; have:=zO_lt op; omega))) ?_); ((have hb:=A.blk29; have hx:=(up A).2.1; simp only[go_sem,hb,hx,hu,mr,mw,mi,mo,Rg.cells]))) | ((first | refine m_next M A (by omega) fun v s H n r lf A=>?_ | refine m_next M A.put29 (by omega) fun v s H n r lf A=>?_ | refine m_fetch M A (by omega) fun v c s H n r lf A=>?_ | refine m_fetch M A.put29 (by omega) fun v c s H n r lf A=>?_ | refine m_word M A (by omega) fun v c s H n r lf A=>?_ | refine m_word M A.put29 (by omega) fun v c s H n r lf A=>?_ | refine m_load M A _ (by omega) fun v s H n r lf A=>?_ | refine m_load M A.put29 _ (by omega) fun v s H n r lf A=>?_ | refine m_store M A _ _ (by omega) fun s H n r lf A=>?_ | refine m_store M A.put29 _ _ (by omega) fun s H n r lf A=>?_ | refine m_push M A _ (by omega) fun c s H n r lf A=>?_ | refine m_push M A.put29 _ (by omega) fun c s H n r lf A=>?_ | refine m_pop M A (by omega) fun v c s H n r lf A=>?_ | refine m_pop M A.put29 (by omega) fun v c s H n r lf A=>?_ | refine m_pointed M A (by omega) fun v p w q s H n r lf A=>?_ | refine m_pointed M A.put29 (by omega) fun v p w q s H n r lf A=>?_ | refine m_setpair A 2 (by decide) _ fun H n A=>?_ | refine m_setpair A.put29 2 (by decide) _ fun H n A=>?_ | refine m_setpair A 1 (by decide) _ fun H n A=>?_ | refine m_setpair A.put29 1 (by decide) _ fun H n A=>?_ | refine m_setpair A 0 (by decide) _ fun H n A=>?_ | refine m_setpair A.put29 0 (by decide) _ fun H n A=>?_ | refine m_setpair A _ (by(first | decide | exact pushed_lt (by have:=yO_lt op; omega) | exact yO_lt op | exact zO_lt op | (have:=yO_lt op; have:=zO_lt op; omega))) _ fun H n A=>?_ | refine m_setpair A.put29 _ (by(first | decide | exact pushed_lt (by have:=yO_lt op; omega) | exact yO_lt op | exact zO_lt op | (have:=yO_lt op; have:=zO_lt op; omega))) _ fun H n A=>?_ | refine m_setone A _ (by(first | decide | exact pushed_lt (by have:=yO_lt op; omega) | exact yO_lt op | exact zO_lt op | (have:=yO_lt op; have:=zO_lt op; omega))) _ fun H n A=>?_ | refine m_setone A.put29 _ (by(first | decide | exact pushed_lt (by have:=yO_lt op; omega) | exact yO_lt op | exact zO_lt op | (have:=yO_lt op; have:=zO_lt op; omega))) _ fun H n A=>?_ | refine m_to A _ fun H n A=>?_ | refine m_to A.put29 _ fun H n A=>?_ | refine m_told A _ fun H n A=>?_ | refine m_told A.put29 _ fun H n A=>?_ | refine A.rd (by omega) fun v s H n r lf A=>?_ | refine A.put29.rd (by omega) fun v s H n r lf A=>?_ | refine A.wr (by omega) fun s H n r lf A=>?_ | refine A.put29.wr (by omega) fun s H n r lf A=>?_ | refine A.ip (by decide) (by omega) fun v s H n r lf A=>?_ | refine A.put29.ip (by decide) (by omega) fun v s H n r lf A=>?_ | refine A.op (by decide) (by omega) fun s H n r lf A=>?_ | refine A.put29.op (by decide) (by omega) fun s H n r lf A=>?_); ((have hb:=A.blk29; have hx:=(up A).2.1; simp only[go_sem,hb,hx,hu,mr,mw,mi,mo,Rg.cells]))) | (refine m_quick A _ (by(first | decide | exact pushed_lt (by have:=yO_lt op; omega) | exact yO_lt op | exact zO_lt op | (have:=yO_lt op; have:=zO_lt op; omega))) fun H n A=>?_; ((have hb:=A.blk29; have hx:=(up A).2.1; simp only[go_sem,hb,hx,hu,mr,mw,mi,mo,Rg.cells]))) | ((first | refine m_jump M A _ (by omega) fun v c s H n r lf A=>?_ | refine m_jump M A.put29 _ (by omega) fun v c s H n r lf A=>?_); ((have hb:=A.blk29; have hx:=(up A).2.1; simp only[go_sem,hb,hx,hu,mr,mw,mi,mo,Rg.cells]))) | ((first | refine m_there M A _ (by omega) fun v c s H n r lf A=>?_ | refine m_there M A.put29 _ (by omega) fun v c s H n r lf A=>?_); ((have hb:=A.blk29; have hx:=(up A).2.1; simp only[go_sem,hb,hx,hu,mr,mw,mi,mo,Rg.cells]))) | ((first | refine m_count M A _ (by omega) fun v c s H n r lf A=>?_ | refine m_count M A.put29 _ (by omega) fun v c s H n r lf A=>?_); ((have hb:=A.blk29; have hx:=(up A).2.1; simp only[go_sem,hb,hx,hu,mr,mw,mi,mo,Rg.cells]))))
  all_goals first
    | (first | (refine Fin.keep (h _ _ _ _ _ ?_ (by omega) (up A).1); unfold lowM; (((repeat' first | assumption | (with_reducible rfl) | (refine Eff.run_of (by assumption) ?_; try dsimp only) | refine Eff.run_t (by(first | assumption | exact nF ‹_› | exact nT ‹_› | omega)) ?_ | refine Eff.run_f (by(first | assumption | exact nF ‹_› | exact nT ‹_› | omega)) ?_ | rfl); all_goals fail))) | (refine Fin.keep (h _ _ _ _ _ ?_ (by omega) (up A.put29).1); unfold lowM; (((repeat' first | assumption | (with_reducible rfl) | (refine Eff.run_of (by assumption) ?_; try dsimp only) | refine Eff.run_t (by(first | assumption | exact nF ‹_› | exact nT ‹_› | omega)) ?_ | refine Eff.run_f (by(first | assumption | exact nF ‹_› | exact nT ‹_› | omega)) ?_ | rfl); all_goals fail))))
    | (have hq:yO op%2=1:=(by omega)
       (first | (refine Fin.keep (h _ _ _ _ _ ?_ (by omega) (up A).1); unfold lowM; simp +decide only[hq,if_true,if_false]; (((repeat' first | assumption | (with_reducible rfl) | (refine Eff.run_of (by assumption) ?_; try dsimp only) | refine Eff.run_t (by(first | assumption | exact nF ‹_› | exact nT ‹_› | omega)) ?_ | refine Eff.run_f (by(first | assumption | exact nF ‹_› | exact nT ‹_› | omega)) ?_ | rfl); all_goals fail))) | (refine Fin.keep (h _ _ _ _ _ ?_ (by omega) (up A.put29).1); unfold lowM; simp +decide only[hq,if_true,if_false]; (((repeat' first | assumption | (with_reducible rfl) | (refine Eff.run_of (by assumption) ?_; try dsimp only) | refine Eff.run_t (by(first | assumption | exact nF ‹_› | exact nT ‹_› | omega)) ?_ | refine Eff.run_f (by(first | assumption | exact nF ‹_› | exact nT ‹_› | omega)) ?_ | rfl); all_goals fail)))))
    | (have hq:¬yO op%2=1:=(by omega)
       (first | (refine Fin.keep (h _ _ _ _ _ ?_ (by omega) (up A).1); unfold lowM; simp +decide only[hq,if_true,if_false]; (((repeat' first | assumption | (with_reducible rfl) | (refine Eff.run_of (by assumption) ?_; try dsimp only) | refine Eff.run_t (by(first | assumption | exact nF ‹_› | exact nT ‹_› | omega)) ?_ | refine Eff.run_f (by(first | assumption | exact nF ‹_› | exact nT ‹_› | omega)) ?_ | rfl); all_goals fail))) | (refine Fin.keep (h _ _ _ _ _ ?_ (by omega) (up A.put29).1); unfold lowM; simp +decide only[hq,if_true,if_false]; (((repeat' first | assumption | (with_reducible rfl) | (refine Eff.run_of (by assumption) ?_; try dsimp only) | refine Eff.run_t (by(first | assumption | exact nF ‹_› | exact nT ‹_› | omega)) ?_ | refine Eff.run_f (by(first | assumption | exact nF ‹_› | exact nT ‹_› | omega)) ?_ | rfl); all_goals fail)))))
end
end Go.Proofs.Joy
namespace Go.Proofs.Joy
open Go.Ab Go.Proofs
set_option maxHeartbeats 4000000
set_option maxRecDepth 20000
section
variable {σ:Type} {W:WC Tryz.prog σ} {t:TypeId} {H0:Heap} {n0:Nat} {F0:Nat→Prop} {k:Nat} {c:Core} {s:σ} {H:Heap} {n:Nat} {K:AV→Heap→Nat→Prop} (M:MT W t)
include M
theorem m_jumpto (A:AtC W t H0 n0 F0 k c s H n) (met:Bool) (hl:4≤W.left s) (h:∀c' s' H' n',(jumpToM met c).run W.O s=(((),c'),s')→W.left s≤W.left s'+4→AtC W t H0 n0 F0 k c' s' H' n'→K (.tu []) H' n'):ACalls Tryz.prog 118 [.pt k 0,.bo met] H n K:=by
  refine ACalls.of_awp Tryz.func118 rfl (by decide +kernel) (show 2≤20 by decide) (by simp) fun wf=>?_
  have up:∀ {c':Core} {s':σ} {H':Heap} {n':Nat},AtC W t H0 n0 F0 k c' s' H' n'→AtC W t H0 n0 F0 k c' s' H' n'∧True∧True:=fun X=>⟨X,trivial,trivial⟩
  have hu:=True.intro
  have hb:=A.blk29
  have mr:=M.r
  have mw:=M.w
  have mi:=M.i
  have mo:=M.o
  refine awp_ev dr0 (by decide +kernel) ?_
  simp only[go_sem,Tryz.f118,hb]
  (repeat' first | (((with_reducible refine And.intro ?_ ?_) <;> intro e <;> (first | (with_reducible replace e:=nbT e) | (with_reducible replace e:=nbF e) | (with_reducible replace e:=dT e) | (with_reducible replace e:=dF e) | (with_reducible replace e:=iT e) | (with_reducible replace e:=iF e) | skip) <;> (try (exfalso; omega)))) | ((with_reducible first | refine c_join _ _ _ _ _ ?_ | refine c_split _ _ _ _ ?_ | refine c_move _ _ _ _ _ ?_ | refine c_cut _ _ _ _ ?_ | refine c_do _ _ _ _ _ _ _ ?_ | refine c_daa _ _ _ _ _ ?_ | refine c_flip _ _ _ _ _ _ ?_ | refine c_quick _ _ _ _ _ _ ?_ | refine c_add16 _ _ _ _ _ _ ?_ | refine c_adc16 _ _ _ _ _ _ ?_ | refine c_sbc16 _ _ _ _ _ _ ?_ | refine c_rot _ _ _ _ _ _ ?_ | refine c_bitt _ _ _ _ _ _ _ ?_ | refine c_put _ _ _ _ _ _ ?_ | refine c_digits _ _ _ _ _ _ _ ?_ | refine c_rload _ _ _ _ _ _ _ ?_ | refine c_rseek _ _ _ _ _ _ _ ?_ | refine c_rport _ _ _ _ _ _ ?_ | refine c_inc _ _ _ _ _ ?_ | refine c_dec _ _ _ _ _ ?_ | refine c_shape _ _ _ _ ?_ | refine c_sub _ _ _ _ _ _ ?_ | refine c_pushed _ _ _ _ ?_); ((have hb:=A.blk29; have hx:=(up A).2.1; simp only[go_sem,hb,hx,hu,mr,mw,mi,mo,Rg.cells]))) | ((first | refine c_longer _ 7 15 _ _ _ ?_ | refine c_longer _ 10 15 _ _ _ ?_ | refine c_longer _ 11 19 _ _ _ ?_ | refine c_swap ⟨_,_,_,_,_,_,_,_,_,_,_,_,_,_,_,_,_,_,_,_,_,_,_,_,_,_,_,_,_⟩ _ _ _ _ ?_ | refine c_tick ⟨_,_,_,_,_,_,_,_,_,_,_,_,_,_,_,_,_,_,_,_,_,_,_,_,_,_,_,_,_⟩ _ _ _ ?_ | refine c_setpair ⟨_,_,_,_,_,_,_,_,_,_,_,_,_,_,_,_,_,_,_,_,_,_,_,_,_,_,_,_,_⟩ 2 (by decide) _ _ _ _ ?_ | refine m_pair A 2 (by decide) ?_ | refine m_pair A 0 (by decide) ?_ | refine m_pair A 1 (by decide) ?_ | refine m_pair A _ (by(first | decide | exact pushed_lt (by have:=yO_lt op; omega) | exact yO_lt op | exact zO_lt op | (have:=yO_lt op; have:=zO_lt op; omega))) ?_ | refine m_one A _ (by(first | decide | exact pushed_lt (by have:=yO_lt op; omega) | exact yO_lt op | exact zO_lt op | (have:=yO_lt op; have:=zO_lt op; omega))) ?_ | refine c_met _ _ (by(first | decide | exact pushed_lt (by have:=yO_lt op; omega) | exact yO_lt op | exact zO_lt op | (have:=yO_lt op; have:=zO_lt op; omega))) _ _ _ ?_ | refine m_pair A.put29 2 (by decide) ?_ | refine m_pair A.put29 0 (by decide) ?_ | refine m_pair A.put29 1 (by decide) ?_ | refine m_pair A.put29 _ (by(first | decide | exact pushed_lt (by have:=yO_lt op; omega) | exact yO_lt op | exact zO_lt op | (have:=yO_lt op; have:=zO_lt op; omega))) ?_ | refine m_one A.put29 _ (by(first | decide | exact pushed_lt (by have:=yO_lt op; omega) | exact yO_lt op | exact zO_lt op | (have:=yO_lt op; have:=zO_lt op; omega))) ?_); ((have hb:=A.blk29; have hx:=(up A).2.1; simp only[go_sem,hb,hx,hu,mr,mw,mi,mo,Rg.cells]))) | ((first | refine m_next M A (by omega) fun v s H n r lf A=>?_ | refine m_next M A.put29 (by omega) fun v s H n r lf A=>?_ | refine m_fetch M A (by omega) fun v c s H n r lf A=>?_ | refine m_fetch M A.put29 (by omega) fun v c s H n r lf A=>?_ | refine m_word M A (by omega) fun v c s H n r lf A=>?_ | refine m_word M A.put29 (by omega) fun v c s H n r lf A=>?_ | refine m_load M A _ (by omega) fun v s H n r lf A=>?_ | refine m_load M A.put29 _ (by omega) fun v s H n r lf A=>?_ | refine m_store M A _ _ (by omega) fun s H n r lf A=>?_ | refine m_store M A.put29 _ _ (by omega) fun s H n r lf A=>?_ | refine m_push M A _ (by omega) fun c s H n r lf A=>?_ | refine m_push M A.put29 _ (by omega) fun c s H n r lf A=>?_ | refine m_pop M A (by omega) fun v c s H n r lf A=>?_ | refine m_pop M A.put29 (by omega) fun v c s H n r lf A=>?_ | refine m_pointed M A (by omega) fun v p w q s H n r lf A=>?_ | refine m_pointed M A.put29 (by omega) fun v p w q s H n r lf A=>?_ | refine m_setpair A 2 (by decide) _ fun H n A=>?_ | refine m_setpair A.put29 2 (by decide) _ fun H n A=>?_ | refine m_setpair A 1 (by decide) _ fun H n A=>?_ | refine m_setpair A.put29 1 (by decide) _ fun H n A=>?_ | refine m_setpair A 0 (by decide) _ fun H n A=>?_ | refine m_setpair A.put29 0 (by decide) _ fun H n A=>?_ | refine m_setpair A _ (by(first | decide | exact pushed_lt (by have:=yO_lt op; omega) | exact yO_lt op | exact zO_lt op | (have:=yO_lt op; have:=zO_lt op; omega))) _ fun H n A=>?_ | refine m_setpair A.put29 _ (by(first | decide | exact pushed_lt (by have:=yO_lt op; omega) | exact yO_lt op | exact zO_lt op | (have:=yO_lt op; have:=zO_lt op; omega))) _ fun H n A=>?_ | refine m_setone A _ (by(first | decide | exact pushed_lt (by have:=yO_lt op; omega) | exact yO_lt op | exact zO_lt op | (have:=yO_lt op; have:=zO_lt op; omega))) _ fun H n A=>?_ | refine m_setone A.put29 _ (by(first | decide | exact pushed_lt (by have:=yO_lt op; omega) | exact yO_lt op | exact zO_lt op | (have:=yO_lt op; have:=zO_lt op; omega))) _ fun H n A=>?_ | refine m_to A _ fun H n A=>?_ | refine m_to A.put29 _ fun H n A=>?_ | refine m_told A _ fun H n A=>?_ | refine m_told A.put29 _ fun H n A=>?_ | refine A.rd (by omega) fun v s H n r lf A=>?_ | refine A.put29.rd (by omega) fun v s H n r lf A=>?_ | refine A.wr (by omega) fun s H n r lf A=>?_ | refine A.put29.wr (by omega) fun s H n r lf A=>?_ | refine A.ip (by decide) (by omega) fun v s H n r lf A=>?_ | refine A.put29.ip (by decide) (by omega) fun v s H n r lf A=>?_ | refine A.op (by decide) (by omega) fun s H n r lf A=>?_ | refine A.put29.op (by decide) (by omega) fun s H n r lf A=>?_); ((have hb:=A.blk29; have hx:=(up A).2.1; simp only[go_sem,hb,hx,hu,mr,mw,mi,mo,Rg.cells]))) | ((first | refine m_jumpto M A _ (by omega) fun c s H n r lf A=>?_ | refine m_call M A _ (by omega) fun v c s H n r lf A=>?_ | refine m_back M A _ (by omega) fun v c s H n r lf A=>?_ | refine m_others M A _ (by omega) fun v c s H n r lf A=>?_); ((have hb:=A.blk29; have hx:=(up A).2.1; simp only[go_sem,hb,hx,hu,mr,mw,mi,mo,Rg.cells]))))
  · exact Fin.keep (h _ _ _ _ (by unfold jumpToM; simp only[e,if_true]; (((repeat' first | assumption | (with_reducible rfl) | (refine Eff.run_of (by assumption) ?_; try dsimp only) | refine Eff.run_t (by(first | assumption | exact nF ‹_› | exact nT ‹_› | omega)) ?_ | refine Eff.run_f (by(first | assumption | exact nF ‹_› | exact nT ‹_› | omega)) ?_ | rfl); all_goals fail))) (by omega) (up A.put29).1)
  · exact Fin.keep (h _ _ _ _ (by unfold jumpToM; simp only[e,Bool.false_eq_true,if_false]; (((repeat' first | assumption | (with_reducible rfl) | (refine Eff.run_of (by assumption) ?_; try dsimp only) | refine Eff.run_t (by(first | assumption | exact nF ‹_› | exact nT ‹_› | omega)) ?_ | refine Eff.run_f (by(first | assumption | exact nF ‹_› | exact nT ‹_› | omega)) ?_ | rfl); all_goals fail))) (by omega) (up A.put29).1)
theorem m_call (A:AtC W t H0 n0 F0 k c s H n) (met:Bool) (hl:4≤W.left s) (h:∀(v:Nat) c' s' H' n',(callM met c).run W.O s=((v,c'),s')→W.left s≤W.left s'+4→AtC W t H0 n0 F0 k c' s' H' n'→K (.i64 v) H' n'):ACalls Tryz.prog 120 [.pt k 0,.bo met] H n K:=by
  refine ACalls.of_awp Tryz.func120 rfl (by decide +kernel) (show 2≤29 by decide) (by simp) fun wf=>?_
  have up:∀ {c':Core} {s':σ} {H':Heap} {n':Nat},AtC W t H0 n0 F0 k c' s' H' n'→AtC W t H0 n0 F0 k c' s' H' n'∧True∧True:=fun X=>⟨X,trivial,trivial⟩
  have hu:=True.intro
  have hb:=A.blk29
  have mr:=M.r
  have mw:=M.w
  have mi:=M.i
  have mo:=M.o
  refine awp_ev dr0 (by decide +kernel) ?_
  simp only[go_sem,Tryz.f120,hb]
  (repeat' first | (((with_reducible refine And.intro ?_ ?_) <;> intro e <;> (first | (with_reducible replace e:=nbT e) | (with_reducible replace e:=nbF e) | (with_reducible replace e:=dT e) | (with_reducible replace e:=dF e) | (with_reducible replace e:=iT e) | (with_reducible replace e:=iF e) | skip) <;> (try (exfalso; omega)))) | ((with_reducible first | refine c_join _ _ _ _ _ ?_ | refine c_split _ _ _ _ ?_ | refine c_move _ _ _ _ _ ?_ | refine c_cut _ _ _ _ ?_ | refine c_do _ _ _ _ _ _ _ ?_ | refine c_daa _ _ _ _ _ ?_ | refine c_flip _ _ _ _ _ _ ?_ | refine c_quick _ _ _ _ _ _ ?_ | refine c_add16 _ _ _ _ _ _ ?_ | refine c_adc16 _ _ _ _ _ _ ?_ | refine c_sbc16 _ _ _ _ _ _ ?_ | refine c_rot _ _ _ _ _ _ ?_ | refine c_bitt _ _ _ _ _ _ _ ?_ | refine c_put _ _ _ _ _ _ ?_ | refine c_digits _ _ _ _ _ _ _ ?_ | refine c_rload _ _ _ _ _ _ _ ?_ | refine c_rseek _ _ _ _ _ _ _ ?_ | refine c_rport _ _ _ _ _ _ ?_ | refine c_inc _ _ _ _ _ ?_ | refine c_dec _ _ _ _ _ ?_ | refine c_shape _ _ _ _ ?_ | refine c_sub _ _ _ _ _ _ ?_ | refine c_pushed _ _ _ _ ?_); ((have hb:=A.blk29; have hx:=(up A).2.1; simp only[go_sem,hb,hx,hu,mr,mw,mi,mo,Rg.cells]))) | ((first | refine c_longer _ 7 15 _ _ _ ?_ | refine c_longer _ 10 15 _ _ _ ?_ | refine c_longer _ 11 19 _ _ _ ?_ | refine c_swap ⟨_,_,_,_,_,_,_,_,_,_,_,_,_,_,_,_,_,_,_,_,_,_,_,_,_,_,_,_,_⟩ _ _ _ _ ?_ | refine c_tick ⟨_,_,_,_,_,_,_,_,_,_,_,_,_,_,_,_,_,_,_,_,_,_,_,_,_,_,_,_,_⟩ _ _ _ ?_ | refine c_setpair ⟨_,_,_,_,_,_,_,_,_,_,_,_,_,_,_,_,_,_,_,_,_,_,_,_,_,_,_,_,_⟩ 2 (by decide) _ _ _ _ ?_ | refine m_pair A 2 (by decide) ?_ | refine m_pair A 0 (by decide) ?_ | refine m_pair A 1 (by decide) ?_ | refine m_pair A _ (by(first | decide | exact pushed_lt (by have:=yO_lt op; omega) | exact yO_lt op | exact zO_lt op | (have:=yO_lt op; have:=zO_lt op; omega))) ?_ | refine m_one A _ (by(first | decide | exact pushed_lt (by have:=yO_lt op; omega) | exact yO_lt op | exact zO_lt op | (have:=yO_lt op; have:=zO_lt op; omega))) ?_ | refine c_met _ _ (by(first | decide | exact pushed_lt (by have:=yO_lt op; omega) | exact yO_lt op | exact zO_lt op | (have:=yO_lt op; have:=zO_lt op; omega))) _ _ _ ?_ | refine m_pair A.put29 2 (by decide) ?_ | refine m_pair A.put29 0 (by decide) ?_ | refine m_pair A.put29 1 (by decide) ?_ | refine m_pair A.put29 _ (by(first | decide | exact pushed_lt (by have:=yO_lt op; omega) | exact yO_lt op | exact zO_lt op | (have:=yO_lt op; have:=zO_lt op; omega))) ?_ | refine m_one A.put29 _ (by(first | decide | exact pushed_lt (by have:=yO_lt op; omega) | exact yO_lt op | exact zO_lt op | (have:=yO_lt op; have:=zO_lt op; omega))) ?_); ((have hb:=A.blk29; have hx:=(up A).2.1; simp only[go_sem,hb,hx,hu,mr,mw,mi,mo,Rg.cells]))) | ((first | refine m_next M A (by omega) fun v s H n r lf A=>?_ | refine m_next M A.put29 (by omega) fun v s H n r lf A=>?_ | refine m_fetch M A (by omega) fun v c s H n r lf A=>?_ | refine m_fetch M A.put29 (by omega) fun v c s H n r lf A=>?_ | refine m_word M A (by omega) fun v c s H n r lf A=>?_ | refine m_word M A.put29 (by omega) fun v c s H n r lf A=>?_ | refine m_load M A _ (by omega) fun v s H n r lf A=>?_ | refine m_load M A.put29 _ (by omega) fun v s H n r lf A=>?_ | refine m_store M A _ _ (by omega) fun s H n r lf A=>?_ | refine m_store M A.put29 _ _ (by omega) fun s H n r lf A=>?_ | refine m_push M A _ (by omega) fun c s H n r lf A=>?_ | refine m_push M A.put29 _ (by omega) fun c s H n r lf A=>?_ | refine m_pop M A (by omega) fun v c s H n r lf A=>?_ | refine m_pop M A.put29 (by omega) fun v c s H n r lf A=>?_ | refine m_pointed M A (by omega) fun v p w q s H n r lf A=>?_ | refine m_pointed M A.put29 (by omega) fun v p w q s H n r lf A=>?_ | refine m_setpair A 2 (by decide) _ fun H n A=>?_ | refine m_setpair A.put29 2 (by decide) _ fun H n A=>?_ | refine m_setpair A 1 (by decide) _ fun H n A=>?_ | refine m_setpair A.put29 1 (by decide) _ fun H n A=>?_ | refine m_setpair A 0 (by decide) _ fun H n A=>?_ | refine m_setpair A.put29 0 (by decide) _ fun H n A=>?_ | refine m_setpair A _ (by(first | decide | exact pushed_lt (by have:=yO_lt op; omega) | exact yO_lt op | exact zO_lt op | (have:=yO_lt op; have:=zO_lt op; omega))) _ fun H n A=>?_ | refine m_setpair A.put29 _ (by(first | decide | exact pushed_lt (by have:=yO_lt op; omega) | exact yO_lt op | exact zO_lt op | (have:=yO_lt op; have:=zO_lt op; omega))) _ fun H n A=>?_ | refine m_setone A _ (by(first | decide | exact pushed_lt (by have:=yO_lt op; omega) | exact yO_lt op | exact zO_lt op | (have:=yO_lt op; have:=zO_lt op; omega))) _ fun H n A=>?_ | refine m_setone A.put29 _ (by(first | decide | exact pushed_lt (by have:=yO_lt op; omega) | exact yO_lt op | exact zO_lt op | (have:=yO_lt op; have:=zO_lt op; omega))) _ fun H n A=>?_ | refine m_to A _ fun H n A=>?_ | refine m_to A.put29 _ fun H n A=>?_ | refine m_told A _ fun H n A=>?_ | refine m_told A.put29 _ fun H n A=>?_ | refine A.rd (by omega) fun v s H n r lf A=>?_ | refine A.put29.rd (by omega) fun v s H n r lf A=>?_ | refine A.wr (by omega) fun s H n r lf A=>?_ | refine A.put29.wr (by omega) fun s H n r lf A=>?_ | refine A.ip (by decide) (by omega) fun v s H n r lf A=>?_ | refine A.put29.ip (by decide) (by omega) fun v s H n r lf A=>?_ | refine A.op (by decide) (by omega) fun s H n r lf A=>?_ | refine A.put29.op (by decide) (by omega) fun s H n r lf A=>?_); ((have hb:=A.blk29; have hx:=(up A).2.1; simp only[go_sem,hb,hx,hu,mr,mw,mi,mo,Rg.cells]))) | ((first | refine m_jumpto M A _ (by omega) fun c s H n r lf A=>?_ | refine m_call M A _ (by omega) fun v c s H n r lf A=>?_ | refine m_back M A _ (by omega) fun v c s H n r lf A=>?_ | refine m_others M A _ (by omega) fun v c s H n r lf A=>?_); ((have hb:=A.blk29; have hx:=(up A).2.1; simp only[go_sem,hb,hx,hu,mr,mw,mi,mo,Rg.cells]))))
  all_goals (first | (refine Fin.keep (h _ _ _ _ _ ?_ (by omega) (up A).1); unfold callM; (((repeat' first | assumption | (with_reducible rfl) | (refine Eff.run_of (by assumption) ?_; try dsimp only) | refine Eff.run_t (by(first | assumption | exact nF ‹_› | exact nT ‹_› | omega)) ?_ | refine Eff.run_f (by(first | assumption | exact nF ‹_› | exact nT ‹_› | omega)) ?_ | rfl); all_goals fail))) | (refine Fin.keep (h _ _ _ _ _ ?_ (by omega) (up A.put29).1); unfold callM; (((repeat' first | assumption | (with_reducible rfl) | (refine Eff.run_of (by assumption) ?_; try dsimp only) | refine Eff.run_t (by(first | assumption | exact nF ‹_› | exact nT ‹_› | omega)) ?_ | refine Eff.run_f (by(first | assumption | exact nF ‹_› | exact nT ‹_› | omega)) ?_ | rfl); all_goals fail))))
theorem m_back (A:AtC W t H0 n0 F0 k c s H n) (op:BitVec 8) (hl:4≤W.left s) (h:∀(v:Nat) c' s' H' n',(backM op c).run W.O s=((v,c'),s')→W.left s≤W.left s'+4→AtC W t H0 n0 F0 k c' s' H' n'→K (.i64 v) H' n'):ACalls Tryz.prog 117 [.pt k 0,.ag [.i64 (xO op),.i64 (yO op),.i64 (zO op),.i64 (yO op / 2:Nat),.i64 (yO op%2:Nat)]] H n K:=by
  refine ACalls.of_awp Tryz.func117 rfl (by decide +kernel) (show 2≤47 by decide) (by simp) fun wf=>?_
  obtain⟨F1,A,up⟩:=A.boxed ⟨[.i64 (xO op),.i64 (yO op),.i64 (zO op),.i64 (yO op / 2:Nat),.i64 (yO op%2:Nat)],64,false⟩ (by simp[AV.ok])
  have hb:=A.blk29
  have hk:=(up A).2.2.1
  have hu:=fun X Y=>Heap.upd_ne X Y hk
  have mr:=M.r
  have mw:=M.w
  have mi:=M.i
  have mo:=M.o
  refine awp_ev dr0 (by decide +kernel) ?_
  simp only[go_sem,Tryz.f117,hb,hu]
  (repeat' first | (((with_reducible refine And.intro ?_ ?_) <;> intro e <;> (first | (with_reducible replace e:=nbT e) | (with_reducible replace e:=nbF e) | (with_reducible replace e:=dT e) | (with_reducible replace e:=dF e) | (with_reducible replace e:=iT e) | (with_reducible replace e:=iF e) | skip) <;> (try (exfalso; omega)))) | ((with_reducible first | refine c_join _ _ _ _ _ ?_ | refine c_split _ _ _ _ ?_ | refine c_move _ _ _ _ _ ?_ | refine c_cut _ _ _ _ ?_ | refine c_do _ _ _ _ _ _ _ ?_ | refine c_daa _ _ _ _ _ ?_ | refine c_flip _ _ _ _ _ _ ?_ | refine c_quick _ _ _ _ _ _ ?_ | refine c_add16 _ _ _ _ _ _ ?_ | refine c_adc16 _ _ _ _ _ _ ?_ | refine c_sbc16 _ _ _ _ _ _ ?_ | refine c_rot _ _ _ _ _ _ ?_ | refine c_bitt _ _ _ _ _ _ _ ?_ | refine c_put _ _ _ _ _ _ ?_ | refine c_digits _ _ _ _ _ _ _ ?_ | refine c_rload _ _ _ _ _ _ _ ?_ | refine c_rseek _ _ _ _ _ _ _ ?_ | refine c_rport _ _ _ _ _ _ ?_ | refine c_inc _ _ _ _ _ ?_ | refine c_dec _ _ _ _ _ ?_ | refine c_shape _ _ _ _ ?_ | refine c_sub _ _ _ _ _ _ ?_ | refine c_pushed _ _ _ _ ?_); ((have hb:=A.blk29; have hx:=(up A).2.1; simp only[go_sem,hb,hx,hu,mr,mw,mi,mo,Rg.cells]))) | ((first | refine c_longer _ 7 15 _ _ _ ?_ | refine c_longer _ 10 15 _ _ _ ?_ | refine c_longer _ 11 19 _ _ _ ?_ | refine c_swap ⟨_,_,_,_,_,_,_,_,_,_,_,_,_,_,_,_,_,_,_,_,_,_,_,_,_,_,_,_,_⟩ _ _ _ _ ?_ | refine c_tick ⟨_,_,_,_,_,_,_,_,_,_,_,_,_,_,_,_,_,_,_,_,_,_,_,_,_,_,_,_,_⟩ _ _ _ ?_ | refine c_setpair ⟨_,_,_,_,_,_,_,_,_,_,_,_,_,_,_,_,_,_,_,_,_,_,_,_,_,_,_,_,_⟩ 2 (by decide) _ _ _ _ ?_ | refine m_pair A 2 (by decide) ?_ | refine m_pair A 0 (by decide) ?_ | refine m_pair A 1 (by decide) ?_ | refine m_pair A _ (by(first | decide | exact pushed_lt (by have:=yO_lt op; omega) | exact yO_lt op | exact zO_lt op | (have:=yO_lt op; have:=zO_lt op; omega))) ?_ | refine m_one A _ (by(first | decide | exact pushed_lt (by have:=yO_lt op; omega) | exact yO_lt op | exact zO_lt op | (have:=yO_lt op; have:=zO_lt op; omega))) ?_ | refine c_met _ _ (by(first | decide | exact pushed_lt (by have:=yO_lt op; omega) | exact yO_lt op | exact zO_lt op | (have:=yO_lt op; have:=zO_lt op; omega))) _ _ _ ?_ | refine m_pair A.put29 2 (by decide) ?_ | refine m_pair A.put29 0 (by decide) ?_ | refine m_pair A.put29 1 (by decide) ?_ | refine m_pair A.put29 _ (by(first | decide | exact pushed_lt (by have:=yO_lt op; omega) | exact yO_lt op | exact zO_lt op | (have:=yO_lt op; have:=zO_lt op; omega))) ?_ | refine m_one A.put29 _ (by(first | decide | exact pushed_lt (by have:=yO_lt op; omega) | exact yO_lt op | exact zO_lt op | (have:=yO_lt op; have:=zO_lt op; omega))) ?_); ((have hb:=A.blk29; have hx:=(up A).2.1; simp only[go_sem,hb,hx,hu,mr,mw,mi,mo,Rg.cells]))) | ((first | refine m_next M A (by omega) fun v s H n r lf A=>?_ | refine m_next M A.put29 (by omega) fun v s H n r lf A=>?_ | refine m_fetch M A (by omega) fun v c s H n r lf A=>?_ | refine m_fetch M A.put29 (by omega) fun v c s H n r lf A=>?_ | refine m_word M A (by omega) fun v c s H n r lf A=>?_ | refine m_word M A.put29 (by omega) fun v c s H n r lf A=>?_ | refine m_load M A _ (by omega) fun v s H n r lf A=>?_ | refine m_load M A.put29 _ (by omega) fun v s H n r lf A=>?_ | refine m_store M A _ _ (by omega) fun s H n r lf A=>?_ | refine m_store M A.put29 _ _ (by omega) fun s H n r lf A=>?_ | refine m_push M A _ (by omega) fun c s H n r lf A=>?_ | refine m_push M A.put29 _ (by omega) fun c s H n r lf A=>?_ | refine m_pop M A (by omega) fun v c s H n r lf A=>?_ | refine m_pop M A.put29 (by omega) fun v c s H n r lf A=>?_ | refine m_pointed M A (by omega) fun v p w q s H n r lf A=>?_ | refine m_pointed M A.put29 (by omega) fun v p w q s H n r lf A=>?_ | refine m_setpair A 2 (by decide) _ fun H n A=>?_ | refine m_setpair A.put29 2 (by decide) _ fun H n A=>?_ | refine m_setpair A 1 (by decide) _ fun H n A=>?_ | refine m_setpair A.put29 1 (by decide) _ fun H n A=>?_ | refine m_setpair A 0 (by decide) _ fun H n A=>?_ | refine m_setpair A.put29 0 (by decide) _ fun H n A=>?_ | refine m_setpair A _ (by(first | decide | exact pushed_lt (by have:=yO_lt op; omega) | exact yO_lt op | exact zO_lt op | (have:=yO_lt op; have:=zO_lt op; omega))) _ fun H n A=>?_ | refine m_setpair A.put29 _ (by(first | decide | exact pushed_lt (by have:=yO_lt op; omega) | exact yO_lt op | exact zO_lt op | (have:=yO_lt op; have:=zO_lt op; omega))) _ fun H n A=>?_ | refine m_setone A _ (by(first | decide | exact pushed_lt (by have:=yO_lt op; omega) | exact yO_lt op | exact zO_lt op | (have:=yO_lt op; have:=zO_lt op; omega))) _ fun H n A=>?_ | refine m_setone A.put29 _ (by(first | decide | exact pushed_lt (by have:=yO_lt op; omega) | exact yO_lt op | exact zO_lt op | (have:=yO_lt op; have:=zO_lt op; omega))) _ fun H n A=>?_ | refine m_to A _ fun H n A=>?_ | refine m_to A.put29 _ fun H n A=>?_ | refine m_told A _ fun H n A=>?_ | refine m_told A.put29 _ fun H n A=>?_ | refine A.rd (by omega) fun v s H n r lf A=>?_ | refine A.put29.rd (by omega) fun v s H n r lf A=>?_ | refine A.wr (by omega) fun s H n r lf A=>?_ | refine A.put29.wr (by omega) fun s H n r lf A=>?_ | refine A.ip (by decide) (by omega) fun v s H n r lf A=>?_ | refine A.put29.ip (by decide) (by omega) fun v s H n r lf A=>?_ | refine A.op (by decide) (by omega) fun s H n r lf A=>?_ | refine A.put29.op (by decide) (by omega) fun s H n r lf A=>?_); ((have hb:=A.blk29; have hx:=(up A).2.1; simp only[go_sem,hb,hx,hu,mr,mw,mi,mo,Rg.cells]))) | ((first | refine m_jumpto M A _ (by omega) fun c s H n r lf A=>?_ | refine m_call M A _ (by omega) fun v c s H n r lf A=>?_ | refine m_back M A _ (by omega) fun v c s H n r lf A=>?_ | refine m_others M A _ (by omega) fun v c s H n r lf A=>?_); ((have hb:=A.blk29; have hx:=(up A).2.1; simp only[go_sem,hb,hx,hu,mr,mw,mi,mo,Rg.cells]))))
  all_goals (first | (refine Fin.keep (h _ _ _ _ _ ?_ (by omega) (up A).1); unfold backM; (((repeat' first | assumption | (with_reducible rfl) | (refine Eff.run_of (by assumption) ?_; try dsimp only) | refine Eff.run_t (by(first | assumption | exact nF ‹_› | exact nT ‹_› | omega)) ?_ | refine Eff.run_f (by(first | assumption | exact nF ‹_› | exact nT ‹_› | omega)) ?_ | rfl); all_goals fail))) | (refine Fin.keep (h _ _ _ _ _ ?_ (by omega) (up A.put29).1); unfold backM; (((repeat' first | assumption | (with_reducible rfl) | (refine Eff.run_of (by assumption) ?_; try dsimp only) | refine Eff.run_t (by(first | assumption | exact nF ‹_› | exact nT ‹_› | omega)) ?_ | refine Eff.run_f (by(first | assumption | exact nF ‹_› | exact nT ‹_› | omega)) ?_ | rfl); all_goals fail))))
end
section
variable {σ:Type} {W:WC Tryz.prog σ} {t:TypeId} {H0:Heap} {n0:Nat} {F0:Nat→Prop} {k:Nat} {c:Core} {s:σ} {H:Heap} {n:Nat} {K:AV→Heap→Nat→Prop} (M:MT W t)
include M
theorem m_others (A:AtC W t H0 n0 F0 k c s H n) (op:BitVec 8) (hl:4≤W.left s) (h:∀(v:Nat) c' s' H' n',(othersM op c).run W.O s=((v,c'),s')→W.left s≤W.left s'+4→AtC W t H0 n0 F0 k c' s' H' n'→K (.i64 v) H' n'):ACalls Tryz.prog 119 [.pt k 0,.ag [.i64 (xO op),.i64 (yO op),.i64 (zO op),.i64 (yO op / 2:Nat),.i64 (yO op%2:Nat)]] H n K:=by
  refine ACalls.of_awp Tryz.func119 rfl (by decide +kernel) (show 2≤162 by decide) (by simp) fun wf=>?_
  obtain⟨F1,A,up⟩:=A.boxed ⟨[.i64 (xO op),.i64 (yO op),.i64 (zO op),.i64 (yO op / 2:Nat),.i64 (yO op%2:Nat)],64,false⟩ (by simp[AV.ok])
  have hb:=A.blk29
  have hk:=(up A).2.2.1
  have hu:=fun X Y=>Heap.upd_ne X Y hk
  have mr:=M.r
  have mw:=M.w
  have mi:=M.i
  have mo:=M.o
  refine awp_ev dr119 (by decide +kernel) ?_
  simp only[go_sem,Tryz.f119,hb,hu]
  (repeat' first | (((with_reducible refine And.intro ?_ ?_) <;> intro e <;> (first | (with_reducible replace e:=nbT e) | (with_reducible replace e:=nbF e) | (with_reducible replace e:=dT e) | (with_reducible replace e:=dF e) | (with_reducible replace e:=iT e) | (with_reducible replace e:=iF e) | skip) <;> (try (exfalso; omega)))) | ((with_reducible first | refine c_join _ _ _ _ _ ?_ | refine c_split _ _ _ _ ?_ | refine c_move _ _ _ _ _ ?_ | refine c_cut _ _ _ _ ?_ | refine c_do _ _ _ _ _ _ _ ?_ | refine c_daa _ _ _ _ _ ?_ | refine c_flip _ _ _ _ _ _ ?_ | refine c_quick _ _ _ _ _ _ ?_ | refine c_add16 _ _ _ _ _ _ ?_ | refine c_adc16 _ _ _ _ _ _ ?_ | refine c_sbc16 _ _ _ _ _ _ ?_ | refine c_rot _ _ _ _ _ _ ?_ | refine c_bitt _ _ _ _ _ _ _ ?_ | refine c_put _ _ _ _ _ _ ?_ | refine c_digits _ _ _ _ _ _ _ ?_ | refine c_rload _ _ _ _ _ _ _ ?_ | refine c_rseek _ _ _ _ _ _ _ ?_ | refine c_rport _ _ _ _ _ _ ?_ | refine c_inc _ _ _ _ _ ?_ | refine c_dec _ _ _ _ _ ?_ | refine c_shape _ _ _ _ ?_ | refine c_sub _ _ _ _ _ _ ?_ | refine c_pushed _ _ _ _ ?_); ((have hb:=A.blk29; have hx:=(up A).2.1; simp only[go_sem,hb,hx,hu,mr,mw,mi,mo,Rg.cells]))) | ((first | refine c_longer _ 7 15 _ _ _ ?_ | refine c_longer _ 10 15 _ _ _ ?_ | refine c_longer _ 11 19 _ _ _ ?_ | refine c_swap ⟨_,_,_,_,_,_,_,_,_,_,_,_,_,_,_,_,_,_,_,_,_,_,_,_,_,_,_,_,_⟩ _ _ _ _ ?_ | refine c_tick ⟨_,_,_,_,_,_,_,_,_,_,_,_,_,_,_,_,_,_,_,_,_,_,_,_,_,_,_,_,_⟩ _ _ _ ?_ | refine c_setpair ⟨_,_,_,_,_,_,_,_,_,_,_,_,_,_,_,_,_,_,_,_,_,_,_,_,_,_,_,_,_⟩ 2 (by decide) _ _ _ _ ?_ | refine m_pair A 2 (by decide) ?_ | refine m_pair A 0 (by decide) ?_ | refine m_pair A 1 (by decide) ?_ | refine m_pair A _ (by(first | decide | exact pushed_lt (by have:=yO_lt op; omega) | exact yO_lt op | exact zO_lt op | (have:=yO_lt op; have:=zO_lt op; omega))) ?_ | refine m_one A _ (by(first | decide | exact pushed_lt (by have:=yO_lt op; omega) | exact yO_lt op | exact zO_lt op | (have:=yO_lt op; have:=zO_lt op; omega))) ?_ | refine c_met _ _ (by(first | decide | exact pushed_lt (by have:=yO_lt op; omega) | exact yO_lt op | exact zO_lt op | (have:=yO_lt op; have:=zO_lt op; omega))) _ _ _ ?_ | refine m_pair A.put29 2 (by decide) ?_ | refine m_pair A.put29 0 (by decide) ?_ | refine m_pair A.put29 1 (by decide) ?_ | refine m_pair A.put29 _ (by(first | decide | exact pushed_lt (by have:=yO_lt op; omega) | exact yO_lt op | exact zO_lt op | (have:=yO_lt op; have:=zO_lt op; omega))) ?_ | refine m_one A.put29 _ (by(first | decide | exact pushed_lt (by have:=yO_lt op; omega) | exact yO_lt op | exact zO_lt op | (have:=yO_lt op; have:=zO_lt op; omega))) ?_); ((have hb:=A.blk29; have hx:=(up A).2.1; simp only[go_sem,hb,hx,hu,mr,mw,mi,mo,Rg.cells]))) | ((first | refine m_next M A (by omega) fun v s H n r lf A=>?_ | refine m_next M A.put29 (by omega) fun v s H n r lf A=>?_ | refine m_fetch M A (by omega) fun v c s H n r lf A=>?_ | refine m_fetch M A.put29 (by omega) fun v c s H n r lf A=>?_ | refine m_word M A (by omega) fun v c s H n r lf A=>?_ | refine m_word M A.put29 (by omega) fun v c s H n r lf A=>?_ | refine m_load M A _ (by omega) fun v s H n r lf A=>?_ | refine m_load M A.put29 _ (by omega) fun v s H n r lf A=>?_ | refine m_store M A _ _ (by omega) fun s H n r lf A=>?_ | refine m_store M A.put29 _ _ (by omega) fun s H n r lf A=>?_ | refine m_push M A _ (by omega) fun c s H n r lf A=>?_ | refine m_push M A.put29 _ (by omega) fun c s H n r lf A=>?_ | refine m_pop M A (by omega) fun v c s H n r lf A=>?_ | refine m_pop M A.put29 (by omega) fun v c s H n r lf A=>?_ | refine m_pointed M A (by omega) fun v p w q s H n r lf A=>?_ | refine m_pointed M A.put29 (by omega) fun v p w q s H n r lf A=>?_ | refine m_setpair A 2 (by decide) _ fun H n A=>?_ | refine m_setpair A.put29 2 (by decide) _ fun H n A=>?_ | refine m_setpair A 1 (by decide) _ fun H n A=>?_ | refine m_setpair A.put29 1 (by decide) _ fun H n A=>?_ | refine m_setpair A 0 (by decide) _ fun H n A=>?_ | refine m_setpair A.put29 0 (by decide) _ fun H n A=>?_ | refine m_setpair A _ (by(first | decide | exact pushed_lt (by have:=yO_lt op; omega) | exact yO_lt op | exact zO_lt op | (have:=yO_lt op; have:=zO_lt op; omega))) _ fun H n A=>?_ | refine m_setpair A.put29 _ (by(first | decide | exact pushed_lt (by have:=yO_lt op; omega) | exact yO_lt op | exact zO_lt op | (have:=yO_lt op; have:=zO_lt op; omega))) _ fun H n A=>?_ | refine m_setone A _ (by(first | decide | exact pushed_lt (by have:=yO_lt op; omega) | exact yO_lt op | exact zO_lt op | (have:=yO_lt op; have:=zO_lt op; omega))) _ fun H n A=>?_ | refine m_setone A.put29 _ (by(first | decide | exact pushed_lt (by have:=yO_lt op; omega) | exact yO_lt op | exact zO_lt op | (have:=yO_lt op; have:=zO_lt op; omega))) _ fun H n A=>?_ | refine m_to A _ fun H n A=>?_ | refine m_to A.put29 _ fun H n A=>?_ | refine m_told A _ fun H n A=>?_ | refine m_told A.put29 _ fun H n A=>?_ | refine A.rd (by omega) fun v s H n r lf A=>?_ | refine A.put29.rd (by omega) fun v s H n r lf A=>?_ | refine A.wr (by omega) fun s H n r lf A=>?_ | refine A.put29.wr (by omega) fun s H n r lf A=>?_ | refine A.ip (by decide) (by omega) fun v s H n r lf A=>?_ | refine A.put29.ip (by decide) (by omega) fun v s H n r lf A=>?_ | refine A.op (by decide) (by omega) fun s H n r lf A=>?_ | refine A.put29.op (by decide) (by omega) fun s H n r lf A=>?_); ((have hb:=A.blk29; have hx:=(up A).2.1; simp only[go_sem,hb,hx,hu,mr,mw,mi,mo,Rg.cells]))) | ((first | refine m_jumpto M A _ (by omega) fun c s H n r lf A=>?_ | refine m_call M A _ (by omega) fun v c s H n r lf A=>?_ | refine m_back M A _ (by omega) fun v c s H n r lf A=>?_ | refine m_others M A _ (by omega) fun v c s H n r lf A=>?_); ((have hb:=A.blk29; have hx:=(up A).2.1; simp only[go_sem,hb,hx,hu,mr,mw,mi,mo,Rg.cells]))))
  · (first | (refine Fin.keep (h _ _ _ _ _ ?_ (by omega) (up A).1); unfold othersM; (((repeat' first | assumption | (with_reducible rfl) | (refine Eff.run_of (by assumption) ?_; try dsimp only) | refine Eff.run_t (by(first | assumption | exact nF ‹_› | exact nT ‹_› | omega)) ?_ | refine Eff.run_f (by(first | assumption | exact nF ‹_› | exact nT ‹_› | omega)) ?_ | rfl); all_goals fail))) | (refine Fin.keep (h _ _ _ _ _ ?_ (by omega) (up A.put29).1); unfold othersM; (((repeat' first | assumption | (with_reducible rfl) | (refine Eff.run_of (by assumption) ?_; try dsimp only) | refine Eff.run_t (by(first | assumption | exact nF ‹_› | exact nT ‹_› | omega)) ?_ | refine Eff.run_f (by(first | assumption | exact nF ‹_› | exact nT ‹_› | omega)) ?_ | rfl); all_goals fail))))
  · (first | (refine Fin.keep (h _ _ _ _ _ ?_ (by omega) (up A).1); unfold othersM; (((repeat' first | assumption | (with_reducible rfl) | (refine Eff.run_of (by assumption) ?_; try dsimp only) | refine Eff.run_t (by(first | assumption | exact nF ‹_› | exact nT ‹_› | omega)) ?_ | refine Eff.run_f (by(first | assumption | exact nF ‹_› | exact nT ‹_› | omega)) ?_ | rfl); all_goals fail))) | (refine Fin.keep (h _ _ _ _ _ ?_ (by omega) (up A.put29).1); unfold othersM; (((repeat' first | assumption | (with_reducible rfl) | (refine Eff.run_of (by assumption) ?_; try dsimp only) | refine Eff.run_t (by(first | assumption | exact nF ‹_› | exact nT ‹_› | omega)) ?_ | refine Eff.run_f (by(first | assumption | exact nF ‹_› | exact nT ‹_› | omega)) ?_ | rfl); all_goals fail))))
  · (first | (refine Fin.keep (h _ _ _ _ _ ?_ (by omega) (up A).1); unfold othersM; (((repeat' first | assumption | (with_reducible rfl) | (refine Eff.run_of (by assumption) ?_; try dsimp only) | refine Eff.run_t (by(first | assumption | exact nF ‹_› | exact nT ‹_› | omega)) ?_ | refine Eff.run_f (by(first | assumption | exact nF ‹_› | exact nT ‹_› | omega)) ?_ | rfl); all_goals fail))) | (refine Fin.keep (h _ _ _ _ _ ?_ (by omega) (up A.put29).1); unfold othersM; (((repeat' first | assumption | (with_reducible rfl) | (refine Eff.run_of (by assumption) ?_; try dsimp only) | refine Eff.run_t (by(first | assumption | exact nF ‹_› | exact nT ‹_› | omega)) ?_ | refine Eff.run_f (by(first | assumption | exact nF ‹_› | exact nT ‹_› | omega)) ?_ | rfl); all_goals fail))))
  · (first | (refine Fin.keep (h _ _ _ _ _ ?_ (by omega) (up A).1); unfold othersM; (((repeat' first | assumption | (with_reducible rfl) | (refine Eff.run_of (by assumption) ?_; try dsimp only) | refine Eff.run_t (by(first | assumption | exact nF ‹_› | exact nT ‹_› | omega)) ?_ | refine Eff.run_f (by(first | assumption | exact nF ‹_› | exact nT ‹_› | omega)) ?_ | rfl); all_goals fail))) | (refine Fin.keep (h _ _ _ _ _ ?_ (by omega) (up A.put29).1); unfold othersM; (((repeat' first | assumption | (with_reducible rfl) | (refine Eff.run_of (by assumption) ?_; try dsimp only) | refine Eff.run_t (by(first | assumption | exact nF ‹_› | exact nT ‹_› | omega)) ?_ | refine Eff.run_f (by(first | assumption | exact nF ‹_› | exact nT ‹_› | omega)) ?_ | rfl); all_goals fail))))
  · (first | (refine Fin.keep (h _ _ _ _ _ ?_ (by omega) (up A).1); unfold othersM; (((repeat' first | assumption | (with_reducible rfl) | (refine Eff.run_of (by assumption) ?_; try dsimp only) | refine Eff.run_t (by(first | assumption | exact nF ‹_› | exact nT ‹_› | omega)) ?_ | refine Eff.run_f (by(first | assumption | exact nF ‹_› | exact nT ‹_› | omega)) ?_ | rfl); all_goals fail))) | (refine Fin.keep (h _ _ _ _ _ ?_ (by omega) (up A.put29).1); unfold othersM; (((repeat' first | assumption | (with_reducible rfl) | (refine Eff.run_of (by assumption) ?_; try dsimp only) | refine Eff.run_t (by(first | assumption | exact nF ‹_› | exact nT ‹_› | omega)) ?_ | refine Eff.run_f (by(first | assumption | exact nF ‹_› | exact nT ‹_› | omega)) ?_ | rfl); all_goals fail))))
  · have h8:=yO_lt op
    have hy:yO op=1∨yO op=6∨yO op=7:=by omega
    rcases hy with hy | hy | hy
    all_goals
      refine Fin.keep (h _ _ _ _ _ ?_ (by omega) (up A.put29).1)
      unfold othersM
      simp +decide only[hy,if_false]
      rfl
end
end Go.Proofs.Joy
namespace Go.Proofs.Joy
open Go.Ab Go.Proofs
set_option maxHeartbeats 4000000
set_option maxRecDepth 20000
section
variable {σ:Type} {W:WC Tryz.prog σ} {t:TypeId} {H0:Heap} {n0:Nat} {F0:Nat→Prop} {k:Nat} {c:Core} {s:σ} {H:Heap} {n:Nat} {K:AV→Heap→Nat→Prop} (M:MT W t)
include M
end
theorem high8 (op:BitVec 8):BitVec.ofInt 16 (wrap64 (8*(yO op:Int)))=BitVec.ofNat 16 (8*yO op):=by revert op; decide +kernel
section
variable {σ:Type} {W:WC Tryz.prog σ} {t:TypeId} {H0:Heap} {n0:Nat} {F0:Nat→Prop} {k:Nat} {c:Core} {s:σ} {H:Heap} {n:Nat} {K:AV→Heap→Nat→Prop} (M:MT W t)
include M
theorem m_high (A:AtC W t H0 n0 F0 k c s H n) (op:BitVec 8) (hl:4≤W.left s) (h:∀(v:Nat) c' s' H' n',(highM op c).run W.O s=((v,c'),s')→W.left s≤W.left s'+4→AtC W t H0 n0 F0 k c' s' H' n'→K (.i64 v) H' n'):ACalls Tryz.prog 64 [.pt k 0,.ag [.i64 (xO op),.i64 (yO op),.i64 (zO op),.i64 (yO op / 2:Nat),.i64 (yO op%2:Nat)]] H n K:=by
  refine ACalls.of_awp Tryz.func64 rfl (by decide +kernel) (show 2≤99 by decide) (by simp) fun wf=>?_
  obtain⟨F1,A,up⟩:=A.boxed ⟨[.i64 (xO op),.i64 (yO op),.i64 (zO op),.i64 (yO op / 2:Nat),.i64 (yO op%2:Nat)],64,false⟩ (by simp[AV.ok])
  have hb:=A.blk29
  have hk:=(up A).2.2.1
  have hu:=fun X Y=>Heap.upd_ne X Y hk
  have mr:=M.r
  have mw:=M.w
  have mi:=M.i
  have mo:=M.o
  refine awp_ev dr64 (by decide +kernel) ?_
  simp only[go_sem,Tryz.f64,hb,hu]
  (repeat' first | (((with_reducible refine And.intro ?_ ?_) <;> intro e <;> (first | (with_reducible replace e:=nbT e) | (with_reducible replace e:=nbF e) | (with_reducible replace e:=dT e) | (with_reducible replace e:=dF e) | (with_reducible replace e:=iT e) | (with_reducible replace e:=iF e) | skip) <;> (try (exfalso; omega)))) | ((with_reducible first | refine c_join _ _ _ _ _ ?_ | refine c_split _ _ _ _ ?_ | refine c_move _ _ _ _ _ ?_ | refine c_cut _ _ _ _ ?_ | refine c_do _ _ _ _ _ _ _ ?_ | refine c_daa _ _ _ _ _ ?_ | refine c_flip _ _ _ _ _ _ ?_ | refine c_quick _ _ _ _ _ _ ?_ | refine c_add16 _ _ _ _ _ _ ?_ | refine c_adc16 _ _ _ _ _ _ ?_ | refine c_sbc16 _ _ _ _ _ _ ?_ | refine c_rot _ _ _ _ _ _ ?_ | refine c_bitt _ _ _ _ _ _ _ ?_ | refine c_put _ _ _ _ _ _ ?_ | refine c_digits _ _ _ _ _ _ _ ?_ | refine c_rload _ _ _ _ _ _ _ ?_ | refine c_rseek _ _ _ _ _ _ _ ?_ | refine c_rport _ _ _ _ _ _ ?_ | refine c_inc _ _ _ _ _ ?_ | refine c_dec _ _ _ _ _ ?_ | refine c_shape _ _ _ _ ?_ | refine c_sub _ _ _ _ _ _ ?_ | refine c_pushed _ _ _ _ ?_); ((have hb:=A.blk29; have hx:=(up A).2.1; simp only[go_sem,hb,hx,hu,mr,mw,mi,mo,Rg.cells]))) | ((first | refine c_longer _ 7 15 _ _ _ ?_ | refine c_longer _ 10 15 _ _ _ ?_ | refine c_longer _ 11 19 _ _ _ ?_ | refine c_swap ⟨_,_,_,_,_,_,_,_,_,_,_,_,_,_,_,_,_,_,_,_,_,_,_,_,_,_,_,_,_⟩ _ _ _ _ ?_ | refine c_tick ⟨_,_,_,_,_,_,_,_,_,_,_,_,_,_,_,_,_,_,_,_,_,_,_,_,_,_,_,_,_⟩ _ _ _ ?_ | refine c_setpair ⟨_,_,_,_,_,_,_,_,_,_,_,_,_,_,_,_,_,_,_,_,_,_,_,_,_,_,_,_,_⟩ 2 (by decide) _ _ _ _ ?_ | refine m_pair A 2 (by decide) ?_ | refine m_pair A 0 (by decide) ?_ | refine m_pair A 1 (by decide) ?_ | refine m_pair A _ (by(first | decide | exact pushed_lt (by have:=yO_lt op; omega) | exact yO_lt op | exact zO_lt op | (have:=yO_lt op; have:=zO_lt op; omega))) ?_ | refine m_one A _ (by(first | decide | exact pushed_lt (by have:=yO_lt op; omega) | exact yO_lt op | exact zO_lt op | (have:=yO_lt op; have:=zO_lt op; omega))) ?_ | refine c_met _ _ (by(first | decide | exact pushed_lt (by have:=yO_lt op; omega) | exact yO_lt op | exact zO_lt op | (have:=yO_lt op; have:=zO_lt op; omega))) _ _ _ ?_ | refine m_pair A.put29 2 (by decide) ?_ | refine m_pair A.put29 0 (by decide) ?_ | refine m_pair A.put29 1 (by decide) ?_ | refine m_pair A.put29 _ (by(first | decide | exact pushed_lt (by have:=yO_lt op; omega) | exact yO_lt op | exact zO_lt op | (have:=yO_lt op; have:=zO_lt op; omega))) ?_ | refine m_one A.put29 _ (by(first | decide | exact pushed_lt (by have:=yO_lt op; omega) | exact yO_lt op | exact zO_lt op | (have:=yO_lt op; have:=zO_lt op; omega))) ?_); ((have hb:=A.blk29; have hx:=(up A).2.1; simp only[go_sem,hb,hx,hu,mr,mw,mi,mo,Rg.cells]))) | ((first | refine m_next M A (by omega) fun v s H n r lf A=>?_ | refine m_next M A.put29 (by omega) fun v s H n r lf A=>?_ | refine m_fetch M A (by omega) fun v c s H n r lf A=>?_ | refine m_fetch M A.put29 (by omega) fun v c s H n r lf A=>?_ | refine m_word M A (by omega) fun v c s H n r lf A=>?_ | refine m_word M A.put29 (by omega) fun v c s H n r lf A=>?_ | refine m_load M A _ (by omega) fun v s H n r lf A=>?_ | refine m_load M A.put29 _ (by omega) fun v s H n r lf A=>?_ | refine m_store M A _ _ (by omega) fun s H n r lf A=>?_ | refine m_store M A.put29 _ _ (by omega) fun s H n r lf A=>?_ | refine m_push M A _ (by omega) fun c s H n r lf A=>?_ | refine m_push M A.put29 _ (by omega) fun c s H n r lf A=>?_ | refine m_pop M A (by omega) fun v c s H n r lf A=>?_ | refine m_pop M A.put29 (by omega) fun v c s H n r lf A=>?_ | refine m_pointed M A (by omega) fun v p w q s H n r lf A=>?_ | refine m_pointed M A.put29 (by omega) fun v p w q s H n r lf A=>?_ | refine m_setpair A 2 (by decide) _ fun H n A=>?_ | refine m_setpair A.put29 2 (by decide) _ fun H n A=>?_ | refine m_setpair A 1 (by decide) _ fun H n A=>?_ | refine m_setpair A.put29 1 (by decide) _ fun H n A=>?_ | refine m_setpair A 0 (by decide) _ fun H n A=>?_ | refine m_setpair A.put29 0 (by decide) _ fun H n A=>?_ | refine m_setpair A _ (by(first | decide | exact pushed_lt (by have:=yO_lt op; omega) | exact yO_lt op | exact zO_lt op | (have:=yO_lt op; have:=zO_lt op; omega))) _ fun H n A=>?_ | refine m_setpair A.put29 _ (by(first | decide | exact pushed_lt (by have:=yO_lt op; omega) | exact yO_lt op | exact zO_lt op | (have:=yO_lt op; have:=zO_lt op; omega))) _ fun H n A=>?_ | refine m_setone A _ (by(first | decide | exact pushed_lt (by have:=yO_lt op; omega) | exact yO_lt op | exact zO_lt op | (have:=yO_lt op; have:=zO_lt op; omega))) _ fun H n A=>?_ | refine m_setone A.put29 _ (by(first | decide | exact pushed_lt (by have:=yO_lt op; omega) | exact yO_lt op | exact zO_lt op | (have:=yO_lt op; have:=zO_lt op; omega))) _ fun H n A=>?_ | refine m_to A _ fun H n A=>?_ | refine m_to A.put29 _ fun H n A=>?_ | refine m_told A _ fun H n A=>?_ | refine m_told A.put29 _ fun H n A=>?_ | refine A.rd (by omega) fun v s H n r lf A=>?_ | refine A.put29.rd (by omega) fun v s H n r lf A=>?_ | refine A.wr (by omega) fun s H n r lf A=>?_ | refine A.put29.wr (by omega) fun s H n r lf A=>?_ | refine A.ip (by decide) (by omega) fun v s H n r lf A=>?_ | refine A.put29.ip (by decide) (by omega) fun v s H n r lf A=>?_ | refine A.op (by decide) (by omega) fun s H n r lf A=>?_ | refine A.put29.op (by decide) (by omega) fun s H n r lf A=>?_); ((have hb:=A.blk29; have hx:=(up A).2.1; simp only[go_sem,hb,hx,hu,mr,mw,mi,mo,Rg.cells]))) | ((first | refine m_jumpto M A _ (by omega) fun c s H n r lf A=>?_ | refine m_call M A _ (by omega) fun v c s H n r lf A=>?_ | refine m_back M A _ (by omega) fun v c s H n r lf A=>?_ | refine m_others M A _ (by omega) fun v c s H n r lf A=>?_); ((have hb:=A.blk29; have hx:=(up A).2.1; simp only[go_sem,hb,hx,hu,mr,mw,mi,mo,Rg.cells]))))
  all_goals first
    | (first | (refine Fin.keep (h _ _ _ _ _ ?_ (by omega) (up A).1); unfold highM; (((repeat' first | assumption | (with_reducible rfl) | (refine Eff.run_of (by assumption) ?_; try dsimp only) | refine Eff.run_t (by(first | assumption | exact nF ‹_› | exact nT ‹_› | omega)) ?_ | refine Eff.run_f (by(first | assumption | exact nF ‹_› | exact nT ‹_› | omega)) ?_ | rfl); all_goals fail))) | (refine Fin.keep (h _ _ _ _ _ ?_ (by omega) (up A.put29).1); unfold highM; (((repeat' first | assumption | (with_reducible rfl) | (refine Eff.run_of (by assumption) ?_; try dsimp only) | refine Eff.run_t (by(first | assumption | exact nF ‹_› | exact nT ‹_› | omega)) ?_ | refine Eff.run_f (by(first | assumption | exact nF ‹_› | exact nT ‹_› | omega)) ?_ | rfl); all_goals fail))))
    | (rw[high8 op] at A; (first | (refine Fin.keep (h _ _ _ _ _ ?_ (by omega) (up A).1); unfold highM; (((repeat' first | assumption | (with_reducible rfl) | (refine Eff.run_of (by assumption) ?_; try dsimp only) | refine Eff.run_t (by(first | assumption | exact nF ‹_› | exact nT ‹_› | omega)) ?_ | refine Eff.run_f (by(first | assumption | exact nF ‹_› | exact nT ‹_› | omega)) ?_ | rfl); all_goals fail))) | (refine Fin.keep (h _ _ _ _ _ ?_ (by omega) (up A.put29).1); unfold highM; (((repeat' first | assumption | (with_reducible rfl) | (refine Eff.run_of (by assumption) ?_; try dsimp only) | refine Eff.run_t (by(first | assumption | exact nF ‹_› | exact nT ‹_› | omega)) ?_ | refine Eff.run_f (by(first | assumption | exact nF ‹_› | exact nT ‹_› | omega)) ?_ | rfl); all_goals fail)))))
end
section
variable {σ:Type} {W:WC Tryz.prog σ} {t:TypeId} {H0:Heap} {n0:Nat} {F0:Nat→Prop} {k:Nat} {c:Core} {s:σ} {H:Heap} {n:Nat} {K:AV→Heap→Nat→Prop} (M:MT W t)
include M
theorem m_plain (A:AtC W t H0 n0 F0 k c s H n) (op:BitVec 8) (hl:4≤W.left s) (h:∀(v:Nat) c' s' H' n',(plainM op c).run W.O s=((v,c'),s')→W.left s≤W.left s'+4→AtC W t H0 n0 F0 k c' s' H' n'→K (.i64 v) H' n'):ACalls Tryz.prog 23 [.pt k 0,.ag [.i64 (xO op),.i64 (yO op),.i64 (zO op),.i64 (yO op / 2:Nat),.i64 (yO op%2:Nat)]] H n K:=by
  refine ACalls.of_awp Tryz.func23 rfl (by decide +kernel) (show 2≤47 by decide) (by simp) fun wf=>?_
  obtain⟨F1,A,up⟩:=A.boxed ⟨[.i64 (xO op),.i64 (yO op),.i64 (zO op),.i64 (yO op / 2:Nat),.i64 (yO op%2:Nat)],64,false⟩ (by simp[AV.ok])
  have hb:=A.blk29
  have hk:=(up A).2.2.1
  have hu:=fun X Y=>Heap.upd_ne X Y hk
  have mr:=M.r
  have mw:=M.w
  have mi:=M.i
  have mo:=M.o
  refine awp_ev dr0 (by decide +kernel) ?_
  simp only[go_sem,Tryz.f23,hb,hu]
  (repeat' first | (((with_reducible refine And.intro ?_ ?_) <;> intro e <;> (first | (with_reducible replace e:=nbT e) | (with_reducible replace e:=nbF e) | (with_reducible replace e:=dT e) | (with_reducible replace e:=dF e) | (with_reducible replace e:=iT e) | (with_reducible replace e:=iF e) | skip) <;> (try (exfalso; omega)))) | ((with_reducible first | refine c_join _ _ _ _ _ ?_ | refine c_split _ _ _ _ ?_ | refine c_move _ _ _ _ _ ?_ | refine c_cut _ _ _ _ ?_ | refine c_do _ _ _ _ _ _ _ ?_ | refine c_daa _ _ _ _ _ ?_ | refine c_flip _ _ _ _ _ _ ?_ | refine c_quick _ _ _ _ _ _ ?_ | refine c_add16 _ _ _ _ _ _ ?_ | refine c_adc16 _ _ _ _ _ _ ?_ | refine c_sbc16 _ _ _ _ _ _ ?_ | refine c_rot _ _ _ _ _ _ ?_ | refine c_bitt _ _ _ _ _ _ _ ?_ | refine c_put _ _ _ _ _ _ ?_ | refine c_digits _ _ _ _ _ _ _ ?_ | refine c_rload _ _ _ _ _ _ _ ?_ | refine c_rseek _ _ _ _ _ _ _ ?_ | refine c_rport _ _ _ _ _ _ ?_ | refine c_inc _ _ _ _ _ ?_ | refine c_dec _ _ _ _ _ ?_ | refine c_shape _ _ _ _ ?_ | refine c_sub _ _ _ _ _ _ ?_ | refine c_pushed _ _ _ _ ?_); ((have hb:=A.blk29; have hx:=(up A).2.1; simp only[go_sem,hb,hx,hu,mr,mw,mi,mo,Rg.cells]))) | ((first | refine c_longer _ 7 15 _ _ _ ?_ | refine c_longer _ 10 15 _ _ _ ?_ | refine c_longer _ 11 19 _ _ _ ?_ | refine c_swap ⟨_,_,_,_,_,_,_,_,_,_,_,_,_,_,_,_,_,_,_,_,_,_,_,_,_,_,_,_,_⟩ _ _ _ _ ?_ | refine c_tick ⟨_,_,_,_,_,_,_,_,_,_,_,_,_,_,_,_,_,_,_,_,_,_,_,_,_,_,_,_,_⟩ _ _ _ ?_ | refine c_setpair ⟨_,_,_,_,_,_,_,_,_,_,_,_,_,_,_,_,_,_,_,_,_,_,_,_,_,_,_,_,_⟩ 2 (by decide) _ _ _ _ ?_ | refine m_pair A 2 (by decide) ?_ | refine m_pair A 0 (by decide) ?_ | refine m_pair A 1 (by decide) ?_ | refine m_pair A _ (by(first | decide | exact pushed_lt (by have:=yO_lt op; omega) | exact yO_lt op | exact zO_lt op | (have:=yO_lt op; have:=zO_lt op; omega))) ?_ | refine m_one A _ (by(first | decide | exact pushed_lt (by have:=yO_lt op; omega) | exact yO_lt op | exact zO_lt op | (have:=yO_lt op; have:=zO_lt op; omega))) ?_ | refine c_met _ _ (by(first | decide | exact pushed_lt (by have:=yO_lt op; omega) | exact yO_lt op | exact zO_lt op | (have:=yO_lt op; have:=zO_lt op; omega))) _ _ _ ?_ | refine m_pair A.put29 2 (by decide) ?_ | refine m_pair A.put29 0 (by decide) ?_ | refine m_pair A.put29 1 (by decide) ?_ | refine m_pair A.put29 _ (by(first | decide | exact pushed_lt (by have:=yO_lt op; omega) | exact yO_lt op | exact zO_lt op | (have:=yO_lt op; have:=zO_lt op; omega))) ?_ | refine m_one A.put29 _ (by(first | decide | exact pushed_lt (by have:=yO_lt op; omega) | exact yO_lt op | exact zO_lt op | (have:=yO_lt op; have:=zO_lt op; omega))) ?_); ((have hb:=A.blk29; have hx:=(up A).2.1; simp only[go_sem,hb,hx,hu,mr,mw,mi,mo,Rg.cells]))) | ((first | refine m_next M A (by omega) fun v s H n r lf A=>?_ | refine m_next M A.put29 (by omega) fun v s H n r lf A=>?_ | refine m_fetch M A (by omega) fun v c s H n r lf A=>?_ | refine m_fetch M A.put29 (by omega) fun v c s H n r lf A=>?_ | refine m_word M A (by omega) fun v c s H n r lf A=>?_ | refine m_word M A.put29 (by omega) fun v c s H n r lf A=>?_ | refine m_load M A _ (by omega) fun v s H n r lf A=>?_ | refine m_load M A.put29 _ (by omega) fun v s H n r lf A=>?_ | refine m_store M A _ _ (by omega) fun s H n r lf A=>?_ | refine m_store M A.put29 _ _ (by omega) fun s H n r lf A=>?_ | refine m_push M A _ (by omega) fun c s H n r lf A=>?_ | refine m_push M A.put29 _ (by omega) fun c s H n r lf A=>?_ | refine m_pop M A (by omega) fun v c s H n r lf A=>?_ | refine m_pop M A.put29 (by omega) fun v c s H n r lf A=>?_ | refine m_pointed M A (by omega) fun v p w q s H n r lf A=>?_ | refine m_pointed M A.put29 (by omega) fun v p w q s H n r lf A=>?_ | refine m_setpair A 2 (by decide) _ fun H n A=>?_ | refine m_setpair A.put29 2 (by decide) _ fun H n A=>?_ | refine m_setpair A 1 (by decide) _ fun H n A=>?_ | refine m_setpair A.put29 1 (by decide) _ fun H n A=>?_ | refine m_setpair A 0 (by decide) _ fun H n A=>?_ | refine m_setpair A.put29 0 (by decide) _ fun H n A=>?_ | refine m_setpair A _ (by(first | decide | exact pushed_lt (by have:=yO_lt op; omega) | exact yO_lt op | exact zO_lt op | (have:=yO_lt op; have:=zO_lt op; omega))) _ fun H n A=>?_ | refine m_setpair A.put29 _ (by(first | decide | exact pushed_lt (by have:=yO_lt op; omega) | exact yO_lt op | exact zO_lt op | (have:=yO_lt op; have:=zO_lt op; omega))) _ fun H n A=>?_ | refine m_setone A _ (by(first | decide | exact pushed_lt (by have:=yO_lt op; omega) | exact yO_lt op | exact zO_lt op | (have:=yO_lt op; have:=zO_lt op; omega))) _ fun H n A=>?_ | refine m_setone A.put29 _ (by(first | decide | exact pushed_lt (by have:=yO_lt op; omega) | exact yO_lt op | exact zO_lt op | (have:=yO_lt op; have:=zO_lt op; omega))) _ fun H n A=>?_ | refine m_to A _ fun H n A=>?_ | refine m_to A.put29 _ fun H n A=>?_ | refine m_told A _ fun H n A=>?_ | refine m_told A.put29 _ fun H n A=>?_ | refine A.rd (by omega) fun v s H n r lf A=>?_ | refine A.put29.rd (by omega) fun v s H n r lf A=>?_ | refine A.wr (by omega) fun s H n r lf A=>?_ | refine A.put29.wr (by omega) fun s H n r lf A=>?_ | refine A.ip (by decide) (by omega) fun v s H n r lf A=>?_ | refine A.put29.ip (by decide) (by omega) fun v s H n r lf A=>?_ | refine A.op (by decide) (by omega) fun s H n r lf A=>?_ | refine A.put29.op (by decide) (by omega) fun s H n r lf A=>?_); ((have hb:=A.blk29; have hx:=(up A).2.1; simp only[go_sem,hb,hx,hu,mr,mw,mi,mo,Rg.cells]))) | ((first | refine m_low M A _ (by omega) fun v c s H n r lf A=>?_ | refine m_low M A.put29 _ (by omega) fun v c s H n r lf A=>?_); ((have hb:=A.blk29; have hx:=(up A).2.1; simp only[go_sem,hb,hx,hu,mr,mw,mi,mo,Rg.cells]))) | ((first | refine m_move M A _ (by omega) fun v c s H n r lf A=>?_ | refine m_move M A.put29 _ (by omega) fun v c s H n r lf A=>?_); ((have hb:=A.blk29; have hx:=(up A).2.1; simp only[go_sem,hb,hx,hu,mr,mw,mi,mo,Rg.cells]))) | ((first | refine m_sum M A _ (by omega) fun v c s H n r lf A=>?_ | refine m_sum M A.put29 _ (by omega) fun v c s H n r lf A=>?_); ((have hb:=A.blk29; have hx:=(up A).2.1; simp only[go_sem,hb,hx,hu,mr,mw,mi,mo,Rg.cells]))) | ((first | refine m_high M A _ (by omega) fun v c s H n r lf A=>?_ | refine m_high M A.put29 _ (by omega) fun v c s H n r lf A=>?_); ((have hb:=A.blk29; have hx:=(up A).2.1; simp only[go_sem,hb,hx,hu,mr,mw,mi,mo,Rg.cells]))))
  all_goals (first | (refine Fin.keep (h _ _ _ _ _ ?_ (by omega) (up A).1); unfold plainM; (((repeat' first | assumption | (with_reducible rfl) | (refine Eff.run_of (by assumption) ?_; try dsimp only) | refine Eff.run_t (by(first | assumption | exact nF ‹_› | exact nT ‹_› | omega)) ?_ | refine Eff.run_f (by(first | assumption | exact nF ‹_› | exact nT ‹_› | omega)) ?_ | rfl); all_goals fail))) | (refine Fin.keep (h _ _ _ _ _ ?_ (by omega) (up A.put29).1); unfold plainM; (((repeat' first | assumption | (with_reducible rfl) | (refine Eff.run_of (by assumption) ?_; try dsimp only) | refine Eff.run_t (by(first | assumption | exact nF ‹_› | exact nT ‹_› | omega)) ?_ | refine Eff.run_f (by(first | assumption | exact nF ‹_› | exact nT ‹_› | omega)) ?_ | rfl); all_goals fail))))
end
end Go.Proofs.Joy
namespace Go.Proofs.Joy
open Go.Ab Go.Proofs
set_option maxHeartbeats 4000000
set_option maxRecDepth 20000
section
variable {σ:Type} {W:WC Tryz.prog σ} {t:TypeId} {H0:Heap} {n0:Nat} {F0:Nat→Prop} {k:Nat} {c:Core} {s:σ} {H:Heap} {n:Nat} {K:AV→Heap→Nat→Prop} (M:MT W t)
include M
theorem m_bits (A:AtC W t H0 n0 F0 k c s H n) (op v fr:BitVec 8) (h:∀H' n',AtC W t H0 n0 F0 k (c.setF (bitsS op v fr c.r.f).2.2) s H' n'→K (.tu [.u8 (bitsS op v fr c.r.f).1,.bo (bitsS op v fr c.r.f).2.1]) H' n'):ACalls Tryz.prog 59 [.pt k 0,.ag [.i64 (xO op),.i64 (yO op),.i64 (zO op),.i64 (yO op / 2:Nat),.i64 (yO op%2:Nat)],.u8 v,.u8 fr] H n K:=by
  refine ACalls.of_awp Tryz.func59 rfl (by decide +kernel) (show 4≤58 by decide) (by simp) fun wf=>?_
  obtain⟨F1,A,up⟩:=A.boxed ⟨[.i64 (xO op),.i64 (yO op),.i64 (zO op),.i64 (yO op / 2:Nat),.i64 (yO op%2:Nat)],64,false⟩ (by simp[AV.ok])
  have hb:=A.blk29
  have hk:=(up A).2.2.1
  have hu:=fun X Y=>Heap.upd_ne X Y hk
  have mr:=M.r
  have mw:=M.w
  have mi:=M.i
  have mo:=M.o
  refine awp_ev dr59 (by decide +kernel) ?_
  unfold bitsS at h
  simp only[go_sem,Tryz.f59,hb,hu]
  (repeat' first | (((with_reducible refine And.intro ?_ ?_) <;> intro e <;> (first | (with_reducible replace e:=nbT e) | (with_reducible replace e:=nbF e) | (with_reducible replace e:=dT e) | (with_reducible replace e:=dF e) | (with_reducible replace e:=iT e) | (with_reducible replace e:=iF e) | skip) <;> (try (exfalso; omega)))) | ((with_reducible first | refine c_join _ _ _ _ _ ?_ | refine c_split _ _ _ _ ?_ | refine c_move _ _ _ _ _ ?_ | refine c_cut _ _ _ _ ?_ | refine c_do _ _ _ _ _ _ _ ?_ | refine c_daa _ _ _ _ _ ?_ | refine c_flip _ _ _ _ _ _ ?_ | refine c_quick _ _ _ _ _ _ ?_ | refine c_add16 _ _ _ _ _ _ ?_ | refine c_adc16 _ _ _ _ _ _ ?_ | refine c_sbc16 _ _ _ _ _ _ ?_ | refine c_rot _ _ _ _ _ _ ?_ | refine c_bitt _ _ _ _ _ _ _ ?_ | refine c_put _ _ _ _ _ _ ?_ | refine c_digits _ _ _ _ _ _ _ ?_ | refine c_rload _ _ _ _ _ _ _ ?_ | refine c_rseek _ _ _ _ _ _ _ ?_ | refine c_rport _ _ _ _ _ _ ?_ | refine c_inc _ _ _ _ _ ?_ | refine c_dec _ _ _ _ _ ?_ | refine c_shape _ _ _ _ ?_ | refine c_sub _ _ _ _ _ _ ?_ | refine c_pushed _ _ _ _ ?_); ((have hb:=A.blk29; have hx:=(up A).2.1; simp only[go_sem,hb,hx,hu,mr,mw,mi,mo,Rg.cells]))) | ((first | refine c_longer _ 7 15 _ _ _ ?_ | refine c_longer _ 10 15 _ _ _ ?_ | refine c_longer _ 11 19 _ _ _ ?_ | refine c_swap ⟨_,_,_,_,_,_,_,_,_,_,_,_,_,_,_,_,_,_,_,_,_,_,_,_,_,_,_,_,_⟩ _ _ _ _ ?_ | refine c_tick ⟨_,_,_,_,_,_,_,_,_,_,_,_,_,_,_,_,_,_,_,_,_,_,_,_,_,_,_,_,_⟩ _ _ _ ?_ | refine c_setpair ⟨_,_,_,_,_,_,_,_,_,_,_,_,_,_,_,_,_,_,_,_,_,_,_,_,_,_,_,_,_⟩ 2 (by decide) _ _ _ _ ?_ | refine m_pair A 2 (by decide) ?_ | refine m_pair A 0 (by decide) ?_ | refine m_pair A 1 (by decide) ?_ | refine m_pair A _ (by(first | decide | exact pushed_lt (by have:=yO_lt op; omega) | exact yO_lt op | exact zO_lt op | (have:=yO_lt op; have:=zO_lt op; omega))) ?_ | refine m_one A _ (by(first | decide | exact pushed_lt (by have:=yO_lt op; omega) | exact yO_lt op | exact zO_lt op | (have:=yO_lt op; have:=zO_lt op; omega))) ?_ | refine c_met _ _ (by(first | decide | exact pushed_lt (by have:=yO_lt op; omega) | exact yO_lt op | exact zO_lt op | (have:=yO_lt op; have:=zO_lt op; omega))) _ _ _ ?_ | refine m_pair A.put29 2 (by decide) ?_ | refine m_pair A.put29 0 (by decide) ?_ | refine m_pair A.put29 1 (by decide) ?_ | refine m_pair A.put29 _ (by(first | decide | exact pushed_lt (by have:=yO_lt op; omega) | exact yO_lt op | exact zO_lt op | (have:=yO_lt op; have:=zO_lt op; omega))) ?_ | refine m_one A.put29 _ (by(first | decide | exact pushed_lt (by have:=yO_lt op; omega) | exact yO_lt op | exact zO_lt op | (have:=yO_lt op; have:=zO_lt op; omega))) ?_); ((have hb:=A.blk29; have hx:=(up A).2.1; simp only[go_sem,hb,hx,hu,mr,mw,mi,mo,Rg.cells]))) | ((first | refine m_next M A (by omega) fun v s H n r lf A=>?_ | refine m_next M A.put29 (by omega) fun v s H n r lf A=>?_ | refine m_fetch M A (by omega) fun v c s H n r lf A=>?_ | refine m_fetch M A.put29 (by omega) fun v c s H n r lf A=>?_ | refine m_word M A (by omega) fun v c s H n r lf A=>?_ | refine m_word M A.put29 (by omega) fun v c s H n r lf A=>?_ | refine m_load M A _ (by omega) fun v s H n r lf A=>?_ | refine m_load M A.put29 _ (by omega) fun v s H n r lf A=>?_ | refine m_store M A _ _ (by omega) fun s H n r lf A=>?_ | refine m_store M A.put29 _ _ (by omega) fun s H n r lf A=>?_ | refine m_push M A _ (by omega) fun c s H n r lf A=>?_ | refine m_push M A.put29 _ (by omega) fun c s H n r lf A=>?_ | refine m_pop M A (by omega) fun v c s H n r lf A=>?_ | refine m_pop M A.put29 (by omega) fun v c s H n r lf A=>?_ | refine m_pointed M A (by omega) fun v p w q s H n r lf A=>?_ | refine m_pointed M A.put29 (by omega) fun v p w q s H n r lf A=>?_ | refine m_setpair A 2 (by decide) _ fun H n A=>?_ | refine m_setpair A.put29 2 (by decide) _ fun H n A=>?_ | refine m_setpair A 1 (by decide) _ fun H n A=>?_ | refine m_setpair A.put29 1 (by decide) _ fun H n A=>?_ | refine m_setpair A 0 (by decide) _ fun H n A=>?_ | refine m_setpair A.put29 0 (by decide) _ fun H n A=>?_ | refine m_setpair A _ (by(first | decide | exact pushed_lt (by have:=yO_lt op; omega) | exact yO_lt op | exact zO_lt op | (have:=yO_lt op; have:=zO_lt op; omega))) _ fun H n A=>?_ | refine m_setpair A.put29 _ (by(first | decide | exact pushed_lt (by have:=yO_lt op; omega) | exact yO_lt op | exact zO_lt op | (have:=yO_lt op; have:=zO_lt op; omega))) _ fun H n A=>?_ | refine m_setone A _ (by(first | decide | exact pushed_lt (by have:=yO_lt op; omega) | exact yO_lt op | exact zO_lt op | (have:=yO_lt op; have:=zO_lt op; omega))) _ fun H n A=>?_ | refine m_setone A.put29 _ (by(first | decide | exact pushed_lt (by have:=yO_lt op; omega) | exact yO_lt op | exact zO_lt op | (have:=yO_lt op; have:=zO_lt op; omega))) _ fun H n A=>?_ | refine m_to A _ fun H n A=>?_ | refine m_to A.put29 _ fun H n A=>?_ | refine m_told A _ fun H n A=>?_ | refine m_told A.put29 _ fun H n A=>?_ | refine A.rd (by omega) fun v s H n r lf A=>?_ | refine A.put29.rd (by omega) fun v s H n r lf A=>?_ | refine A.wr (by omega) fun s H n r lf A=>?_ | refine A.put29.wr (by omega) fun s H n r lf A=>?_ | refine A.ip (by decide) (by omega) fun v s H n r lf A=>?_ | refine A.put29.ip (by decide) (by omega) fun v s H n r lf A=>?_ | refine A.op (by decide) (by omega) fun s H n r lf A=>?_ | refine A.put29.op (by decide) (by omega) fun s H n r lf A=>?_); ((have hb:=A.blk29; have hx:=(up A).2.1; simp only[go_sem,hb,hx,hu,mr,mw,mi,mo,Rg.cells]))) | ((first | refine m_bits M A _ _ _ fun H n A=>?_); ((have hb:=A.blk29; have hx:=(up A).2.1; simp only[go_sem,hb,hx,hu,mr,mw,mi,mo,Rg.cells]))) | ((first | refine m_bits M A.put29 _ _ _ fun H n A=>?_); ((have hb:=A.blk29; have hx:=(up A).2.1; simp only[go_sem,hb,hx,hu,mr,mw,mi,mo,Rg.cells]))))
  · have e0:xO op=0:=by omega
    simp +decide only[e0,if_true,if_false] at h
    exact Fin.keep (h _ _ (up A.put29).1)
  · have e0:xO op=1:=by omega
    simp +decide only[e0,if_true,if_false] at h
    exact Fin.keep (h _ _ (up A.put29).1)
  · have h4:=xO_lt op
    have hx:xO op=2∨xO op=3:=by omega
    rcases hx with hx | hx
    · simp +decide only[hx,if_true,if_false] at h
      have e3:∀b:Bool,b=((xO op:Int)==3)→b=false:=fun b hb=>by rw[hb,hx]; rfl
      have e9:=h _ _ (up A).1
      rw[e3 _ rfl]
      exact Fin.keep e9
    · simp +decide only[hx,if_true,if_false] at h
      have e3:∀b:Bool,b=((xO op:Int)==3)→b=true:=fun b hb=>by rw[hb,hx]; rfl
      have e9:=h _ _ (up A).1
      rw[e3 _ rfl]
      exact Fin.keep e9
end
section
variable {σ:Type} {W:WC Tryz.prog σ} {t:TypeId} {H0:Heap} {n0:Nat} {F0:Nat→Prop} {k:Nat} {c:Core} {s:σ} {H:Heap} {n:Nat} {K:AV→Heap→Nat→Prop} (M:MT W t)
include M
theorem m_turnedfar (A:AtC W t H0 n0 F0 k c s H n) (hl:4≤W.left s) (h:∀(v:Nat) c' s' H' n',(turnedFarM c).run W.O s=((v,c'),s')→W.left s≤W.left s'+4→AtC W t H0 n0 F0 k c' s' H' n'→K (.i64 v) H' n'):ACalls Tryz.prog 58 [.pt k 0] H n K:=by
  refine ACalls.of_awp Tryz.func58 rfl (by decide +kernel) (show 1≤48 by decide) (by simp) fun wf=>?_
  have mr:=M.r
  have mw:=M.w
  have mi:=M.i
  have mo:=M.o
  refine awp_ev dr58 (by decide +kernel) ?_
  simp only[go_sem,Tryz.f58]
  refine m_pointed M A (by omega) fun a p w q s H n r lf A=>?_
  simp only[go_sem]
  refine m_next M A (by omega) fun op s H n r lf A=>?_
  simp only[go_sem]
  refine c_cut _ _ _ _ ?_
  ((have hw:=A; obtain⟨F1,A,up⟩:=A.boxed ⟨[.i64 (xO op),.i64 (yO op),.i64 (zO op),.i64 (yO op / 2:Nat),.i64 (yO op%2:Nat)],64,false⟩ (by simp[AV.ok]); have hk:=(up A).2.2.1; have hu:=fun X Y=>Heap.upd_ne X Y hk))
  have hb:=A.blk29
  simp only[go_sem,hb,mr,mw,hu]
  (repeat' first | (((with_reducible refine And.intro ?_ ?_) <;> intro e <;> (first | (with_reducible replace e:=nbT e) | (with_reducible replace e:=nbF e) | (with_reducible replace e:=dT e) | (with_reducible replace e:=dF e) | (with_reducible replace e:=iT e) | (with_reducible replace e:=iF e) | skip) <;> (try (exfalso; omega)))) | ((with_reducible first | refine c_join _ _ _ _ _ ?_ | refine c_split _ _ _ _ ?_ | refine c_move _ _ _ _ _ ?_ | refine c_cut _ _ _ _ ?_ | refine c_do _ _ _ _ _ _ _ ?_ | refine c_daa _ _ _ _ _ ?_ | refine c_flip _ _ _ _ _ _ ?_ | refine c_quick _ _ _ _ _ _ ?_ | refine c_add16 _ _ _ _ _ _ ?_ | refine c_adc16 _ _ _ _ _ _ ?_ | refine c_sbc16 _ _ _ _ _ _ ?_ | refine c_rot _ _ _ _ _ _ ?_ | refine c_bitt _ _ _ _ _ _ _ ?_ | refine c_put _ _ _ _ _ _ ?_ | refine c_digits _ _ _ _ _ _ _ ?_ | refine c_rload _ _ _ _ _ _ _ ?_ | refine c_rseek _ _ _ _ _ _ _ ?_ | refine c_rport _ _ _ _ _ _ ?_ | refine c_inc _ _ _ _ _ ?_ | refine c_dec _ _ _ _ _ ?_ | refine c_shape _ _ _ _ ?_ | refine c_sub _ _ _ _ _ _ ?_ | refine c_pushed _ _ _ _ ?_); ((have hb:=A.blk29; have hx:=(up A).2.1; simp only[go_sem,hb,hx,hu,mr,mw,mi,mo,Rg.cells]))) | ((first | refine c_longer _ 7 15 _ _ _ ?_ | refine c_longer _ 10 15 _ _ _ ?_ | refine c_longer _ 11 19 _ _ _ ?_ | refine c_swap ⟨_,_,_,_,_,_,_,_,_,_,_,_,_,_,_,_,_,_,_,_,_,_,_,_,_,_,_,_,_⟩ _ _ _ _ ?_ | refine c_tick ⟨_,_,_,_,_,_,_,_,_,_,_,_,_,_,_,_,_,_,_,_,_,_,_,_,_,_,_,_,_⟩ _ _ _ ?_ | refine c_setpair ⟨_,_,_,_,_,_,_,_,_,_,_,_,_,_,_,_,_,_,_,_,_,_,_,_,_,_,_,_,_⟩ 2 (by decide) _ _ _ _ ?_ | refine m_pair A 2 (by decide) ?_ | refine m_pair A 0 (by decide) ?_ | refine m_pair A 1 (by decide) ?_ | refine m_pair A _ (by(first | decide | exact pushed_lt (by have:=yO_lt op; omega) | exact yO_lt op | exact zO_lt op | (have:=yO_lt op; have:=zO_lt op; omega))) ?_ | refine m_one A _ (by(first | decide | exact pushed_lt (by have:=yO_lt op; omega) | exact yO_lt op | exact zO_lt op | (have:=yO_lt op; have:=zO_lt op; omega))) ?_ | refine c_met _ _ (by(first | decide | exact pushed_lt (by have:=yO_lt op; omega) | exact yO_lt op | exact zO_lt op | (have:=yO_lt op; have:=zO_lt op; omega))) _ _ _ ?_ | refine m_pair A.put29 2 (by decide) ?_ | refine m_pair A.put29 0 (by decide) ?_ | refine m_pair A.put29 1 (by decide) ?_ | refine m_pair A.put29 _ (by(first | decide | exact pushed_lt (by have:=yO_lt op; omega) | exact yO_lt op | exact zO_lt op | (have:=yO_lt op; have:=zO_lt op; omega))) ?_ | refine m_one A.put29 _ (by(first | decide | exact pushed_lt (by have:=yO_lt op; omega) | exact yO_lt op | exact zO_lt op | (have:=yO_lt op; have:=zO_lt op; omega))) ?_); ((have hb:=A.blk29; have hx:=(up A).2.1; simp only[go_sem,hb,hx,hu,mr,mw,mi,mo,Rg.cells]))) | ((first | refine m_next M A (by omega) fun v s H n r lf A=>?_ | refine m_next M A.put29 (by omega) fun v s H n r lf A=>?_ | refine m_fetch M A (by omega) fun v c s H n r lf A=>?_ | refine m_fetch M A.put29 (by omega) fun v c s H n r lf A=>?_ | refine m_word M A (by omega) fun v c s H n r lf A=>?_ | refine m_word M A.put29 (by omega) fun v c s H n r lf A=>?_ | refine m_load M A _ (by omega) fun v s H n r lf A=>?_ | refine m_load M A.put29 _ (by omega) fun v s H n r lf A=>?_ | refine m_store M A _ _ (by omega) fun s H n r lf A=>?_ | refine m_store M A.put29 _ _ (by omega) fun s H n r lf A=>?_ | refine m_push M A _ (by omega) fun c s H n r lf A=>?_ | refine m_push M A.put29 _ (by omega) fun c s H n r lf A=>?_ | refine m_pop M A (by omega) fun v c s H n r lf A=>?_ | refine m_pop M A.put29 (by omega) fun v c s H n r lf A=>?_ | refine m_pointed M A (by omega) fun v p w q s H n r lf A=>?_ | refine m_pointed M A.put29 (by omega) fun v p w q s H n r lf A=>?_ | refine m_setpair A 2 (by decide) _ fun H n A=>?_ | refine m_setpair A.put29 2 (by decide) _ fun H n A=>?_ | refine m_setpair A 1 (by decide) _ fun H n A=>?_ | refine m_setpair A.put29 1 (by decide) _ fun H n A=>?_ | refine m_setpair A 0 (by decide) _ fun H n A=>?_ | refine m_setpair A.put29 0 (by decide) _ fun H n A=>?_ | refine m_setpair A _ (by(first | decide | exact pushed_lt (by have:=yO_lt op; omega) | exact yO_lt op | exact zO_lt op | (have:=yO_lt op; have:=zO_lt op; omega))) _ fun H n A=>?_ | refine m_setpair A.put29 _ (by(first | decide | exact pushed_lt (by have:=yO_lt op; omega) | exact yO_lt op | exact zO_lt op | (have:=yO_lt op; have:=zO_lt op; omega))) _ fun H n A=>?_ | refine m_setone A _ (by(first | decide | exact pushed_lt (by have:=yO_lt op; omega) | exact yO_lt op | exact zO_lt op | (have:=yO_lt op; have:=zO_lt op; omega))) _ fun H n A=>?_ | refine m_setone A.put29 _ (by(first | decide | exact pushed_lt (by have:=yO_lt op; omega) | exact yO_lt op | exact zO_lt op | (have:=yO_lt op; have:=zO_lt op; omega))) _ fun H n A=>?_ | refine m_to A _ fun H n A=>?_ | refine m_to A.put29 _ fun H n A=>?_ | refine m_told A _ fun H n A=>?_ | refine m_told A.put29 _ fun H n A=>?_ | refine A.rd (by omega) fun v s H n r lf A=>?_ | refine A.put29.rd (by omega) fun v s H n r lf A=>?_ | refine A.wr (by omega) fun s H n r lf A=>?_ | refine A.put29.wr (by omega) fun s H n r lf A=>?_ | refine A.ip (by decide) (by omega) fun v s H n r lf A=>?_ | refine A.put29.ip (by decide) (by omega) fun v s H n r lf A=>?_ | refine A.op (by decide) (by omega) fun s H n r lf A=>?_ | refine A.put29.op (by decide) (by omega) fun s H n r lf A=>?_); ((have hb:=A.blk29; have hx:=(up A).2.1; simp only[go_sem,hb,hx,hu,mr,mw,mi,mo,Rg.cells]))) | ((first | refine m_bits M A _ _ _ fun H n A=>?_); ((have hb:=A.blk29; have hx:=(up A).2.1; simp only[go_sem,hb,hx,hu,mr,mw,mi,mo,Rg.cells]))) | ((first | refine m_bits M A.put29 _ _ _ fun H n A=>?_); ((have hb:=A.blk29; have hx:=(up A).2.1; simp only[go_sem,hb,hx,hu,mr,mw,mi,mo,Rg.cells]))))
  · refine Fin.keep (h _ _ _ _ _ ?_ (by omega) (up A).1)
    unfold turnedFarM
    (((repeat' first | assumption | (with_reducible rfl) | (refine Eff.run_of (by assumption) ?_; try dsimp only) | refine Eff.run_t (by(first | assumption | exact nF ‹_› | exact nT ‹_› | omega)) ?_ | refine Eff.run_f (by(first | assumption | exact nF ‹_› | exact nT ‹_› | omega)) ?_ | rfl); all_goals fail))
  · have hz:¬zO op=6:=by omega
    refine Fin.keep (h _ _ _ _ _ ?_ (by omega) (up A).1)
    unfold turnedFarM
    ((repeat' first | assumption | (with_reducible rfl) | (refine Eff.run_of (by assumption) ?_; try dsimp only) | refine Eff.run_t (by(first | assumption | exact nF ‹_› | exact nT ‹_› | omega)) ?_ | refine Eff.run_f (by(first | assumption | exact nF ‹_› | exact nT ‹_› | omega)) ?_))
    simp only[hz,if_false]
    rfl
  · have hz:zO op=6:=by omega
    refine Fin.keep (h _ _ _ _ _ ?_ (by omega) (up A).1)
    unfold turnedFarM
    ((repeat' first | assumption | (with_reducible rfl) | (refine Eff.run_of (by assumption) ?_; try dsimp only) | refine Eff.run_t (by(first | assumption | exact nF ‹_› | exact nT ‹_› | omega)) ?_ | refine Eff.run_f (by(first | assumption | exact nF ‹_› | exact nT ‹_› | omega)) ?_))
    simp only[hz,if_true]
    rfl
theorem m_turned (A:AtC W t H0 n0 F0 k c s H n) (hl:4≤W.left s) (h:∀(v:Nat) c' s' H' n',(turnedM c).run W.O s=((v,c'),s')→W.left s≤W.left s'+4→AtC W t H0 n0 F0 k c' s' H' n'→K (.i64 v) H' n'):ACalls Tryz.prog 22 [.pt k 0] H n K:=by
  refine ACalls.of_awp Tryz.func22 rfl (by decide +kernel) (show 1≤70 by decide) (by simp) fun wf=>?_
  have mr:=M.r
  have mw:=M.w
  have mi:=M.i
  have mo:=M.o
  have hb:=A.blk29
  refine awp_ev dr22 (by decide +kernel) ?_
  simp only[go_sem,Tryz.f22,hb]
  refine⟨fun e=>?_,fun e=>?_⟩
  · refine m_turnedfar M A (by omega) fun v c s H n r lf A=>?_
    simp only[go_sem]
    refine Fin.keep (h _ _ _ _ _ ?_ (by omega) A)
    unfold turnedM
    (((repeat' first | assumption | (with_reducible rfl) | (refine Eff.run_of (by assumption) ?_; try dsimp only) | refine Eff.run_t (by(first | assumption | exact nF ‹_› | exact nT ‹_› | omega)) ?_ | refine Eff.run_f (by(first | assumption | exact nF ‹_› | exact nT ‹_› | omega)) ?_ | rfl); all_goals fail))
  · refine m_fetch M A (by omega) fun op c s H n r lf A=>?_
    simp only[go_sem]
    refine c_cut _ _ _ _ ?_
    ((have hw:=A; obtain⟨F1,A,up⟩:=A.boxed ⟨[.i64 (xO op),.i64 (yO op),.i64 (zO op),.i64 (yO op / 2:Nat),.i64 (yO op%2:Nat)],64,false⟩ (by simp[AV.ok]); have hk:=(up A).2.2.1; have hu:=fun X Y=>Heap.upd_ne X Y hk))
    have hb:=A.blk29
    simp only[go_sem,hb,mr,mw,hu]
    (repeat' first | (((with_reducible refine And.intro ?_ ?_) <;> intro e <;> (first | (with_reducible replace e:=nbT e) | (with_reducible replace e:=nbF e) | (with_reducible replace e:=dT e) | (with_reducible replace e:=dF e) | (with_reducible replace e:=iT e) | (with_reducible replace e:=iF e) | skip) <;> (try (exfalso; omega)))) | ((with_reducible first | refine c_join _ _ _ _ _ ?_ | refine c_split _ _ _ _ ?_ | refine c_move _ _ _ _ _ ?_ | refine c_cut _ _ _ _ ?_ | refine c_do _ _ _ _ _ _ _ ?_ | refine c_daa _ _ _ _ _ ?_ | refine c_flip _ _ _ _ _ _ ?_ | refine c_quick _ _ _ _ _ _ ?_ | refine c_add16 _ _ _ _ _ _ ?_ | refine c_adc16 _ _ _ _ _ _ ?_ | refine c_sbc16 _ _ _ _ _ _ ?_ | refine c_rot _ _ _ _ _ _ ?_ | refine c_bitt _ _ _ _ _ _ _ ?_ | refine c_put _ _ _ _ _ _ ?_ | refine c_digits _ _ _ _ _ _ _ ?_ | refine c_rload _ _ _ _ _ _ _ ?_ | refine c_rseek _ _ _ _ _ _ _ ?_ | refine c_rport _ _ _ _ _ _ ?_ | refine c_inc _ _ _ _ _ ?_ | refine c_dec _ _ _ _ _ ?_ | refine c_shape _ _ _ _ ?_ | refine c_sub _ _ _ _ _ _ ?_ | refine c_pushed _ _ _ _ ?_); ((have hb:=A.blk29; have hx:=(up A).2.1; simp only[go_sem,hb,hx,hu,mr,mw,mi,mo,Rg.cells]))) | ((first | refine c_longer _ 7 15 _ _ _ ?_ | refine c_longer _ 10 15 _ _ _ ?_ | refine c_longer _ 11 19 _ _ _ ?_ | refine c_swap ⟨_,_,_,_,_,_,_,_,_,_,_,_,_,_,_,_,_,_,_,_,_,_,_,_,_,_,_,_,_⟩ _ _ _ _ ?_ | refine c_tick ⟨_,_,_,_,_,_,_,_,_,_,_,_,_,_,_,_,_,_,_,_,_,_,_,_,_,_,_,_,_⟩ _ _ _ ?_ | refine c_setpair ⟨_,_,_,_,_,_,_,_,_,_,_,_,_,_,_,_,_,_,_,_,_,_,_,_,_,_,_,_,_⟩ 2 (by decide) _ _ _ _ ?_ | refine m_pair A 2 (by decide) ?_ | refine m_pair A 0 (by decide) ?_ | refine m_pair A 1 (by decide) ?_ | refine m_pair A _ (by(first | decide | exact pushed_lt (by have:=yO_lt op; omega) | exact yO_lt op | exact zO_lt op | (have:=yO_lt op; have:=zO_lt op; omega))) ?_ | refine m_one A _ (by(first | decide | exact pushed_lt (by have:=yO_lt op; omega) | exact yO_lt op | exact zO_lt op | (have:=yO_lt op; have:=zO_lt op; omega))) ?_ | refine c_met _ _ (by(first | decide | exact pushed_lt (by have:=yO_lt op; omega) | exact yO_lt op | exact zO_lt op | (have:=yO_lt op; have:=zO_lt op; omega))) _ _ _ ?_ | refine m_pair A.put29 2 (by decide) ?_ | refine m_pair A.put29 0 (by decide) ?_ | refine m_pair A.put29 1 (by decide) ?_ | refine m_pair A.put29 _ (by(first | decide | exact pushed_lt (by have:=yO_lt op; omega) | exact yO_lt op | exact zO_lt op | (have:=yO_lt op; have:=zO_lt op; omega))) ?_ | refine m_one A.put29 _ (by(first | decide | exact pushed_lt (by have:=yO_lt op; omega) | exact yO_lt op | exact zO_lt op | (have:=yO_lt op; have:=zO_lt op; omega))) ?_); ((have hb:=A.blk29; have hx:=(up A).2.1; simp only[go_sem,hb,hx,hu,mr,mw,mi,mo,Rg.cells]))) | ((first | refine m_next M A (by omega) fun v s H n r lf A=>?_ | refine m_next M A.put29 (by omega) fun v s H n r lf A=>?_ | refine m_fetch M A (by omega) fun v c s H n r lf A=>?_ | refine m_fetch M A.put29 (by omega) fun v c s H n r lf A=>?_ | refine m_word M A (by omega) fun v c s H n r lf A=>?_ | refine m_word M A.put29 (by omega) fun v c s H n r lf A=>?_ | refine m_load M A _ (by omega) fun v s H n r lf A=>?_ | refine m_load M A.put29 _ (by omega) fun v s H n r lf A=>?_ | refine m_store M A _ _ (by omega) fun s H n r lf A=>?_ | refine m_store M A.put29 _ _ (by omega) fun s H n r lf A=>?_ | refine m_push M A _ (by omega) fun c s H n r lf A=>?_ | refine m_push M A.put29 _ (by omega) fun c s H n r lf A=>?_ | refine m_pop M A (by omega) fun v c s H n r lf A=>?_ | refine m_pop M A.put29 (by omega) fun v c s H n r lf A=>?_ | refine m_pointed M A (by omega) fun v p w q s H n r lf A=>?_ | refine m_pointed M A.put29 (by omega) fun v p w q s H n r lf A=>?_ | refine m_setpair A 2 (by decide) _ fun H n A=>?_ | refine m_setpair A.put29 2 (by decide) _ fun H n A=>?_ | refine m_setpair A 1 (by decide) _ fun H n A=>?_ | refine m_setpair A.put29 1 (by decide) _ fun H n A=>?_ | refine m_setpair A 0 (by decide) _ fun H n A=>?_ | refine m_setpair A.put29 0 (by decide) _ fun H n A=>?_ | refine m_setpair A _ (by(first | decide | exact pushed_lt (by have:=yO_lt op; omega) | exact yO_lt op | exact zO_lt op | (have:=yO_lt op; have:=zO_lt op; omega))) _ fun H n A=>?_ | refine m_setpair A.put29 _ (by(first | decide | exact pushed_lt (by have:=yO_lt op; omega) | exact yO_lt op | exact zO_lt op | (have:=yO_lt op; have:=zO_lt op; omega))) _ fun H n A=>?_ | refine m_setone A _ (by(first | decide | exact pushed_lt (by have:=yO_lt op; omega) | exact yO_lt op | exact zO_lt op | (have:=yO_lt op; have:=zO_lt op; omega))) _ fun H n A=>?_ | refine m_setone A.put29 _ (by(first | decide | exact pushed_lt (by have:=yO_lt op; omega) | exact yO_lt op | exact zO_lt op | (have:=yO_lt op; have:=zO_lt op; omega))) _ fun H n A=>?_ | refine m_to A _ fun H n A=>?_ | refine m_to A.put29 _ fun H n A=>?_ | refine m_told A _ fun H n A=>?_ | refine m_told A.put29 _ fun H n A=>?_ | refine A.rd (by omega) fun v s H n r lf A=>?_ | refine A.put29.rd (by omega) fun v s H n r lf A=>?_ | refine A.wr (by omega) fun s H n r lf A=>?_ | refine A.put29.wr (by omega) fun s H n r lf A=>?_ | refine A.ip (by decide) (by omega) fun v s H n r lf A=>?_ | refine A.put29.ip (by decide) (by omega) fun v s H n r lf A=>?_ | refine A.op (by decide) (by omega) fun s H n r lf A=>?_ | refine A.put29.op (by decide) (by omega) fun s H n r lf A=>?_); ((have hb:=A.blk29; have hx:=(up A).2.1; simp only[go_sem,hb,hx,hu,mr,mw,mi,mo,Rg.cells]))) | ((first | refine m_bits M A _ _ _ fun H n A=>?_); ((have hb:=A.blk29; have hx:=(up A).2.1; simp only[go_sem,hb,hx,hu,mr,mw,mi,mo,Rg.cells]))) | ((first | refine m_bits M A.put29 _ _ _ fun H n A=>?_); ((have hb:=A.blk29; have hx:=(up A).2.1; simp only[go_sem,hb,hx,hu,mr,mw,mi,mo,Rg.cells]))))
    · refine Fin.keep (h _ _ _ _ _ ?_ (by omega) (up A).1)
      unfold turnedM
      ((repeat' first | assumption | (with_reducible rfl) | (refine Eff.run_of (by assumption) ?_; try dsimp only) | refine Eff.run_t (by(first | assumption | exact nF ‹_› | exact nT ‹_› | omega)) ?_ | refine Eff.run_f (by(first | assumption | exact nF ‹_› | exact nT ‹_› | omega)) ?_))
      simp only[e,Bool.true_eq_false,if_false]
      rfl
    · refine Fin.keep (h _ _ _ _ _ ?_ (by omega) (up A).1)
      unfold turnedM
      ((repeat' first | assumption | (with_reducible rfl) | (refine Eff.run_of (by assumption) ?_; try dsimp only) | refine Eff.run_t (by(first | assumption | exact nF ‹_› | exact nT ‹_› | omega)) ?_ | refine Eff.run_f (by(first | assumption | exact nF ‹_› | exact nT ‹_› | omega)) ?_))
      simp only[e,if_true]
      rfl
    · refine Fin.keep (h _ _ _ _ _ ?_ (by omega) (up A).1)
      unfold turnedM
      (((repeat' first | assumption | (with_reducible rfl) | (refine Eff.run_of (by assumption) ?_; try dsimp only) | refine Eff.run_t (by(first | assumption | exact nF ‹_› | exact nT ‹_› | omega)) ?_ | refine Eff.run_f (by(first | assumption | exact nF ‹_› | exact nT ‹_› | omega)) ?_ | rfl); all_goals fail))
    · refine Fin.keep (h _ _ _ _ _ ?_ (by omega) (up A).1)
      unfold turnedM
      (((repeat' first | assumption | (with_reducible rfl) | (refine Eff.run_of (by assumption) ?_; try dsimp only) | refine Eff.run_t (by(first | assumption | exact nF ‹_› | exact nT ‹_› | omega)) ?_ | refine Eff.run_f (by(first | assumption | exact nF ‹_› | exact nT ‹_› | omega)) ?_ | rfl); all_goals fail))
end
end Go.Proofs.Joy
namespace Go.Proofs.Joy
open Go.Ab Go.Proofs
set_option maxHeartbeats 4000000
set_option maxRecDepth 20000
theorem c_setpair29 {a f b c_ d e h_ l a2 f2 b2 c2 d2 e2 h2 l2:BitVec 8} {ix iy sp pc wz:BitVec 16} {i r im pre:BitVec 8} {x1 x2 x3 x4:Bool} (m:Nat) (hm:m<7) (v:BitVec 16) (H:Heap) (n:Nat) (K:AV→Heap→Nat→Prop) (h:K (.ag (setPairR ⟨a,f,b,c_,d,e,h_,l,a2,f2,b2,c2,d2,e2,h2,l2,ix,iy,sp,pc,wz,i,r,im,pre,x1,x2,x3,x4⟩ m v).cells) H n):ACalls Tryz.prog 94 [.ag [.u8 a,.u8 f,.u8 b,.u8 c_,.u8 d,.u8 e,.u8 h_,.u8 l,.u8 a2,.u8 f2,.u8 b2,.u8 c2,.u8 d2,.u8 e2,.u8 h2,.u8 l2,.u16 ix,.u16 iy,.u16 sp,.u16 pc,.u16 wz,.u8 i,.u8 r,.u8 im,.u8 pre,.bo x1,.bo x2,.bo x3,.bo x4],.i64 m,.u16 v] H n K:=c_setpair ⟨a,f,b,c_,d,e,h_,l,a2,f2,b2,c2,d2,e2,h2,l2,ix,iy,sp,pc,wz,i,r,im,pre,x1,x2,x3,x4⟩ m hm v H n K h
section
variable {σ:Type} {W:WC Tryz.prog σ} {t:TypeId} {H0:Heap} {n0:Nat} {F0:Nat→Prop} {k:Nat} {c:Core} {s:σ} {H:Heap} {n:Nat} {K:AV→Heap→Nat→Prop} (M:MT W t)
include M
end
theorem not0_16:(~~~0#16:BitVec 16)=65535#16:=by decide
section
variable {σ:Type} {W:WC Tryz.prog σ} {t:TypeId} {H0:Heap} {n0:Nat} {F0:Nat→Prop} {k:Nat} {c:Core} {s:σ} {H:Heap} {n:Nat} {K:AV→Heap→Nat→Prop} (M:MT W t)
include M
theorem m_many (A:AtC W t H0 n0 F0 k c s H n) (op:BitVec 8) (hl:4≤W.left s) (h:∀(v:Nat) c' s' H' n',(manyM op c).run W.O s=((v,c'),s')→W.left s≤W.left s'+4→AtC W t H0 n0 F0 k c' s' H' n'→K (.i64 v) H' n'):ACalls Tryz.prog 45 [.pt k 0,.ag [.i64 (xO op),.i64 (yO op),.i64 (zO op),.i64 (yO op / 2:Nat),.i64 (yO op%2:Nat)]] H n K:=by
  refine ACalls.of_awp Tryz.func45 rfl (by decide +kernel) (show 2≤260 by decide) (by simp) fun wf=>?_
  obtain⟨F1,A,up⟩:=A.boxed ⟨[.i64 (xO op),.i64 (yO op),.i64 (zO op),.i64 (yO op / 2:Nat),.i64 (yO op%2:Nat)],64,false⟩ (by simp[AV.ok])
  have hb:=A.blk29
  have hk:=(up A).2.2.1
  have hu:=fun X Y=>Heap.upd_ne X Y hk
  have mr:=M.r
  have mw:=M.w
  have mi:=M.i
  have mo:=M.o
  refine awp_ev dr45 (by decide +kernel) ?_
  simp only[go_sem,Tryz.f45,hb,hu]
  (repeat' first | (((with_reducible refine And.intro ?_ ?_) <;> intro e <;> (first | (with_reducible replace e:=nbT e) | (with_reducible replace e:=nbF e) | (with_reducible replace e:=dT e) | (with_reducible replace e:=dF e) | (with_reducible replace e:=iT e) | (with_reducible replace e:=iF e) | skip) <;> (try (exfalso; omega)))) | ((with_reducible first | refine c_join _ _ _ _ _ ?_ | refine c_split _ _ _ _ ?_ | refine c_move _ _ _ _ _ ?_ | refine c_cut _ _ _ _ ?_ | refine c_do _ _ _ _ _ _ _ ?_ | refine c_daa _ _ _ _ _ ?_ | refine c_flip _ _ _ _ _ _ ?_ | refine c_quick _ _ _ _ _ _ ?_ | refine c_add16 _ _ _ _ _ _ ?_ | refine c_adc16 _ _ _ _ _ _ ?_ | refine c_sbc16 _ _ _ _ _ _ ?_ | refine c_rot _ _ _ _ _ _ ?_ | refine c_bitt _ _ _ _ _ _ _ ?_ | refine c_put _ _ _ _ _ _ ?_ | refine c_digits _ _ _ _ _ _ _ ?_ | refine c_rload _ _ _ _ _ _ _ ?_ | refine c_rseek _ _ _ _ _ _ _ ?_ | refine c_rport _ _ _ _ _ _ ?_ | refine c_inc _ _ _ _ _ ?_ | refine c_dec _ _ _ _ _ ?_ | refine c_shape _ _ _ _ ?_ | refine c_sub _ _ _ _ _ _ ?_ | refine c_pushed _ _ _ _ ?_); ((have hb:=A.blk29; have hx:=(up A).2.1; simp only[go_sem,hb,hx,hu,mr,mw,mi,mo,Rg.cells]))) | ((first | refine c_longer _ 7 15 _ _ _ ?_ | refine c_longer _ 10 15 _ _ _ ?_ | refine c_longer _ 11 19 _ _ _ ?_ | refine c_swap ⟨_,_,_,_,_,_,_,_,_,_,_,_,_,_,_,_,_,_,_,_,_,_,_,_,_,_,_,_,_⟩ _ _ _ _ ?_ | refine c_tick ⟨_,_,_,_,_,_,_,_,_,_,_,_,_,_,_,_,_,_,_,_,_,_,_,_,_,_,_,_,_⟩ _ _ _ ?_ | refine c_setpair ⟨_,_,_,_,_,_,_,_,_,_,_,_,_,_,_,_,_,_,_,_,_,_,_,_,_,_,_,_,_⟩ 2 (by decide) _ _ _ _ ?_ | refine m_pair A 2 (by decide) ?_ | refine m_pair A 0 (by decide) ?_ | refine m_pair A 1 (by decide) ?_ | refine m_pair A _ (by(first | decide | exact pushed_lt (by have:=yO_lt op; omega) | exact yO_lt op | exact zO_lt op | (have:=yO_lt op; have:=zO_lt op; omega))) ?_ | refine m_one A _ (by(first | decide | exact pushed_lt (by have:=yO_lt op; omega) | exact yO_lt op | exact zO_lt op | (have:=yO_lt op; have:=zO_lt op; omega))) ?_ | refine c_met _ _ (by(first | decide | exact pushed_lt (by have:=yO_lt op; omega) | exact yO_lt op | exact zO_lt op | (have:=yO_lt op; have:=zO_lt op; omega))) _ _ _ ?_ | refine m_pair A.put29 2 (by decide) ?_ | refine m_pair A.put29 0 (by decide) ?_ | refine m_pair A.put29 1 (by decide) ?_ | refine m_pair A.put29 _ (by(first | decide | exact pushed_lt (by have:=yO_lt op; omega) | exact yO_lt op | exact zO_lt op | (have:=yO_lt op; have:=zO_lt op; omega))) ?_ | refine m_one A.put29 _ (by(first | decide | exact pushed_lt (by have:=yO_lt op; omega) | exact yO_lt op | exact zO_lt op | (have:=yO_lt op; have:=zO_lt op; omega))) ?_); ((have hb:=A.blk29; have hx:=(up A).2.1; simp only[go_sem,hb,hx,hu,mr,mw,mi,mo,Rg.cells]))) | ((first | refine m_next M A (by omega) fun v s H n r lf A=>?_ | refine m_next M A.put29 (by omega) fun v s H n r lf A=>?_ | refine m_fetch M A (by omega) fun v c s H n r lf A=>?_ | refine m_fetch M A.put29 (by omega) fun v c s H n r lf A=>?_ | refine m_word M A (by omega) fun v c s H n r lf A=>?_ | refine m_word M A.put29 (by omega) fun v c s H n r lf A=>?_ | refine m_load M A _ (by omega) fun v s H n r lf A=>?_ | refine m_load M A.put29 _ (by omega) fun v s H n r lf A=>?_ | refine m_store M A _ _ (by omega) fun s H n r lf A=>?_ | refine m_store M A.put29 _ _ (by omega) fun s H n r lf A=>?_ | refine m_push M A _ (by omega) fun c s H n r lf A=>?_ | refine m_push M A.put29 _ (by omega) fun c s H n r lf A=>?_ | refine m_pop M A (by omega) fun v c s H n r lf A=>?_ | refine m_pop M A.put29 (by omega) fun v c s H n r lf A=>?_ | refine m_pointed M A (by omega) fun v p w q s H n r lf A=>?_ | refine m_pointed M A.put29 (by omega) fun v p w q s H n r lf A=>?_ | refine m_setpair A 2 (by decide) _ fun H n A=>?_ | refine m_setpair A.put29 2 (by decide) _ fun H n A=>?_ | refine m_setpair A 1 (by decide) _ fun H n A=>?_ | refine m_setpair A.put29 1 (by decide) _ fun H n A=>?_ | refine m_setpair A 0 (by decide) _ fun H n A=>?_ | refine m_setpair A.put29 0 (by decide) _ fun H n A=>?_ | refine m_setpair A _ (by(first | decide | exact pushed_lt (by have:=yO_lt op; omega) | exact yO_lt op | exact zO_lt op | (have:=yO_lt op; have:=zO_lt op; omega))) _ fun H n A=>?_ | refine m_setpair A.put29 _ (by(first | decide | exact pushed_lt (by have:=yO_lt op; omega) | exact yO_lt op | exact zO_lt op | (have:=yO_lt op; have:=zO_lt op; omega))) _ fun H n A=>?_ | refine m_setone A _ (by(first | decide | exact pushed_lt (by have:=yO_lt op; omega) | exact yO_lt op | exact zO_lt op | (have:=yO_lt op; have:=zO_lt op; omega))) _ fun H n A=>?_ | refine m_setone A.put29 _ (by(first | decide | exact pushed_lt (by have:=yO_lt op; omega) | exact yO_lt op | exact zO_lt op | (have:=yO_lt op; have:=zO_lt op; omega))) _ fun H n A=>?_ | refine m_to A _ fun H n A=>?_ | refine m_to A.put29 _ fun H n A=>?_ | refine m_told A _ fun H n A=>?_ | refine m_told A.put29 _ fun H n A=>?_ | refine A.rd (by omega) fun v s H n r lf A=>?_ | refine A.put29.rd (by omega) fun v s H n r lf A=>?_ | refine A.wr (by omega) fun s H n r lf A=>?_ | refine A.put29.wr (by omega) fun s H n r lf A=>?_ | refine A.ip (by decide) (by omega) fun v s H n r lf A=>?_ | refine A.put29.ip (by decide) (by omega) fun v s H n r lf A=>?_ | refine A.op (by decide) (by omega) fun s H n r lf A=>?_ | refine A.put29.op (by decide) (by omega) fun s H n r lf A=>?_); ((have hb:=A.blk29; have hx:=(up A).2.1; simp only[go_sem,hb,hx,hu,mr,mw,mi,mo,Rg.cells]))) | (refine c_setpair29 2 (by decide) _ _ _ _ ?_; ((have hb:=A.blk29; have hx:=(up A).2.1; simp only[go_sem,hb,hx,hu,mr,mw,mi,mo,Rg.cells]))))
  all_goals
    first
      | (have hq:yO op%2=1:=(by omega)
         (first | (have hz:zO op=0:=(by omega); ((refine Fin.keep (h _ _ _ _ _ ?_ (by omega) (up A.put29).1); unfold manyM; simp +decide only[hq,hz,if_true,if_false,not0_16]; (try generalize (65535#16:BitVec 16)=w16 at*); ((repeat' first | assumption | (with_reducible rfl) | (refine Eff.run_of (by assumption) ?_; try dsimp only) | refine Eff.run_t (by(first | exact Or.inl (by omega) | exact Or.inr (by assumption) | exact not_or.2 ⟨by omega,nT (by assumption)⟩)) ?_ | refine Eff.run_f (by(first | exact Or.inl (by omega) | exact Or.inr (by assumption) | exact not_or.2 ⟨by omega,nT (by assumption)⟩)) ?_ | refine Eff.run_t (by(first | assumption | exact nF ‹_› | exact nT ‹_› | omega)) ?_ | refine Eff.run_f (by(first | assumption | exact nF ‹_› | exact nT ‹_› | omega)) ?_ | rfl))))) | (have hz:zO op=1:=(by omega); ((refine Fin.keep (h _ _ _ _ _ ?_ (by omega) (up A.put29).1); unfold manyM; simp +decide only[hq,hz,if_true,if_false,not0_16]; (try generalize (65535#16:BitVec 16)=w16 at*); ((repeat' first | assumption | (with_reducible rfl) | (refine Eff.run_of (by assumption) ?_; try dsimp only) | refine Eff.run_t (by(first | exact Or.inl (by omega) | exact Or.inr (by assumption) | exact not_or.2 ⟨by omega,nT (by assumption)⟩)) ?_ | refine Eff.run_f (by(first | exact Or.inl (by omega) | exact Or.inr (by assumption) | exact not_or.2 ⟨by omega,nT (by assumption)⟩)) ?_ | refine Eff.run_t (by(first | assumption | exact nF ‹_› | exact nT ‹_› | omega)) ?_ | refine Eff.run_f (by(first | assumption | exact nF ‹_› | exact nT ‹_› | omega)) ?_ | rfl))))) | (have hz:zO op=2:=(by omega); ((refine Fin.keep (h _ _ _ _ _ ?_ (by omega) (up A.put29).1); unfold manyM; simp +decide only[hq,hz,if_true,if_false,not0_16]; (try generalize (65535#16:BitVec 16)=w16 at*); ((repeat' first | assumption | (with_reducible rfl) | (refine Eff.run_of (by assumption) ?_; try dsimp only) | refine Eff.run_t (by(first | exact Or.inl (by omega) | exact Or.inr (by assumption) | exact not_or.2 ⟨by omega,nT (by assumption)⟩)) ?_ | refine Eff.run_f (by(first | exact Or.inl (by omega) | exact Or.inr (by assumption) | exact not_or.2 ⟨by omega,nT (by assumption)⟩)) ?_ | refine Eff.run_t (by(first | assumption | exact nF ‹_› | exact nT ‹_› | omega)) ?_ | refine Eff.run_f (by(first | assumption | exact nF ‹_› | exact nT ‹_› | omega)) ?_ | rfl))))) | (have hz:¬zO op=0:=(by omega); have hz1:¬zO op=1:=(by omega); have hz2:¬zO op=2:=(by omega); have hz3:¬zO op<2:=(by omega); refine Fin.keep (h _ _ _ _ _ ?_ (by omega) (up A.put29).1); unfold manyM; simp +decide only[hq,hz,hz1,hz2,hz3,if_true,if_false,not0_16]; (try generalize (65535#16:BitVec 16)=w16 at*); ((repeat' first | assumption | (with_reducible rfl) | (refine Eff.run_of (by assumption) ?_; try dsimp only) | refine Eff.run_t (by(first | exact Or.inl (by omega) | exact Or.inr (by assumption) | exact not_or.2 ⟨by omega,nT (by assumption)⟩)) ?_ | refine Eff.run_f (by(first | exact Or.inl (by omega) | exact Or.inr (by assumption) | exact not_or.2 ⟨by omega,nT (by assumption)⟩)) ?_ | refine Eff.run_t (by(first | assumption | exact nF ‹_› | exact nT ‹_› | omega)) ?_ | refine Eff.run_f (by(first | assumption | exact nF ‹_› | exact nT ‹_› | omega)) ?_ | rfl)))))
      | (have hq:¬yO op%2=1:=(by omega)
         (first | (have hz:zO op=0:=(by omega); ((refine Fin.keep (h _ _ _ _ _ ?_ (by omega) (up A.put29).1); unfold manyM; simp +decide only[hq,hz,if_true,if_false,not0_16]; (try generalize (65535#16:BitVec 16)=w16 at*); ((repeat' first | assumption | (with_reducible rfl) | (refine Eff.run_of (by assumption) ?_; try dsimp only) | refine Eff.run_t (by(first | exact Or.inl (by omega) | exact Or.inr (by assumption) | exact not_or.2 ⟨by omega,nT (by assumption)⟩)) ?_ | refine Eff.run_f (by(first | exact Or.inl (by omega) | exact Or.inr (by assumption) | exact not_or.2 ⟨by omega,nT (by assumption)⟩)) ?_ | refine Eff.run_t (by(first | assumption | exact nF ‹_› | exact nT ‹_› | omega)) ?_ | refine Eff.run_f (by(first | assumption | exact nF ‹_› | exact nT ‹_› | omega)) ?_ | rfl))))) | (have hz:zO op=1:=(by omega); ((refine Fin.keep (h _ _ _ _ _ ?_ (by omega) (up A.put29).1); unfold manyM; simp +decide only[hq,hz,if_true,if_false,not0_16]; (try generalize (65535#16:BitVec 16)=w16 at*); ((repeat' first | assumption | (with_reducible rfl) | (refine Eff.run_of (by assumption) ?_; try dsimp only) | refine Eff.run_t (by(first | exact Or.inl (by omega) | exact Or.inr (by assumption) | exact not_or.2 ⟨by omega,nT (by assumption)⟩)) ?_ | refine Eff.run_f (by(first | exact Or.inl (by omega) | exact Or.inr (by assumption) | exact not_or.2 ⟨by omega,nT (by assumption)⟩)) ?_ | refine Eff.run_t (by(first | assumption | exact nF ‹_› | exact nT ‹_› | omega)) ?_ | refine Eff.run_f (by(first | assumption | exact nF ‹_› | exact nT ‹_› | omega)) ?_ | rfl))))) | (have hz:zO op=2:=(by omega); ((refine Fin.keep (h _ _ _ _ _ ?_ (by omega) (up A.put29).1); unfold manyM; simp +decide only[hq,hz,if_true,if_false,not0_16]; (try generalize (65535#16:BitVec 16)=w16 at*); ((repeat' first | assumption | (with_reducible rfl) | (refine Eff.run_of (by assumption) ?_; try dsimp only) | refine Eff.run_t (by(first | exact Or.inl (by omega) | exact Or.inr (by assumption) | exact not_or.2 ⟨by omega,nT (by assumption)⟩)) ?_ | refine Eff.run_f (by(first | exact Or.inl (by omega) | exact Or.inr (by assumption) | exact not_or.2 ⟨by omega,nT (by assumption)⟩)) ?_ | refine Eff.run_t (by(first | assumption | exact nF ‹_› | exact nT ‹_› | omega)) ?_ | refine Eff.run_f (by(first | assumption | exact nF ‹_› | exact nT ‹_› | omega)) ?_ | rfl))))) | (have hz:¬zO op=0:=(by omega); have hz1:¬zO op=1:=(by omega); have hz2:¬zO op=2:=(by omega); have hz3:¬zO op<2:=(by omega); refine Fin.keep (h _ _ _ _ _ ?_ (by omega) (up A.put29).1); unfold manyM; simp +decide only[hq,hz,hz1,hz2,hz3,if_true,if_false,not0_16]; (try generalize (65535#16:BitVec 16)=w16 at*); ((repeat' first | assumption | (with_reducible rfl) | (refine Eff.run_of (by assumption) ?_; try dsimp only) | refine Eff.run_t (by(first | exact Or.inl (by omega) | exact Or.inr (by assumption) | exact not_or.2 ⟨by omega,nT (by assumption)⟩)) ?_ | refine Eff.run_f (by(first | exact Or.inl (by omega) | exact Or.inr (by assumption) | exact not_or.2 ⟨by omega,nT (by assumption)⟩)) ?_ | refine Eff.run_t (by(first | assumption | exact nF ‹_› | exact nT ‹_› | omega)) ?_ | refine Eff.run_f (by(first | assumption | exact nF ‹_› | exact nT ‹_› | omega)) ?_ | rfl)))))
end
end Go.Proofs.Joy
namespace Go.Proofs.Joy
open Go.Ab Go.Proofs
set_option maxHeartbeats 4000000
set_option maxRecDepth 20000
section
variable {σ:Type} {W:WC Tryz.prog σ} {t:TypeId} {H0:Heap} {n0:Nat} {F0:Nat→Prop} {k:Nat} {c:Core} {s:σ} {H:Heap} {n:Nat} {K:AV→Heap→Nat→Prop} (M:MT W t)
include M
theorem m_special (A:AtC W t H0 n0 F0 k c s H n) (op:Nat) (h8:op<8) (hl:4≤W.left s) (h:∀(v:Nat) c' s' H' n',(specialM op c).run W.O s=((v,c'),s')→W.left s≤W.left s'+4→AtC W t H0 n0 F0 k c' s' H' n'→K (.i64 v) H' n'):ACalls Tryz.prog 57 [.pt k 0,.i64 op] H n K:=by
  refine ACalls.of_awp Tryz.func57 rfl (by decide +kernel) (show 2≤137 by decide) (by simp) fun wf=>?_
  have up:∀ {c':Core} {s':σ} {H':Heap} {n':Nat},AtC W t H0 n0 F0 k c' s' H' n'→AtC W t H0 n0 F0 k c' s' H' n'∧True∧True:=fun X=>⟨X,trivial,trivial⟩
  have hu:=True.intro
  have hb:=A.blk29
  have mr:=M.r
  have mw:=M.w
  have mi:=M.i
  have mo:=M.o
  refine awp_ev dr57 (by decide +kernel) ?_
  simp only[go_sem,Tryz.f57,hb]
  (repeat' first | (((with_reducible refine And.intro ?_ ?_) <;> intro e <;> (first | (with_reducible replace e:=nbT e) | (with_reducible replace e:=nbF e) | (with_reducible replace e:=dT e) | (with_reducible replace e:=dF e) | (with_reducible replace e:=iT e) | (with_reducible replace e:=iF e) | skip) <;> (try (exfalso; omega)))) | ((with_reducible first | refine c_join _ _ _ _ _ ?_ | refine c_split _ _ _ _ ?_ | refine c_move _ _ _ _ _ ?_ | refine c_cut _ _ _ _ ?_ | refine c_do _ _ _ _ _ _ _ ?_ | refine c_daa _ _ _ _ _ ?_ | refine c_flip _ _ _ _ _ _ ?_ | refine c_quick _ _ _ _ _ _ ?_ | refine c_add16 _ _ _ _ _ _ ?_ | refine c_adc16 _ _ _ _ _ _ ?_ | refine c_sbc16 _ _ _ _ _ _ ?_ | refine c_rot _ _ _ _ _ _ ?_ | refine c_bitt _ _ _ _ _ _ _ ?_ | refine c_put _ _ _ _ _ _ ?_ | refine c_digits _ _ _ _ _ _ _ ?_ | refine c_rload _ _ _ _ _ _ _ ?_ | refine c_rseek _ _ _ _ _ _ _ ?_ | refine c_rport _ _ _ _ _ _ ?_ | refine c_inc _ _ _ _ _ ?_ | refine c_dec _ _ _ _ _ ?_ | refine c_shape _ _ _ _ ?_ | refine c_sub _ _ _ _ _ _ ?_ | refine c_pushed _ _ _ _ ?_); ((have hb:=A.blk29; have hx:=(up A).2.1; simp only[go_sem,hb,hx,hu,mr,mw,mi,mo,Rg.cells]))) | ((first | refine c_longer _ 7 15 _ _ _ ?_ | refine c_longer _ 10 15 _ _ _ ?_ | refine c_longer _ 11 19 _ _ _ ?_ | refine c_swap ⟨_,_,_,_,_,_,_,_,_,_,_,_,_,_,_,_,_,_,_,_,_,_,_,_,_,_,_,_,_⟩ _ _ _ _ ?_ | refine c_tick ⟨_,_,_,_,_,_,_,_,_,_,_,_,_,_,_,_,_,_,_,_,_,_,_,_,_,_,_,_,_⟩ _ _ _ ?_ | refine c_setpair ⟨_,_,_,_,_,_,_,_,_,_,_,_,_,_,_,_,_,_,_,_,_,_,_,_,_,_,_,_,_⟩ 2 (by decide) _ _ _ _ ?_ | refine m_pair A 2 (by decide) ?_ | refine m_pair A 0 (by decide) ?_ | refine m_pair A 1 (by decide) ?_ | refine m_pair A _ (by(first | decide | exact pushed_lt (by have:=yO_lt op; omega) | exact yO_lt op | exact zO_lt op | (have:=yO_lt op; have:=zO_lt op; omega))) ?_ | refine m_one A _ (by(first | decide | exact pushed_lt (by have:=yO_lt op; omega) | exact yO_lt op | exact zO_lt op | (have:=yO_lt op; have:=zO_lt op; omega))) ?_ | refine c_met _ _ (by(first | decide | exact pushed_lt (by have:=yO_lt op; omega) | exact yO_lt op | exact zO_lt op | (have:=yO_lt op; have:=zO_lt op; omega))) _ _ _ ?_ | refine m_pair A.put29 2 (by decide) ?_ | refine m_pair A.put29 0 (by decide) ?_ | refine m_pair A.put29 1 (by decide) ?_ | refine m_pair A.put29 _ (by(first | decide | exact pushed_lt (by have:=yO_lt op; omega) | exact yO_lt op | exact zO_lt op | (have:=yO_lt op; have:=zO_lt op; omega))) ?_ | refine m_one A.put29 _ (by(first | decide | exact pushed_lt (by have:=yO_lt op; omega) | exact yO_lt op | exact zO_lt op | (have:=yO_lt op; have:=zO_lt op; omega))) ?_); ((have hb:=A.blk29; have hx:=(up A).2.1; simp only[go_sem,hb,hx,hu,mr,mw,mi,mo,Rg.cells]))) | ((first | refine m_next M A (by omega) fun v s H n r lf A=>?_ | refine m_next M A.put29 (by omega) fun v s H n r lf A=>?_ | refine m_fetch M A (by omega) fun v c s H n r lf A=>?_ | refine m_fetch M A.put29 (by omega) fun v c s H n r lf A=>?_ | refine m_word M A (by omega) fun v c s H n r lf A=>?_ | refine m_word M A.put29 (by omega) fun v c s H n r lf A=>?_ | refine m_load M A _ (by omega) fun v s H n r lf A=>?_ | refine m_load M A.put29 _ (by omega) fun v s H n r lf A=>?_ | refine m_store M A _ _ (by omega) fun s H n r lf A=>?_ | refine m_store M A.put29 _ _ (by omega) fun s H n r lf A=>?_ | refine m_push M A _ (by omega) fun c s H n r lf A=>?_ | refine m_push M A.put29 _ (by omega) fun c s H n r lf A=>?_ | refine m_pop M A (by omega) fun v c s H n r lf A=>?_ | refine m_pop M A.put29 (by omega) fun v c s H n r lf A=>?_ | refine m_pointed M A (by omega) fun v p w q s H n r lf A=>?_ | refine m_pointed M A.put29 (by omega) fun v p w q s H n r lf A=>?_ | refine m_setpair A 2 (by decide) _ fun H n A=>?_ | refine m_setpair A.put29 2 (by decide) _ fun H n A=>?_ | refine m_setpair A 1 (by decide) _ fun H n A=>?_ | refine m_setpair A.put29 1 (by decide) _ fun H n A=>?_ | refine m_setpair A 0 (by decide) _ fun H n A=>?_ | refine m_setpair A.put29 0 (by decide) _ fun H n A=>?_ | refine m_setpair A _ (by(first | decide | exact pushed_lt (by have:=yO_lt op; omega) | exact yO_lt op | exact zO_lt op | (have:=yO_lt op; have:=zO_lt op; omega))) _ fun H n A=>?_ | refine m_setpair A.put29 _ (by(first | decide | exact pushed_lt (by have:=yO_lt op; omega) | exact yO_lt op | exact zO_lt op | (have:=yO_lt op; have:=zO_lt op; omega))) _ fun H n A=>?_ | refine m_setone A _ (by(first | decide | exact pushed_lt (by have:=yO_lt op; omega) | exact yO_lt op | exact zO_lt op | (have:=yO_lt op; have:=zO_lt op; omega))) _ fun H n A=>?_ | refine m_setone A.put29 _ (by(first | decide | exact pushed_lt (by have:=yO_lt op; omega) | exact yO_lt op | exact zO_lt op | (have:=yO_lt op; have:=zO_lt op; omega))) _ fun H n A=>?_ | refine m_to A _ fun H n A=>?_ | refine m_to A.put29 _ fun H n A=>?_ | refine m_told A _ fun H n A=>?_ | refine m_told A.put29 _ fun H n A=>?_ | refine A.rd (by omega) fun v s H n r lf A=>?_ | refine A.put29.rd (by omega) fun v s H n r lf A=>?_ | refine A.wr (by omega) fun s H n r lf A=>?_ | refine A.put29.wr (by omega) fun s H n r lf A=>?_ | refine A.ip (by decide) (by omega) fun v s H n r lf A=>?_ | refine A.put29.ip (by decide) (by omega) fun v s H n r lf A=>?_ | refine A.op (by decide) (by omega) fun s H n r lf A=>?_ | refine A.put29.op (by decide) (by omega) fun s H n r lf A=>?_); ((have hb:=A.blk29; have hx:=(up A).2.1; simp only[go_sem,hb,hx,hu,mr,mw,mi,mo,Rg.cells]))))
  · (first | (refine Fin.keep (h _ _ _ _ _ ?_ (by omega) (up A).1); unfold specialM; (((repeat' first | assumption | (with_reducible rfl) | (refine Eff.run_of (by assumption) ?_; try dsimp only) | refine Eff.run_t (by(first | assumption | exact nF ‹_› | exact nT ‹_› | omega)) ?_ | refine Eff.run_f (by(first | assumption | exact nF ‹_› | exact nT ‹_› | omega)) ?_ | rfl); all_goals fail))) | (refine Fin.keep (h _ _ _ _ _ ?_ (by omega) (up A.put29).1); unfold specialM; (((repeat' first | assumption | (with_reducible rfl) | (refine Eff.run_of (by assumption) ?_; try dsimp only) | refine Eff.run_t (by(first | assumption | exact nF ‹_› | exact nT ‹_› | omega)) ?_ | refine Eff.run_f (by(first | assumption | exact nF ‹_› | exact nT ‹_› | omega)) ?_ | rfl); all_goals fail))))
  · (first | (refine Fin.keep (h _ _ _ _ _ ?_ (by omega) (up A).1); unfold specialM; (((repeat' first | assumption | (with_reducible rfl) | (refine Eff.run_of (by assumption) ?_; try dsimp only) | refine Eff.run_t (by(first | assumption | exact nF ‹_› | exact nT ‹_› | omega)) ?_ | refine Eff.run_f (by(first | assumption | exact nF ‹_› | exact nT ‹_› | omega)) ?_ | rfl); all_goals fail))) | (refine Fin.keep (h _ _ _ _ _ ?_ (by omega) (up A.put29).1); unfold specialM; (((repeat' first | assumption | (with_reducible rfl) | (refine Eff.run_of (by assumption) ?_; try dsimp only) | refine Eff.run_t (by(first | assumption | exact nF ‹_› | exact nT ‹_› | omega)) ?_ | refine Eff.run_f (by(first | assumption | exact nF ‹_› | exact nT ‹_› | omega)) ?_ | rfl); all_goals fail))))
  · have hy:op=2:=by omega
    refine Fin.keep (h _ _ _ _ _ ?_ (by omega) (up A.put29).1)
    unfold specialM
    simp +decide only[hy,e,if_true,if_false]
    rfl
  · have hy:op=2:=by omega
    refine Fin.keep (h _ _ _ _ _ ?_ (by omega) (up A.put29).1)
    unfold specialM
    simp +decide only[hy,e,if_true,if_false]
    rfl
  · have hy:op=3:=by omega
    refine Fin.keep (h _ _ _ _ _ ?_ (by omega) (up A.put29).1)
    unfold specialM
    simp +decide only[hy,e,if_true,if_false]
    rfl
  · have hy:op=3:=by omega
    refine Fin.keep (h _ _ _ _ _ ?_ (by omega) (up A.put29).1)
    unfold specialM
    simp +decide only[hy,e,if_true,if_false]
    rfl
  · have hy:op=4:=by omega
    have e5:∀b:Bool,b=((op:Int)==5)→b=false:=fun b hb=>by rw[hb,hy]; rfl
    rw[e5 _ rfl] at r ⊢
    refine Fin.keep (h _ _ _ _ _ ?_ (by omega) (up A.put29).1)
    unfold specialM
    simp +decide only[hy,if_true,if_false]
    (((repeat' first | assumption | (with_reducible rfl) | (refine Eff.run_of (by assumption) ?_; try dsimp only) | refine Eff.run_t (by(first | assumption | exact nF ‹_› | exact nT ‹_› | omega)) ?_ | refine Eff.run_f (by(first | assumption | exact nF ‹_› | exact nT ‹_› | omega)) ?_ | rfl); all_goals fail))
  · have hy:op=5:=by omega
    have e5:∀b:Bool,b=((op:Int)==5)→b=true:=fun b hb=>by rw[hb,hy]; rfl
    rw[e5 _ rfl] at r ⊢
    refine Fin.keep (h _ _ _ _ _ ?_ (by omega) (up A.put29).1)
    unfold specialM
    simp +decide only[hy,if_true,if_false]
    (((repeat' first | assumption | (with_reducible rfl) | (refine Eff.run_of (by assumption) ?_; try dsimp only) | refine Eff.run_t (by(first | assumption | exact nF ‹_› | exact nT ‹_› | omega)) ?_ | refine Eff.run_f (by(first | assumption | exact nF ‹_› | exact nT ‹_› | omega)) ?_ | rfl); all_goals fail))
  · (first | (refine Fin.keep (h _ _ _ _ _ ?_ (by omega) (up A).1); unfold specialM; (((repeat' first | assumption | (with_reducible rfl) | (refine Eff.run_of (by assumption) ?_; try dsimp only) | refine Eff.run_t (by(first | assumption | exact nF ‹_› | exact nT ‹_› | omega)) ?_ | refine Eff.run_f (by(first | assumption | exact nF ‹_› | exact nT ‹_› | omega)) ?_ | rfl); all_goals fail))) | (refine Fin.keep (h _ _ _ _ _ ?_ (by omega) (up A.put29).1); unfold specialM; (((repeat' first | assumption | (with_reducible rfl) | (refine Eff.run_of (by assumption) ?_; try dsimp only) | refine Eff.run_t (by(first | assumption | exact nF ‹_› | exact nT ‹_› | omega)) ?_ | refine Eff.run_f (by(first | assumption | exact nF ‹_› | exact nT ‹_› | omega)) ?_ | rfl); all_goals fail))))
end
end Go.Proofs.Joy
namespace Go.Proofs.Joy
open Go.Ab Go.Proofs
set_option maxHeartbeats 4000000
set_option maxRecDepth 20000
section
variable {σ:Type} {W:WC Tryz.prog σ} {t:TypeId} {H0:Heap} {n0:Nat} {F0:Nat→Prop} {k:Nat} {c:Core} {s:σ} {H:Heap} {n:Nat} {K:AV→Heap→Nat→Prop} (M:MT W t)
include M
end
theorem and64_3 {y:Nat} (hy:y<8):and64 (y:Int) 3=((y%4:Nat):Int):=by
  have h:∀y:Fin 8,and64 (y.val:Int) 3=((y.val%4:Nat):Int):=by decide +kernel
  exact h ⟨y,hy⟩
section
variable {σ:Type} {W:WC Tryz.prog σ} {t:TypeId} {H0:Heap} {n0:Nat} {F0:Nat→Prop} {k:Nat} {c:Core} {s:σ} {H:Heap} {n:Nat} {K:AV→Heap→Nat→Prop} (M:MT W t)
include M
theorem m_extended (A:AtC W t H0 n0 F0 k c s H n) (op:BitVec 8) (hl:4≤W.left s) (h:∀(v:Nat) c' s' H' n',(extendedM op c).run W.O s=((v,c'),s')→W.left s≤W.left s'+4→AtC W t H0 n0 F0 k c' s' H' n'→K (.i64 v) H' n'):ACalls Tryz.prog 20 [.pt k 0,.ag [.i64 (xO op),.i64 (yO op),.i64 (zO op),.i64 (yO op / 2:Nat),.i64 (yO op%2:Nat)]] H n K:=by
  refine ACalls.of_awp Tryz.func20 rfl (by decide +kernel) (show 2≤195 by decide) (by simp) fun wf=>?_
  obtain⟨F1,A,up⟩:=A.boxed ⟨[.i64 (xO op),.i64 (yO op),.i64 (zO op),.i64 (yO op / 2:Nat),.i64 (yO op%2:Nat)],64,false⟩ (by simp[AV.ok])
  have hb:=A.blk29
  have hk:=(up A).2.2.1
  have hu:=fun X Y=>Heap.upd_ne X Y hk
  have mr:=M.r
  have mw:=M.w
  have mi:=M.i
  have mo:=M.o
  refine awp_ev dr20 (by decide +kernel) ?_
  simp only[go_sem,Tryz.f20,hb,hu]
  (repeat' first | (((with_reducible refine And.intro ?_ ?_) <;> intro e <;> (first | (with_reducible replace e:=nbT e) | (with_reducible replace e:=nbF e) | (with_reducible replace e:=dT e) | (with_reducible replace e:=dF e) | (with_reducible replace e:=iT e) | (with_reducible replace e:=iF e) | skip) <;> (try (exfalso; omega)))) | ((with_reducible first | refine c_join _ _ _ _ _ ?_ | refine c_split _ _ _ _ ?_ | refine c_move _ _ _ _ _ ?_ | refine c_cut _ _ _ _ ?_ | refine c_do _ _ _ _ _ _ _ ?_ | refine c_daa _ _ _ _ _ ?_ | refine c_flip _ _ _ _ _ _ ?_ | refine c_quick _ _ _ _ _ _ ?_ | refine c_add16 _ _ _ _ _ _ ?_ | refine c_adc16 _ _ _ _ _ _ ?_ | refine c_sbc16 _ _ _ _ _ _ ?_ | refine c_rot _ _ _ _ _ _ ?_ | refine c_bitt _ _ _ _ _ _ _ ?_ | refine c_put _ _ _ _ _ _ ?_ | refine c_digits _ _ _ _ _ _ _ ?_ | refine c_rload _ _ _ _ _ _ _ ?_ | refine c_rseek _ _ _ _ _ _ _ ?_ | refine c_rport _ _ _ _ _ _ ?_ | refine c_inc _ _ _ _ _ ?_ | refine c_dec _ _ _ _ _ ?_ | refine c_shape _ _ _ _ ?_ | refine c_sub _ _ _ _ _ _ ?_ | refine c_pushed _ _ _ _ ?_); ((have hb:=A.blk29; have hx:=(up A).2.1; simp only[go_sem,hb,hx,hu,mr,mw,mi,mo,Rg.cells]))) | ((first | refine c_longer _ 7 15 _ _ _ ?_ | refine c_longer _ 10 15 _ _ _ ?_ | refine c_longer _ 11 19 _ _ _ ?_ | refine c_swap ⟨_,_,_,_,_,_,_,_,_,_,_,_,_,_,_,_,_,_,_,_,_,_,_,_,_,_,_,_,_⟩ _ _ _ _ ?_ | refine c_tick ⟨_,_,_,_,_,_,_,_,_,_,_,_,_,_,_,_,_,_,_,_,_,_,_,_,_,_,_,_,_⟩ _ _ _ ?_ | refine c_setpair ⟨_,_,_,_,_,_,_,_,_,_,_,_,_,_,_,_,_,_,_,_,_,_,_,_,_,_,_,_,_⟩ 2 (by decide) _ _ _ _ ?_ | refine m_pair A 2 (by decide) ?_ | refine m_pair A 0 (by decide) ?_ | refine m_pair A 1 (by decide) ?_ | refine m_pair A _ (by(first | decide | exact pushed_lt (by have:=yO_lt op; omega) | exact yO_lt op | exact zO_lt op | (have:=yO_lt op; have:=zO_lt op; omega))) ?_ | refine m_one A _ (by(first | decide | exact pushed_lt (by have:=yO_lt op; omega) | exact yO_lt op | exact zO_lt op | (have:=yO_lt op; have:=zO_lt op; omega))) ?_ | refine c_met _ _ (by(first | decide | exact pushed_lt (by have:=yO_lt op; omega) | exact yO_lt op | exact zO_lt op | (have:=yO_lt op; have:=zO_lt op; omega))) _ _ _ ?_ | refine m_pair A.put29 2 (by decide) ?_ | refine m_pair A.put29 0 (by decide) ?_ | refine m_pair A.put29 1 (by decide) ?_ | refine m_pair A.put29 _ (by(first | decide | exact pushed_lt (by have:=yO_lt op; omega) | exact yO_lt op | exact zO_lt op | (have:=yO_lt op; have:=zO_lt op; omega))) ?_ | refine m_one A.put29 _ (by(first | decide | exact pushed_lt (by have:=yO_lt op; omega) | exact yO_lt op | exact zO_lt op | (have:=yO_lt op; have:=zO_lt op; omega))) ?_); ((have hb:=A.blk29; have hx:=(up A).2.1; simp only[go_sem,hb,hx,hu,mr,mw,mi,mo,Rg.cells]))) | ((first | refine m_next M A (by omega) fun v s H n r lf A=>?_ | refine m_next M A.put29 (by omega) fun v s H n r lf A=>?_ | refine m_fetch M A (by omega) fun v c s H n r lf A=>?_ | refine m_fetch M A.put29 (by omega) fun v c s H n r lf A=>?_ | refine m_word M A (by omega) fun v c s H n r lf A=>?_ | refine m_word M A.put29 (by omega) fun v c s H n r lf A=>?_ | refine m_load M A _ (by omega) fun v s H n r lf A=>?_ | refine m_load M A.put29 _ (by omega) fun v s H n r lf A=>?_ | refine m_store M A _ _ (by omega) fun s H n r lf A=>?_ | refine m_store M A.put29 _ _ (by omega) fun s H n r lf A=>?_ | refine m_push M A _ (by omega) fun c s H n r lf A=>?_ | refine m_push M A.put29 _ (by omega) fun c s H n r lf A=>?_ | refine m_pop M A (by omega) fun v c s H n r lf A=>?_ | refine m_pop M A.put29 (by omega) fun v c s H n r lf A=>?_ | refine m_pointed M A (by omega) fun v p w q s H n r lf A=>?_ | refine m_pointed M A.put29 (by omega) fun v p w q s H n r lf A=>?_ | refine m_setpair A 2 (by decide) _ fun H n A=>?_ | refine m_setpair A.put29 2 (by decide) _ fun H n A=>?_ | refine m_setpair A 1 (by decide) _ fun H n A=>?_ | refine m_setpair A.put29 1 (by decide) _ fun H n A=>?_ | refine m_setpair A 0 (by decide) _ fun H n A=>?_ | refine m_setpair A.put29 0 (by decide) _ fun H n A=>?_ | refine m_setpair A _ (by(first | decide | exact pushed_lt (by have:=yO_lt op; omega) | exact yO_lt op | exact zO_lt op | (have:=yO_lt op; have:=zO_lt op; omega))) _ fun H n A=>?_ | refine m_setpair A.put29 _ (by(first | decide | exact pushed_lt (by have:=yO_lt op; omega) | exact yO_lt op | exact zO_lt op | (have:=yO_lt op; have:=zO_lt op; omega))) _ fun H n A=>?_ | refine m_setone A _ (by(first | decide | exact pushed_lt (by have:=yO_lt op; omega) | exact yO_lt op | exact zO_lt op | (have:=yO_lt op; have:=zO_lt op; omega))) _ fun H n A=>?_ | refine m_setone A.put29 _ (by(first | decide | exact pushed_lt (by have:=yO_lt op; omega) | exact yO_lt op | exact zO_lt op | (have:=yO_lt op; have:=zO_lt op; omega))) _ fun H n A=>?_ | refine m_to A _ fun H n A=>?_ | refine m_to A.put29 _ fun H n A=>?_ | refine m_told A _ fun H n A=>?_ | refine m_told A.put29 _ fun H n A=>?_ | refine A.rd (by omega) fun v s H n r lf A=>?_ | refine A.put29.rd (by omega) fun v s H n r lf A=>?_ | refine A.wr (by omega) fun s H n r lf A=>?_ | refine A.put29.wr (by omega) fun s H n r lf A=>?_ | refine A.ip (by decide) (by omega) fun v s H n r lf A=>?_ | refine A.put29.ip (by decide) (by omega) fun v s H n r lf A=>?_ | refine A.op (by decide) (by omega) fun s H n r lf A=>?_ | refine A.put29.op (by decide) (by omega) fun s H n r lf A=>?_); ((have hb:=A.blk29; have hx:=(up A).2.1; simp only[go_sem,hb,hx,hu,mr,mw,mi,mo,Rg.cells]))) | (refine m_special M A _ (by(first | decide | exact pushed_lt (by have:=yO_lt op; omega) | exact yO_lt op | exact zO_lt op | (have:=yO_lt op; have:=zO_lt op; omega))) (by omega) fun v c s H n r lf A=>?_; ((have hb:=A.blk29; have hx:=(up A).2.1; simp only[go_sem,hb,hx,hu,mr,mw,mi,mo,Rg.cells]))) | ((first | refine m_many M A _ (by omega) fun v c s H n r lf A=>?_ | refine m_many M A.put29 _ (by omega) fun v c s H n r lf A=>?_); ((have hb:=A.blk29; have hx:=(up A).2.1; simp only[go_sem,hb,hx,hu,mr,mw,mi,mo,Rg.cells]))))
  all_goals try first
    | (first | (refine Fin.keep (h _ _ _ _ _ ?_ (by omega) (up A).1); unfold extendedM; (((repeat' first | assumption | (with_reducible rfl) | (refine Eff.run_of (by assumption) ?_; try dsimp only) | refine Eff.run_t (by(first | assumption | exact nF ‹_› | exact nT ‹_› | omega)) ?_ | refine Eff.run_f (by(first | assumption | exact nF ‹_› | exact nT ‹_› | omega)) ?_ | rfl); all_goals fail))) | (refine Fin.keep (h _ _ _ _ _ ?_ (by omega) (up A.put29).1); unfold extendedM; (((repeat' first | assumption | (with_reducible rfl) | (refine Eff.run_of (by assumption) ?_; try dsimp only) | refine Eff.run_t (by(first | assumption | exact nF ‹_› | exact nT ‹_› | omega)) ?_ | refine Eff.run_f (by(first | assumption | exact nF ‹_› | exact nT ‹_› | omega)) ?_ | rfl); all_goals fail))))
    | (have hq:yO op%2=1:=(by omega)
       (first | (refine Fin.keep (h _ _ _ _ _ ?_ (by omega) (up A).1); unfold extendedM; simp +decide only[hq,if_true,if_false]; (((repeat' first | assumption | (with_reducible rfl) | (refine Eff.run_of (by assumption) ?_; try dsimp only) | refine Eff.run_t (by(first | assumption | exact nF ‹_› | exact nT ‹_› | omega)) ?_ | refine Eff.run_f (by(first | assumption | exact nF ‹_› | exact nT ‹_› | omega)) ?_ | rfl); all_goals fail))) | (refine Fin.keep (h _ _ _ _ _ ?_ (by omega) (up A.put29).1); unfold extendedM; simp +decide only[hq,if_true,if_false]; (((repeat' first | assumption | (with_reducible rfl) | (refine Eff.run_of (by assumption) ?_; try dsimp only) | refine Eff.run_t (by(first | assumption | exact nF ‹_› | exact nT ‹_› | omega)) ?_ | refine Eff.run_f (by(first | assumption | exact nF ‹_› | exact nT ‹_› | omega)) ?_ | rfl); all_goals fail)))))
    | (have hq:¬yO op%2=1:=(by omega)
       (first | (refine Fin.keep (h _ _ _ _ _ ?_ (by omega) (up A).1); unfold extendedM; simp +decide only[hq,if_true,if_false]; (((repeat' first | assumption | (with_reducible rfl) | (refine Eff.run_of (by assumption) ?_; try dsimp only) | refine Eff.run_t (by(first | assumption | exact nF ‹_› | exact nT ‹_› | omega)) ?_ | refine Eff.run_f (by(first | assumption | exact nF ‹_› | exact nT ‹_› | omega)) ?_ | rfl); all_goals fail))) | (refine Fin.keep (h _ _ _ _ _ ?_ (by omega) (up A.put29).1); unfold extendedM; simp +decide only[hq,if_true,if_false]; (((repeat' first | assumption | (with_reducible rfl) | (refine Eff.run_of (by assumption) ?_; try dsimp only) | refine Eff.run_t (by(first | assumption | exact nF ‹_› | exact nT ‹_› | omega)) ?_ | refine Eff.run_f (by(first | assumption | exact nF ‹_› | exact nT ‹_› | omega)) ?_ | rfl); all_goals fail)))))
  · have ha:and64 (yO op:Int) 3=((yO op%4:Nat):Int):=and64_3 (yO_lt op)
    have hy4:yO op%4=0∨yO op%4=1∨yO op%4=2∨yO op%4=3:=by omega
    rw[ha]
    rcases hy4 with hy | hy | hy | hy
    · rw[hy]
      refine⟨by decide,by decide,by decide,?_⟩
      have hb:=A.blk29
      have e5:imS (yO op)=0#8:=by unfold imS; rw[hy]; rfl
      simp only[go_sem,hb,hu,List.getD_cons_zero,List.getD_cons_succ,Int.toNat_natCast]
      refine Fin.keep (h _ _ _ _ _ ?_ (by omega) (up A.put29).1)
      unfold extendedM
      ((repeat' first | assumption | (with_reducible rfl) | (refine Eff.run_of (by assumption) ?_; try dsimp only) | refine Eff.run_t (by(first | assumption | exact nF ‹_› | exact nT ‹_› | omega)) ?_ | refine Eff.run_f (by(first | assumption | exact nF ‹_› | exact nT ‹_› | omega)) ?_))
      simp only[e5]
      rfl
    · rw[hy]
      refine⟨by decide,by decide,by decide,?_⟩
      have hb:=A.blk29
      have e5:imS (yO op)=0#8:=by unfold imS; rw[hy]; rfl
      simp only[go_sem,hb,hu,List.getD_cons_zero,List.getD_cons_succ,Int.toNat_natCast]
      refine Fin.keep (h _ _ _ _ _ ?_ (by omega) (up A.put29).1)
      unfold extendedM
      ((repeat' first | assumption | (with_reducible rfl) | (refine Eff.run_of (by assumption) ?_; try dsimp only) | refine Eff.run_t (by(first | assumption | exact nF ‹_› | exact nT ‹_› | omega)) ?_ | refine Eff.run_f (by(first | assumption | exact nF ‹_› | exact nT ‹_› | omega)) ?_))
      simp only[e5]
      rfl
    · rw[hy]
      refine⟨by decide,by decide,by decide,?_⟩
      have hb:=A.blk29
      have e5:imS (yO op)=1#8:=by unfold imS; rw[hy]; rfl
      simp only[go_sem,hb,hu,List.getD_cons_zero,List.getD_cons_succ,Int.toNat_natCast]
      refine Fin.keep (h _ _ _ _ _ ?_ (by omega) (up A.put29).1)
      unfold extendedM
      ((repeat' first | assumption | (with_reducible rfl) | (refine Eff.run_of (by assumption) ?_; try dsimp only) | refine Eff.run_t (by(first | assumption | exact nF ‹_› | exact nT ‹_› | omega)) ?_ | refine Eff.run_f (by(first | assumption | exact nF ‹_› | exact nT ‹_› | omega)) ?_))
      simp only[e5]
      rfl
    · rw[hy]
      refine⟨by decide,by decide,by decide,?_⟩
      have hb:=A.blk29
      have e5:imS (yO op)=2#8:=by unfold imS; rw[hy]; rfl
      simp only[go_sem,hb,hu,List.getD_cons_zero,List.getD_cons_succ,Int.toNat_natCast]
      refine Fin.keep (h _ _ _ _ _ ?_ (by omega) (up A.put29).1)
      unfold extendedM
      ((repeat' first | assumption | (with_reducible rfl) | (refine Eff.run_of (by assumption) ?_; try dsimp only) | refine Eff.run_t (by(first | assumption | exact nF ‹_› | exact nT ‹_› | omega)) ?_ | refine Eff.run_f (by(first | assumption | exact nF ‹_› | exact nT ‹_› | omega)) ?_))
      simp only[e5]
      rfl
end
end Go.Proofs.Joy
namespace Go.Proofs.Joy
open Go.Ab Go.Proofs
set_option maxHeartbeats 4000000
set_option maxRecDepth 20000
theorem c_tick29 {a f b c_ d e h_ l a2 f2 b2 c2 d2 e2 h2 l2:BitVec 8} {ix iy sp pc wz:BitVec 16} {i r im pre:BitVec 8} {x1 x2 x3 x4:Bool} (H:Heap) (n:Nat) (K:AV→Heap→Nat→Prop) (h:K (.ag (tickR ⟨a,f,b,c_,d,e,h_,l,a2,f2,b2,c2,d2,e2,h2,l2,ix,iy,sp,pc,wz,i,r,im,pre,x1,x2,x3,x4⟩).cells) H n):ACalls Tryz.prog 18 [.ag [.u8 a,.u8 f,.u8 b,.u8 c_,.u8 d,.u8 e,.u8 h_,.u8 l,.u8 a2,.u8 f2,.u8 b2,.u8 c2,.u8 d2,.u8 e2,.u8 h2,.u8 l2,.u16 ix,.u16 iy,.u16 sp,.u16 pc,.u16 wz,.u8 i,.u8 r,.u8 im,.u8 pre,.bo x1,.bo x2,.bo x3,.bo x4]] H n K:=c_tick ⟨a,f,b,c_,d,e,h_,l,a2,f2,b2,c2,d2,e2,h2,l2,ix,iy,sp,pc,wz,i,r,im,pre,x1,x2,x3,x4⟩ H n K h
def rgZ:Rg:=⟨0#8,0#8,0#8,0#8,0#8,0#8,0#8,0#8,0#8,0#8,0#8,0#8,0#8,0#8,0#8,0#8,0#16,0#16,0#16,0#16,0#16,0#8,0#8,0#8,0#8,false,false,false,false⟩
section
variable {σ:Type} {W:WC Tryz.prog σ} {t:TypeId} {H0:Heap} {n0:Nat} {F0:Nat→Prop} {k:Nat} {c:Core} {s:σ} {H:Heap} {n:Nat} {K:AV→Heap→Nat→Prop} (M:MT W t)
include M
theorem c_step (r:Rg) {F:Nat→Prop} (hr:W.rep s H n F) (hl:6≤W.left s) (h:∀(r':Rg) (q:Nat) s' H' n' F',(stepE r).run W.O s=((r',q),s')→W.left s≤W.left s'+6→H'.wf n'→n≤n'→W.rep s' H' n' F'→(∀i,F' i→F i∨n≤i)→(∀i,i<n→¬F i→H' i=H i)→K (.tu [.ag r'.cells,.i64 q]) H' n'):ACalls Tryz.prog 11 [.ag r.cells,.ifc t W.v] H n K:=by
  refine ACalls.of_awp Tryz.func11 rfl (by decide +kernel) (show 2≤69 by decide) (by simp) fun wf=>?_
  have low:∀ {i},F i→i<n:=fun hi=>W.low hr hi
  have A0:=fun c=>At.start (T:=59) (t:=t) wf hr ⟨r.cells,25,false⟩ ⟨rgZ.cells,25,false⟩ (fun _=>cells_ok ⟨r,0#8⟩ _) (fun _=>cells_ok ⟨rgZ,0#8⟩ _) c
  have D:=fun {c':Core} {s':σ} {H':Heap} {n':Nat} (A:AtC W t _ (n+2) F (n+2) c' s' H' n') (x:Rg)=>At.done (b0:=⟨r.cells,25,false⟩) (b1:=⟨rgZ.cells,25,false⟩) hr A ⟨x.cells,25,false⟩ (fun _=>cells_ok ⟨x,0#8⟩ _)
  refine awp_ev dr0 (by decide +kernel) ?_
  have X:=fun {c':Core} {s':σ} {H':Heap} {n':Nat} (A:AtC W t ((H.upd n (some ⟨r.cells,25,false⟩)).upd (n+1) (some ⟨rgZ.cells,25,false⟩)) (n+2) F (n+2) c' s' H' n')=>
    (⟨by rw[A.fr n (by omega) (by omega) (fun hi=>absurd (low hi) (by omega)),Heap.upd_ne _ _ (by omega),Heap.upd_same]; rfl,by rw[A.fr (n+1) (by omega) (by omega) (fun hi=>absurd (low hi) (by omega)),Heap.upd_same]; rfl⟩:H' n=some ⟨[.u8 r.a,.u8 r.f,.u8 r.b,.u8 r.c,.u8 r.d,.u8 r.e,.u8 r.h,.u8 r.l,.u8 r.a2,.u8 r.f2,.u8 r.b2,.u8 r.c2,.u8 r.d2,.u8 r.e2,.u8 r.h2,.u8 r.l2,.u16 r.ix,.u16 r.iy,.u16 r.sp,.u16 r.pc,.u16 r.wz,.u8 r.i,.u8 r.r,.u8 r.im,.u8 r.pre,.bo r.iff1,.bo r.iff2,.bo r.hlt,.bo r.dly],25,false⟩∧H' (n+1)=some ⟨[.u8 0#8,.u8 0#8,.u8 0#8,.u8 0#8,.u8 0#8,.u8 0#8,.u8 0#8,.u8 0#8,.u8 0#8,.u8 0#8,.u8 0#8,.u8 0#8,.u8 0#8,.u8 0#8,.u8 0#8,.u8 0#8,.u16 0#16,.u16 0#16,.u16 0#16,.u16 0#16,.u16 0#16,.u8 0#8,.u8 0#8,.u8 0#8,.u8 0#8,.bo false,.bo false,.bo false,.bo false],25,false⟩)
  simp only[go_sem,Tryz.f11,Rg.cells]
  refine⟨fun e=>?_,fun e=>?_⟩
  · refine c_tick29 _ _ _ ?_
    simp only[go_sem,Rg.cells]
    exact Fin.back wf (h (tickR r) 4 s H n F (by unfold stepE; rw[if_pos e]; rfl) (by omega) wf (Nat.le_refl _) hr (fun _ hi=>.inl hi) (fun _ _ _=>rfl)) (fun i hi=>by repeat (rw[Heap.upd_ne _ _ (by omega)])) (by simp[AV.ok,AV.oks,AV.one])
  · have h2:=h
    unfold stepE at h2
    rw[if_neg (by rw[e]; decide)] at h2
    refine m_fetch M (A0 ⟨{ r with dly:=false,pre:=0#8},0#8⟩) (by omega) fun op c s H n q lf A=>?_
    have hb:=A.blk29
    obtain⟨ha,hz⟩:=X A
    simp only[go_sem,hb,ha,hz]
    refine⟨fun e1=>⟨fun _=>?_,fun e2=>absurd (e1.symm.trans e2) (by decide)⟩,fun e1=>⟨fun e2=>?_,fun e2=>⟨fun e3=>?_,fun e3=>⟨fun e4=>?_,fun e4=>?_⟩⟩⟩⟩
    · obtain⟨w1,w2,F',w3,w4,w5⟩:=D A.put29 { c.r with pre:=op}
      exact Fin.keep (h2 { c.r with pre:=op} 4 _ _ _ F' (Eff.run_of q (Eff.run_t (by dsimp only; rw[e1]; rfl) rfl)) (by omega) w1 w2 w3 w4 w5)
    · obtain⟨w1,w2,F',w3,w4,w5⟩:=D A.put29 { c.r with pre:=op}
      exact Fin.keep (h2 { c.r with pre:=op} 4 _ _ _ F' (Eff.run_of q (Eff.run_t (by dsimp only; rw[e1,e2]; rfl) rfl)) (by omega) w1 w2 w3 w4 w5)
    · refine m_fetch M A (by omega) fun o2 c s H n q2 lf A=>?_
      simp only[go_sem]
      refine c_cut _ _ _ _ ?_
      simp only[go_sem]
      refine m_extended M A _ (by omega) fun v c s H n q3 lf A=>?_
      have hb:=A.blk29
      obtain⟨ha,hz⟩:=X A
      simp only[go_sem,hb,ha,hz]
      obtain⟨w1,w2,F',w3,w4,w5⟩:=D A c.r
      exact Fin.keep (h2 c.r v _ _ _ F' (Eff.run_of q (Eff.run_f (by dsimp only; rw[e1,e2]; decide) (Eff.run_t (by dsimp only; exact e3) (Eff.run_of q2 (Eff.run_of q3 rfl))))) (by omega) w1 w2 w3 w4 w5)
    · refine m_turned M A.put29 (by omega) fun v c s H n q3 lf A=>?_
      have hb:=A.blk29
      obtain⟨ha,hz⟩:=X A
      simp only[go_sem,hb,ha,hz]
      obtain⟨w1,w2,F',w3,w4,w5⟩:=D A c.r
      exact Fin.keep (h2 c.r v _ _ _ F' (Eff.run_of q (Eff.run_f (by dsimp only; rw[e1,e2]; decide) (Eff.run_f (by dsimp only; rw[e3]; decide) (Eff.run_t (by dsimp only; exact e4) (Eff.run_of q3 rfl))))) (by omega) w1 w2 w3 w4 w5)
    · refine c_cut _ _ _ _ ?_
      simp only[go_sem]
      refine m_plain M A.put29 _ (by omega) fun v c s H n q3 lf A=>?_
      have hb:=A.blk29
      obtain⟨ha,hz⟩:=X A
      simp only[go_sem,hb,ha,hz]
      obtain⟨w1,w2,F',w3,w4,w5⟩:=D A c.r
      exact Fin.keep (h2 c.r v _ _ _ F' (Eff.run_of q (Eff.run_f (by dsimp only; rw[e1,e2]; decide) (Eff.run_f (by dsimp only; rw[e3]; decide) (Eff.run_f (by dsimp only; rw[e4]; decide) (Eff.run_of q3 rfl))))) (by omega) w1 w2 w3 w4 w5)
end
end Go.Proofs.Joy
namespace Go.Proofs.Joy
open Go.Ab Go.Proofs
set_option maxHeartbeats 4000000
set_option maxRecDepth 20000
section
end
end Go.Proofs.Joy
namespace Go.Proofs.Joy
open Go.Ab Go.Proofs
set_option maxHeartbeats 4000000
set_option maxRecDepth 20000
section
end
end Go.Proofs.Joy
namespace Go.Proofs.Joy
open Go.Ab Go.Proofs
set_option maxHeartbeats 2000000
set_option maxRecDepth 20000
structure BxAt (b:Nat) (s:Bx) (H:Heap) (n:Nat) (F:Nat→Prop) (m:Nat) (L:AV):Prop where
  len:s.mem.length=65536
  blk:H b=some ⟨[.sl m 0 65536 65536,L],39,false⟩
  mem:H m=some ⟨s.mem.map .u8,5,false⟩
  log:(s.log=[]∧L=.sn)∨∃q,L=.su q 0 s.log.length 1∧H q=some ⟨s.log.map .i64,3,false⟩∧q≠b∧q≠m∧F q
  bm:b≠m
  fb:F b
  fm:F m
  low:∀i,F i→i<n
def bxRep (b:Nat) (s:Bx) (H:Heap) (n:Nat) (F:Nat→Prop):Prop:=∃m L,BxAt b s H n F m L
theorem bx_stable {b:Nat} {s:Bx} {H:Heap} {n:Nat} {F:Nat→Prop} {H':Heap} {n':Nat} (h:bxRep b s H n F) (he:∀i,F i→H' i=H i) (hn:n≤n'):bxRep b s H' n' F:=by
  obtain⟨m,L,h⟩:=h
  refine⟨m,L,h.len,by rw[he _ h.fb]; exact h.blk,by rw[he _ h.fm]; exact h.mem,?_,h.bm,h.fb,h.fm,fun i hi=>Nat.lt_of_lt_of_le (h.low i hi) hn⟩
  rcases h.log with h1 | ⟨q,h1,h2,h3,h4,h5⟩
  · exact .inl h1
  · exact .inr ⟨q,h1,by rw[he _ h5]; exact h2,h3,h4,h5⟩
theorem u8s_ok (l:List (BitVec 8)) (n:Nat):∀v∈l.map AV.u8,v.ok n=true:=fun v hv=>by obtain⟨x,_,rfl⟩:=List.mem_map.1 hv; rfl
theorem i64s_ok (l:List Int) (n:Nat):∀v∈l.map AV.i64,v.ok n=true:=fun v hv=>by obtain⟨x,_,rfl⟩:=List.mem_map.1 hv; rfl
theorem bx_end {b:Nat} {s:Bx} {H:Heap} {n:Nat} {F:Nat→Prop} {m:Nat} {L:AV} (hB:BxAt b s H n F m L) (mem':List (BitVec 8)) (hl:mem'.length=65536) (x:Int) {H':Heap} (hb':H' b=some ⟨[.sl m 0 65536 65536,.su (n+1) 0 (s.log.length+1) 1],39,false⟩)
    (hm':H' m=some ⟨mem'.map .u8,5,false⟩) (hq':H' (n+1)=some ⟨(s.log++[x]).map .i64,3,false⟩) (hfr:∀i,i<n→¬F i→H' i=H i):
    ∃F',bxRep b ⟨mem',s.log++[x]⟩ H' (n+2) F'∧(∀i,F' i→F i∨n≤i)∧∀i,i<n→¬F i→H' i=H i:=by
  have lb:=hB.low b hB.fb
  have lm:=hB.low m hB.fm
  refine⟨fun i=>F i∨i=n+1,⟨m,_,hl,hb',hm',.inr ⟨n+1,by simp,hq',by omega,by omega,.inr rfl⟩,hB.bm,.inl hB.fb,.inl hB.fm,fun i hi=>?_⟩,fun i hi=>?_,hfr⟩
  · rcases hi with h | h
    · have:=hB.low i h; omega
    · omega
  · rcases hi with h | h
    · exact .inl h
    · exact .inr (by omega)
theorem bx_fin {b:Nat} {s:Bx} {H:Heap} {n:Nat} {F:Nat→Prop} {m:Nat} {L:AV} {K:AV→Heap→Nat→Prop} {V:AV} (hB:BxAt b s H n F m L) (mem':List (BitVec 8)) (hl:mem'.length=65536) (x:Int)
    (h:∀H' n' F',H'.wf n'→n≤n'→bxRep b ⟨mem',s.log++[x]⟩ H' n' F'→(∀i,F' i→F i∨n≤i)→(∀i,i<n→¬F i→H' i=H i)→K V H' n') {H':Heap} (hwf:H'.wf (n+2)) (hb':H' b=some ⟨[.sl m 0 65536 65536,.su (n+1) 0 (s.log.length+1) 1],39,false⟩)
    (hm':H' m=some ⟨mem'.map .u8,5,false⟩) (hq':H' (n+1)=some ⟨(s.log++[x]).map .i64,3,false⟩) (hfr:∀i,i<n→¬F i→H' i=H i):K V H' (n+2):=by
  obtain⟨F',w1,w2,w3⟩:=bx_end hB mem' hl x hb' hm' hq' hfr
  exact h _ _ F' hwf (by omega) w1 w2 w3
theorem u8_getD {l:List (BitVec 8)} {i:Nat} (h:i<l.length):(l.map AV.u8).getD i .junk=.u8 (l.getD i 0#8):=by
  simp[List.getD,List.getElem?_map,List.getElem?_eq_getElem h]
theorem bx_read {b:Nat} {s:Bx} {a:BitVec 16} {H:Heap} {n:Nat} {F:Nat→Prop} {K:AV→Heap→Nat→Prop} (hl:1≤bxLeft s) (hr:bxRep b s H n F) (h:∀H' n' F',H'.wf n'→n≤n'→bxRep b (bxO.rd s a).2 H' n' F'→(∀i,F' i→F i∨n≤i)→(∀i,i<n→¬F i→H' i=H i)→K (.u8 (bxO.rd s a).1) H' n'):ACalls Tryz.prog 214 [.pt b 0,.u16 a] H n K:=by
  refine ACalls.of_awp Tryz.func214 rfl (by decide +kernel) (show 2≤23 by decide) (by simp) fun wf=>?_
  obtain⟨m,L,hB⟩:=hr
  have hb:=hB.blk
  have hm:=hB.mem
  have lb:=hB.low b hB.fb
  have lm:=hB.low m hB.fm
  have eb:=fun X Y=>Heap.upd_ne X (i:=n) (j:=b) Y (by omega)
  have eb1:=fun X Y=>Heap.upd_ne X (i:=n+1) (j:=b) Y (by omega)
  have em:=fun X Y=>Heap.upd_ne X (i:=n) (j:=m) Y (by omega)
  have em1:=fun X Y=>Heap.upd_ne X (i:=n+1) (j:=m) Y (by omega)
  have emb:=fun X Y=>Heap.upd_ne X (i:=b) (j:=m) Y (Ne.symm hB.bm)
  have ebm:=fun X Y=>Heap.upd_ne X (i:=m) (j:=b) Y hB.bm
  have e1b:=fun X Y=>Heap.upd_ne X (i:=b) (j:=n+1) Y (by omega)
  have e1m:=fun X Y=>Heap.upd_ne X (i:=m) (j:=n+1) Y (by omega)
  have hlen:=hB.len
  refine awp_ev dr0 (by decide +kernel) ?_
  unfold bxLeft at hl
  rcases hB.log with ⟨hl0,rfl⟩ | ⟨q,rfl,hq,h3,h4,h5⟩
  · simp only[go_sem,Tryz.f214,hb,hm,eb,eb1,em,em1,emb,ebm]
    have ha:a.toNat<s.mem.length:=by rw[hlen]; exact a.isLt
    rw[u8_getD ha]
    refine⟨by have:=a.isLt; omega,by rw[List.length_map]; exact ha,by simp,?_⟩
    refine Fin.keep (bx_fin hB s.mem (by exact hlen) _ h ?_ ?_ ?_ ?_ ?_)
    · exact Heap.wf_set (Heap.wf_upd (Heap.wf_upd wf (by simp[AV.ok])) (by simp[AV.ok])) (by omega) (by simp[AV.ok]; omega)
    · rw[Heap.upd_same]; simp[hl0]
    · rw[emb,em1,em]; exact hm
    · rw[e1b,Heap.upd_same]; simp[hl0]
    · intro i hi hF
      have hib:i≠b:=fun e=>hF (e▸hB.fb)
      have him:i≠m:=fun e=>hF (e▸hB.fm)
      rw[Heap.upd_ne _ _ hib,Heap.upd_ne _ _ (by omega),Heap.upd_ne _ _ (by omega)]
  · have lq:=hB.low q h5
    have eq:=fun X Y=>Heap.upd_ne X (i:=n) (j:=q) Y (by omega)
    have ebq:=fun X Y=>Heap.upd_ne X (i:=q) (j:=b) Y (Ne.symm h3)
    have emq:=fun X Y=>Heap.upd_ne X (i:=q) (j:=m) Y (Ne.symm h4)
    simp only[go_sem,Tryz.f214,hb,hm,hq,eb,eb1,em,em1,emb,ebm,eq,ebq,emq,List.take_of_length_le (Nat.le_refl (s.log.map AV.i64).length)]
    have ha:a.toNat<s.mem.length:=by rw[hlen]; exact a.isLt
    rw[u8_getD ha]
    refine⟨by rw[List.length_map]; exact Nat.le_refl _,by omega,by have:=a.isLt; omega,by rw[List.length_map]; exact ha,by simp,?_⟩
    rw[List.take_of_length_le (l:=s.log.map AV.i64) (by rw[List.length_map]; exact Nat.le_refl _)]
    refine Fin.keep (bx_fin hB s.mem (by exact hlen) _ h ?_ ?_ ?_ ?_ ?_)
    · exact Heap.wf_set (Heap.wf_upd (Heap.wf_upd_none (Heap.wf_upd wf (by simp[AV.ok]))) (fun v hv=>by rcases List.mem_append.1 hv with hv | hv; exact i64s_ok _ _ v hv; simp only[List.mem_cons,List.not_mem_nil,or_false] at hv; rw[hv]; rfl)) (by omega) (by simp[AV.ok]; omega)
    · rw[Heap.upd_same]
    · rw[emb,em1,emq,em]; exact hm
    · rw[e1b,Heap.upd_same]; simp
    · intro i hi hF
      have hib:i≠b:=fun e=>hF (e▸hB.fb)
      have him:i≠m:=fun e=>hF (e▸hB.fm)
      have hiq:i≠q:=fun e=>hF (e▸h5)
      rw[Heap.upd_ne _ _ hib,Heap.upd_ne _ _ (by omega),Heap.upd_ne _ _ hiq,Heap.upd_ne _ _ (by omega)]
theorem bx_write {b:Nat} {s:Bx} {a:BitVec 16} {x:BitVec 8} {H:Heap} {n:Nat} {F:Nat→Prop} {K:AV→Heap→Nat→Prop} (hl:1≤bxLeft s) (hr:bxRep b s H n F) (h:∀H' n' F',H'.wf n'→n≤n'→bxRep b (bxO.wr s a x) H' n' F'→(∀i,F' i→F i∨n≤i)→(∀i,i<n→¬F i→H' i=H i)→K (.tu []) H' n'):ACalls Tryz.prog 215 [.pt b 0,.u16 a,.u8 x] H n K:=by
  refine ACalls.of_awp Tryz.func215 rfl (by decide +kernel) (show 3≤29 by decide) (by simp) fun wf=>?_
  obtain⟨m,L,hB⟩:=hr
  have hb:=hB.blk
  have hm:=hB.mem
  have lb:=hB.low b hB.fb
  have lm:=hB.low m hB.fm
  have eb:=fun X Y=>Heap.upd_ne X (i:=n) (j:=b) Y (by omega)
  have eb1:=fun X Y=>Heap.upd_ne X (i:=n+1) (j:=b) Y (by omega)
  have em:=fun X Y=>Heap.upd_ne X (i:=n) (j:=m) Y (by omega)
  have em1:=fun X Y=>Heap.upd_ne X (i:=n+1) (j:=m) Y (by omega)
  have emb:=fun X Y=>Heap.upd_ne X (i:=b) (j:=m) Y (Ne.symm hB.bm)
  have ebm:=fun X Y=>Heap.upd_ne X (i:=m) (j:=b) Y hB.bm
  have e1b:=fun X Y=>Heap.upd_ne X (i:=b) (j:=n+1) Y (by omega)
  have e1m:=fun X Y=>Heap.upd_ne X (i:=m) (j:=n+1) Y (by omega)
  have hlen:=hB.len
  refine awp_ev dr0 (by decide +kernel) ?_
  unfold bxLeft at hl
  rcases hB.log with ⟨hl0,rfl⟩ | ⟨q,rfl,hq,h3,h4,h5⟩
  · simp only[go_sem,Tryz.f215,hb,hm,eb,eb1,em,em1,emb,ebm]
    have ha:a.toNat<s.mem.length:=by rw[hlen]; exact a.isLt
    refine⟨by have:=a.isLt; omega,by rw[List.length_map]; exact ha,?_⟩
    refine Fin.keep (bx_fin hB (s.mem.set a.toNat x) (by rw[List.length_set]; exact hlen) _ h ?_ ?_ ?_ ?_ ?_)
    · exact Heap.wf_set (Heap.wf_set (Heap.wf_upd (Heap.wf_upd wf (by simp[AV.ok])) (by simp[AV.ok])) (by omega) (by simp[AV.ok]; omega)) (by omega) (fun v hv=>by rw[← List.map_set] at hv; exact u8s_ok _ _ v hv)
    · rw[ebm,Heap.upd_same]; simp[hl0]
    · rw[Heap.upd_same,List.map_set]
    · rw[e1m,e1b,Heap.upd_same]; simp[hl0]
    · intro i hi hF
      have hib:i≠b:=fun e=>hF (e▸hB.fb)
      have him:i≠m:=fun e=>hF (e▸hB.fm)
      rw[Heap.upd_ne _ _ him,Heap.upd_ne _ _ hib,Heap.upd_ne _ _ (by omega),Heap.upd_ne _ _ (by omega)]
  · have lq:=hB.low q h5
    have eq:=fun X Y=>Heap.upd_ne X (i:=n) (j:=q) Y (by omega)
    have ebq:=fun X Y=>Heap.upd_ne X (i:=q) (j:=b) Y (Ne.symm h3)
    have emq:=fun X Y=>Heap.upd_ne X (i:=q) (j:=m) Y (Ne.symm h4)
    simp only[go_sem,Tryz.f215,hb,hm,hq,eb,eb1,em,em1,emb,ebm,eq,ebq,emq,List.take_of_length_le (Nat.le_refl (s.log.map AV.i64).length)]
    have ha:a.toNat<s.mem.length:=by rw[hlen]; exact a.isLt
    refine⟨by rw[List.length_map]; exact Nat.le_refl _,by omega,by have:=a.isLt; omega,by rw[List.length_map]; exact ha,?_⟩
    rw[List.take_of_length_le (l:=s.log.map AV.i64) (by rw[List.length_map]; exact Nat.le_refl _)]
    refine Fin.keep (bx_fin hB (s.mem.set a.toNat x) (by rw[List.length_set]; exact hlen) _ h ?_ ?_ ?_ ?_ ?_)
    · exact Heap.wf_set (Heap.wf_set (Heap.wf_upd (Heap.wf_upd_none (Heap.wf_upd wf (by simp[AV.ok]))) (fun v hv=>by rcases List.mem_append.1 hv with hv | hv; exact i64s_ok _ _ v hv; simp only[List.mem_cons,List.not_mem_nil,or_false] at hv; rw[hv]; rfl)) (by omega) (by simp[AV.ok]; omega)) (by omega) (fun v hv=>by rw[← List.map_set] at hv; exact u8s_ok _ _ v hv)
    · rw[ebm,Heap.upd_same]
    · rw[Heap.upd_same,List.map_set]
    · rw[e1m,e1b,Heap.upd_same]; simp
    · intro i hi hF
      have hib:i≠b:=fun e=>hF (e▸hB.fb)
      have him:i≠m:=fun e=>hF (e▸hB.fm)
      have hiq:i≠q:=fun e=>hF (e▸h5)
      rw[Heap.upd_ne _ _ him,Heap.upd_ne _ _ hib,Heap.upd_ne _ _ (by omega),Heap.upd_ne _ _ hiq,Heap.upd_ne _ _ (by omega)]
theorem bx_inp {b:Nat} {s:Bx} {p:BitVec 16} {u:Int} {H:Heap} {n:Nat} {F:Nat→Prop} {K:AV→Heap→Nat→Prop} (hu:0≤u∧u≤100) (hl:1≤bxLeft s) (hr:bxRep b s H n F) (h:∀H' n' F',H'.wf n'→n≤n'→bxRep b (bxO.inp s p u).2 H' n' F'→(∀i,F' i→F i∨n≤i)→(∀i,i<n→¬F i→H' i=H i)→K (.u8 (bxO.inp s p u).1) H' n'):ACalls Tryz.prog 212 [.pt b 0,.u16 p,.i64 u] H n K:=by
  refine ACalls.of_awp Tryz.func212 rfl (by decide +kernel) (show 3≤33 by decide) (by simp) fun wf=>?_
  obtain⟨m,L,hB⟩:=hr
  have hb:=hB.blk
  have hm:=hB.mem
  have lb:=hB.low b hB.fb
  have lm:=hB.low m hB.fm
  have eb:=fun X Y=>Heap.upd_ne X (i:=n) (j:=b) Y (by omega)
  have eb1:=fun X Y=>Heap.upd_ne X (i:=n+1) (j:=b) Y (by omega)
  have em:=fun X Y=>Heap.upd_ne X (i:=n) (j:=m) Y (by omega)
  have em1:=fun X Y=>Heap.upd_ne X (i:=n+1) (j:=m) Y (by omega)
  have emb:=fun X Y=>Heap.upd_ne X (i:=b) (j:=m) Y (Ne.symm hB.bm)
  have ebm:=fun X Y=>Heap.upd_ne X (i:=m) (j:=b) Y hB.bm
  have e1b:=fun X Y=>Heap.upd_ne X (i:=b) (j:=n+1) Y (by omega)
  have e1m:=fun X Y=>Heap.upd_ne X (i:=m) (j:=n+1) Y (by omega)
  have hlen:=hB.len
  refine awp_ev dr0 (by decide +kernel) ?_
  unfold bxLeft at hl
  rcases hB.log with ⟨hl0,rfl⟩ | ⟨q,rfl,hq,h3,h4,h5⟩
  · simp only[go_sem,Tryz.f212,hb,hm,eb,eb1,em,em1,emb,ebm]
    have e13:wrap64 13=wrap64 (((s.log.length+1:Nat):Int)*13):=by rw[hl0]; rfl
    rw[e13]
    refine Fin.keep (bx_fin hB s.mem (by exact hlen) _ h ?_ ?_ ?_ ?_ ?_)
    · exact Heap.wf_set (Heap.wf_upd (Heap.wf_upd wf (by simp[AV.ok])) (by simp[AV.ok])) (by omega) (by simp[AV.ok]; omega)
    · rw[Heap.upd_same]; simp[hl0]
    · rw[emb,em1,em]; exact hm
    · rw[e1b,Heap.upd_same]; simp[hl0]
    · intro i hi hF
      have hib:i≠b:=fun e=>hF (e▸hB.fb)
      have him:i≠m:=fun e=>hF (e▸hB.fm)
      rw[Heap.upd_ne _ _ hib,Heap.upd_ne _ _ (by omega),Heap.upd_ne _ _ (by omega)]
  · have lq:=hB.low q h5
    have eq:=fun X Y=>Heap.upd_ne X (i:=n) (j:=q) Y (by omega)
    have ebq:=fun X Y=>Heap.upd_ne X (i:=q) (j:=b) Y (Ne.symm h3)
    have emq:=fun X Y=>Heap.upd_ne X (i:=q) (j:=m) Y (Ne.symm h4)
    simp only[go_sem,Tryz.f212,hb,hm,hq,eb,eb1,em,em1,emb,ebm,eq,ebq,emq,List.take_of_length_le (Nat.le_refl (s.log.map AV.i64).length)]
    refine⟨by rw[List.length_map]; exact Nat.le_refl _,by omega,?_⟩
    rw[List.take_of_length_le (l:=s.log.map AV.i64) (by rw[List.length_map]; exact Nat.le_refl _)]
    refine Fin.keep (bx_fin hB s.mem (by exact hlen) _ h ?_ ?_ ?_ ?_ ?_)
    · exact Heap.wf_set (Heap.wf_upd (Heap.wf_upd_none (Heap.wf_upd wf (by simp[AV.ok]))) (fun v hv=>by rcases List.mem_append.1 hv with hv | hv; exact i64s_ok _ _ v hv; simp only[List.mem_cons,List.not_mem_nil,or_false] at hv; rw[hv]; rfl)) (by omega) (by simp[AV.ok]; omega)
    · rw[Heap.upd_same]
    · rw[emb,em1,emq,em]; exact hm
    · rw[e1b,Heap.upd_same]; simp
    · intro i hi hF
      have hib:i≠b:=fun e=>hF (e▸hB.fb)
      have him:i≠m:=fun e=>hF (e▸hB.fm)
      have hiq:i≠q:=fun e=>hF (e▸h5)
      rw[Heap.upd_ne _ _ hib,Heap.upd_ne _ _ (by omega),Heap.upd_ne _ _ hiq,Heap.upd_ne _ _ (by omega)]
theorem bx_out {b:Nat} {s:Bx} {p:BitVec 16} {x:BitVec 8} {u:Int} {H:Heap} {n:Nat} {F:Nat→Prop} {K:AV→Heap→Nat→Prop} (hu:0≤u∧u≤100) (hl:1≤bxLeft s) (hr:bxRep b s H n F) (h:∀H' n' F',H'.wf n'→n≤n'→bxRep b (bxO.out s p x u) H' n' F'→(∀i,F' i→F i∨n≤i)→(∀i,i<n→¬F i→H' i=H i)→K (.tu []) H' n'):ACalls Tryz.prog 213 [.pt b 0,.u16 p,.u8 x,.i64 u] H n K:=by
  refine ACalls.of_awp Tryz.func213 rfl (by decide +kernel) (show 4≤27 by decide) (by simp) fun wf=>?_
  obtain⟨m,L,hB⟩:=hr
  have hb:=hB.blk
  have hm:=hB.mem
  have lb:=hB.low b hB.fb
  have lm:=hB.low m hB.fm
  have eb:=fun X Y=>Heap.upd_ne X (i:=n) (j:=b) Y (by omega)
  have eb1:=fun X Y=>Heap.upd_ne X (i:=n+1) (j:=b) Y (by omega)
  have em:=fun X Y=>Heap.upd_ne X (i:=n) (j:=m) Y (by omega)
  have em1:=fun X Y=>Heap.upd_ne X (i:=n+1) (j:=m) Y (by omega)
  have emb:=fun X Y=>Heap.upd_ne X (i:=b) (j:=m) Y (Ne.symm hB.bm)
  have ebm:=fun X Y=>Heap.upd_ne X (i:=m) (j:=b) Y hB.bm
  have e1b:=fun X Y=>Heap.upd_ne X (i:=b) (j:=n+1) Y (by omega)
  have e1m:=fun X Y=>Heap.upd_ne X (i:=m) (j:=n+1) Y (by omega)
  have hlen:=hB.len
  refine awp_ev dr0 (by decide +kernel) ?_
  unfold bxLeft at hl
  rcases hB.log with ⟨hl0,rfl⟩ | ⟨q,rfl,hq,h3,h4,h5⟩
  · simp only[go_sem,Tryz.f213,hb,hm,eb,eb1,em,em1,emb,ebm]
    refine Fin.keep (bx_fin hB s.mem (by exact hlen) _ h ?_ ?_ ?_ ?_ ?_)
    · exact Heap.wf_set (Heap.wf_upd (Heap.wf_upd wf (by simp[AV.ok])) (by simp[AV.ok])) (by omega) (by simp[AV.ok]; omega)
    · rw[Heap.upd_same]; simp[hl0]
    · rw[emb,em1,em]; exact hm
    · rw[e1b,Heap.upd_same]; simp[hl0]
    · intro i hi hF
      have hib:i≠b:=fun e=>hF (e▸hB.fb)
      have him:i≠m:=fun e=>hF (e▸hB.fm)
      rw[Heap.upd_ne _ _ hib,Heap.upd_ne _ _ (by omega),Heap.upd_ne _ _ (by omega)]
  · have lq:=hB.low q h5
    have eq:=fun X Y=>Heap.upd_ne X (i:=n) (j:=q) Y (by omega)
    have ebq:=fun X Y=>Heap.upd_ne X (i:=q) (j:=b) Y (Ne.symm h3)
    have emq:=fun X Y=>Heap.upd_ne X (i:=q) (j:=m) Y (Ne.symm h4)
    simp only[go_sem,Tryz.f213,hb,hm,hq,eb,eb1,em,em1,emb,ebm,eq,ebq,emq,List.take_of_length_le (Nat.le_refl (s.log.map AV.i64).length)]
    refine⟨by rw[List.length_map]; exact Nat.le_refl _,by omega,?_⟩
    rw[List.take_of_length_le (l:=s.log.map AV.i64) (by rw[List.length_map]; exact Nat.le_refl _)]
    refine Fin.keep (bx_fin hB s.mem (by exact hlen) _ h ?_ ?_ ?_ ?_ ?_)
    · exact Heap.wf_set (Heap.wf_upd (Heap.wf_upd_none (Heap.wf_upd wf (by simp[AV.ok]))) (fun v hv=>by rcases List.mem_append.1 hv with hv | hv; exact i64s_ok _ _ v hv; simp only[List.mem_cons,List.not_mem_nil,or_false] at hv; rw[hv]; rfl)) (by omega) (by simp[AV.ok]; omega)
    · rw[Heap.upd_same]
    · rw[emb,em1,emq,em]; exact hm
    · rw[e1b,Heap.upd_same]; simp
    · intro i hi hF
      have hib:i≠b:=fun e=>hF (e▸hB.fb)
      have him:i≠m:=fun e=>hF (e▸hB.fm)
      have hiq:i≠q:=fun e=>hF (e▸h5)
      rw[Heap.upd_ne _ _ hib,Heap.upd_ne _ _ (by omega),Heap.upd_ne _ _ hiq,Heap.upd_ne _ _ (by omega)]
end Go.Proofs.Joy
namespace Go.Proofs.Joy
open Go.Ab Go.Proofs
set_option maxHeartbeats 2000000
set_option maxRecDepth 20000
def boxW (b:Nat):WC Tryz.prog Bx where
  O:=bxO
  v:=.pt b 0
  kr:=214
  kw:=215
  ki:=212
  ko:=213
  rep:=bxRep b
  left:=bxLeft
  lrd:=bx_lrd
  lwr:=bx_lwr
  lin:=bx_lin
  lout:=bx_lout
  vok:=fun⟨_,_,h⟩=>by have:=h.low b h.fb; simp[AV.ok,this]
  low:=fun⟨_,_,h⟩ hi=>h.low _ hi
  stable:=bx_stable
  read:=bx_read
  write:=bx_write
  inp:=bx_inp
  out:=bx_out
theorem boxM (b:Nat):MT (boxW b) 29:=⟨(by show mthT Tryz.prog 29 "Read" =some 214; decide +kernel),(by show mthT Tryz.prog 29 "Write" =some 215; decide +kernel),(by show mthT Tryz.prog 29 "In" =some 212; decide +kernel),(by show mthT Tryz.prog 29 "Out" =some 213; decide +kernel)⟩
theorem c_right (r:Rg) (H:Heap) (n:Nat) (K:AV→Heap→Nat→Prop) (h:K (.bo r.right) H n):ACalls Tryz.prog 8 [.ag r.cells] H n K:=by
  refine ACalls.of_awp Tryz.func8 rfl (by decide +kernel) (show 1≤21 by decide) (by simp) fun wf=>?_
  refine awp_ev dr0 (by decide +kernel) ?_
  simp only[go_sem,Tryz.f8,Rg.cells]
  have hle:(decide (r.im≤2#8))=decide (r.im<3#8):=by
    generalize r.im=x
    revert x; decide +kernel
  unfold Rg.right at h
  rw[hle] at h
  have hf:∀i,i<n→(H.upd n (some ⟨r.cells,25,false⟩)) i=H i:=fun i hi=>Heap.upd_ne _ _ (by omega)
  refine⟨fun e=>⟨fun e0=>⟨fun e1=>?_,fun e1=>?_⟩,fun e0=>?_⟩,fun e=>?_⟩
  · simp only[e,e0,e1,decide_true,Bool.true_and,Bool.false_or] at h
    exact Fin.back wf h hf rfl
  · simp only[e,e0,e1,decide_true,Bool.true_and,Bool.false_or,Bool.true_or] at h
    exact Fin.back wf h hf rfl
  · simp only[e,e0,decide_true,Bool.true_and,Bool.true_or] at h
    exact Fin.back wf h hf rfl
  · simp only[e,decide_false,Bool.false_and] at h
    exact Fin.back wf h hf rfl
structure BoS where
  j:Nat
def boH (H:Heap) (n:Nat) (f:Nat→BitVec 8):Heap:=(H.upd n (some ⟨(memL f).map .u8,5,false⟩)).upd (n+1) (some ⟨[.sl n 0 65536 65536,.sn],39,false⟩)
theorem boH_wf {H:Heap} {n:Nat} (wf:H.wf n) (f:Nat→BitVec 8):(boH H n f).wf (n+2):=Heap.wf_upd (Heap.wf_upd wf (u8s_ok (memL f) _)) (fun v hv=>by simp only[List.mem_cons,List.not_mem_nil,or_false] at hv; rcases hv with rfl | rfl; exact decide_eq_true (by omega); rfl)
def half1 (fill:BitVec 8) (j:Nat):Nat→BitVec 8:=fun i=>if i<j then fillS fill i else 0#8
theorem c_box (at_:BitVec 16) (code:List (BitVec 8)) (fill:BitVec 8) (cv:AV) (H:Heap) (n:Nat) (K:AV→Heap→Nat→Prop) (hc:bytesIn H cv code) (hok:cv.ok n=true) (hl:code.length≤1000)
    (h:∀b H' n' F',H'.wf n'→n≤n'→bxRep b (boxS at_ code fill) H' n' F'→(∀i,F' i→n≤i)→(∀i,i<n→H' i=H i)→K (.pt b 0) H' n'):ACalls Tryz.prog 9 [.u16 at_,cv,.u8 fill] H n K:=by
  have hne:cv≠ .junk:=hc.ne
  refine ACalls.of_awp Tryz.func9 rfl (by decide +kernel) (show 3≤56 by decide) (by simp; exact hne) fun wf=>?_
  refine awp_step dr0 (by decide +kernel) ?_
  simp only[go_sem,Tryz.f9]
  refine awp_step dr0 (by decide +kernel) ?_
  simp only[go_sem]
  refine awp_step dr0 (by decide +kernel) ?_
  simp only[go_sem]
  have e0:(repCells 65536 [AV.u8 0#8])=(memL (half1 fill 0)).map .u8:=by
    rw[rep_u8,← memL_zero]; rfl
  rw[e0]
  refine awp_loopF (S:=BoS) (fun s=>[(0,.u16 at_),(1,cv),(2,.u8 fill),(7,.pt (n+1) 0),(18,.i64 65536),(19,.i64 s.j)]) (fun s=>boH H n (half1 fill s.j)) (fun _=>n+2) (fun s=>s.j≤65536) (fun s=>65536-s.j)
    (fun s _=>⟨boH_wf wf _,Env.okAt_of2 (by simp[AV.ok]; exact AV.ok_mono (by omega) _ hok)⟩) ?_ ⟨0⟩ (Nat.zero_le _) (by repeat (first | exact Env.le_nil _ | refine Env.le_cons rfl ?_)) (fun _ _=>rfl) rfl
  rintro⟨j⟩ hj
  simp only at hj ⊢
  refine awp_step dr0 (by decide +kernel) ?_
  simp only[go_sem]
  refine awp_step dr0 (by decide +kernel) ?_
  simp only[go_sem]
  refine⟨fun hlt=>?_,fun hlt=>?_⟩
  · refine awp_ev dr0 (by decide +kernel) ?_
    simp only[go_sem,boH]
    refine⟨by omega,by rw[List.length_map,memL_len]; omega,?_⟩
    have e1:(wrap64 ((j:Int)+1))=((j+1:Nat):Int):=by rw[wrap_id _ (by omega) (by omega)]; omega
    have e2:BitVec.ofInt 8 (j:Int)*fill^^^BitVec.ofInt 8 (wrap64 ((j:Int).tdiv 256))=fillS fill j:=by
      unfold fillS
      have:wrap64 ((j:Int).tdiv 256)=((j / 256:Nat):Int):=by
        rw[show(j:Int).tdiv 256=((j / 256:Nat):Int) from rfl]; exact wrap_id _ (by omega) (by omega)
      rw[this]; rfl
    have e3:(List.map AV.u8 (memL (half1 fill j))).set j (AV.u8 (fillS fill j))=(memL (half1 fill (j+1))).map .u8:=by
      rw[← List.map_set,memL_set]
      congr 1
      apply memL_congr
      intro i _
      simp only[half1]
      by_cases h1:i=j
      · subst h1; rw[if_pos rfl,if_pos (by omega)]
      · rw[if_neg h1]
        by_cases h2:i<j
        · rw[if_pos h2,if_pos (by omega)]
        · rw[if_neg h2,if_neg (by omega)]
    rw[e1,e2,e3]
    refine Ends.mk (⟨j+1⟩:BoS) ⟨by simp only; omega,by simp only; omega⟩ (by repeat (first | exact Env.le_nil _ | refine Env.le_cons rfl ?_)) (fun i _=>?_) (Nat.le_refl _) (Nat.le_refl _)
    simp only[Heap.upd]
    by_cases h1:i=n
    · subst h1; simp
    · simp[h1]
  · have hj2:j=65536:=by omega
    subst hj2
    have e4:boH H n (half1 fill 65536)=boH H n (codeS at_ code fill 0):=by unfold boH; rw[memL_congr (f:=half1 fill 65536) (g:=codeS at_ code fill 0) fun i hi=>if_pos hi]
    rw[e4]
    have hvok:cv.ok n=true:=hok
    have hlb:∀K,lenB (some .slice) cv K=K (.i64 code.length):=lenB_bytes hc
    have hcc:bytesIn (boH H n (codeS at_ code fill 0)) cv code:=hc.mono hok (fun i hi=>by unfold boH; rw[Heap.upd_ne _ _ (by omega),Heap.upd_ne _ _ (by omega)])
    refine awp_seq (awp_step dr0 (by decide +kernel) ?_)
    simp only[go_sem,hlb]
    refine awp_block ?_
    refine awp_loopF (S:=BoS) (fun s=>[(0,.u16 at_),(37,cv),(7,.pt (n+1) 0),(38,.i64 code.length),(39,.i64 s.j)]) (fun s=>boH H n (codeS at_ code fill s.j)) (fun _=>n+2) (fun s=>s.j≤code.length) (fun s=>code.length-s.j)
      (fun s _=>⟨boH_wf wf _,Env.okAt_of2 (by simp[AV.ok]; exact AV.ok_mono (by omega) _ hok)⟩) ?_ ⟨0⟩ (Nat.zero_le _) (by repeat (first | exact Env.le_nil _ | refine Env.le_cons rfl ?_)) (fun _ _=>rfl) rfl
    rintro⟨j⟩ hj
    simp only at hj ⊢
    refine awp_step dr0 (by decide +kernel) ?_
    simp only[go_sem]
    refine awp_step dr0 (by decide +kernel) ?_
    simp only[go_sem]
    refine⟨fun hlt=>?_,fun hlt=>?_⟩
    · have hlt':j<code.length:=by omega
      refine awp_ev dr0 (by decide +kernel) ?_
      simp only[go_sem]
      rcases hc with ⟨rfl,rfl⟩ | ⟨su,b,o,c,blk,rfl,h0,h1,h2,h3⟩
      · simp at hlt'
      have hbn:=(wf b _ h1).1
      have hbb:boH H n (codeS at_ code fill j) b=some blk:=by unfold boH; rw[Heap.upd_ne _ _ (by omega),Heap.upd_ne _ _ (by omega)]; exact h1
      refine ixB_vw hlt' ?_
      obtain⟨q1,q2⟩:=cells_at h2 h3 hlt'
      simp only[go_sem,hbb,q1,q2,true_and]
      simp only[go_sem,boH]
      have e1:(wrap64 ((j:Int)+1))=((j+1:Nat):Int):=by rw[wrap_id _ (by omega) (by omega)]; omega
      have e2:BitVec.ofInt 16 (j:Int)=BitVec.ofNat 16 j:=rfl
      rw[e2]
      have ha:=(at_+BitVec.ofNat 16 j).isLt
      refine⟨by omega,by rw[List.length_map,memL_len]; omega,?_⟩
      have e3:(List.map AV.u8 (memL (codeS at_ code fill j))).set (at_+BitVec.ofNat 16 j).toNat (AV.u8 (code.getD j 0#8))=(memL (codeS at_ code fill (j+1))).map .u8:=by
        rw[← List.map_set,memL_set]; rfl
      rw[e1,e3]
      refine Ends.mk (⟨j+1⟩:BoS) ⟨by simp only; omega,by simp only; omega⟩ (by repeat (first | exact Env.le_nil _ | refine Env.le_cons rfl ?_)) (fun i _=>?_) (Nat.le_refl _) (Nat.le_refl _)
      simp only[Heap.upd]
      by_cases h1:i=n
      · subst h1; simp
      · simp[h1]
    · have hj3:j=code.length:=by omega
      subst hj3
      refine awp_ev dr0 (by decide +kernel) ?_
      simp only[go_sem]
      refine Fin.keep (h (n+1) _ _ (fun i=>i=n∨i=n+1) (boH_wf wf _) (by omega) ⟨n,.sn,memL_len _,?_,?_,.inl ⟨rfl,rfl⟩,by omega,.inr rfl,.inl rfl,fun i hi=>by rcases hi with h | h <;> omega⟩ (fun i hi=>by rcases hi with h | h <;> omega) (fun i hi=>?_))
      · unfold boH; rw[Heap.upd_same]
      · unfold boH; rw[Heap.upd_ne _ _ (by omega),Heap.upd_same]; rfl
      · unfold boH; rw[Heap.upd_ne _ _ (by omega),Heap.upd_ne _ _ (by omega)]
end Go.Proofs.Joy
