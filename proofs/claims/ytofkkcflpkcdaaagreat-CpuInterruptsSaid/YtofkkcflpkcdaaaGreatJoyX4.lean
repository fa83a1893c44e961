/- Parts of the proof: contracts of the seat's functions. -/
import Derived.Test.YtofkkcflpkcdaaaGreatJoyX3
import Derived.Test.YtofkkcflpkcdaaaGreatJoyW1
import Derived.Test.YtofkkcflpkcdaaaGreatJoyX2
set_option linter.unusedSimpArgs false
set_option linter.unusedVariables false
set_option linter.unnecessarySimpa false
namespace Go.Proofs.Joy
open Go.Ab Go.Proofs
set_option maxHeartbeats 2000000
set_option maxRecDepth 20000
structure FlAt (b:Nat) (s:Bx) (H:Heap) (n:Nat) (F:Nat→Prop) (m:Nat) (L A:AV) (k:Nat) (ac:List AV):Prop where
  len:s.mem.length=65536
  blk:H b=some ⟨[.sl m 0 65536 65536,.pn,L,.bo false,.u8 0#8,A],43,false⟩
  mem:H m=some ⟨s.mem.map .u8,5,false⟩
  log:(s.log=[]∧L=.sn)∨∃q,L=.su q 0 s.log.length 1∧H q=some ⟨s.log.map .i64,3,false⟩∧q≠b∧q≠m∧F q
  kle:k≤s.log.length
  acl:ac.length=k*4
  aok:∀v∈ac,∀n,v.ok n=true
  asks:(k=0∧A=.sn)∨∃q,A=.su q 0 k 4∧H q=some ⟨ac,170,false⟩∧q≠b∧q≠m∧F q
  bm:b≠m
  fb:F b
  fm:F m
  low:∀i,F i→i<n
def flRep (b:Nat) (s:Bx) (H:Heap) (n:Nat) (F:Nat→Prop):Prop:=∃m L A k ac,FlAt b s H n F m L A k ac
theorem fl_stable {b:Nat} {s:Bx} {H:Heap} {n:Nat} {F:Nat→Prop} {H':Heap} {n':Nat} (h:flRep b s H n F) (he:∀i,F i→H' i=H i) (hn:n≤n'):flRep b s H' n' F:=by
  obtain⟨m,L,A,k,ac,h⟩:=h
  refine⟨m,L,A,k,ac,h.len,by rw[he _ h.fb]; exact h.blk,by rw[he _ h.fm]; exact h.mem,?_,h.kle,h.acl,h.aok,?_,h.bm,h.fb,h.fm,fun i hi=>Nat.lt_of_lt_of_le (h.low i hi) hn⟩
  · rcases h.log with h1 | ⟨q,h1,h2,h3,h4,h5⟩
    · exact .inl h1
    · exact .inr ⟨q,h1,by rw[he _ h5]; exact h2,h3,h4,h5⟩
  · rcases h.asks with h1 | ⟨q,h1,h2,h3,h4,h5⟩
    · exact .inl h1
    · exact .inr ⟨q,h1,by rw[he _ h5]; exact h2,h3,h4,h5⟩
theorem sp4 (a b c d a' b' c' d':AV):splice (repCells 1 [a',b',c',d']) 0 [a,b,c,d]=[a,b,c,d]:=rfl
theorem oks_app' {a b:List AV} (h1:∀v∈a,∀n,v.ok n=true) (h2:∀v∈b,∀n,v.ok n=true):∀v∈a++b,∀n,v.ok n=true:=fun v hv=>(List.mem_append.1 hv).elim (h1 v) (h2 v)
theorem FlAt.blkok {b:Nat} {s:Bx} {H:Heap} {n:Nat} {F:Nat→Prop} {m:Nat} {L A:AV} {k:Nat} {ac:List AV} (hB:FlAt b s H n F m L A k ac) (wf:H.wf n):L.ok n=true∧A.ok n=true:=by
  have h:=(wf _ _ hB.blk).2
  exact⟨h L (by simp),h A (by simp)⟩
theorem oks_app {a b:List AV} {n:Nat} (h1:∀v∈a,v.ok n=true) (h2:∀v∈b,v.ok n=true):∀v∈a++b,v.ok n=true:=fun v hv=>(List.mem_append.1 hv).elim (h1 v) (h2 v)
theorem fl_read {b:Nat} {s:Bx} {a:BitVec 16} {H:Heap} {n:Nat} {F:Nat→Prop} {K:AV→Heap→Nat→Prop} (hl:1≤bxLeft s) (hr:flRep b s H n F) (h:∀H' n' F',H'.wf n'→n≤n'→flRep b (bxO.rd s a).2 H' n' F'→(∀i,F' i→F i∨n≤i)→(∀i,i<n→¬F i→H' i=H i)→K (.u8 (bxO.rd s a).1) H' n'):ACalls Tryz.prog 66 [.pt b 0,.u16 a] H n K:=by
  refine ACalls.of_awp Tryz.func66 rfl (by decide +kernel) (show 2≤34 by decide) (by simp) fun wf=>?_
  obtain⟨m,L,A,k,ac,hB⟩:=hr
  have hb:=hB.blk
  have hm:=hB.mem
  have lb:=hB.low b hB.fb
  have lm:=hB.low m hB.fm
  have hbm:=hB.bm
  have hlen:=hB.len
  have hacl:=hB.acl
  have hkle:=hB.kle
  unfold bxLeft at hl
  rcases hB.log with ⟨hl0,rfl⟩ | ⟨q,rfl,hq,h3,h4,h5⟩
  · have en_b:=fun X Y=>Heap.upd_ne X (i:=n) (j:=b) Y (by omega)
    have en1_b:=fun X Y=>Heap.upd_ne X (i:=n+1) (j:=b) Y (by omega)
    have em_b:=fun X Y=>Heap.upd_ne X (i:=m) (j:=b) Y (by omega)
    have en_m:=fun X Y=>Heap.upd_ne X (i:=n) (j:=m) Y (by omega)
    have en1_m:=fun X Y=>Heap.upd_ne X (i:=n+1) (j:=m) Y (by omega)
    have eb_m:=fun X Y=>Heap.upd_ne X (i:=b) (j:=m) Y (by omega)
    have eb_n:=fun X Y=>Heap.upd_ne X (i:=b) (j:=n) Y (by omega)
    have em_n:=fun X Y=>Heap.upd_ne X (i:=m) (j:=n) Y (by omega)
    have en1_n:=fun X Y=>Heap.upd_ne X (i:=n+1) (j:=n) Y (by omega)
    have eb_n1:=fun X Y=>Heap.upd_ne X (i:=b) (j:=n+1) Y (by omega)
    have em_n1:=fun X Y=>Heap.upd_ne X (i:=m) (j:=n+1) Y (by omega)
    have en_n1:=fun X Y=>Heap.upd_ne X (i:=n) (j:=n+1) Y (by omega)
    refine awp_ev dr0 (by decide +kernel) ?_
    simp only[go_sem,Tryz.f66,hb,hm,en_b,en1_b,em_b,en_m,en1_m,eb_m,eb_n,em_n,en1_n,eb_n1,em_n1,en_n1,sp4]
    have ha:a.toNat<s.mem.length:=by rw[hlen]; exact a.isLt
    have ha2:=a.isLt
    rw[u8_getD ha]
    refine⟨by first | omega | (rw[List.length_map]; omega) | (rw[List.length_map]; exact ha) | decide | (exact Nat.le_refl _) | simp,by first | omega | (rw[List.length_map]; omega) | (rw[List.length_map]; exact ha) | decide | (exact Nat.le_refl _) | simp,by first | omega | (rw[List.length_map]; omega) | (rw[List.length_map]; exact ha) | decide | (exact Nat.le_refl _) | simp,Fin.keep (h _ _ (fun i=>F i∨i=n+1) ?_ (by omega) ⟨m,.su (n+1) 0 (s.log.length+1) 1,A,k,ac,by first | exact hlen | (show _=_; exact hlen),by simp only[Heap.upd_same,en_b,en1_b,em_b,en_m,en1_m,eb_m,eb_n,em_n,en1_n,eb_n1,em_n1,en_n1] <;> simp[bxO,hl0],by simp only[Heap.upd_same,en_b,en1_b,em_b,en_m,en1_m,eb_m,eb_n,em_n,en1_n,eb_n1,em_n1,en_n1]; first | exact hm | (show _=some (⟨(s.mem.set _ _).map .u8,_,_⟩:Blk); rw[List.map_set]),.inr ⟨n+1,by simp[bxO,hl0],by simp only[Heap.upd_same,en_b,en1_b,em_b,en_m,en1_m,eb_m,eb_n,em_n,en1_n,eb_n1,em_n1,en_n1] <;> simp[bxO,hl0],by omega,by omega,.inr rfl⟩,by show k≤(s.log++[_]).length; rw[List.length_append]; omega,hacl,hB.aok,?_,hbm,.inl hB.fb,.inl hB.fm,fun i hi=>?_⟩ (fun i hi=>?_) (fun i hi hF=>?_))⟩
    · repeat' first
        | exact wf
        | refine Heap.wf_upd ?_ ?_
        | refine Heap.wf_upd_none ?_
        | refine Heap.wf_set ?_ (by omega) ?_
      all_goals first | (simp[AV.ok]; done) | (simp[AV.ok]; omega) | exact oks_app (i64s_ok _ _) (by simp[AV.ok]) | exact oks_app (fun v hv=>hB.aok v hv _) (by simp[AV.ok]) | (rw[← List.map_set]; exact u8s_ok _ _) | (have q1:=AV.ok_mono (show n≤n+2 by omega) _ (hB.blkok wf).1; have q2:=AV.ok_mono (show n≤n+2 by omega) _ (hB.blkok wf).2; simp[AV.ok,q1,q2] <;> omega) | (have q1:=AV.ok_mono (show n≤n+4 by omega) _ (hB.blkok wf).1; have q2:=AV.ok_mono (show n≤n+4 by omega) _ (hB.blkok wf).2; simp[AV.ok,q1,q2] <;> omega)
    · rcases hB.asks with h1 | ⟨p',h1,hp,g3,g4,g5⟩
      · exact .inl h1
      · have lp:=hB.low p' g5
        refine .inr ⟨p',h1,?_,g3,g4,.inl g5⟩
        repeat (rw[Heap.upd_ne _ _ (by omega)])
        exact hp
    · rcases hi with h | h
      · have:=hB.low i h; omega
      · omega
    · rcases hi with h | h
      · exact .inl h
      · exact .inr (by omega)
    · have hib:i≠b:=fun e=>hF (e▸hB.fb)
      have him:i≠m:=fun e=>hF (e▸hB.fm)
      repeat (rw[Heap.upd_ne _ _ (by omega)])
  · have lq:=hB.low q h5
    have en_b:=fun X Y=>Heap.upd_ne X (i:=n) (j:=b) Y (by omega)
    have en1_b:=fun X Y=>Heap.upd_ne X (i:=n+1) (j:=b) Y (by omega)
    have em_b:=fun X Y=>Heap.upd_ne X (i:=m) (j:=b) Y (by omega)
    have eq_b:=fun X Y=>Heap.upd_ne X (i:=q) (j:=b) Y (by omega)
    have en_m:=fun X Y=>Heap.upd_ne X (i:=n) (j:=m) Y (by omega)
    have en1_m:=fun X Y=>Heap.upd_ne X (i:=n+1) (j:=m) Y (by omega)
    have eb_m:=fun X Y=>Heap.upd_ne X (i:=b) (j:=m) Y (by omega)
    have eq_m:=fun X Y=>Heap.upd_ne X (i:=q) (j:=m) Y (by omega)
    have en_q:=fun X Y=>Heap.upd_ne X (i:=n) (j:=q) Y (by omega)
    have en1_q:=fun X Y=>Heap.upd_ne X (i:=n+1) (j:=q) Y (by omega)
    have eb_q:=fun X Y=>Heap.upd_ne X (i:=b) (j:=q) Y (by omega)
    have em_q:=fun X Y=>Heap.upd_ne X (i:=m) (j:=q) Y (by omega)
    have eb_n:=fun X Y=>Heap.upd_ne X (i:=b) (j:=n) Y (by omega)
    have em_n:=fun X Y=>Heap.upd_ne X (i:=m) (j:=n) Y (by omega)
    have eq_n:=fun X Y=>Heap.upd_ne X (i:=q) (j:=n) Y (by omega)
    have en1_n:=fun X Y=>Heap.upd_ne X (i:=n+1) (j:=n) Y (by omega)
    have eb_n1:=fun X Y=>Heap.upd_ne X (i:=b) (j:=n+1) Y (by omega)
    have em_n1:=fun X Y=>Heap.upd_ne X (i:=m) (j:=n+1) Y (by omega)
    have eq_n1:=fun X Y=>Heap.upd_ne X (i:=q) (j:=n+1) Y (by omega)
    have en_n1:=fun X Y=>Heap.upd_ne X (i:=n) (j:=n+1) Y (by omega)
    refine awp_ev dr0 (by decide +kernel) ?_
    simp only[go_sem,Tryz.f66,hb,hm,hq,en_b,en1_b,em_b,eq_b,en_m,en1_m,eb_m,eq_m,en_q,en1_q,eb_q,em_q,eb_n,em_n,eq_n,en1_n,eb_n1,em_n1,eq_n1,en_n1,sp4]
    have ha:a.toNat<s.mem.length:=by rw[hlen]; exact a.isLt
    have ha2:=a.isLt
    rw[u8_getD ha]
    try rw[List.take_of_length_le (l:=s.log.map AV.i64) (by rw[List.length_map]; exact Nat.le_refl _)]
    refine⟨by first | omega | (rw[List.length_map]; omega) | (rw[List.length_map]; exact ha) | decide | (exact Nat.le_refl _) | simp,by first | omega | (rw[List.length_map]; omega) | (rw[List.length_map]; exact ha) | decide | (exact Nat.le_refl _) | simp,by first | omega | (rw[List.length_map]; omega) | (rw[List.length_map]; exact ha) | decide | (exact Nat.le_refl _) | simp,by first | omega | (rw[List.length_map]; omega) | (rw[List.length_map]; exact ha) | decide | (exact Nat.le_refl _) | simp,by first | omega | (rw[List.length_map]; omega) | (rw[List.length_map]; exact ha) | decide | (exact Nat.le_refl _) | simp,Fin.keep (h _ _ (fun i=>F i∨i=n+1) ?_ (by omega) ⟨m,.su (n+1) 0 (s.log.length+1) 1,A,k,ac,by first | exact hlen | (show _=_; exact hlen),by simp only[Heap.upd_same,en_b,en1_b,em_b,eq_b,en_m,en1_m,eb_m,eq_m,en_q,en1_q,eb_q,em_q,eb_n,em_n,eq_n,en1_n,eb_n1,em_n1,eq_n1,en_n1] <;> simp[bxO],by simp only[Heap.upd_same,en_b,en1_b,em_b,eq_b,en_m,en1_m,eb_m,eq_m,en_q,en1_q,eb_q,em_q,eb_n,em_n,eq_n,en1_n,eb_n1,em_n1,eq_n1,en_n1]; first | exact hm | (show _=some (⟨(s.mem.set _ _).map .u8,_,_⟩:Blk); rw[List.map_set]),.inr ⟨n+1,by simp[bxO],by simp only[Heap.upd_same,en_b,en1_b,em_b,eq_b,en_m,en1_m,eb_m,eq_m,en_q,en1_q,eb_q,em_q,eb_n,em_n,eq_n,en1_n,eb_n1,em_n1,eq_n1,en_n1] <;> simp[bxO],by omega,by omega,.inr rfl⟩,by show k≤(s.log++[_]).length; rw[List.length_append]; omega,hacl,hB.aok,?_,hbm,.inl hB.fb,.inl hB.fm,fun i hi=>?_⟩ (fun i hi=>?_) (fun i hi hF=>?_))⟩
    · repeat' first
        | exact wf
        | refine Heap.wf_upd ?_ ?_
        | refine Heap.wf_upd_none ?_
        | refine Heap.wf_set ?_ (by omega) ?_
      all_goals first | (simp[AV.ok]; done) | (simp[AV.ok]; omega) | exact oks_app (i64s_ok _ _) (by simp[AV.ok]) | exact oks_app (fun v hv=>hB.aok v hv _) (by simp[AV.ok]) | (rw[← List.map_set]; exact u8s_ok _ _) | (have q1:=AV.ok_mono (show n≤n+2 by omega) _ (hB.blkok wf).1; have q2:=AV.ok_mono (show n≤n+2 by omega) _ (hB.blkok wf).2; simp[AV.ok,q1,q2] <;> omega) | (have q1:=AV.ok_mono (show n≤n+4 by omega) _ (hB.blkok wf).1; have q2:=AV.ok_mono (show n≤n+4 by omega) _ (hB.blkok wf).2; simp[AV.ok,q1,q2] <;> omega)
    · rcases hB.asks with h1 | ⟨p',h1,hp,g3,g4,g5⟩
      · exact .inl h1
      · have lp:=hB.low p' g5
        have hqp:p'≠q:=fun e=>by subst e; rw[hq] at hp; simp at hp
        refine .inr ⟨p',h1,?_,g3,g4,.inl g5⟩
        repeat (rw[Heap.upd_ne _ _ (by omega)])
        exact hp
    · rcases hi with h | h
      · have:=hB.low i h; omega
      · omega
    · rcases hi with h | h
      · exact .inl h
      · exact .inr (by omega)
    · have hib:i≠b:=fun e=>hF (e▸hB.fb)
      have him:i≠m:=fun e=>hF (e▸hB.fm)
      have hiq:i≠q:=fun e=>hF (e▸h5)
      repeat (rw[Heap.upd_ne _ _ (by omega)])
theorem fl_write {b:Nat} {s:Bx} {a:BitVec 16} {x:BitVec 8} {H:Heap} {n:Nat} {F:Nat→Prop} {K:AV→Heap→Nat→Prop} (hl:1≤bxLeft s) (hr:flRep b s H n F) (h:∀H' n' F',H'.wf n'→n≤n'→flRep b (bxO.wr s a x) H' n' F'→(∀i,F' i→F i∨n≤i)→(∀i,i<n→¬F i→H' i=H i)→K (.tu []) H' n'):ACalls Tryz.prog 89 [.pt b 0,.u16 a,.u8 x] H n K:=by
  refine ACalls.of_awp Tryz.func89 rfl (by decide +kernel) (show 3≤45 by decide) (by simp) fun wf=>?_
  obtain⟨m,L,A,k,ac,hB⟩:=hr
  have hb:=hB.blk
  have hm:=hB.mem
  have lb:=hB.low b hB.fb
  have lm:=hB.low m hB.fm
  have hbm:=hB.bm
  have hlen:=hB.len
  have hacl:=hB.acl
  have hkle:=hB.kle
  unfold bxLeft at hl
  rcases hB.log with ⟨hl0,rfl⟩ | ⟨q,rfl,hq,h3,h4,h5⟩
  · have en_b:=fun X Y=>Heap.upd_ne X (i:=n) (j:=b) Y (by omega)
    have en1_b:=fun X Y=>Heap.upd_ne X (i:=n+1) (j:=b) Y (by omega)
    have em_b:=fun X Y=>Heap.upd_ne X (i:=m) (j:=b) Y (by omega)
    have en_m:=fun X Y=>Heap.upd_ne X (i:=n) (j:=m) Y (by omega)
    have en1_m:=fun X Y=>Heap.upd_ne X (i:=n+1) (j:=m) Y (by omega)
    have eb_m:=fun X Y=>Heap.upd_ne X (i:=b) (j:=m) Y (by omega)
    have eb_n:=fun X Y=>Heap.upd_ne X (i:=b) (j:=n) Y (by omega)
    have em_n:=fun X Y=>Heap.upd_ne X (i:=m) (j:=n) Y (by omega)
    have en1_n:=fun X Y=>Heap.upd_ne X (i:=n+1) (j:=n) Y (by omega)
    have eb_n1:=fun X Y=>Heap.upd_ne X (i:=b) (j:=n+1) Y (by omega)
    have em_n1:=fun X Y=>Heap.upd_ne X (i:=m) (j:=n+1) Y (by omega)
    have en_n1:=fun X Y=>Heap.upd_ne X (i:=n) (j:=n+1) Y (by omega)
    refine awp_ev dr0 (by decide +kernel) ?_
    simp only[go_sem,Tryz.f89,hb,hm,en_b,en1_b,em_b,en_m,en1_m,eb_m,eb_n,em_n,en1_n,eb_n1,em_n1,en_n1,sp4]
    have ha:a.toNat<s.mem.length:=by rw[hlen]; exact a.isLt
    have ha2:=a.isLt
    refine⟨by first | omega | (rw[List.length_map]; omega) | (rw[List.length_map]; exact ha) | decide | (exact Nat.le_refl _) | simp,by first | omega | (rw[List.length_map]; omega) | (rw[List.length_map]; exact ha) | decide | (exact Nat.le_refl _) | simp,Fin.keep (h _ _ (fun i=>F i∨i=n+1) ?_ (by omega) ⟨m,.su (n+1) 0 (s.log.length+1) 1,A,k,ac,by first | exact hlen | (show(s.mem.set _ _).length=_; rw[List.length_set]; exact hlen),by simp only[Heap.upd_same,en_b,en1_b,em_b,en_m,en1_m,eb_m,eb_n,em_n,en1_n,eb_n1,em_n1,en_n1] <;> simp[bxO,hl0],by simp only[Heap.upd_same,en_b,en1_b,em_b,en_m,en1_m,eb_m,eb_n,em_n,en1_n,eb_n1,em_n1,en_n1]; first | exact hm | (show _=some (⟨(s.mem.set _ _).map .u8,_,_⟩:Blk); rw[List.map_set]),.inr ⟨n+1,by simp[bxO,hl0],by simp only[Heap.upd_same,en_b,en1_b,em_b,en_m,en1_m,eb_m,eb_n,em_n,en1_n,eb_n1,em_n1,en_n1] <;> simp[bxO,hl0],by omega,by omega,.inr rfl⟩,by show k≤(s.log++[_]).length; rw[List.length_append]; omega,hacl,hB.aok,?_,hbm,.inl hB.fb,.inl hB.fm,fun i hi=>?_⟩ (fun i hi=>?_) (fun i hi hF=>?_))⟩
    · repeat' first
        | exact wf
        | refine Heap.wf_upd ?_ ?_
        | refine Heap.wf_upd_none ?_
        | refine Heap.wf_set ?_ (by omega) ?_
      all_goals first | (simp[AV.ok]; done) | (simp[AV.ok]; omega) | exact oks_app (i64s_ok _ _) (by simp[AV.ok]) | exact oks_app (fun v hv=>hB.aok v hv _) (by simp[AV.ok]) | (rw[← List.map_set]; exact u8s_ok _ _) | (have q1:=AV.ok_mono (show n≤n+2 by omega) _ (hB.blkok wf).1; have q2:=AV.ok_mono (show n≤n+2 by omega) _ (hB.blkok wf).2; simp[AV.ok,q1,q2] <;> omega) | (have q1:=AV.ok_mono (show n≤n+4 by omega) _ (hB.blkok wf).1; have q2:=AV.ok_mono (show n≤n+4 by omega) _ (hB.blkok wf).2; simp[AV.ok,q1,q2] <;> omega)
    · rcases hB.asks with h1 | ⟨p',h1,hp,g3,g4,g5⟩
      · exact .inl h1
      · have lp:=hB.low p' g5
        refine .inr ⟨p',h1,?_,g3,g4,.inl g5⟩
        repeat (rw[Heap.upd_ne _ _ (by omega)])
        exact hp
    · rcases hi with h | h
      · have:=hB.low i h; omega
      · omega
    · rcases hi with h | h
      · exact .inl h
      · exact .inr (by omega)
    · have hib:i≠b:=fun e=>hF (e▸hB.fb)
      have him:i≠m:=fun e=>hF (e▸hB.fm)
      repeat (rw[Heap.upd_ne _ _ (by omega)])
  · have lq:=hB.low q h5
    have en_b:=fun X Y=>Heap.upd_ne X (i:=n) (j:=b) Y (by omega)
    have en1_b:=fun X Y=>Heap.upd_ne X (i:=n+1) (j:=b) Y (by omega)
    have em_b:=fun X Y=>Heap.upd_ne X (i:=m) (j:=b) Y (by omega)
    have eq_b:=fun X Y=>Heap.upd_ne X (i:=q) (j:=b) Y (by omega)
    have en_m:=fun X Y=>Heap.upd_ne X (i:=n) (j:=m) Y (by omega)
    have en1_m:=fun X Y=>Heap.upd_ne X (i:=n+1) (j:=m) Y (by omega)
    have eb_m:=fun X Y=>Heap.upd_ne X (i:=b) (j:=m) Y (by omega)
    have eq_m:=fun X Y=>Heap.upd_ne X (i:=q) (j:=m) Y (by omega)
    have en_q:=fun X Y=>Heap.upd_ne X (i:=n) (j:=q) Y (by omega)
    have en1_q:=fun X Y=>Heap.upd_ne X (i:=n+1) (j:=q) Y (by omega)
    have eb_q:=fun X Y=>Heap.upd_ne X (i:=b) (j:=q) Y (by omega)
    have em_q:=fun X Y=>Heap.upd_ne X (i:=m) (j:=q) Y (by omega)
    have eb_n:=fun X Y=>Heap.upd_ne X (i:=b) (j:=n) Y (by omega)
    have em_n:=fun X Y=>Heap.upd_ne X (i:=m) (j:=n) Y (by omega)
    have eq_n:=fun X Y=>Heap.upd_ne X (i:=q) (j:=n) Y (by omega)
    have en1_n:=fun X Y=>Heap.upd_ne X (i:=n+1) (j:=n) Y (by omega)
    have eb_n1:=fun X Y=>Heap.upd_ne X (i:=b) (j:=n+1) Y (by omega)
    have em_n1:=fun X Y=>Heap.upd_ne X (i:=m) (j:=n+1) Y (by omega)
    have eq_n1:=fun X Y=>Heap.upd_ne X (i:=q) (j:=n+1) Y (by omega)
    have en_n1:=fun X Y=>Heap.upd_ne X (i:=n) (j:=n+1) Y (by omega)
    refine awp_ev dr0 (by decide +kernel) ?_
    simp only[go_sem,Tryz.f89,hb,hm,hq,en_b,en1_b,em_b,eq_b,en_m,en1_m,eb_m,eq_m,en_q,en1_q,eb_q,em_q,eb_n,em_n,eq_n,en1_n,eb_n1,em_n1,eq_n1,en_n1,sp4]
    have ha:a.toNat<s.mem.length:=by rw[hlen]; exact a.isLt
    have ha2:=a.isLt
    try rw[List.take_of_length_le (l:=s.log.map AV.i64) (by rw[List.length_map]; exact Nat.le_refl _)]
    refine⟨by first | omega | (rw[List.length_map]; omega) | (rw[List.length_map]; exact ha) | decide | (exact Nat.le_refl _) | simp,by first | omega | (rw[List.length_map]; omega) | (rw[List.length_map]; exact ha) | decide | (exact Nat.le_refl _) | simp,by first | omega | (rw[List.length_map]; omega) | (rw[List.length_map]; exact ha) | decide | (exact Nat.le_refl _) | simp,by first | omega | (rw[List.length_map]; omega) | (rw[List.length_map]; exact ha) | decide | (exact Nat.le_refl _) | simp,Fin.keep (h _ _ (fun i=>F i∨i=n+1) ?_ (by omega) ⟨m,.su (n+1) 0 (s.log.length+1) 1,A,k,ac,by first | exact hlen | (show(s.mem.set _ _).length=_; rw[List.length_set]; exact hlen),by simp only[Heap.upd_same,en_b,en1_b,em_b,eq_b,en_m,en1_m,eb_m,eq_m,en_q,en1_q,eb_q,em_q,eb_n,em_n,eq_n,en1_n,eb_n1,em_n1,eq_n1,en_n1] <;> simp[bxO],by simp only[Heap.upd_same,en_b,en1_b,em_b,eq_b,en_m,en1_m,eb_m,eq_m,en_q,en1_q,eb_q,em_q,eb_n,em_n,eq_n,en1_n,eb_n1,em_n1,eq_n1,en_n1]; first | exact hm | (show _=some (⟨(s.mem.set _ _).map .u8,_,_⟩:Blk); rw[List.map_set]),.inr ⟨n+1,by simp[bxO],by simp only[Heap.upd_same,en_b,en1_b,em_b,eq_b,en_m,en1_m,eb_m,eq_m,en_q,en1_q,eb_q,em_q,eb_n,em_n,eq_n,en1_n,eb_n1,em_n1,eq_n1,en_n1] <;> simp[bxO],by omega,by omega,.inr rfl⟩,by show k≤(s.log++[_]).length; rw[List.length_append]; omega,hacl,hB.aok,?_,hbm,.inl hB.fb,.inl hB.fm,fun i hi=>?_⟩ (fun i hi=>?_) (fun i hi hF=>?_))⟩
    · repeat' first
        | exact wf
        | refine Heap.wf_upd ?_ ?_
        | refine Heap.wf_upd_none ?_
        | refine Heap.wf_set ?_ (by omega) ?_
      all_goals first | (simp[AV.ok]; done) | (simp[AV.ok]; omega) | exact oks_app (i64s_ok _ _) (by simp[AV.ok]) | exact oks_app (fun v hv=>hB.aok v hv _) (by simp[AV.ok]) | (rw[← List.map_set]; exact u8s_ok _ _) | (have q1:=AV.ok_mono (show n≤n+2 by omega) _ (hB.blkok wf).1; have q2:=AV.ok_mono (show n≤n+2 by omega) _ (hB.blkok wf).2; simp[AV.ok,q1,q2] <;> omega) | (have q1:=AV.ok_mono (show n≤n+4 by omega) _ (hB.blkok wf).1; have q2:=AV.ok_mono (show n≤n+4 by omega) _ (hB.blkok wf).2; simp[AV.ok,q1,q2] <;> omega)
    · rcases hB.asks with h1 | ⟨p',h1,hp,g3,g4,g5⟩
      · exact .inl h1
      · have lp:=hB.low p' g5
        have hqp:p'≠q:=fun e=>by subst e; rw[hq] at hp; simp at hp
        refine .inr ⟨p',h1,?_,g3,g4,.inl g5⟩
        repeat (rw[Heap.upd_ne _ _ (by omega)])
        exact hp
    · rcases hi with h | h
      · have:=hB.low i h; omega
      · omega
    · rcases hi with h | h
      · exact .inl h
      · exact .inr (by omega)
    · have hib:i≠b:=fun e=>hF (e▸hB.fb)
      have him:i≠m:=fun e=>hF (e▸hB.fm)
      have hiq:i≠q:=fun e=>hF (e▸h5)
      repeat (rw[Heap.upd_ne _ _ (by omega)])
theorem fl_inp {b:Nat} {s:Bx} {p:BitVec 16} {u:Int} {H:Heap} {n:Nat} {F:Nat→Prop} {K:AV→Heap→Nat→Prop} (hu:0≤u∧u≤100) (hl:1≤bxLeft s) (hr:flRep b s H n F) (h:∀H' n' F',H'.wf n'→n≤n'→flRep b (bxO.inp s p u).2 H' n' F'→(∀i,F' i→F i∨n≤i)→(∀i,i<n→¬F i→H' i=H i)→K (.u8 (bxO.inp s p u).1) H' n'):ACalls Tryz.prog 145 [.pt b 0,.u16 p,.i64 u] H n K:=by
  refine ACalls.of_awp Tryz.func145 rfl (by decide +kernel) (show 3≤54 by decide) (by simp) fun wf=>?_
  obtain⟨m,L,A,k,ac,hB⟩:=hr
  have hb:=hB.blk
  have hm:=hB.mem
  have lb:=hB.low b hB.fb
  have lm:=hB.low m hB.fm
  have hbm:=hB.bm
  have hlen:=hB.len
  have hacl:=hB.acl
  have hkle:=hB.kle
  unfold bxLeft at hl
  rcases hB.log with ⟨hl0,rfl⟩ | ⟨q,rfl,hq,h3,h4,h5⟩
  · rcases hB.asks with ⟨hk0,rfl⟩ | ⟨p',rfl,hp,g3,g4,g5⟩
    · have en_b:=fun X Y=>Heap.upd_ne X (i:=n) (j:=b) Y (by omega)
      have en1_b:=fun X Y=>Heap.upd_ne X (i:=n+1) (j:=b) Y (by omega)
      have en2_b:=fun X Y=>Heap.upd_ne X (i:=n+2) (j:=b) Y (by omega)
      have en3_b:=fun X Y=>Heap.upd_ne X (i:=n+3) (j:=b) Y (by omega)
      have em_b:=fun X Y=>Heap.upd_ne X (i:=m) (j:=b) Y (by omega)
      have en_m:=fun X Y=>Heap.upd_ne X (i:=n) (j:=m) Y (by omega)
      have en1_m:=fun X Y=>Heap.upd_ne X (i:=n+1) (j:=m) Y (by omega)
      have en2_m:=fun X Y=>Heap.upd_ne X (i:=n+2) (j:=m) Y (by omega)
      have en3_m:=fun X Y=>Heap.upd_ne X (i:=n+3) (j:=m) Y (by omega)
      have eb_m:=fun X Y=>Heap.upd_ne X (i:=b) (j:=m) Y (by omega)
      have eb_n:=fun X Y=>Heap.upd_ne X (i:=b) (j:=n) Y (by omega)
      have em_n:=fun X Y=>Heap.upd_ne X (i:=m) (j:=n) Y (by omega)
      have en1_n:=fun X Y=>Heap.upd_ne X (i:=n+1) (j:=n) Y (by omega)
      have en2_n:=fun X Y=>Heap.upd_ne X (i:=n+2) (j:=n) Y (by omega)
      have en3_n:=fun X Y=>Heap.upd_ne X (i:=n+3) (j:=n) Y (by omega)
      have eb_n1:=fun X Y=>Heap.upd_ne X (i:=b) (j:=n+1) Y (by omega)
      have em_n1:=fun X Y=>Heap.upd_ne X (i:=m) (j:=n+1) Y (by omega)
      have en_n1:=fun X Y=>Heap.upd_ne X (i:=n) (j:=n+1) Y (by omega)
      have en2_n1:=fun X Y=>Heap.upd_ne X (i:=n+2) (j:=n+1) Y (by omega)
      have en3_n1:=fun X Y=>Heap.upd_ne X (i:=n+3) (j:=n+1) Y (by omega)
      have eb_n2:=fun X Y=>Heap.upd_ne X (i:=b) (j:=n+2) Y (by omega)
      have em_n2:=fun X Y=>Heap.upd_ne X (i:=m) (j:=n+2) Y (by omega)
      have en_n2:=fun X Y=>Heap.upd_ne X (i:=n) (j:=n+2) Y (by omega)
      have en1_n2:=fun X Y=>Heap.upd_ne X (i:=n+1) (j:=n+2) Y (by omega)
      have en3_n2:=fun X Y=>Heap.upd_ne X (i:=n+3) (j:=n+2) Y (by omega)
      have eb_n3:=fun X Y=>Heap.upd_ne X (i:=b) (j:=n+3) Y (by omega)
      have em_n3:=fun X Y=>Heap.upd_ne X (i:=m) (j:=n+3) Y (by omega)
      have en_n3:=fun X Y=>Heap.upd_ne X (i:=n) (j:=n+3) Y (by omega)
      have en1_n3:=fun X Y=>Heap.upd_ne X (i:=n+1) (j:=n+3) Y (by omega)
      have en2_n3:=fun X Y=>Heap.upd_ne X (i:=n+2) (j:=n+3) Y (by omega)
      refine awp_ev dr0 (by decide +kernel) ?_
      simp only[go_sem,Tryz.f145,hb,hm,en_b,en1_b,en2_b,en3_b,em_b,en_m,en1_m,en2_m,en3_m,eb_m,eb_n,em_n,en1_n,en2_n,en3_n,eb_n1,em_n1,en_n1,en2_n1,en3_n1,eb_n2,em_n2,en_n2,en1_n2,en3_n2,eb_n3,em_n3,en_n3,en1_n3,en2_n3,sp4]
      have e13:wrap64 13=wrap64 (((s.log.length+1:Nat):Int)*13):=by rw[hl0]; rfl
      rw[e13]
      subst hk0
      have hac0:ac=[]:=List.length_eq_zero_iff.1 (by omega)
      subst hac0
      refine⟨by first | omega | (rw[List.length_map]; omega) | (rw[List.length_map]; exact ha) | decide | (exact Nat.le_refl _) | simp,Fin.keep (h _ _ (fun i=>F i∨i=n+1∨i=n+3) ?_ (by omega) ⟨m,.su (n+1) 0 (s.log.length+1) 1,.su (n+3) 0 (0+1) 4,0+1,([]:List AV)++[.bo false,.u16 p,.u8 0#8,.i64 u],by first | exact hlen | (show _=_; exact hlen),by simp only[Heap.upd_same,en_b,en1_b,en2_b,en3_b,em_b,en_m,en1_m,en2_m,en3_m,eb_m,eb_n,em_n,en1_n,en2_n,en3_n,eb_n1,em_n1,en_n1,en2_n1,en3_n1,eb_n2,em_n2,en_n2,en1_n2,en3_n2,eb_n3,em_n3,en_n3,en1_n3,en2_n3] <;> simp[bxO,hl0],by simp only[Heap.upd_same,en_b,en1_b,en2_b,en3_b,em_b,en_m,en1_m,en2_m,en3_m,eb_m,eb_n,em_n,en1_n,en2_n,en3_n,eb_n1,em_n1,en_n1,en2_n1,en3_n1,eb_n2,em_n2,en_n2,en1_n2,en3_n2,eb_n3,em_n3,en_n3,en1_n3,en2_n3]; first | exact hm | (show _=some (⟨(s.mem.set _ _).map .u8,_,_⟩:Blk); rw[List.map_set]),.inr ⟨n+1,by simp[bxO,hl0],by simp only[Heap.upd_same,en_b,en1_b,en2_b,en3_b,em_b,en_m,en1_m,en2_m,en3_m,eb_m,eb_n,em_n,en1_n,en2_n,en3_n,eb_n1,em_n1,en_n1,en2_n1,en3_n1,eb_n2,em_n2,en_n2,en1_n2,en3_n2,eb_n3,em_n3,en_n3,en1_n3,en2_n3] <;> simp[bxO,hl0],by omega,by omega,.inr (.inl rfl)⟩,by show 0+1≤(s.log++[_]).length; simp,rfl,by simp[AV.ok],.inr ⟨n+3,rfl,by simp only[Heap.upd_same,en_b,en1_b,en2_b,en3_b,em_b,en_m,en1_m,en2_m,en3_m,eb_m,eb_n,em_n,en1_n,en2_n,en3_n,eb_n1,em_n1,en_n1,en2_n1,en3_n1,eb_n2,em_n2,en_n2,en1_n2,en3_n2,eb_n3,em_n3,en_n3,en1_n3,en2_n3]; rfl,by omega,by omega,.inr (.inr rfl)⟩,hbm,.inl hB.fb,.inl hB.fm,fun i hi=>?_⟩ (fun i hi=>?_) (fun i hi hF=>?_))⟩
      · repeat' first
          | exact wf
          | refine Heap.wf_upd ?_ ?_
          | refine Heap.wf_upd_none ?_
          | refine Heap.wf_set ?_ (by omega) ?_
        all_goals first | (simp[AV.ok]; done) | (simp[AV.ok]; omega) | exact oks_app (i64s_ok _ _) (by simp[AV.ok]) | exact oks_app (fun v hv=>hB.aok v hv _) (by simp[AV.ok]) | (rw[← List.map_set]; exact u8s_ok _ _) | (have q1:=AV.ok_mono (show n≤n+2 by omega) _ (hB.blkok wf).1; have q2:=AV.ok_mono (show n≤n+2 by omega) _ (hB.blkok wf).2; simp[AV.ok,q1,q2] <;> omega) | (have q1:=AV.ok_mono (show n≤n+4 by omega) _ (hB.blkok wf).1; have q2:=AV.ok_mono (show n≤n+4 by omega) _ (hB.blkok wf).2; simp[AV.ok,q1,q2] <;> omega)
      · rcases hi with h | h | h
        · have:=hB.low i h; omega
        · omega
        · omega
      · rcases hi with h | h | h
        · exact .inl h
        · exact .inr (by omega)
        · exact .inr (by omega)
      · have hib:i≠b:=fun e=>hF (e▸hB.fb)
        have him:i≠m:=fun e=>hF (e▸hB.fm)
        repeat (rw[Heap.upd_ne _ _ (by omega)])
    · have lp:=hB.low p' g5
      have en_b:=fun X Y=>Heap.upd_ne X (i:=n) (j:=b) Y (by omega)
      have en1_b:=fun X Y=>Heap.upd_ne X (i:=n+1) (j:=b) Y (by omega)
      have en2_b:=fun X Y=>Heap.upd_ne X (i:=n+2) (j:=b) Y (by omega)
      have en3_b:=fun X Y=>Heap.upd_ne X (i:=n+3) (j:=b) Y (by omega)
      have em_b:=fun X Y=>Heap.upd_ne X (i:=m) (j:=b) Y (by omega)
      have ep_b:=fun X Y=>Heap.upd_ne X (i:=p') (j:=b) Y (by omega)
      have en_m:=fun X Y=>Heap.upd_ne X (i:=n) (j:=m) Y (by omega)
      have en1_m:=fun X Y=>Heap.upd_ne X (i:=n+1) (j:=m) Y (by omega)
      have en2_m:=fun X Y=>Heap.upd_ne X (i:=n+2) (j:=m) Y (by omega)
      have en3_m:=fun X Y=>Heap.upd_ne X (i:=n+3) (j:=m) Y (by omega)
      have eb_m:=fun X Y=>Heap.upd_ne X (i:=b) (j:=m) Y (by omega)
      have ep_m:=fun X Y=>Heap.upd_ne X (i:=p') (j:=m) Y (by omega)
      have en_p':=fun X Y=>Heap.upd_ne X (i:=n) (j:=p') Y (by omega)
      have en1_p':=fun X Y=>Heap.upd_ne X (i:=n+1) (j:=p') Y (by omega)
      have en2_p':=fun X Y=>Heap.upd_ne X (i:=n+2) (j:=p') Y (by omega)
      have en3_p':=fun X Y=>Heap.upd_ne X (i:=n+3) (j:=p') Y (by omega)
      have eb_p':=fun X Y=>Heap.upd_ne X (i:=b) (j:=p') Y (by omega)
      have em_p':=fun X Y=>Heap.upd_ne X (i:=m) (j:=p') Y (by omega)
      have eb_n:=fun X Y=>Heap.upd_ne X (i:=b) (j:=n) Y (by omega)
      have em_n:=fun X Y=>Heap.upd_ne X (i:=m) (j:=n) Y (by omega)
      have ep_n:=fun X Y=>Heap.upd_ne X (i:=p') (j:=n) Y (by omega)
      have en1_n:=fun X Y=>Heap.upd_ne X (i:=n+1) (j:=n) Y (by omega)
      have en2_n:=fun X Y=>Heap.upd_ne X (i:=n+2) (j:=n) Y (by omega)
      have en3_n:=fun X Y=>Heap.upd_ne X (i:=n+3) (j:=n) Y (by omega)
      have eb_n1:=fun X Y=>Heap.upd_ne X (i:=b) (j:=n+1) Y (by omega)
      have em_n1:=fun X Y=>Heap.upd_ne X (i:=m) (j:=n+1) Y (by omega)
      have ep_n1:=fun X Y=>Heap.upd_ne X (i:=p') (j:=n+1) Y (by omega)
      have en_n1:=fun X Y=>Heap.upd_ne X (i:=n) (j:=n+1) Y (by omega)
      have en2_n1:=fun X Y=>Heap.upd_ne X (i:=n+2) (j:=n+1) Y (by omega)
      have en3_n1:=fun X Y=>Heap.upd_ne X (i:=n+3) (j:=n+1) Y (by omega)
      have eb_n2:=fun X Y=>Heap.upd_ne X (i:=b) (j:=n+2) Y (by omega)
      have em_n2:=fun X Y=>Heap.upd_ne X (i:=m) (j:=n+2) Y (by omega)
      have ep_n2:=fun X Y=>Heap.upd_ne X (i:=p') (j:=n+2) Y (by omega)
      have en_n2:=fun X Y=>Heap.upd_ne X (i:=n) (j:=n+2) Y (by omega)
      have en1_n2:=fun X Y=>Heap.upd_ne X (i:=n+1) (j:=n+2) Y (by omega)
      have en3_n2:=fun X Y=>Heap.upd_ne X (i:=n+3) (j:=n+2) Y (by omega)
      have eb_n3:=fun X Y=>Heap.upd_ne X (i:=b) (j:=n+3) Y (by omega)
      have em_n3:=fun X Y=>Heap.upd_ne X (i:=m) (j:=n+3) Y (by omega)
      have ep_n3:=fun X Y=>Heap.upd_ne X (i:=p') (j:=n+3) Y (by omega)
      have en_n3:=fun X Y=>Heap.upd_ne X (i:=n) (j:=n+3) Y (by omega)
      have en1_n3:=fun X Y=>Heap.upd_ne X (i:=n+1) (j:=n+3) Y (by omega)
      have en2_n3:=fun X Y=>Heap.upd_ne X (i:=n+2) (j:=n+3) Y (by omega)
      refine awp_ev dr0 (by decide +kernel) ?_
      simp only[go_sem,Tryz.f145,hb,hm,hp,en_b,en1_b,en2_b,en3_b,em_b,ep_b,en_m,en1_m,en2_m,en3_m,eb_m,ep_m,en_p',en1_p',en2_p',en3_p',eb_p',em_p',eb_n,em_n,ep_n,en1_n,en2_n,en3_n,eb_n1,em_n1,ep_n1,en_n1,en2_n1,en3_n1,eb_n2,em_n2,ep_n2,en_n2,en1_n2,en3_n2,eb_n3,em_n3,ep_n3,en_n3,en1_n3,en2_n3,sp4]
      rw[List.take_of_length_le (l:=ac) (by omega)]
      have e13:wrap64 13=wrap64 (((s.log.length+1:Nat):Int)*13):=by rw[hl0]; rfl
      rw[e13]
      refine⟨by first | omega | (rw[List.length_map]; omega) | (rw[List.length_map]; exact ha) | decide | (exact Nat.le_refl _) | simp,by first | omega | (rw[List.length_map]; omega) | (rw[List.length_map]; exact ha) | decide | (exact Nat.le_refl _) | simp,by first | omega | (rw[List.length_map]; omega) | (rw[List.length_map]; exact ha) | decide | (exact Nat.le_refl _) | simp,Fin.keep (h _ _ (fun i=>F i∨i=n+1∨i=n+3) ?_ (by omega) ⟨m,.su (n+1) 0 (s.log.length+1) 1,.su (n+3) 0 (k+1) 4,k+1,ac++[.bo false,.u16 p,.u8 0#8,.i64 u],by first | exact hlen | (show _=_; exact hlen),by simp only[Heap.upd_same,en_b,en1_b,en2_b,en3_b,em_b,ep_b,en_m,en1_m,en2_m,en3_m,eb_m,ep_m,en_p',en1_p',en2_p',en3_p',eb_p',em_p',eb_n,em_n,ep_n,en1_n,en2_n,en3_n,eb_n1,em_n1,ep_n1,en_n1,en2_n1,en3_n1,eb_n2,em_n2,ep_n2,en_n2,en1_n2,en3_n2,eb_n3,em_n3,ep_n3,en_n3,en1_n3,en2_n3] <;> simp[bxO,hl0],by simp only[Heap.upd_same,en_b,en1_b,en2_b,en3_b,em_b,ep_b,en_m,en1_m,en2_m,en3_m,eb_m,ep_m,en_p',en1_p',en2_p',en3_p',eb_p',em_p',eb_n,em_n,ep_n,en1_n,en2_n,en3_n,eb_n1,em_n1,ep_n1,en_n1,en2_n1,en3_n1,eb_n2,em_n2,ep_n2,en_n2,en1_n2,en3_n2,eb_n3,em_n3,ep_n3,en_n3,en1_n3,en2_n3]; first | exact hm | (show _=some (⟨(s.mem.set _ _).map .u8,_,_⟩:Blk); rw[List.map_set]),.inr ⟨n+1,by simp[bxO,hl0],by simp only[Heap.upd_same,en_b,en1_b,en2_b,en3_b,em_b,ep_b,en_m,en1_m,en2_m,en3_m,eb_m,ep_m,en_p',en1_p',en2_p',en3_p',eb_p',em_p',eb_n,em_n,ep_n,en1_n,en2_n,en3_n,eb_n1,em_n1,ep_n1,en_n1,en2_n1,en3_n1,eb_n2,em_n2,ep_n2,en_n2,en1_n2,en3_n2,eb_n3,em_n3,ep_n3,en_n3,en1_n3,en2_n3] <;> simp[bxO,hl0],by omega,by omega,.inr (.inl rfl)⟩,by show k+1≤(s.log++[_]).length; rw[List.length_append]; simp; omega,by rw[List.length_append,hacl]; simp; omega,oks_app' hB.aok (by simp[AV.ok]),.inr ⟨n+3,rfl,by simp only[Heap.upd_same,en_b,en1_b,en2_b,en3_b,em_b,ep_b,en_m,en1_m,en2_m,en3_m,eb_m,ep_m,en_p',en1_p',en2_p',en3_p',eb_p',em_p',eb_n,em_n,ep_n,en1_n,en2_n,en3_n,eb_n1,em_n1,ep_n1,en_n1,en2_n1,en3_n1,eb_n2,em_n2,ep_n2,en_n2,en1_n2,en3_n2,eb_n3,em_n3,ep_n3,en_n3,en1_n3,en2_n3],by omega,by omega,.inr (.inr rfl)⟩,hbm,.inl hB.fb,.inl hB.fm,fun i hi=>?_⟩ (fun i hi=>?_) (fun i hi hF=>?_))⟩
      · repeat' first
          | exact wf
          | refine Heap.wf_upd ?_ ?_
          | refine Heap.wf_upd_none ?_
          | refine Heap.wf_set ?_ (by omega) ?_
        all_goals first | (simp[AV.ok]; done) | (simp[AV.ok]; omega) | exact oks_app (i64s_ok _ _) (by simp[AV.ok]) | exact oks_app (fun v hv=>hB.aok v hv _) (by simp[AV.ok]) | (rw[← List.map_set]; exact u8s_ok _ _) | (have q1:=AV.ok_mono (show n≤n+2 by omega) _ (hB.blkok wf).1; have q2:=AV.ok_mono (show n≤n+2 by omega) _ (hB.blkok wf).2; simp[AV.ok,q1,q2] <;> omega) | (have q1:=AV.ok_mono (show n≤n+4 by omega) _ (hB.blkok wf).1; have q2:=AV.ok_mono (show n≤n+4 by omega) _ (hB.blkok wf).2; simp[AV.ok,q1,q2] <;> omega)
      · rcases hi with h | h | h
        · have:=hB.low i h; omega
        · omega
        · omega
      · rcases hi with h | h | h
        · exact .inl h
        · exact .inr (by omega)
        · exact .inr (by omega)
      · have hib:i≠b:=fun e=>hF (e▸hB.fb)
        have him:i≠m:=fun e=>hF (e▸hB.fm)
        have hip:i≠p':=fun e=>hF (e▸g5)
        repeat (rw[Heap.upd_ne _ _ (by omega)])
  · have lq:=hB.low q h5
    rcases hB.asks with ⟨hk0,rfl⟩ | ⟨p',rfl,hp,g3,g4,g5⟩
    · have en_b:=fun X Y=>Heap.upd_ne X (i:=n) (j:=b) Y (by omega)
      have en1_b:=fun X Y=>Heap.upd_ne X (i:=n+1) (j:=b) Y (by omega)
      have en2_b:=fun X Y=>Heap.upd_ne X (i:=n+2) (j:=b) Y (by omega)
      have en3_b:=fun X Y=>Heap.upd_ne X (i:=n+3) (j:=b) Y (by omega)
      have em_b:=fun X Y=>Heap.upd_ne X (i:=m) (j:=b) Y (by omega)
      have eq_b:=fun X Y=>Heap.upd_ne X (i:=q) (j:=b) Y (by omega)
      have en_m:=fun X Y=>Heap.upd_ne X (i:=n) (j:=m) Y (by omega)
      have en1_m:=fun X Y=>Heap.upd_ne X (i:=n+1) (j:=m) Y (by omega)
      have en2_m:=fun X Y=>Heap.upd_ne X (i:=n+2) (j:=m) Y (by omega)
      have en3_m:=fun X Y=>Heap.upd_ne X (i:=n+3) (j:=m) Y (by omega)
      have eb_m:=fun X Y=>Heap.upd_ne X (i:=b) (j:=m) Y (by omega)
      have eq_m:=fun X Y=>Heap.upd_ne X (i:=q) (j:=m) Y (by omega)
      have en_q:=fun X Y=>Heap.upd_ne X (i:=n) (j:=q) Y (by omega)
      have en1_q:=fun X Y=>Heap.upd_ne X (i:=n+1) (j:=q) Y (by omega)
      have en2_q:=fun X Y=>Heap.upd_ne X (i:=n+2) (j:=q) Y (by omega)
      have en3_q:=fun X Y=>Heap.upd_ne X (i:=n+3) (j:=q) Y (by omega)
      have eb_q:=fun X Y=>Heap.upd_ne X (i:=b) (j:=q) Y (by omega)
      have em_q:=fun X Y=>Heap.upd_ne X (i:=m) (j:=q) Y (by omega)
      have eb_n:=fun X Y=>Heap.upd_ne X (i:=b) (j:=n) Y (by omega)
      have em_n:=fun X Y=>Heap.upd_ne X (i:=m) (j:=n) Y (by omega)
      have eq_n:=fun X Y=>Heap.upd_ne X (i:=q) (j:=n) Y (by omega)
      have en1_n:=fun X Y=>Heap.upd_ne X (i:=n+1) (j:=n) Y (by omega)
      have en2_n:=fun X Y=>Heap.upd_ne X (i:=n+2) (j:=n) Y (by omega)
      have en3_n:=fun X Y=>Heap.upd_ne X (i:=n+3) (j:=n) Y (by omega)
      have eb_n1:=fun X Y=>Heap.upd_ne X (i:=b) (j:=n+1) Y (by omega)
      have em_n1:=fun X Y=>Heap.upd_ne X (i:=m) (j:=n+1) Y (by omega)
      have eq_n1:=fun X Y=>Heap.upd_ne X (i:=q) (j:=n+1) Y (by omega)
      have en_n1:=fun X Y=>Heap.upd_ne X (i:=n) (j:=n+1) Y (by omega)
      have en2_n1:=fun X Y=>Heap.upd_ne X (i:=n+2) (j:=n+1) Y (by omega)
      have en3_n1:=fun X Y=>Heap.upd_ne X (i:=n+3) (j:=n+1) Y (by omega)
      have eb_n2:=fun X Y=>Heap.upd_ne X (i:=b) (j:=n+2) Y (by omega)
      have em_n2:=fun X Y=>Heap.upd_ne X (i:=m) (j:=n+2) Y (by omega)
      have eq_n2:=fun X Y=>Heap.upd_ne X (i:=q) (j:=n+2) Y (by omega)
      have en_n2:=fun X Y=>Heap.upd_ne X (i:=n) (j:=n+2) Y (by omega)
      have en1_n2:=fun X Y=>Heap.upd_ne X (i:=n+1) (j:=n+2) Y (by omega)
      have en3_n2:=fun X Y=>Heap.upd_ne X (i:=n+3) (j:=n+2) Y (by omega)
      have eb_n3:=fun X Y=>Heap.upd_ne X (i:=b) (j:=n+3) Y (by omega)
      have em_n3:=fun X Y=>Heap.upd_ne X (i:=m) (j:=n+3) Y (by omega)
      have eq_n3:=fun X Y=>Heap.upd_ne X (i:=q) (j:=n+3) Y (by omega)
      have en_n3:=fun X Y=>Heap.upd_ne X (i:=n) (j:=n+3) Y (by omega)
      have en1_n3:=fun X Y=>Heap.upd_ne X (i:=n+1) (j:=n+3) Y (by omega)
      have en2_n3:=fun X Y=>Heap.upd_ne X (i:=n+2) (j:=n+3) Y (by omega)
      refine awp_ev dr0 (by decide +kernel) ?_
      simp only[go_sem,Tryz.f145,hb,hm,hq,en_b,en1_b,en2_b,en3_b,em_b,eq_b,en_m,en1_m,en2_m,en3_m,eb_m,eq_m,en_q,en1_q,en2_q,en3_q,eb_q,em_q,eb_n,em_n,eq_n,en1_n,en2_n,en3_n,eb_n1,em_n1,eq_n1,en_n1,en2_n1,en3_n1,eb_n2,em_n2,eq_n2,en_n2,en1_n2,en3_n2,eb_n3,em_n3,eq_n3,en_n3,en1_n3,en2_n3,sp4]
      try rw[List.take_of_length_le (l:=s.log.map AV.i64) (by rw[List.length_map]; exact Nat.le_refl _)]
      subst hk0
      have hac0:ac=[]:=List.length_eq_zero_iff.1 (by omega)
      subst hac0
      refine⟨by first | omega | (rw[List.length_map]; omega) | (rw[List.length_map]; exact ha) | decide | (exact Nat.le_refl _) | simp,by first | omega | (rw[List.length_map]; omega) | (rw[List.length_map]; exact ha) | decide | (exact Nat.le_refl _) | simp,by first | omega | (rw[List.length_map]; omega) | (rw[List.length_map]; exact ha) | decide | (exact Nat.le_refl _) | simp,Fin.keep (h _ _ (fun i=>F i∨i=n+1∨i=n+3) ?_ (by omega) ⟨m,.su (n+1) 0 (s.log.length+1) 1,.su (n+3) 0 (0+1) 4,0+1,([]:List AV)++[.bo false,.u16 p,.u8 0#8,.i64 u],by first | exact hlen | (show _=_; exact hlen),by simp only[Heap.upd_same,en_b,en1_b,en2_b,en3_b,em_b,eq_b,en_m,en1_m,en2_m,en3_m,eb_m,eq_m,en_q,en1_q,en2_q,en3_q,eb_q,em_q,eb_n,em_n,eq_n,en1_n,en2_n,en3_n,eb_n1,em_n1,eq_n1,en_n1,en2_n1,en3_n1,eb_n2,em_n2,eq_n2,en_n2,en1_n2,en3_n2,eb_n3,em_n3,eq_n3,en_n3,en1_n3,en2_n3] <;> simp[bxO],by simp only[Heap.upd_same,en_b,en1_b,en2_b,en3_b,em_b,eq_b,en_m,en1_m,en2_m,en3_m,eb_m,eq_m,en_q,en1_q,en2_q,en3_q,eb_q,em_q,eb_n,em_n,eq_n,en1_n,en2_n,en3_n,eb_n1,em_n1,eq_n1,en_n1,en2_n1,en3_n1,eb_n2,em_n2,eq_n2,en_n2,en1_n2,en3_n2,eb_n3,em_n3,eq_n3,en_n3,en1_n3,en2_n3]; first | exact hm | (show _=some (⟨(s.mem.set _ _).map .u8,_,_⟩:Blk); rw[List.map_set]),.inr ⟨n+1,by simp[bxO],by simp only[Heap.upd_same,en_b,en1_b,en2_b,en3_b,em_b,eq_b,en_m,en1_m,en2_m,en3_m,eb_m,eq_m,en_q,en1_q,en2_q,en3_q,eb_q,em_q,eb_n,em_n,eq_n,en1_n,en2_n,en3_n,eb_n1,em_n1,eq_n1,en_n1,en2_n1,en3_n1,eb_n2,em_n2,eq_n2,en_n2,en1_n2,en3_n2,eb_n3,em_n3,eq_n3,en_n3,en1_n3,en2_n3] <;> simp[bxO],by omega,by omega,.inr (.inl rfl)⟩,by show 0+1≤(s.log++[_]).length; simp,rfl,by simp[AV.ok],.inr ⟨n+3,rfl,by simp only[Heap.upd_same,en_b,en1_b,en2_b,en3_b,em_b,eq_b,en_m,en1_m,en2_m,en3_m,eb_m,eq_m,en_q,en1_q,en2_q,en3_q,eb_q,em_q,eb_n,em_n,eq_n,en1_n,en2_n,en3_n,eb_n1,em_n1,eq_n1,en_n1,en2_n1,en3_n1,eb_n2,em_n2,eq_n2,en_n2,en1_n2,en3_n2,eb_n3,em_n3,eq_n3,en_n3,en1_n3,en2_n3]; rfl,by omega,by omega,.inr (.inr rfl)⟩,hbm,.inl hB.fb,.inl hB.fm,fun i hi=>?_⟩ (fun i hi=>?_) (fun i hi hF=>?_))⟩
      · repeat' first
          | exact wf
          | refine Heap.wf_upd ?_ ?_
          | refine Heap.wf_upd_none ?_
          | refine Heap.wf_set ?_ (by omega) ?_
        all_goals first | (simp[AV.ok]; done) | (simp[AV.ok]; omega) | exact oks_app (i64s_ok _ _) (by simp[AV.ok]) | exact oks_app (fun v hv=>hB.aok v hv _) (by simp[AV.ok]) | (rw[← List.map_set]; exact u8s_ok _ _) | (have q1:=AV.ok_mono (show n≤n+2 by omega) _ (hB.blkok wf).1; have q2:=AV.ok_mono (show n≤n+2 by omega) _ (hB.blkok wf).2; simp[AV.ok,q1,q2] <;> omega) | (have q1:=AV.ok_mono (show n≤n+4 by omega) _ (hB.blkok wf).1; have q2:=AV.ok_mono (show n≤n+4 by omega) _ (hB.blkok wf).2; simp[AV.ok,q1,q2] <;> omega)
      · rcases hi with h | h | h
        · have:=hB.low i h; omega
        · omega
        · omega
      · rcases hi with h | h | h
        · exact .inl h
        · exact .inr (by omega)
        · exact .inr (by omega)
      · have hib:i≠b:=fun e=>hF (e▸hB.fb)
        have him:i≠m:=fun e=>hF (e▸hB.fm)
        have hiq:i≠q:=fun e=>hF (e▸h5)
        repeat (rw[Heap.upd_ne _ _ (by omega)])
    · have lp:=hB.low p' g5
      have hqp:q≠p':=fun e=>by subst e; rw[hq] at hp; simp at hp
      have en_b:=fun X Y=>Heap.upd_ne X (i:=n) (j:=b) Y (by omega)
      have en1_b:=fun X Y=>Heap.upd_ne X (i:=n+1) (j:=b) Y (by omega)
      have en2_b:=fun X Y=>Heap.upd_ne X (i:=n+2) (j:=b) Y (by omega)
      have en3_b:=fun X Y=>Heap.upd_ne X (i:=n+3) (j:=b) Y (by omega)
      have em_b:=fun X Y=>Heap.upd_ne X (i:=m) (j:=b) Y (by omega)
      have eq_b:=fun X Y=>Heap.upd_ne X (i:=q) (j:=b) Y (by omega)
      have ep_b:=fun X Y=>Heap.upd_ne X (i:=p') (j:=b) Y (by omega)
      have en_m:=fun X Y=>Heap.upd_ne X (i:=n) (j:=m) Y (by omega)
      have en1_m:=fun X Y=>Heap.upd_ne X (i:=n+1) (j:=m) Y (by omega)
      have en2_m:=fun X Y=>Heap.upd_ne X (i:=n+2) (j:=m) Y (by omega)
      have en3_m:=fun X Y=>Heap.upd_ne X (i:=n+3) (j:=m) Y (by omega)
      have eb_m:=fun X Y=>Heap.upd_ne X (i:=b) (j:=m) Y (by omega)
      have eq_m:=fun X Y=>Heap.upd_ne X (i:=q) (j:=m) Y (by omega)
      have ep_m:=fun X Y=>Heap.upd_ne X (i:=p') (j:=m) Y (by omega)
      have en_q:=fun X Y=>Heap.upd_ne X (i:=n) (j:=q) Y (by omega)
      have en1_q:=fun X Y=>Heap.upd_ne X (i:=n+1) (j:=q) Y (by omega)
      have en2_q:=fun X Y=>Heap.upd_ne X (i:=n+2) (j:=q) Y (by omega)
      have en3_q:=fun X Y=>Heap.upd_ne X (i:=n+3) (j:=q) Y (by omega)
      have eb_q:=fun X Y=>Heap.upd_ne X (i:=b) (j:=q) Y (by omega)
      have em_q:=fun X Y=>Heap.upd_ne X (i:=m) (j:=q) Y (by omega)
      have ep_q:=fun X Y=>Heap.upd_ne X (i:=p') (j:=q) Y (by omega)
      have en_p':=fun X Y=>Heap.upd_ne X (i:=n) (j:=p') Y (by omega)
      have en1_p':=fun X Y=>Heap.upd_ne X (i:=n+1) (j:=p') Y (by omega)
      have en2_p':=fun X Y=>Heap.upd_ne X (i:=n+2) (j:=p') Y (by omega)
      have en3_p':=fun X Y=>Heap.upd_ne X (i:=n+3) (j:=p') Y (by omega)
      have eb_p':=fun X Y=>Heap.upd_ne X (i:=b) (j:=p') Y (by omega)
      have em_p':=fun X Y=>Heap.upd_ne X (i:=m) (j:=p') Y (by omega)
      have eq_p':=fun X Y=>Heap.upd_ne X (i:=q) (j:=p') Y (by omega)
      have eb_n:=fun X Y=>Heap.upd_ne X (i:=b) (j:=n) Y (by omega)
      have em_n:=fun X Y=>Heap.upd_ne X (i:=m) (j:=n) Y (by omega)
      have eq_n:=fun X Y=>Heap.upd_ne X (i:=q) (j:=n) Y (by omega)
      have ep_n:=fun X Y=>Heap.upd_ne X (i:=p') (j:=n) Y (by omega)
      have en1_n:=fun X Y=>Heap.upd_ne X (i:=n+1) (j:=n) Y (by omega)
      have en2_n:=fun X Y=>Heap.upd_ne X (i:=n+2) (j:=n) Y (by omega)
      have en3_n:=fun X Y=>Heap.upd_ne X (i:=n+3) (j:=n) Y (by omega)
      have eb_n1:=fun X Y=>Heap.upd_ne X (i:=b) (j:=n+1) Y (by omega)
      have em_n1:=fun X Y=>Heap.upd_ne X (i:=m) (j:=n+1) Y (by omega)
      have eq_n1:=fun X Y=>Heap.upd_ne X (i:=q) (j:=n+1) Y (by omega)
      have ep_n1:=fun X Y=>Heap.upd_ne X (i:=p') (j:=n+1) Y (by omega)
      have en_n1:=fun X Y=>Heap.upd_ne X (i:=n) (j:=n+1) Y (by omega)
      have en2_n1:=fun X Y=>Heap.upd_ne X (i:=n+2) (j:=n+1) Y (by omega)
      have en3_n1:=fun X Y=>Heap.upd_ne X (i:=n+3) (j:=n+1) Y (by omega)
      have eb_n2:=fun X Y=>Heap.upd_ne X (i:=b) (j:=n+2) Y (by omega)
      have em_n2:=fun X Y=>Heap.upd_ne X (i:=m) (j:=n+2) Y (by omega)
      have eq_n2:=fun X Y=>Heap.upd_ne X (i:=q) (j:=n+2) Y (by omega)
      have ep_n2:=fun X Y=>Heap.upd_ne X (i:=p') (j:=n+2) Y (by omega)
      have en_n2:=fun X Y=>Heap.upd_ne X (i:=n) (j:=n+2) Y (by omega)
      have en1_n2:=fun X Y=>Heap.upd_ne X (i:=n+1) (j:=n+2) Y (by omega)
      have en3_n2:=fun X Y=>Heap.upd_ne X (i:=n+3) (j:=n+2) Y (by omega)
      have eb_n3:=fun X Y=>Heap.upd_ne X (i:=b) (j:=n+3) Y (by omega)
      have em_n3:=fun X Y=>Heap.upd_ne X (i:=m) (j:=n+3) Y (by omega)
      have eq_n3:=fun X Y=>Heap.upd_ne X (i:=q) (j:=n+3) Y (by omega)
      have ep_n3:=fun X Y=>Heap.upd_ne X (i:=p') (j:=n+3) Y (by omega)
      have en_n3:=fun X Y=>Heap.upd_ne X (i:=n) (j:=n+3) Y (by omega)
      have en1_n3:=fun X Y=>Heap.upd_ne X (i:=n+1) (j:=n+3) Y (by omega)
      have en2_n3:=fun X Y=>Heap.upd_ne X (i:=n+2) (j:=n+3) Y (by omega)
      refine awp_ev dr0 (by decide +kernel) ?_
      simp only[go_sem,Tryz.f145,hb,hm,hq,hp,en_b,en1_b,en2_b,en3_b,em_b,eq_b,ep_b,en_m,en1_m,en2_m,en3_m,eb_m,eq_m,ep_m,en_q,en1_q,en2_q,en3_q,eb_q,em_q,ep_q,en_p',en1_p',en2_p',en3_p',eb_p',em_p',eq_p',eb_n,em_n,eq_n,ep_n,en1_n,en2_n,en3_n,eb_n1,em_n1,eq_n1,ep_n1,en_n1,en2_n1,en3_n1,eb_n2,em_n2,eq_n2,ep_n2,en_n2,en1_n2,en3_n2,eb_n3,em_n3,eq_n3,ep_n3,en_n3,en1_n3,en2_n3,sp4]
      try rw[List.take_of_length_le (l:=s.log.map AV.i64) (by rw[List.length_map]; exact Nat.le_refl _)]
      rw[List.take_of_length_le (l:=ac) (by omega)]
      refine⟨by first | omega | (rw[List.length_map]; omega) | (rw[List.length_map]; exact ha) | decide | (exact Nat.le_refl _) | simp,by first | omega | (rw[List.length_map]; omega) | (rw[List.length_map]; exact ha) | decide | (exact Nat.le_refl _) | simp,by first | omega | (rw[List.length_map]; omega) | (rw[List.length_map]; exact ha) | decide | (exact Nat.le_refl _) | simp,by first | omega | (rw[List.length_map]; omega) | (rw[List.length_map]; exact ha) | decide | (exact Nat.le_refl _) | simp,by first | omega | (rw[List.length_map]; omega) | (rw[List.length_map]; exact ha) | decide | (exact Nat.le_refl _) | simp,Fin.keep (h _ _ (fun i=>F i∨i=n+1∨i=n+3) ?_ (by omega) ⟨m,.su (n+1) 0 (s.log.length+1) 1,.su (n+3) 0 (k+1) 4,k+1,ac++[.bo false,.u16 p,.u8 0#8,.i64 u],by first | exact hlen | (show _=_; exact hlen),by simp only[Heap.upd_same,en_b,en1_b,en2_b,en3_b,em_b,eq_b,ep_b,en_m,en1_m,en2_m,en3_m,eb_m,eq_m,ep_m,en_q,en1_q,en2_q,en3_q,eb_q,em_q,ep_q,en_p',en1_p',en2_p',en3_p',eb_p',em_p',eq_p',eb_n,em_n,eq_n,ep_n,en1_n,en2_n,en3_n,eb_n1,em_n1,eq_n1,ep_n1,en_n1,en2_n1,en3_n1,eb_n2,em_n2,eq_n2,ep_n2,en_n2,en1_n2,en3_n2,eb_n3,em_n3,eq_n3,ep_n3,en_n3,en1_n3,en2_n3] <;> simp[bxO],by simp only[Heap.upd_same,en_b,en1_b,en2_b,en3_b,em_b,eq_b,ep_b,en_m,en1_m,en2_m,en3_m,eb_m,eq_m,ep_m,en_q,en1_q,en2_q,en3_q,eb_q,em_q,ep_q,en_p',en1_p',en2_p',en3_p',eb_p',em_p',eq_p',eb_n,em_n,eq_n,ep_n,en1_n,en2_n,en3_n,eb_n1,em_n1,eq_n1,ep_n1,en_n1,en2_n1,en3_n1,eb_n2,em_n2,eq_n2,ep_n2,en_n2,en1_n2,en3_n2,eb_n3,em_n3,eq_n3,ep_n3,en_n3,en1_n3,en2_n3]; first | exact hm | (show _=some (⟨(s.mem.set _ _).map .u8,_,_⟩:Blk); rw[List.map_set]),.inr ⟨n+1,by simp[bxO],by simp only[Heap.upd_same,en_b,en1_b,en2_b,en3_b,em_b,eq_b,ep_b,en_m,en1_m,en2_m,en3_m,eb_m,eq_m,ep_m,en_q,en1_q,en2_q,en3_q,eb_q,em_q,ep_q,en_p',en1_p',en2_p',en3_p',eb_p',em_p',eq_p',eb_n,em_n,eq_n,ep_n,en1_n,en2_n,en3_n,eb_n1,em_n1,eq_n1,ep_n1,en_n1,en2_n1,en3_n1,eb_n2,em_n2,eq_n2,ep_n2,en_n2,en1_n2,en3_n2,eb_n3,em_n3,eq_n3,ep_n3,en_n3,en1_n3,en2_n3] <;> simp[bxO],by omega,by omega,.inr (.inl rfl)⟩,by show k+1≤(s.log++[_]).length; rw[List.length_append]; simp; omega,by rw[List.length_append,hacl]; simp; omega,oks_app' hB.aok (by simp[AV.ok]),.inr ⟨n+3,rfl,by simp only[Heap.upd_same,en_b,en1_b,en2_b,en3_b,em_b,eq_b,ep_b,en_m,en1_m,en2_m,en3_m,eb_m,eq_m,ep_m,en_q,en1_q,en2_q,en3_q,eb_q,em_q,ep_q,en_p',en1_p',en2_p',en3_p',eb_p',em_p',eq_p',eb_n,em_n,eq_n,ep_n,en1_n,en2_n,en3_n,eb_n1,em_n1,eq_n1,ep_n1,en_n1,en2_n1,en3_n1,eb_n2,em_n2,eq_n2,ep_n2,en_n2,en1_n2,en3_n2,eb_n3,em_n3,eq_n3,ep_n3,en_n3,en1_n3,en2_n3],by omega,by omega,.inr (.inr rfl)⟩,hbm,.inl hB.fb,.inl hB.fm,fun i hi=>?_⟩ (fun i hi=>?_) (fun i hi hF=>?_))⟩
      · repeat' first
          | exact wf
          | refine Heap.wf_upd ?_ ?_
          | refine Heap.wf_upd_none ?_
          | refine Heap.wf_set ?_ (by omega) ?_
        all_goals first | (simp[AV.ok]; done) | (simp[AV.ok]; omega) | exact oks_app (i64s_ok _ _) (by simp[AV.ok]) | exact oks_app (fun v hv=>hB.aok v hv _) (by simp[AV.ok]) | (rw[← List.map_set]; exact u8s_ok _ _) | (have q1:=AV.ok_mono (show n≤n+2 by omega) _ (hB.blkok wf).1; have q2:=AV.ok_mono (show n≤n+2 by omega) _ (hB.blkok wf).2; simp[AV.ok,q1,q2] <;> omega) | (have q1:=AV.ok_mono (show n≤n+4 by omega) _ (hB.blkok wf).1; have q2:=AV.ok_mono (show n≤n+4 by omega) _ (hB.blkok wf).2; simp[AV.ok,q1,q2] <;> omega)
      · rcases hi with h | h | h
        · have:=hB.low i h; omega
        · omega
        · omega
      · rcases hi with h | h | h
        · exact .inl h
        · exact .inr (by omega)
        · exact .inr (by omega)
      · have hib:i≠b:=fun e=>hF (e▸hB.fb)
        have him:i≠m:=fun e=>hF (e▸hB.fm)
        have hiq:i≠q:=fun e=>hF (e▸h5)
        have hip:i≠p':=fun e=>hF (e▸g5)
        repeat (rw[Heap.upd_ne _ _ (by omega)])
theorem fl_out {b:Nat} {s:Bx} {p:BitVec 16} {x:BitVec 8} {u:Int} {H:Heap} {n:Nat} {F:Nat→Prop} {K:AV→Heap→Nat→Prop} (hu:0≤u∧u≤100) (hl:1≤bxLeft s) (hr:flRep b s H n F) (h:∀H' n' F',H'.wf n'→n≤n'→flRep b (bxO.out s p x u) H' n' F'→(∀i,F' i→F i∨n≤i)→(∀i,i<n→¬F i→H' i=H i)→K (.tu []) H' n'):ACalls Tryz.prog 144 [.pt b 0,.u16 p,.u8 x,.i64 u] H n K:=by
  refine ACalls.of_awp Tryz.func144 rfl (by decide +kernel) (show 4≤40 by decide) (by simp) fun wf=>?_
  obtain⟨m,L,A,k,ac,hB⟩:=hr
  have hb:=hB.blk
  have hm:=hB.mem
  have lb:=hB.low b hB.fb
  have lm:=hB.low m hB.fm
  have hbm:=hB.bm
  have hlen:=hB.len
  have hacl:=hB.acl
  have hkle:=hB.kle
  unfold bxLeft at hl
  rcases hB.log with ⟨hl0,rfl⟩ | ⟨q,rfl,hq,h3,h4,h5⟩
  · rcases hB.asks with ⟨hk0,rfl⟩ | ⟨p',rfl,hp,g3,g4,g5⟩
    · have en_b:=fun X Y=>Heap.upd_ne X (i:=n) (j:=b) Y (by omega)
      have en1_b:=fun X Y=>Heap.upd_ne X (i:=n+1) (j:=b) Y (by omega)
      have en2_b:=fun X Y=>Heap.upd_ne X (i:=n+2) (j:=b) Y (by omega)
      have en3_b:=fun X Y=>Heap.upd_ne X (i:=n+3) (j:=b) Y (by omega)
      have em_b:=fun X Y=>Heap.upd_ne X (i:=m) (j:=b) Y (by omega)
      have en_m:=fun X Y=>Heap.upd_ne X (i:=n) (j:=m) Y (by omega)
      have en1_m:=fun X Y=>Heap.upd_ne X (i:=n+1) (j:=m) Y (by omega)
      have en2_m:=fun X Y=>Heap.upd_ne X (i:=n+2) (j:=m) Y (by omega)
      have en3_m:=fun X Y=>Heap.upd_ne X (i:=n+3) (j:=m) Y (by omega)
      have eb_m:=fun X Y=>Heap.upd_ne X (i:=b) (j:=m) Y (by omega)
      have eb_n:=fun X Y=>Heap.upd_ne X (i:=b) (j:=n) Y (by omega)
      have em_n:=fun X Y=>Heap.upd_ne X (i:=m) (j:=n) Y (by omega)
      have en1_n:=fun X Y=>Heap.upd_ne X (i:=n+1) (j:=n) Y (by omega)
      have en2_n:=fun X Y=>Heap.upd_ne X (i:=n+2) (j:=n) Y (by omega)
      have en3_n:=fun X Y=>Heap.upd_ne X (i:=n+3) (j:=n) Y (by omega)
      have eb_n1:=fun X Y=>Heap.upd_ne X (i:=b) (j:=n+1) Y (by omega)
      have em_n1:=fun X Y=>Heap.upd_ne X (i:=m) (j:=n+1) Y (by omega)
      have en_n1:=fun X Y=>Heap.upd_ne X (i:=n) (j:=n+1) Y (by omega)
      have en2_n1:=fun X Y=>Heap.upd_ne X (i:=n+2) (j:=n+1) Y (by omega)
      have en3_n1:=fun X Y=>Heap.upd_ne X (i:=n+3) (j:=n+1) Y (by omega)
      have eb_n2:=fun X Y=>Heap.upd_ne X (i:=b) (j:=n+2) Y (by omega)
      have em_n2:=fun X Y=>Heap.upd_ne X (i:=m) (j:=n+2) Y (by omega)
      have en_n2:=fun X Y=>Heap.upd_ne X (i:=n) (j:=n+2) Y (by omega)
      have en1_n2:=fun X Y=>Heap.upd_ne X (i:=n+1) (j:=n+2) Y (by omega)
      have en3_n2:=fun X Y=>Heap.upd_ne X (i:=n+3) (j:=n+2) Y (by omega)
      have eb_n3:=fun X Y=>Heap.upd_ne X (i:=b) (j:=n+3) Y (by omega)
      have em_n3:=fun X Y=>Heap.upd_ne X (i:=m) (j:=n+3) Y (by omega)
      have en_n3:=fun X Y=>Heap.upd_ne X (i:=n) (j:=n+3) Y (by omega)
      have en1_n3:=fun X Y=>Heap.upd_ne X (i:=n+1) (j:=n+3) Y (by omega)
      have en2_n3:=fun X Y=>Heap.upd_ne X (i:=n+2) (j:=n+3) Y (by omega)
      refine awp_ev dr0 (by decide +kernel) ?_
      simp only[go_sem,Tryz.f144,hb,hm,en_b,en1_b,en2_b,en3_b,em_b,en_m,en1_m,en2_m,en3_m,eb_m,eb_n,em_n,en1_n,en2_n,en3_n,eb_n1,em_n1,en_n1,en2_n1,en3_n1,eb_n2,em_n2,en_n2,en1_n2,en3_n2,eb_n3,em_n3,en_n3,en1_n3,en2_n3,sp4]
      subst hk0
      have hac0:ac=[]:=List.length_eq_zero_iff.1 (by omega)
      subst hac0
      refine⟨by first | omega | (rw[List.length_map]; omega) | (rw[List.length_map]; exact ha) | decide | (exact Nat.le_refl _) | simp,Fin.keep (h _ _ (fun i=>F i∨i=n+1∨i=n+3) ?_ (by omega) ⟨m,.su (n+1) 0 (s.log.length+1) 1,.su (n+3) 0 (0+1) 4,0+1,([]:List AV)++[.bo true,.u16 p,.u8 x,.i64 u],by first | exact hlen | (show _=_; exact hlen),by simp only[Heap.upd_same,en_b,en1_b,en2_b,en3_b,em_b,en_m,en1_m,en2_m,en3_m,eb_m,eb_n,em_n,en1_n,en2_n,en3_n,eb_n1,em_n1,en_n1,en2_n1,en3_n1,eb_n2,em_n2,en_n2,en1_n2,en3_n2,eb_n3,em_n3,en_n3,en1_n3,en2_n3] <;> simp[bxO,hl0],by simp only[Heap.upd_same,en_b,en1_b,en2_b,en3_b,em_b,en_m,en1_m,en2_m,en3_m,eb_m,eb_n,em_n,en1_n,en2_n,en3_n,eb_n1,em_n1,en_n1,en2_n1,en3_n1,eb_n2,em_n2,en_n2,en1_n2,en3_n2,eb_n3,em_n3,en_n3,en1_n3,en2_n3]; first | exact hm | (show _=some (⟨(s.mem.set _ _).map .u8,_,_⟩:Blk); rw[List.map_set]),.inr ⟨n+1,by simp[bxO,hl0],by simp only[Heap.upd_same,en_b,en1_b,en2_b,en3_b,em_b,en_m,en1_m,en2_m,en3_m,eb_m,eb_n,em_n,en1_n,en2_n,en3_n,eb_n1,em_n1,en_n1,en2_n1,en3_n1,eb_n2,em_n2,en_n2,en1_n2,en3_n2,eb_n3,em_n3,en_n3,en1_n3,en2_n3] <;> simp[bxO,hl0],by omega,by omega,.inr (.inl rfl)⟩,by show 0+1≤(s.log++[_]).length; simp,rfl,by simp[AV.ok],.inr ⟨n+3,rfl,by simp only[Heap.upd_same,en_b,en1_b,en2_b,en3_b,em_b,en_m,en1_m,en2_m,en3_m,eb_m,eb_n,em_n,en1_n,en2_n,en3_n,eb_n1,em_n1,en_n1,en2_n1,en3_n1,eb_n2,em_n2,en_n2,en1_n2,en3_n2,eb_n3,em_n3,en_n3,en1_n3,en2_n3]; rfl,by omega,by omega,.inr (.inr rfl)⟩,hbm,.inl hB.fb,.inl hB.fm,fun i hi=>?_⟩ (fun i hi=>?_) (fun i hi hF=>?_))⟩
      · repeat' first
          | exact wf
          | refine Heap.wf_upd ?_ ?_
          | refine Heap.wf_upd_none ?_
          | refine Heap.wf_set ?_ (by omega) ?_
        all_goals first | (simp[AV.ok]; done) | (simp[AV.ok]; omega) | exact oks_app (i64s_ok _ _) (by simp[AV.ok]) | exact oks_app (fun v hv=>hB.aok v hv _) (by simp[AV.ok]) | (rw[← List.map_set]; exact u8s_ok _ _) | (have q1:=AV.ok_mono (show n≤n+2 by omega) _ (hB.blkok wf).1; have q2:=AV.ok_mono (show n≤n+2 by omega) _ (hB.blkok wf).2; simp[AV.ok,q1,q2] <;> omega) | (have q1:=AV.ok_mono (show n≤n+4 by omega) _ (hB.blkok wf).1; have q2:=AV.ok_mono (show n≤n+4 by omega) _ (hB.blkok wf).2; simp[AV.ok,q1,q2] <;> omega)
      · rcases hi with h | h | h
        · have:=hB.low i h; omega
        · omega
        · omega
      · rcases hi with h | h | h
        · exact .inl h
        · exact .inr (by omega)
        · exact .inr (by omega)
      · have hib:i≠b:=fun e=>hF (e▸hB.fb)
        have him:i≠m:=fun e=>hF (e▸hB.fm)
        repeat (rw[Heap.upd_ne _ _ (by omega)])
    · have lp:=hB.low p' g5
      have en_b:=fun X Y=>Heap.upd_ne X (i:=n) (j:=b) Y (by omega)
      have en1_b:=fun X Y=>Heap.upd_ne X (i:=n+1) (j:=b) Y (by omega)
      have en2_b:=fun X Y=>Heap.upd_ne X (i:=n+2) (j:=b) Y (by omega)
      have en3_b:=fun X Y=>Heap.upd_ne X (i:=n+3) (j:=b) Y (by omega)
      have em_b:=fun X Y=>Heap.upd_ne X (i:=m) (j:=b) Y (by omega)
      have ep_b:=fun X Y=>Heap.upd_ne X (i:=p') (j:=b) Y (by omega)
      have en_m:=fun X Y=>Heap.upd_ne X (i:=n) (j:=m) Y (by omega)
      have en1_m:=fun X Y=>Heap.upd_ne X (i:=n+1) (j:=m) Y (by omega)
      have en2_m:=fun X Y=>Heap.upd_ne X (i:=n+2) (j:=m) Y (by omega)
      have en3_m:=fun X Y=>Heap.upd_ne X (i:=n+3) (j:=m) Y (by omega)
      have eb_m:=fun X Y=>Heap.upd_ne X (i:=b) (j:=m) Y (by omega)
      have ep_m:=fun X Y=>Heap.upd_ne X (i:=p') (j:=m) Y (by omega)
      have en_p':=fun X Y=>Heap.upd_ne X (i:=n) (j:=p') Y (by omega)
      have en1_p':=fun X Y=>Heap.upd_ne X (i:=n+1) (j:=p') Y (by omega)
      have en2_p':=fun X Y=>Heap.upd_ne X (i:=n+2) (j:=p') Y (by omega)
      have en3_p':=fun X Y=>Heap.upd_ne X (i:=n+3) (j:=p') Y (by omega)
      have eb_p':=fun X Y=>Heap.upd_ne X (i:=b) (j:=p') Y (by omega)
      have em_p':=fun X Y=>Heap.upd_ne X (i:=m) (j:=p') Y (by omega)
      have eb_n:=fun X Y=>Heap.upd_ne X (i:=b) (j:=n) Y (by omega)
      have em_n:=fun X Y=>Heap.upd_ne X (i:=m) (j:=n) Y (by omega)
      have ep_n:=fun X Y=>Heap.upd_ne X (i:=p') (j:=n) Y (by omega)
      have en1_n:=fun X Y=>Heap.upd_ne X (i:=n+1) (j:=n) Y (by omega)
      have en2_n:=fun X Y=>Heap.upd_ne X (i:=n+2) (j:=n) Y (by omega)
      have en3_n:=fun X Y=>Heap.upd_ne X (i:=n+3) (j:=n) Y (by omega)
      have eb_n1:=fun X Y=>Heap.upd_ne X (i:=b) (j:=n+1) Y (by omega)
      have em_n1:=fun X Y=>Heap.upd_ne X (i:=m) (j:=n+1) Y (by omega)
      have ep_n1:=fun X Y=>Heap.upd_ne X (i:=p') (j:=n+1) Y (by omega)
      have en_n1:=fun X Y=>Heap.upd_ne X (i:=n) (j:=n+1) Y (by omega)
      have en2_n1:=fun X Y=>Heap.upd_ne X (i:=n+2) (j:=n+1) Y (by omega)
      have en3_n1:=fun X Y=>Heap.upd_ne X (i:=n+3) (j:=n+1) Y (by omega)
      have eb_n2:=fun X Y=>Heap.upd_ne X (i:=b) (j:=n+2) Y (by omega)
      have em_n2:=fun X Y=>Heap.upd_ne X (i:=m) (j:=n+2) Y (by omega)
      have ep_n2:=fun X Y=>Heap.upd_ne X (i:=p') (j:=n+2) Y (by omega)
      have en_n2:=fun X Y=>Heap.upd_ne X (i:=n) (j:=n+2) Y (by omega)
      have en1_n2:=fun X Y=>Heap.upd_ne X (i:=n+1) (j:=n+2) Y (by omega)
      have en3_n2:=fun X Y=>Heap.upd_ne X (i:=n+3) (j:=n+2) Y (by omega)
      have eb_n3:=fun X Y=>Heap.upd_ne X (i:=b) (j:=n+3) Y (by omega)
      have em_n3:=fun X Y=>Heap.upd_ne X (i:=m) (j:=n+3) Y (by omega)
      have ep_n3:=fun X Y=>Heap.upd_ne X (i:=p') (j:=n+3) Y (by omega)
      have en_n3:=fun X Y=>Heap.upd_ne X (i:=n) (j:=n+3) Y (by omega)
      have en1_n3:=fun X Y=>Heap.upd_ne X (i:=n+1) (j:=n+3) Y (by omega)
      have en2_n3:=fun X Y=>Heap.upd_ne X (i:=n+2) (j:=n+3) Y (by omega)
      refine awp_ev dr0 (by decide +kernel) ?_
      simp only[go_sem,Tryz.f144,hb,hm,hp,en_b,en1_b,en2_b,en3_b,em_b,ep_b,en_m,en1_m,en2_m,en3_m,eb_m,ep_m,en_p',en1_p',en2_p',en3_p',eb_p',em_p',eb_n,em_n,ep_n,en1_n,en2_n,en3_n,eb_n1,em_n1,ep_n1,en_n1,en2_n1,en3_n1,eb_n2,em_n2,ep_n2,en_n2,en1_n2,en3_n2,eb_n3,em_n3,ep_n3,en_n3,en1_n3,en2_n3,sp4]
      rw[List.take_of_length_le (l:=ac) (by omega)]
      refine⟨by first | omega | (rw[List.length_map]; omega) | (rw[List.length_map]; exact ha) | decide | (exact Nat.le_refl _) | simp,by first | omega | (rw[List.length_map]; omega) | (rw[List.length_map]; exact ha) | decide | (exact Nat.le_refl _) | simp,by first | omega | (rw[List.length_map]; omega) | (rw[List.length_map]; exact ha) | decide | (exact Nat.le_refl _) | simp,Fin.keep (h _ _ (fun i=>F i∨i=n+1∨i=n+3) ?_ (by omega) ⟨m,.su (n+1) 0 (s.log.length+1) 1,.su (n+3) 0 (k+1) 4,k+1,ac++[.bo true,.u16 p,.u8 x,.i64 u],by first | exact hlen | (show _=_; exact hlen),by simp only[Heap.upd_same,en_b,en1_b,en2_b,en3_b,em_b,ep_b,en_m,en1_m,en2_m,en3_m,eb_m,ep_m,en_p',en1_p',en2_p',en3_p',eb_p',em_p',eb_n,em_n,ep_n,en1_n,en2_n,en3_n,eb_n1,em_n1,ep_n1,en_n1,en2_n1,en3_n1,eb_n2,em_n2,ep_n2,en_n2,en1_n2,en3_n2,eb_n3,em_n3,ep_n3,en_n3,en1_n3,en2_n3] <;> simp[bxO,hl0],by simp only[Heap.upd_same,en_b,en1_b,en2_b,en3_b,em_b,ep_b,en_m,en1_m,en2_m,en3_m,eb_m,ep_m,en_p',en1_p',en2_p',en3_p',eb_p',em_p',eb_n,em_n,ep_n,en1_n,en2_n,en3_n,eb_n1,em_n1,ep_n1,en_n1,en2_n1,en3_n1,eb_n2,em_n2,ep_n2,en_n2,en1_n2,en3_n2,eb_n3,em_n3,ep_n3,en_n3,en1_n3,en2_n3]; first | exact hm | (show _=some (⟨(s.mem.set _ _).map .u8,_,_⟩:Blk); rw[List.map_set]),.inr ⟨n+1,by simp[bxO,hl0],by simp only[Heap.upd_same,en_b,en1_b,en2_b,en3_b,em_b,ep_b,en_m,en1_m,en2_m,en3_m,eb_m,ep_m,en_p',en1_p',en2_p',en3_p',eb_p',em_p',eb_n,em_n,ep_n,en1_n,en2_n,en3_n,eb_n1,em_n1,ep_n1,en_n1,en2_n1,en3_n1,eb_n2,em_n2,ep_n2,en_n2,en1_n2,en3_n2,eb_n3,em_n3,ep_n3,en_n3,en1_n3,en2_n3] <;> simp[bxO,hl0],by omega,by omega,.inr (.inl rfl)⟩,by show k+1≤(s.log++[_]).length; rw[List.length_append]; simp; omega,by rw[List.length_append,hacl]; simp; omega,oks_app' hB.aok (by simp[AV.ok]),.inr ⟨n+3,rfl,by simp only[Heap.upd_same,en_b,en1_b,en2_b,en3_b,em_b,ep_b,en_m,en1_m,en2_m,en3_m,eb_m,ep_m,en_p',en1_p',en2_p',en3_p',eb_p',em_p',eb_n,em_n,ep_n,en1_n,en2_n,en3_n,eb_n1,em_n1,ep_n1,en_n1,en2_n1,en3_n1,eb_n2,em_n2,ep_n2,en_n2,en1_n2,en3_n2,eb_n3,em_n3,ep_n3,en_n3,en1_n3,en2_n3],by omega,by omega,.inr (.inr rfl)⟩,hbm,.inl hB.fb,.inl hB.fm,fun i hi=>?_⟩ (fun i hi=>?_) (fun i hi hF=>?_))⟩
      · repeat' first
          | exact wf
          | refine Heap.wf_upd ?_ ?_
          | refine Heap.wf_upd_none ?_
          | refine Heap.wf_set ?_ (by omega) ?_
        all_goals first | (simp[AV.ok]; done) | (simp[AV.ok]; omega) | exact oks_app (i64s_ok _ _) (by simp[AV.ok]) | exact oks_app (fun v hv=>hB.aok v hv _) (by simp[AV.ok]) | (rw[← List.map_set]; exact u8s_ok _ _) | (have q1:=AV.ok_mono (show n≤n+2 by omega) _ (hB.blkok wf).1; have q2:=AV.ok_mono (show n≤n+2 by omega) _ (hB.blkok wf).2; simp[AV.ok,q1,q2] <;> omega) | (have q1:=AV.ok_mono (show n≤n+4 by omega) _ (hB.blkok wf).1; have q2:=AV.ok_mono (show n≤n+4 by omega) _ (hB.blkok wf).2; simp[AV.ok,q1,q2] <;> omega)
      · rcases hi with h | h | h
        · have:=hB.low i h; omega
        · omega
        · omega
      · rcases hi with h | h | h
        · exact .inl h
        · exact .inr (by omega)
        · exact .inr (by omega)
      · have hib:i≠b:=fun e=>hF (e▸hB.fb)
        have him:i≠m:=fun e=>hF (e▸hB.fm)
        have hip:i≠p':=fun e=>hF (e▸g5)
        repeat (rw[Heap.upd_ne _ _ (by omega)])
  · have lq:=hB.low q h5
    rcases hB.asks with ⟨hk0,rfl⟩ | ⟨p',rfl,hp,g3,g4,g5⟩
    · have en_b:=fun X Y=>Heap.upd_ne X (i:=n) (j:=b) Y (by omega)
      have en1_b:=fun X Y=>Heap.upd_ne X (i:=n+1) (j:=b) Y (by omega)
      have en2_b:=fun X Y=>Heap.upd_ne X (i:=n+2) (j:=b) Y (by omega)
      have en3_b:=fun X Y=>Heap.upd_ne X (i:=n+3) (j:=b) Y (by omega)
      have em_b:=fun X Y=>Heap.upd_ne X (i:=m) (j:=b) Y (by omega)
      have eq_b:=fun X Y=>Heap.upd_ne X (i:=q) (j:=b) Y (by omega)
      have en_m:=fun X Y=>Heap.upd_ne X (i:=n) (j:=m) Y (by omega)
      have en1_m:=fun X Y=>Heap.upd_ne X (i:=n+1) (j:=m) Y (by omega)
      have en2_m:=fun X Y=>Heap.upd_ne X (i:=n+2) (j:=m) Y (by omega)
      have en3_m:=fun X Y=>Heap.upd_ne X (i:=n+3) (j:=m) Y (by omega)
      have eb_m:=fun X Y=>Heap.upd_ne X (i:=b) (j:=m) Y (by omega)
      have eq_m:=fun X Y=>Heap.upd_ne X (i:=q) (j:=m) Y (by omega)
      have en_q:=fun X Y=>Heap.upd_ne X (i:=n) (j:=q) Y (by omega)
      have en1_q:=fun X Y=>Heap.upd_ne X (i:=n+1) (j:=q) Y (by omega)
      have en2_q:=fun X Y=>Heap.upd_ne X (i:=n+2) (j:=q) Y (by omega)
      have en3_q:=fun X Y=>Heap.upd_ne X (i:=n+3) (j:=q) Y (by omega)
      have eb_q:=fun X Y=>Heap.upd_ne X (i:=b) (j:=q) Y (by omega)
      have em_q:=fun X Y=>Heap.upd_ne X (i:=m) (j:=q) Y (by omega)
      have eb_n:=fun X Y=>Heap.upd_ne X (i:=b) (j:=n) Y (by omega)
      have em_n:=fun X Y=>Heap.upd_ne X (i:=m) (j:=n) Y (by omega)
      have eq_n:=fun X Y=>Heap.upd_ne X (i:=q) (j:=n) Y (by omega)
      have en1_n:=fun X Y=>Heap.upd_ne X (i:=n+1) (j:=n) Y (by omega)
      have en2_n:=fun X Y=>Heap.upd_ne X (i:=n+2) (j:=n) Y (by omega)
      have en3_n:=fun X Y=>Heap.upd_ne X (i:=n+3) (j:=n) Y (by omega)
      have eb_n1:=fun X Y=>Heap.upd_ne X (i:=b) (j:=n+1) Y (by omega)
      have em_n1:=fun X Y=>Heap.upd_ne X (i:=m) (j:=n+1) Y (by omega)
      have eq_n1:=fun X Y=>Heap.upd_ne X (i:=q) (j:=n+1) Y (by omega)
      have en_n1:=fun X Y=>Heap.upd_ne X (i:=n) (j:=n+1) Y (by omega)
      have en2_n1:=fun X Y=>Heap.upd_ne X (i:=n+2) (j:=n+1) Y (by omega)
      have en3_n1:=fun X Y=>Heap.upd_ne X (i:=n+3) (j:=n+1) Y (by omega)
      have eb_n2:=fun X Y=>Heap.upd_ne X (i:=b) (j:=n+2) Y (by omega)
      have em_n2:=fun X Y=>Heap.upd_ne X (i:=m) (j:=n+2) Y (by omega)
      have eq_n2:=fun X Y=>Heap.upd_ne X (i:=q) (j:=n+2) Y (by omega)
      have en_n2:=fun X Y=>Heap.upd_ne X (i:=n) (j:=n+2) Y (by omega)
      have en1_n2:=fun X Y=>Heap.upd_ne X (i:=n+1) (j:=n+2) Y (by omega)
      have en3_n2:=fun X Y=>Heap.upd_ne X (i:=n+3) (j:=n+2) Y (by omega)
      have eb_n3:=fun X Y=>Heap.upd_ne X (i:=b) (j:=n+3) Y (by omega)
      have em_n3:=fun X Y=>Heap.upd_ne X (i:=m) (j:=n+3) Y (by omega)
      have eq_n3:=fun X Y=>Heap.upd_ne X (i:=q) (j:=n+3) Y (by omega)
      have en_n3:=fun X Y=>Heap.upd_ne X (i:=n) (j:=n+3) Y (by omega)
      have en1_n3:=fun X Y=>Heap.upd_ne X (i:=n+1) (j:=n+3) Y (by omega)
      have en2_n3:=fun X Y=>Heap.upd_ne X (i:=n+2) (j:=n+3) Y (by omega)
      refine awp_ev dr0 (by decide +kernel) ?_
      simp only[go_sem,Tryz.f144,hb,hm,hq,en_b,en1_b,en2_b,en3_b,em_b,eq_b,en_m,en1_m,en2_m,en3_m,eb_m,eq_m,en_q,en1_q,en2_q,en3_q,eb_q,em_q,eb_n,em_n,eq_n,en1_n,en2_n,en3_n,eb_n1,em_n1,eq_n1,en_n1,en2_n1,en3_n1,eb_n2,em_n2,eq_n2,en_n2,en1_n2,en3_n2,eb_n3,em_n3,eq_n3,en_n3,en1_n3,en2_n3,sp4]
      try rw[List.take_of_length_le (l:=s.log.map AV.i64) (by rw[List.length_map]; exact Nat.le_refl _)]
      subst hk0
      have hac0:ac=[]:=List.length_eq_zero_iff.1 (by omega)
      subst hac0
      refine⟨by first | omega | (rw[List.length_map]; omega) | (rw[List.length_map]; exact ha) | decide | (exact Nat.le_refl _) | simp,by first | omega | (rw[List.length_map]; omega) | (rw[List.length_map]; exact ha) | decide | (exact Nat.le_refl _) | simp,by first | omega | (rw[List.length_map]; omega) | (rw[List.length_map]; exact ha) | decide | (exact Nat.le_refl _) | simp,Fin.keep (h _ _ (fun i=>F i∨i=n+1∨i=n+3) ?_ (by omega) ⟨m,.su (n+1) 0 (s.log.length+1) 1,.su (n+3) 0 (0+1) 4,0+1,([]:List AV)++[.bo true,.u16 p,.u8 x,.i64 u],by first | exact hlen | (show _=_; exact hlen),by simp only[Heap.upd_same,en_b,en1_b,en2_b,en3_b,em_b,eq_b,en_m,en1_m,en2_m,en3_m,eb_m,eq_m,en_q,en1_q,en2_q,en3_q,eb_q,em_q,eb_n,em_n,eq_n,en1_n,en2_n,en3_n,eb_n1,em_n1,eq_n1,en_n1,en2_n1,en3_n1,eb_n2,em_n2,eq_n2,en_n2,en1_n2,en3_n2,eb_n3,em_n3,eq_n3,en_n3,en1_n3,en2_n3] <;> simp[bxO],by simp only[Heap.upd_same,en_b,en1_b,en2_b,en3_b,em_b,eq_b,en_m,en1_m,en2_m,en3_m,eb_m,eq_m,en_q,en1_q,en2_q,en3_q,eb_q,em_q,eb_n,em_n,eq_n,en1_n,en2_n,en3_n,eb_n1,em_n1,eq_n1,en_n1,en2_n1,en3_n1,eb_n2,em_n2,eq_n2,en_n2,en1_n2,en3_n2,eb_n3,em_n3,eq_n3,en_n3,en1_n3,en2_n3]; first | exact hm | (show _=some (⟨(s.mem.set _ _).map .u8,_,_⟩:Blk); rw[List.map_set]),.inr ⟨n+1,by simp[bxO],by simp only[Heap.upd_same,en_b,en1_b,en2_b,en3_b,em_b,eq_b,en_m,en1_m,en2_m,en3_m,eb_m,eq_m,en_q,en1_q,en2_q,en3_q,eb_q,em_q,eb_n,em_n,eq_n,en1_n,en2_n,en3_n,eb_n1,em_n1,eq_n1,en_n1,en2_n1,en3_n1,eb_n2,em_n2,eq_n2,en_n2,en1_n2,en3_n2,eb_n3,em_n3,eq_n3,en_n3,en1_n3,en2_n3] <;> simp[bxO],by omega,by omega,.inr (.inl rfl)⟩,by show 0+1≤(s.log++[_]).length; simp,rfl,by simp[AV.ok],.inr ⟨n+3,rfl,by simp only[Heap.upd_same,en_b,en1_b,en2_b,en3_b,em_b,eq_b,en_m,en1_m,en2_m,en3_m,eb_m,eq_m,en_q,en1_q,en2_q,en3_q,eb_q,em_q,eb_n,em_n,eq_n,en1_n,en2_n,en3_n,eb_n1,em_n1,eq_n1,en_n1,en2_n1,en3_n1,eb_n2,em_n2,eq_n2,en_n2,en1_n2,en3_n2,eb_n3,em_n3,eq_n3,en_n3,en1_n3,en2_n3]; rfl,by omega,by omega,.inr (.inr rfl)⟩,hbm,.inl hB.fb,.inl hB.fm,fun i hi=>?_⟩ (fun i hi=>?_) (fun i hi hF=>?_))⟩
      · repeat' first
          | exact wf
          | refine Heap.wf_upd ?_ ?_
          | refine Heap.wf_upd_none ?_
          | refine Heap.wf_set ?_ (by omega) ?_
        all_goals first | (simp[AV.ok]; done) | (simp[AV.ok]; omega) | exact oks_app (i64s_ok _ _) (by simp[AV.ok]) | exact oks_app (fun v hv=>hB.aok v hv _) (by simp[AV.ok]) | (rw[← List.map_set]; exact u8s_ok _ _) | (have q1:=AV.ok_mono (show n≤n+2 by omega) _ (hB.blkok wf).1; have q2:=AV.ok_mono (show n≤n+2 by omega) _ (hB.blkok wf).2; simp[AV.ok,q1,q2] <;> omega) | (have q1:=AV.ok_mono (show n≤n+4 by omega) _ (hB.blkok wf).1; have q2:=AV.ok_mono (show n≤n+4 by omega) _ (hB.blkok wf).2; simp[AV.ok,q1,q2] <;> omega)
      · rcases hi with h | h | h
        · have:=hB.low i h; omega
        · omega
        · omega
      · rcases hi with h | h | h
        · exact .inl h
        · exact .inr (by omega)
        · exact .inr (by omega)
      · have hib:i≠b:=fun e=>hF (e▸hB.fb)
        have him:i≠m:=fun e=>hF (e▸hB.fm)
        have hiq:i≠q:=fun e=>hF (e▸h5)
        repeat (rw[Heap.upd_ne _ _ (by omega)])
    · have lp:=hB.low p' g5
      have hqp:q≠p':=fun e=>by subst e; rw[hq] at hp; simp at hp
      have en_b:=fun X Y=>Heap.upd_ne X (i:=n) (j:=b) Y (by omega)
      have en1_b:=fun X Y=>Heap.upd_ne X (i:=n+1) (j:=b) Y (by omega)
      have en2_b:=fun X Y=>Heap.upd_ne X (i:=n+2) (j:=b) Y (by omega)
      have en3_b:=fun X Y=>Heap.upd_ne X (i:=n+3) (j:=b) Y (by omega)
      have em_b:=fun X Y=>Heap.upd_ne X (i:=m) (j:=b) Y (by omega)
      have eq_b:=fun X Y=>Heap.upd_ne X (i:=q) (j:=b) Y (by omega)
      have ep_b:=fun X Y=>Heap.upd_ne X (i:=p') (j:=b) Y (by omega)
      have en_m:=fun X Y=>Heap.upd_ne X (i:=n) (j:=m) Y (by omega)
      have en1_m:=fun X Y=>Heap.upd_ne X (i:=n+1) (j:=m) Y (by omega)
      have en2_m:=fun X Y=>Heap.upd_ne X (i:=n+2) (j:=m) Y (by omega)
      have en3_m:=fun X Y=>Heap.upd_ne X (i:=n+3) (j:=m) Y (by omega)
      have eb_m:=fun X Y=>Heap.upd_ne X (i:=b) (j:=m) Y (by omega)
      have eq_m:=fun X Y=>Heap.upd_ne X (i:=q) (j:=m) Y (by omega)
      have ep_m:=fun X Y=>Heap.upd_ne X (i:=p') (j:=m) Y (by omega)
      have en_q:=fun X Y=>Heap.upd_ne X (i:=n) (j:=q) Y (by omega)
      have en1_q:=fun X Y=>Heap.upd_ne X (i:=n+1) (j:=q) Y (by omega)
      have en2_q:=fun X Y=>Heap.upd_ne X (i:=n+2) (j:=q) Y (by omega)
      have en3_q:=fun X Y=>Heap.upd_ne X (i:=n+3) (j:=q) Y (by omega)
      have eb_q:=fun X Y=>Heap.upd_ne X (i:=b) (j:=q) Y (by omega)
      have em_q:=fun X Y=>Heap.upd_ne X (i:=m) (j:=q) Y (by omega)
      have ep_q:=fun X Y=>Heap.upd_ne X (i:=p') (j:=q) Y (by omega)
      have en_p':=fun X Y=>Heap.upd_ne X (i:=n) (j:=p') Y (by omega)
      have en1_p':=fun X Y=>Heap.upd_ne X (i:=n+1) (j:=p') Y (by omega)
      have en2_p':=fun X Y=>Heap.upd_ne X (i:=n+2) (j:=p') Y (by omega)
      have en3_p':=fun X Y=>Heap.upd_ne X (i:=n+3) (j:=p') Y (by omega)
      have eb_p':=fun X Y=>Heap.upd_ne X (i:=b) (j:=p') Y (by omega)
      have em_p':=fun X Y=>Heap.upd_ne X (i:=m) (j:=p') Y (by omega)
      have eq_p':=fun X Y=>Heap.upd_ne X (i:=q) (j:=p') Y (by omega)
      have eb_n:=fun X Y=>Heap.upd_ne X (i:=b) (j:=n) Y (by omega)
      have em_n:=fun X Y=>Heap.upd_ne X (i:=m) (j:=n) Y (by omega)
      have eq_n:=fun X Y=>Heap.upd_ne X (i:=q) (j:=n) Y (by omega)
      have ep_n:=fun X Y=>Heap.upd_ne X (i:=p') (j:=n) Y (by omega)
      have en1_n:=fun X Y=>Heap.upd_ne X (i:=n+1) (j:=n) Y (by omega)
      have en2_n:=fun X Y=>Heap.upd_ne X (i:=n+2) (j:=n) Y (by omega)
      have en3_n:=fun X Y=>Heap.upd_ne X (i:=n+3) (j:=n) Y (by omega)
      have eb_n1:=fun X Y=>Heap.upd_ne X (i:=b) (j:=n+1) Y (by omega)
      have em_n1:=fun X Y=>Heap.upd_ne X (i:=m) (j:=n+1) Y (by omega)
      have eq_n1:=fun X Y=>Heap.upd_ne X (i:=q) (j:=n+1) Y (by omega)
      have ep_n1:=fun X Y=>Heap.upd_ne X (i:=p') (j:=n+1) Y (by omega)
      have en_n1:=fun X Y=>Heap.upd_ne X (i:=n) (j:=n+1) Y (by omega)
      have en2_n1:=fun X Y=>Heap.upd_ne X (i:=n+2) (j:=n+1) Y (by omega)
      have en3_n1:=fun X Y=>Heap.upd_ne X (i:=n+3) (j:=n+1) Y (by omega)
      have eb_n2:=fun X Y=>Heap.upd_ne X (i:=b) (j:=n+2) Y (by omega)
      have em_n2:=fun X Y=>Heap.upd_ne X (i:=m) (j:=n+2) Y (by omega)
      have eq_n2:=fun X Y=>Heap.upd_ne X (i:=q) (j:=n+2) Y (by omega)
      have ep_n2:=fun X Y=>Heap.upd_ne X (i:=p') (j:=n+2) Y (by omega)
      have en_n2:=fun X Y=>Heap.upd_ne X (i:=n) (j:=n+2) Y (by omega)
      have en1_n2:=fun X Y=>Heap.upd_ne X (i:=n+1) (j:=n+2) Y (by omega)
      have en3_n2:=fun X Y=>Heap.upd_ne X (i:=n+3) (j:=n+2) Y (by omega)
      have eb_n3:=fun X Y=>Heap.upd_ne X (i:=b) (j:=n+3) Y (by omega)
      have em_n3:=fun X Y=>Heap.upd_ne X (i:=m) (j:=n+3) Y (by omega)
      have eq_n3:=fun X Y=>Heap.upd_ne X (i:=q) (j:=n+3) Y (by omega)
      have ep_n3:=fun X Y=>Heap.upd_ne X (i:=p') (j:=n+3) Y (by omega)
      have en_n3:=fun X Y=>Heap.upd_ne X (i:=n) (j:=n+3) Y (by omega)
      have en1_n3:=fun X Y=>Heap.upd_ne X (i:=n+1) (j:=n+3) Y (by omega)
      have en2_n3:=fun X Y=>Heap.upd_ne X (i:=n+2) (j:=n+3) Y (by omega)
      refine awp_ev dr0 (by decide +kernel) ?_
      simp only[go_sem,Tryz.f144,hb,hm,hq,hp,en_b,en1_b,en2_b,en3_b,em_b,eq_b,ep_b,en_m,en1_m,en2_m,en3_m,eb_m,eq_m,ep_m,en_q,en1_q,en2_q,en3_q,eb_q,em_q,ep_q,en_p',en1_p',en2_p',en3_p',eb_p',em_p',eq_p',eb_n,em_n,eq_n,ep_n,en1_n,en2_n,en3_n,eb_n1,em_n1,eq_n1,ep_n1,en_n1,en2_n1,en3_n1,eb_n2,em_n2,eq_n2,ep_n2,en_n2,en1_n2,en3_n2,eb_n3,em_n3,eq_n3,ep_n3,en_n3,en1_n3,en2_n3,sp4]
      try rw[List.take_of_length_le (l:=s.log.map AV.i64) (by rw[List.length_map]; exact Nat.le_refl _)]
      rw[List.take_of_length_le (l:=ac) (by omega)]
      refine⟨by first | omega | (rw[List.length_map]; omega) | (rw[List.length_map]; exact ha) | decide | (exact Nat.le_refl _) | simp,by first | omega | (rw[List.length_map]; omega) | (rw[List.length_map]; exact ha) | decide | (exact Nat.le_refl _) | simp,by first | omega | (rw[List.length_map]; omega) | (rw[List.length_map]; exact ha) | decide | (exact Nat.le_refl _) | simp,by first | omega | (rw[List.length_map]; omega) | (rw[List.length_map]; exact ha) | decide | (exact Nat.le_refl _) | simp,by first | omega | (rw[List.length_map]; omega) | (rw[List.length_map]; exact ha) | decide | (exact Nat.le_refl _) | simp,Fin.keep (h _ _ (fun i=>F i∨i=n+1∨i=n+3) ?_ (by omega) ⟨m,.su (n+1) 0 (s.log.length+1) 1,.su (n+3) 0 (k+1) 4,k+1,ac++[.bo true,.u16 p,.u8 x,.i64 u],by first | exact hlen | (show _=_; exact hlen),by simp only[Heap.upd_same,en_b,en1_b,en2_b,en3_b,em_b,eq_b,ep_b,en_m,en1_m,en2_m,en3_m,eb_m,eq_m,ep_m,en_q,en1_q,en2_q,en3_q,eb_q,em_q,ep_q,en_p',en1_p',en2_p',en3_p',eb_p',em_p',eq_p',eb_n,em_n,eq_n,ep_n,en1_n,en2_n,en3_n,eb_n1,em_n1,eq_n1,ep_n1,en_n1,en2_n1,en3_n1,eb_n2,em_n2,eq_n2,ep_n2,en_n2,en1_n2,en3_n2,eb_n3,em_n3,eq_n3,ep_n3,en_n3,en1_n3,en2_n3] <;> simp[bxO],by simp only[Heap.upd_same,en_b,en1_b,en2_b,en3_b,em_b,eq_b,ep_b,en_m,en1_m,en2_m,en3_m,eb_m,eq_m,ep_m,en_q,en1_q,en2_q,en3_q,eb_q,em_q,ep_q,en_p',en1_p',en2_p',en3_p',eb_p',em_p',eq_p',eb_n,em_n,eq_n,ep_n,en1_n,en2_n,en3_n,eb_n1,em_n1,eq_n1,ep_n1,en_n1,en2_n1,en3_n1,eb_n2,em_n2,eq_n2,ep_n2,en_n2,en1_n2,en3_n2,eb_n3,em_n3,eq_n3,ep_n3,en_n3,en1_n3,en2_n3]; first | exact hm | (show _=some (⟨(s.mem.set _ _).map .u8,_,_⟩:Blk); rw[List.map_set]),.inr ⟨n+1,by simp[bxO],by simp only[Heap.upd_same,en_b,en1_b,en2_b,en3_b,em_b,eq_b,ep_b,en_m,en1_m,en2_m,en3_m,eb_m,eq_m,ep_m,en_q,en1_q,en2_q,en3_q,eb_q,em_q,ep_q,en_p',en1_p',en2_p',en3_p',eb_p',em_p',eq_p',eb_n,em_n,eq_n,ep_n,en1_n,en2_n,en3_n,eb_n1,em_n1,eq_n1,ep_n1,en_n1,en2_n1,en3_n1,eb_n2,em_n2,eq_n2,ep_n2,en_n2,en1_n2,en3_n2,eb_n3,em_n3,eq_n3,ep_n3,en_n3,en1_n3,en2_n3] <;> simp[bxO],by omega,by omega,.inr (.inl rfl)⟩,by show k+1≤(s.log++[_]).length; rw[List.length_append]; simp; omega,by rw[List.length_append,hacl]; simp; omega,oks_app' hB.aok (by simp[AV.ok]),.inr ⟨n+3,rfl,by simp only[Heap.upd_same,en_b,en1_b,en2_b,en3_b,em_b,eq_b,ep_b,en_m,en1_m,en2_m,en3_m,eb_m,eq_m,ep_m,en_q,en1_q,en2_q,en3_q,eb_q,em_q,ep_q,en_p',en1_p',en2_p',en3_p',eb_p',em_p',eq_p',eb_n,em_n,eq_n,ep_n,en1_n,en2_n,en3_n,eb_n1,em_n1,eq_n1,ep_n1,en_n1,en2_n1,en3_n1,eb_n2,em_n2,eq_n2,ep_n2,en_n2,en1_n2,en3_n2,eb_n3,em_n3,eq_n3,ep_n3,en_n3,en1_n3,en2_n3],by omega,by omega,.inr (.inr rfl)⟩,hbm,.inl hB.fb,.inl hB.fm,fun i hi=>?_⟩ (fun i hi=>?_) (fun i hi hF=>?_))⟩
      · repeat' first
          | exact wf
          | refine Heap.wf_upd ?_ ?_
          | refine Heap.wf_upd_none ?_
          | refine Heap.wf_set ?_ (by omega) ?_
        all_goals first | (simp[AV.ok]; done) | (simp[AV.ok]; omega) | exact oks_app (i64s_ok _ _) (by simp[AV.ok]) | exact oks_app (fun v hv=>hB.aok v hv _) (by simp[AV.ok]) | (rw[← List.map_set]; exact u8s_ok _ _) | (have q1:=AV.ok_mono (show n≤n+2 by omega) _ (hB.blkok wf).1; have q2:=AV.ok_mono (show n≤n+2 by omega) _ (hB.blkok wf).2; simp[AV.ok,q1,q2] <;> omega) | (have q1:=AV.ok_mono (show n≤n+4 by omega) _ (hB.blkok wf).1; have q2:=AV.ok_mono (show n≤n+4 by omega) _ (hB.blkok wf).2; simp[AV.ok,q1,q2] <;> omega)
      · rcases hi with h | h | h
        · have:=hB.low i h; omega
        · omega
        · omega
      · rcases hi with h | h | h
        · exact .inl h
        · exact .inr (by omega)
        · exact .inr (by omega)
      · have hib:i≠b:=fun e=>hF (e▸hB.fb)
        have him:i≠m:=fun e=>hF (e▸hB.fm)
        have hiq:i≠q:=fun e=>hF (e▸h5)
        have hip:i≠p':=fun e=>hF (e▸g5)
        repeat (rw[Heap.upd_ne _ _ (by omega)])
end Go.Proofs.Joy
namespace Go.Proofs.Joy
open Go.Ab Go.Proofs
set_option maxHeartbeats 2000000
set_option maxRecDepth 20000
def flW (b:Nat):WC Tryz.prog Bx where
  O:=bxO
  v:=.pt b 0
  kr:=66
  kw:=89
  ki:=145
  ko:=144
  rep:=flRep b
  left:=bxLeft
  lrd:=bx_lrd
  lwr:=bx_lwr
  lin:=bx_lin
  lout:=bx_lout
  vok:=fun⟨_,_,_,_,_,h⟩=>by have:=h.low b h.fb; simp[AV.ok,this]
  low:=fun⟨_,_,_,_,_,h⟩ hi=>h.low _ hi
  stable:=fl_stable
  read:=fl_read
  write:=fl_write
  inp:=fl_inp
  out:=fl_out
theorem flM (b:Nat):MX (flW b):=⟨rfl,rfl,rfl,rfl⟩
def logIs (H:Heap) (L:AV) (l:List Int):Prop:=(l=[]∧L=.sn)∨∃q,L=.su q 0 l.length 1∧H q=some ⟨l.map .i64,3,false⟩
theorem logIs.ne {H:Heap} {L:AV} {l:List Int} (h:logIs H L l):L≠ .junk:=by rcases h with ⟨_,rfl⟩ | ⟨q,rfl,_⟩ <;> simp
theorem logIs.len {H:Heap} {L:AV} {l:List Int} (h:logIs H L l) (K:AV→Prop):lenB (some .slice) L K=K (.i64 l.length):=by
  rcases h with ⟨rfl,rfl⟩ | ⟨q,rfl,_⟩ <;> rfl
theorem logIs.ok {H:Heap} {n:Nat} {L:AV} {l:List Int} (h:logIs H L l) (wf:H.wf n):L.ok n=true:=by
  rcases h with ⟨_,rfl⟩ | ⟨q,rfl,h⟩
  · rfl
  · have:=(wf _ _ h).1; simp[AV.ok,this]
theorem c_same (l:List Int) (hl:l.length≤4294967296) (L1 L2:AV) {H:Heap} {n:Nat} {K:AV→Heap→Nat→Prop} (h1:logIs H L1 l) (h2:logIs H L2 l) (h:K (.bo true) H n):ACalls Tryz.prog 13 [L1,L2] H n K:=by
  refine ACalls.of_awp Tryz.func13 rfl (by decide +kernel) (show 2≤26 by decide) (by simp; exact⟨h1.ne,h2.ne⟩) fun wf=>?_
  refine awp_step dr13 (by decide +kernel) ?_
  simp only[go_sem,Tryz.f13]
  refine awp_step dr13 (by decide +kernel) ?_
  simp only[go_sem,h1.len,h2.len]
  refine awp_seq ?_
  refine awp_step dr13 (by decide +kernel) ?_
  simp only[go_sem,h1.len]
  refine awp_block ?_
  refine awp_loopF (S:=Nat) (fun j=>[(0,L1),(1,L2),(12,.i64 l.length),(13,.i64 j)]) (fun _=>H) (fun _=>n) (fun j=>j≤l.length) (fun j=>l.length-j)
    (fun _ _=>⟨wf,Env.okAt_of2 (by simp[AV.ok]; exact⟨h1.ok wf,h2.ok wf⟩)⟩) ?_ 0 (Nat.zero_le _) (by repeat (first | exact Env.le_nil _ | refine Env.le_cons rfl ?_)) (fun _ _=>rfl) rfl
  intro j hj
  refine awp_step dr0 (by decide +kernel) ?_
  simp only[go_sem]
  refine awp_step dr0 (by decide +kernel) ?_
  simp only[go_sem]
  refine⟨fun hlt=>?_,fun hlt=>?_⟩
  · have hlt':j<l.length:=by omega
    refine awp_ev dr13 (by decide +kernel) ?_
    rcases h1 with ⟨rfl,_⟩ | ⟨q1,rfl,g1⟩
    · simp at hlt'
    rcases h2 with ⟨rfl,_⟩ | ⟨q2,rfl,g2⟩
    · simp at hlt'
    have e1:(wrap64 ((j:Int)+1))=((j+1:Nat):Int):=by rw[wrap_id _ (by omega) (by omega)]; omega
    have e2:=getD_map_i64 hlt'
    have e3:j<(l.map AV.i64).length:=by rw[List.length_map]; exact hlt'
    simp only[go_sem,g1,g2,e1,e2]
    exact⟨by omega,e3,by omega,e3,Ends.mk (j+1) ⟨by omega,by omega⟩ (by repeat (first | exact Env.le_nil _ | refine Env.le_cons rfl ?_)) (fun _ _=>rfl) (Nat.le_refl _) (Nat.le_refl _)⟩
  · refine awp_ev dr13 (by decide +kernel) ?_
    simp only[go_sem]
    exact Fin.keep h
theorem c_flat (at_:BitVec 16) (code:List (BitVec 8)) (fill:BitVec 8) (cv:AV) (H:Heap) (n:Nat) (K:AV→Heap→Nat→Prop) (hc:bytesIn H cv code) (hok:cv.ok n=true) (hl:code.length≤1000)
    (h:∀b H' n' F',H'.wf n'→n≤n'→flRep b (boxS at_ code fill) H' n' F'→(∀i,F' i→n≤i)→(∀i,i<n→H' i=H i)→K (.pt b 0) H' n'):ACalls Tryz.prog 10 [.u16 at_,cv,.u8 fill] H n K:=by
  have hne:cv≠ .junk:=hc.ne
  refine ACalls.of_awp Tryz.func10 rfl (by decide +kernel) (show 3≤16 by decide) (by simp; exact hne) fun wf=>?_
  refine awp_ev dr0 (by decide +kernel) ?_
  simp only[go_sem,Tryz.f10,hne]
  refine c_box at_ code fill cv _ _ _ hc hok hl fun b H1 n1 F1 w1 l1 ⟨m,L,r1⟩ o1 f1=>?_
  have hb:=r1.blk
  simp only[go_sem,hb]
  have lm:=r1.low m r1.fm
  refine Fin.keep (h n1 _ (n1+1) (fun i=>i=n1∨i=m) ?_ (by omega) ⟨m,.sn,.sn,0,[],r1.len,Heap.upd_same _ _ _,by rw[Heap.upd_ne _ _ (by omega)]; exact r1.mem,.inl ⟨rfl,rfl⟩,Nat.zero_le _,rfl,by simp,.inl ⟨rfl,rfl⟩,by omega,.inl rfl,.inr rfl,fun i hi=>by rcases hi with h | h <;> omega⟩ (fun i hi=>?_) (fun i hi=>?_))
  · exact Heap.wf_upd w1 (by simp[AV.ok]; omega)
  · rcases hi with h | h
    · omega
    · subst h; exact o1 _ r1.fm
  · rw[Heap.upd_ne _ _ (by omega)]; exact f1 i hi
structure TW (b w nb:Nat) (G:Heap) (Q:Nat→Prop) (s t:Bx) (H:Heap) (m:Nat):Prop where
  wf:H.wf m
  le:nb≤m
  rep:∃F E,bxRep b s H m F∧flRep w t H m E∧(∀i,F i→nb≤i∧¬Q i∧¬E i)∧∀i,E i→nb≤i∧¬Q i
  own:∀i,Q i→nb≤i∧i<m
  fr:∀i,i<nb→H i=G i
section
variable {b w nb:Nat} {G:Heap} {Q:Nat→Prop} {s t:Bx} {H:Heap} {m:Nat} {K:AV→Heap→Nat→Prop}
theorem TW.bm (B:TW b w nb G Q s t H m):b<m∧w<m:=by
  obtain⟨F,E,⟨mm,L,h⟩,⟨_,_,_,_,_,g⟩,_⟩:=B.rep
  exact⟨h.low _ h.fb,g.low _ g.fb⟩
theorem TW.logs (B:TW b w nb G Q s t H m):∃m1 m2 L1 L2 A,H b=some ⟨[.sl m1 0 65536 65536,L1],39,false⟩∧H w=some ⟨[.sl m2 0 65536 65536,.pn,L2,.bo false,.u8 0#8,A],43,false⟩∧logIs H L1 s.log∧logIs H L2 t.log∧
    H m1=some ⟨s.mem.map .u8,5,false⟩∧H m2=some ⟨t.mem.map .u8,5,false⟩∧s.mem.length=65536∧t.mem.length=65536∧¬Q b∧¬Q w∧¬Q m1∧¬Q m2:=by
  obtain⟨F,E,⟨m1,L1,h⟩,⟨m2,L2,A,_,_,g⟩,q1,q2⟩:=B.rep
  refine⟨m1,m2,L1,L2,A,h.blk,g.blk,?_,?_,h.mem,g.mem,h.len,g.len,(q1 _ h.fb).2.1,(q2 _ g.fb).2,(q1 _ h.fm).2.1,(q2 _ g.fm).2⟩
  · rcases h.log with h1 | ⟨q,h1,h2,_⟩
    · exact .inl h1
    · exact .inr ⟨q,h1,h2⟩
  · rcases g.log with h1 | ⟨q,h1,h2,_⟩
    · exact .inl h1
    · exact .inr ⟨q,h1,h2⟩
theorem TW.alloc (B:TW b w nb G Q s t H m) (bl:Blk) (ok:∀v∈bl.cells,v.ok (m+1)=true):TW b w nb G (fun i=>Q i∨i=m) s t (H.upd m (some bl)) (m+1):=by
  obtain⟨F,E,h1,h2,h3,h4⟩:=B.rep
  have lF:∀i,F i→i<m:=fun i hi=>(boxW b).low h1 hi
  have lE:∀i,E i→i<m:=fun i hi=>(flW w).low h2 hi
  refine⟨Heap.wf_upd B.wf ok,by have:=B.le; omega,⟨F,E,bx_stable h1 (fun i hi=>Heap.upd_ne _ _ (by have:=lF i hi; omega)) (by omega),fl_stable h2 (fun i hi=>Heap.upd_ne _ _ (by have:=lE i hi; omega)) (by omega),fun i hi=>⟨(h3 i hi).1,fun h=>?_,(h3 i hi).2.2⟩,fun i hi=>⟨(h4 i hi).1,fun h=>?_⟩⟩,fun i hi=>?_,fun i hi=>by rw[Heap.upd_ne _ _ (by have:=B.le; omega)]; exact B.fr i hi⟩
  · rcases h with h | h
    · exact(h3 i hi).2.1 h
    · have:=lF i hi; omega
  · rcases h with h | h
    · exact(h4 i hi).2 h
    · have:=lE i hi; omega
  · rcases hi with h | h
    · have:=B.own i h; omega
    · have:=B.le; omega
theorem TW.less {Q':Nat→Prop} (B:TW b w nb G Q s t H m) (hq:∀i,Q' i→Q i):TW b w nb G Q' s t H m:=let⟨F,E,h1,h2,h3,h4⟩:=B.rep; ⟨B.wf,B.le,⟨F,E,h1,h2,fun i hi=>⟨(h3 i hi).1,fun h=>(h3 i hi).2.1 (hq i h),(h3 i hi).2.2⟩,fun i hi=>⟨(h4 i hi).1,fun h=>(h4 i hi).2 (hq i h)⟩⟩,fun i hi=>B.own i (hq i hi),B.fr⟩
theorem TW.junk (B:TW b w nb G Q s t H m) (bl:Blk) (ok:∀v∈bl.cells,v.ok (m+1)=true):TW b w nb G Q s t (H.upd m (some bl)) (m+1):=(B.alloc bl ok).less fun _ h=>.inl h
theorem TW.put (B:TW b w nb G Q s t H m) {k:Nat} (hk:Q k) (bl:Blk) (ok:∀v∈bl.cells,v.ok m=true):TW b w nb G Q s t (H.upd k (some bl)) m:=by
  obtain⟨F,E,h1,h2,h3,h4⟩:=B.rep
  have hkm:=B.own k hk
  exact⟨Heap.wf_set B.wf hkm.2 ok,B.le,⟨F,E,bx_stable h1 (fun i hi=>Heap.upd_ne _ _ (fun e=>(h3 i hi).2.1 (e▸hk))) (Nat.le_refl _),fl_stable h2 (fun i hi=>Heap.upd_ne _ _ (fun e=>(h4 i hi).2 (e▸hk))) (Nat.le_refl _),h3,h4⟩,B.own,fun i hi=>by rw[Heap.upd_ne _ _ (by omega)]; exact B.fr i hi⟩
theorem TW.turnA (B:TW b w nb G Q s t H m) {F E:Nat→Prop} (h2:flRep w t H m E) (h3:∀i,F i→nb≤i∧¬Q i∧¬E i) (h4:∀i,E i→nb≤i∧¬Q i) {s':Bx} {H':Heap} {m':Nat} {F':Nat→Prop} (wf:H'.wf m') (l:m≤m') (r:bxRep b s' H' m' F') (o:∀i,F' i→F i∨m≤i) (f:∀i,i<m→¬F i→H' i=H i):
    TW b w nb G Q s' t H' m'∧∀i,Q i→H' i=H i:=by
  have hle:=B.le
  have lE:∀i,E i→i<m:=fun i hi=>(flW w).low h2 hi
  refine⟨⟨wf,by omega,⟨F',E,r,fl_stable h2 (fun i hi=>f i (lE i hi) fun hF=>(h3 i hF).2.2 hi) l,fun i hi=>?_,h4⟩,fun i hi=>by have:=B.own i hi; omega,fun i hi=>?_⟩,fun i hi=>f i (B.own i hi).2 fun hF=>(h3 i hF).2.1 hi⟩
  · rcases o i hi with g | g
    · exact h3 i g
    · exact⟨by omega,fun hq=>by have:=B.own i hq; omega,fun hE=>by have:=lE i hE; omega⟩
  · rw[f i (by omega) (fun hF=>by have:=(h3 i hF).1; omega)]; exact B.fr i hi
theorem TW.turnB (B:TW b w nb G Q s t H m) {F E:Nat→Prop} (h1:bxRep b s H m F) (h3:∀i,F i→nb≤i∧¬Q i∧¬E i) (h4:∀i,E i→nb≤i∧¬Q i) {t':Bx} {H':Heap} {m':Nat} {E':Nat→Prop} (wf:H'.wf m') (l:m≤m') (r:flRep w t' H' m' E') (o:∀i,E' i→E i∨m≤i) (f:∀i,i<m→¬E i→H' i=H i):
    TW b w nb G Q s t' H' m'∧∀i,Q i→H' i=H i:=by
  have hle:=B.le
  have lF:∀i,F i→i<m:=fun i hi=>(boxW b).low h1 hi
  refine⟨⟨wf,by omega,⟨F,E',bx_stable h1 (fun i hi=>f i (lF i hi) fun hE=>(h3 i hi).2.2 hE) l,r,fun i hi=>⟨(h3 i hi).1,(h3 i hi).2.1,fun hE=>?_⟩,fun i hi=>?_⟩,fun i hi=>by have:=B.own i hi; omega,fun i hi=>?_⟩,fun i hi=>f i (B.own i hi).2 fun hE=>(h4 i hE).2 hi⟩
  · rcases o i hE with g | g
    · exact(h3 i hi).2.2 g
    · have:=lF i hi; omega
  · rcases o i hi with g | g
    · exact h4 i g
    · exact⟨by omega,fun hq=>by have:=B.own i hq; omega⟩
  · rw[f i (by omega) (fun hE=>by have:=(h4 i hE).1; omega)]; exact B.fr i hi
theorem TW.step (B:TW b w nb G Q s t H m) (r:Rg) (hl:6≤bxLeft s) (h:∀(r':Rg) (q:Nat) s' H' m',(stepE r).run bxO s=((r',q),s')→bxLeft s≤bxLeft s'+6→TW b w nb G Q s' t H' m'→m≤m'→(∀i,Q i→H' i=H i)→K (.tu [.ag r'.cells,.i64 q]) H' m'):
    ACalls Tryz.prog 11 [.ag r.cells,.ifc 29 (.pt b 0)] H m K:=by
  obtain⟨F,E,h1,h2,h3,h4⟩:=B.rep
  refine c_step (boxM b) r h1 hl fun r' q s' H' m' F' e lf wf l r2 o f=>?_
  obtain⟨B',k⟩:=B.turnA h2 h3 h4 wf l r2 o f
  exact h r' q s' H' m' e lf B' l k
theorem TW.inter (B:TW b w nb G Q s t H m) (r:Rg) (p line:Bool) (hl:6≤bxLeft s) (h:∀(r':Rg) (q:Nat) s' H' m',(interE r p line).run bxO s=((r',q),s')→bxLeft s≤bxLeft s'+6→TW b w nb G Q s' t H' m'→m≤m'→(∀i,Q i→H' i=H i)→K (.tu [.ag r'.cells,.i64 q]) H' m'):
    ACalls Tryz.prog 16 [.ag r.cells,.ifc 29 (.pt b 0),.bo p,.bo line] H m K:=by
  obtain⟨F,E,h1,h2,h3,h4⟩:=B.rep
  refine c_inter (boxM b) r p line h1 hl fun r' q s' H' m' F' e lf wf l r2 o f=>?_
  obtain⟨B',k⟩:=B.turnA h2 h3 h4 wf l r2 o f
  exact h r' q s' H' m' e lf B' l k
theorem TW.inter2 (B:TW b w nb G Q s t H m) (r:Rg) (p line:Bool) (hr:r.right=true) (hl:8≤bxLeft t) (h:∀(r':Rg) (q:Nat) t' H' m',(interE r p line).run bxO t=((r',q),t')→bxLeft t≤bxLeft t'+8→TW b w nb G Q s t' H' m'→m≤m'→(∀i,Q i→H' i=H i)→K (.tu [.ag r'.cells,.i64 q]) H' m'):
    ACalls Tryz.prog 17 [.ag r.cells,.pt w 0,.bo p,.bo line] H m K:=by
  obtain⟨F,E,h1,h2,h3,h4⟩:=B.rep
  refine x_Inter (flM w) rfl r p line h2 hl fun r' q t' H' m' E' e lf wf l r2 o f=>?_
  rw[inter_same r hr] at e
  obtain⟨B',k⟩:=B.turnB h1 h3 h4 wf l r2 o f
  exact h r' q t' H' m' e lf B' l k
end
end Go.Proofs.Joy
namespace Go.Proofs.Joy
open Go.Ab Go.Proofs
set_option maxHeartbeats 4000000
set_option maxRecDepth 20000
theorem c_alive (H:Heap) (n:Nat) (K:AV→Heap→Nat→Prop) (h:K (.bo true) H n):ACalls Tryz.prog 7 [] H n K:=by
  refine ACalls.of_awp Tryz.func7 rfl (by decide +kernel) (show 0≤18 by decide) (by simp) fun wf=>?_
  refine awp_ev dr0 (by decide +kernel) ?_
  simp only[go_sem,Tryz.f7]
  refine c_box 100#16 [0x3E#8,5#8] 0#8 _ _ _ _ (bytesIn.whole (Heap.upd_same _ _ _) rfl (Nat.le_refl _)) (by simp[AV.ok]) (by decide) fun b H1 n1 F1 w1 l1 r1 o1 f1=>?_
  simp only[go_sem]
  refine c_step (boxM b) ({ rg0 with pc:=100#16}) r1 (box_left _ _ _) fun r' q s2 H2 n2 F2 e2 lf w2 l2 r2 o2 f2=>?_
  have kk:∀i,i<n→H2 i=H i:=fun i hi=>(f2 i (by omega) (fun hF=>absurd (o1 i hF) (by omega))).trans ((f1 i (by omega)).trans (Heap.upd_ne _ _ (by omega)))
  have hx:=(run_box e2).symm.trans alive_eq
  simp only[Prod.mk.injEq] at hx
  obtain⟨rfl,rfl⟩:=hx
  simp only[go_sem,Rg.cells,rg0]
  exact Fin.back wf h (fun i hi=>by rw[Heap.upd_ne _ _ (by omega)]; exact kk i hi) rfl
end Go.Proofs.Joy
namespace Go.Proofs.Joy
open Go.Ab Go.Proofs
set_option maxHeartbeats 4000000
set_option maxRecDepth 20000
theorem logIs.upd {H:Heap} {n:Nat} {L:AV} {l:List Int} (h:logIs H L l) (wf:H.wf n) (b:Option Blk):logIs (H.upd n b) L l:=by
  rcases h with h | ⟨q,h1,h2⟩
  · exact .inl h
  · exact .inr ⟨q,h1,by rw[Heap.upd_ne _ _ (by have:=(wf _ _ h2).1; omega)]; exact h2⟩
theorem TW.start {b w nb:Nat} {s t:Bx} {H1 H2:Heap} {m1 m2:Nat} {F E:Nat→Prop} (r1:bxRep b s H1 m1 F) (o1:∀i,F i→nb≤i) (l1:nb≤m1) (w2:H2.wf m2) (l2:m1≤m2) (r2:flRep w t H2 m2 E) (o2:∀i,E i→m1≤i) (f2:∀i,i<m1→H2 i=H1 i):TW b w nb H1 (fun _=>False) s t H2 m2:=
  have lF:∀i,F i→i<m1:=fun i hi=>(boxW b).low r1 hi
  ⟨w2,by omega,⟨F,E,bx_stable r1 (fun i hi=>f2 i (lF i hi)) l2,r2,fun i hi=>⟨o1 i hi,fun h=>h,fun hE=>by have:=lF i hi; have:=o2 i hE; omega⟩,fun i hi=>⟨by have:=o2 i hi; omega,fun h=>h⟩⟩,fun _ h=>h.elim,fun i hi=>f2 i (by omega)⟩
theorem interrupts_walk (r:Rg) (p line:Bool) (H:Heap) (n:Nat) (K:AV→Heap→Nat→Prop) (h:K (.bo true) H n):ACalls Tryz.prog 6 [.ag r.cells,.bo p,.bo line] H n K:=by
  refine ACalls.of_awp Tryz.func6 rfl (by decide +kernel) (show 3≤56 by decide) (by simp) fun wf=>?_
  refine awp_step dr6 (by decide +kernel) ?_
  simp only[go_sem,Tryz.f6]
  refine awp_step dr6 (by decide +kernel) ?_
  simp only[go_sem]
  refine c_alive _ _ _ ?_
  simp only[go_sem,Rg.cells]
  refine awp_step dr6 (by decide +kernel) ?_
  simp only[go_sem]
  refine c_right r _ _ _ ?_
  simp only[go_sem]
  refine⟨fun e=>Fin.back wf h (fun i hi=>by repeat (rw[Heap.upd_ne _ _ (by omega)])) rfl,fun e=>?_⟩
  have hr:r.right=true:=by simpa using e
  refine awp_step dr6 (by decide +kernel) ?_
  simp only[go_sem]
  refine c_box 0#16 [] 77#8 _ _ _ _ (.inl ⟨rfl,rfl⟩) rfl (by decide) fun b H1 m1 F1 w1 l1 r1 o1 f1=>?_
  simp only[go_sem]
  refine c_flat 0#16 [] 77#8 _ _ _ _ (.inl ⟨rfl,rfl⟩) rfl (by decide) fun w H2 m2 F2 w2 l2 r2 o2 f2=>?_
  simp only[go_sem]
  have B0:=TW.start r1 o1 l1 w2 l2 r2 o2 f2
  have hrn:H2 n=some ⟨r.cells,25,false⟩:=by rw[f2 n (by omega),f1 n (by omega),Heap.upd_same]; rfl
  have hrn':=hrn
  simp only[Rg.cells] at hrn'
  refine awp_step dr6 (by decide +kernel) ?_
  simp only[go_sem,hrn']
  refine B0.inter r p line (by decide) fun r' q s' H3 m3 e1 lf1 B1 l3 _=>?_
  have hn3:H3 n=some ⟨r.cells,25,false⟩:=by rw[B1.fr n (by omega),f1 n (by omega),Heap.upd_same]; rfl
  simp only[go_sem,Rg.cells]
  have B2:=B1.alloc ⟨r'.cells,25,false⟩ (cells_ok ⟨r',0#8⟩ _)
  have hn4:(H3.upd m3 (some ⟨r'.cells,25,false⟩)) n=some ⟨r.cells,25,false⟩:=by rw[Heap.upd_ne _ _ (by have:=B1.le; omega)]; exact hn3
  have hn4':=hn4
  simp only[Rg.cells] at hn4'
  refine awp_step dr6 (by decide +kernel) ?_
  simp only[go_sem,Rg.cells,hn4']
  refine B2.inter2 r p line hr (by decide) fun r2 q2 t' H4 m4 e2 lf2 B3 l4 k4=>?_
  have he:=e1.symm.trans e2
  simp only[Prod.mk.injEq] at he
  obtain⟨⟨rfl,rfl⟩,rfl⟩:=he
  have h9:H4 m3=some ⟨r'.cells,25,false⟩:=by rw[k4 m3 (.inr rfl),Heap.upd_same]
  simp only[go_sem,Rg.cells]
  obtain⟨k1,k2,L1,L2,A,g1,g2,g3,g4,-⟩:=B3.logs
  have hbm:=B3.bm
  have hm3:=B3.own m3 (.inr rfl)
  have h9':=h9
  simp only[Rg.cells] at h9'
  have y1:=fun Y=>(Heap.upd_ne H4 (i:=m4) (j:=m3) Y (by omega)).trans h9'
  have y2:=fun Y=>(Heap.upd_ne H4 (i:=m4) (j:=b) Y (by omega)).trans g1
  have y3:=fun Y=>(Heap.upd_ne H4 (i:=m4) (j:=w) Y (by omega)).trans g2
  refine awp_ev dr6 (by decide +kernel) ?_
  simp only[go_sem,Rg.cells,y1,y2,y3]
  refine c_same s'.log ?_ L1 L2 (g3.upd B3.wf _) (g4.upd B3.wf _) ?_
  · have e0:bxLeft (boxS 0#16 [] 77#8)=4294967296:=rfl
    rw[e0] at lf1
    unfold bxLeft at lf1
    omega
  simp only[go_sem,y1,y2,y3]
  have:=B3.le
  exact Fin.back wf h (fun i hi=>by rw[Heap.upd_ne _ _ (by omega),B3.fr i (by omega),f1 i (by omega),Heap.upd_ne _ _ (by omega)]) rfl
end Go.Proofs.Joy
namespace Go.Proofs.Joy
open Go.Ab
set_option maxHeartbeats 1000000
end Go.Proofs.Joy
namespace Go.Proofs.Joy
open Go.Ab
set_option maxHeartbeats 1000000
end Go.Proofs.Joy
namespace Go.Proofs.Joy
open Go.Ab
set_option maxHeartbeats 1000000
end Go.Proofs.Joy
namespace Go.Proofs.Joy
open Go.Ab
set_option maxHeartbeats 1000000
end Go.Proofs.Joy
namespace Go.Proofs.Joy
open Go.Ab
set_option maxHeartbeats 1000000
end Go.Proofs.Joy
namespace Go.Proofs.Joy
open Go.Ab
set_option maxHeartbeats 1000000
end Go.Proofs.Joy
namespace Go.Proofs.Joy
open Go.Ab
set_option maxHeartbeats 1000000
end Go.Proofs.Joy
namespace Go.Proofs.Joy
open Go.Ab Go
theorem fitsR_cons {k:EK} {ks:List EK} {l:List AV} (h:FitsR (k :: ks) l):∃x l',l=x :: l'∧x.fits k=true∧FitsR ks l':=by
  match l,h with
  | [],h=>simp[FitsR,fits] at h
  | x :: l',⟨h,hr⟩=>
    simp only[fits,Bool.and_eq_true] at h
    exact⟨x,l',rfl,h.1,h.2,fun y hy=>hr y (List.mem_cons_of_mem _ hy)⟩
theorem fits_u8 {x:AV} (h:x.fits (.int .u8)=true):∃v,x=.u8 v:=by cases x <;> simp[AV.fits] at h; exact⟨_,rfl⟩
theorem fits_u16 {x:AV} (h:x.fits (.int .u16)=true):∃v,x=.u16 v:=by cases x <;> simp[AV.fits] at h; exact⟨_,rfl⟩
theorem fits_bool {x:AV} (h:x.fits .bool=true):∃v,x=.bo v:=by cases x <;> simp[AV.fits] at h; exact⟨_,rfl⟩
theorem fitsR_u8 {ks:List EK} {l:List AV} (h:FitsR (.int .u8 :: ks) l):∃x l',l=.u8 x :: l'∧FitsR ks l':=by
  obtain⟨x,l',rfl,h1,h2⟩:=fitsR_cons h
  obtain⟨v,rfl⟩:=fits_u8 h1
  exact⟨v,l',rfl,h2⟩
theorem fitsR_u16 {ks:List EK} {l:List AV} (h:FitsR (.int .u16 :: ks) l):∃x l',l=.u16 x :: l'∧FitsR ks l':=by
  obtain⟨x,l',rfl,h1,h2⟩:=fitsR_cons h
  obtain⟨v,rfl⟩:=fits_u16 h1
  exact⟨v,l',rfl,h2⟩
theorem fitsR_bool {ks:List EK} {l:List AV} (h:FitsR (.bool :: ks) l):∃x l',l=.bo x :: l'∧FitsR ks l':=by
  obtain⟨x,l',rfl,h1,h2⟩:=fitsR_cons h
  obtain⟨v,rfl⟩:=fits_bool h1
  exact⟨v,l',rfl,h2⟩
theorem fitsR_nil {l:List AV} (h:FitsR [] l):l=[]:=by
  match l,h with
  | [],_=>rfl
  | _ :: _,h=>simp[FitsR,fits] at h
def kR:List EK:=[.int .u8,.int .u8,.int .u8,.int .u8,.int .u8,.int .u8,.int .u8,.int .u8,.int .u8,.int .u8,.int .u8,.int .u8,.int .u8,.int .u8,.int .u8,.int .u8,.int .u16,.int .u16,.int .u16,.int .u16,.int .u16,.int .u8,.int .u8,.int .u8,.int .u8,.bool,.bool,.bool,.bool]
def shR:AK:=.ag (kR.map .k)
theorem fitA_rg {H:Heap} {v:AV} (h00:fitA H shR v):∃r:Rg,v=.ag r.cells:=by
  obtain⟨l1,rfl,h1⟩:=fitA_flat h00
  obtain⟨a,l2,rfl,h2⟩:=fitsR_u8 h1
  obtain⟨f,l3,rfl,h3⟩:=fitsR_u8 h2
  obtain⟨b,l4,rfl,h4⟩:=fitsR_u8 h3
  obtain⟨c,l5,rfl,h5⟩:=fitsR_u8 h4
  obtain⟨d,l6,rfl,h6⟩:=fitsR_u8 h5
  obtain⟨e,l7,rfl,h7⟩:=fitsR_u8 h6
  obtain⟨hh_,l8,rfl,h8⟩:=fitsR_u8 h7
  obtain⟨ll_,l9,rfl,h9⟩:=fitsR_u8 h8
  obtain⟨a2,l10,rfl,h10⟩:=fitsR_u8 h9
  obtain⟨f2,l11,rfl,h11⟩:=fitsR_u8 h10
  obtain⟨b2,l12,rfl,h12⟩:=fitsR_u8 h11
  obtain⟨c2,l13,rfl,h13⟩:=fitsR_u8 h12
  obtain⟨d2,l14,rfl,h14⟩:=fitsR_u8 h13
  obtain⟨e2,l15,rfl,h15⟩:=fitsR_u8 h14
  obtain⟨h2_,l16,rfl,h16⟩:=fitsR_u8 h15
  obtain⟨l2_,l17,rfl,h17⟩:=fitsR_u8 h16
  obtain⟨ix,l18,rfl,h18⟩:=fitsR_u16 h17
  obtain⟨iy,l19,rfl,h19⟩:=fitsR_u16 h18
  obtain⟨sp,l20,rfl,h20⟩:=fitsR_u16 h19
  obtain⟨pc,l21,rfl,h21⟩:=fitsR_u16 h20
  obtain⟨wz,l22,rfl,h22⟩:=fitsR_u16 h21
  obtain⟨i,l23,rfl,h23⟩:=fitsR_u8 h22
  obtain⟨r,l24,rfl,h24⟩:=fitsR_u8 h23
  obtain⟨im,l25,rfl,h25⟩:=fitsR_u8 h24
  obtain⟨pre,l26,rfl,h26⟩:=fitsR_u8 h25
  obtain⟨x1,l27,rfl,h27⟩:=fitsR_bool h26
  obtain⟨x2,l28,rfl,h28⟩:=fitsR_bool h27
  obtain⟨x3,l29,rfl,h29⟩:=fitsR_bool h28
  obtain⟨x4,l30,rfl,h30⟩:=fitsR_bool h29
  obtain rfl:=fitsR_nil h30
  exact⟨⟨a,f,b,c,d,e,hh_,ll_,a2,f2,b2,c2,d2,e2,h2_,l2_,ix,iy,sp,pc,wz,i,r,im,pre,x1,x2,x3,x4⟩,rfl⟩
end Go.Proofs.Joy
namespace Go.Proofs.Joy
open Go.Ab Go.Proofs
theorem interrupts_all (H:Heap) (n:Nat) (L:List AV) (_:RO H) (_:H.wf n) (_:∀x∈L,x.ok n=true) (hf:fitAs H [shR,.one (.k .bool),.one (.k .bool)] L):ACalls Tryz.prog 6 L H n fun v _ _=>v=.bo true:=by
  match L,hf with
  | [a,b,c],⟨h1,h2,h3,_⟩=>
    obtain⟨r,rfl⟩:=fitA_rg h1
    obtain⟨x,rfl⟩:=fitA_bool h2
    obtain⟨y,rfl⟩:=fitA_bool h3
    exact interrupts_walk _ _ _ _ _ _ rfl
end Go.Proofs.Joy
