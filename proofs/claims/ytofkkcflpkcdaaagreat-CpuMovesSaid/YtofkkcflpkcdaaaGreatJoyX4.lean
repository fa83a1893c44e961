/- Parts of the proof: contracts of the seat's functions. -/
import Derived.Test.YtofkkcflpkcdaaaGreatJoyX3
import Derived.Test.YtofkkcflpkcdaaaGreatJoyW1
import Derived.Test.YtofkkcflpkcdaaaGreatJoyX2
set_option linter.unusedSimpArgs false
set_option linter.unusedVariables false
set_option linter.unnecessarySimpa false
namespace Go.Proofs.Joy
open Go.Ab Go.Proofs
set_option maxHeartbeats 2000000
set_option maxRecDepth 20000
structure FlAt (b:Nat) (s:Bx) (H:Heap) (n:Nat) (F:Nat→Prop) (m:Nat) (L A:AV) (k:Nat) (ac:List AV):Prop where
  len:s.mem.length=65536
  blk:H b=some ⟨[.sl m 0 65536 65536,.pn,L,.bo false,.u8 0#8,A],43,false⟩
  mem:H m=some ⟨s.mem.map .u8,5,false⟩
  log:(s.log=[]∧L=.sn)∨∃q,L=.su q 0 s.log.length 1∧H q=some ⟨s.log.map .i64,3,false⟩∧q≠b∧q≠m∧F q
  kle:k≤s.log.length
  acl:ac.length=k*4
  aok:∀v∈ac,∀n,v.ok n=true
  asks:(k=0∧A=.sn)∨∃q,A=.su q 0 k 4∧H q=some ⟨ac,170,false⟩∧q≠b∧q≠m∧F q
  bm:b≠m
  fb:F b
  fm:F m
  low:∀i,F i→i<n
def flRep (b:Nat) (s:Bx) (H:Heap) (n:Nat) (F:Nat→Prop):Prop:=∃m L A k ac,FlAt b s H n F m L A k ac
theorem fl_stable {b:Nat} {s:Bx} {H:Heap} {n:Nat} {F:Nat→Prop} {H':Heap} {n':Nat} (h:flRep b s H n F) (he:∀i,F i→H' i=H i) (hn:n≤n'):flRep b s H' n' F:=by
  obtain⟨m,L,A,k,ac,h⟩:=h
  refine⟨m,L,A,k,ac,h.len,by rw[he _ h.fb]; exact h.blk,by rw[he _ h.fm]; exact h.mem,?_,h.kle,h.acl,h.aok,?_,h.bm,h.fb,h.fm,fun i hi=>Nat.lt_of_lt_of_le (h.low i hi) hn⟩
  · rcases h.log with h1 | ⟨q,h1,h2,h3,h4,h5⟩
    · exact .inl h1
    · exact .inr ⟨q,h1,by rw[he _ h5]; exact h2,h3,h4,h5⟩
  · rcases h.asks with h1 | ⟨q,h1,h2,h3,h4,h5⟩
    · exact .inl h1
    · exact .inr ⟨q,h1,by rw[he _ h5]; exact h2,h3,h4,h5⟩
theorem sp4 (a b c d a' b' c' d':AV):splice (repCells 1 [a',b',c',d']) 0 [a,b,c,d]=[a,b,c,d]:=rfl
theorem oks_app' {a b:List AV} (h1:∀v∈a,∀n,v.ok n=true) (h2:∀v∈b,∀n,v.ok n=true):∀v∈a++b,∀n,v.ok n=true:=fun v hv=>(List.mem_append.1 hv).elim (h1 v) (h2 v)
theorem FlAt.blkok {b:Nat} {s:Bx} {H:Heap} {n:Nat} {F:Nat→Prop} {m:Nat} {L A:AV} {k:Nat} {ac:List AV} (hB:FlAt b s H n F m L A k ac) (wf:H.wf n):L.ok n=true∧A.ok n=true:=by
  have h:=(wf _ _ hB.blk).2
  exact⟨h L (by simp),h A (by simp)⟩
theorem oks_app {a b:List AV} {n:Nat} (h1:∀v∈a,v.ok n=true) (h2:∀v∈b,v.ok n=true):∀v∈a++b,v.ok n=true:=fun v hv=>(List.mem_append.1 hv).elim (h1 v) (h2 v)
theorem fl_read {b:Nat} {s:Bx} {a:BitVec 16} {H:Heap} {n:Nat} {F:Nat→Prop} {K:AV→Heap→Nat→Prop} (hl:1≤bxLeft s) (hr:flRep b s H n F) (h:∀H' n' F',H'.wf n'→n≤n'→flRep b (bxO.rd s a).2 H' n' F'→(∀i,F' i→F i∨n≤i)→(∀i,i<n→¬F i→H' i=H i)→K (.u8 (bxO.rd s a).1) H' n'):ACalls Tryz.prog 66 [.pt b 0,.u16 a] H n K:=by
  refine ACalls.of_awp Tryz.func66 rfl (by decide +kernel) (show 2≤34 by decide) (by simp) fun wf=>?_
  obtain⟨m,L,A,k,ac,hB⟩:=hr
  have hb:=hB.blk
  have hm:=hB.mem
  have lb:=hB.low b hB.fb
  have lm:=hB.low m hB.fm
  have hbm:=hB.bm
  have hlen:=hB.len
  have hacl:=hB.acl
  have hkle:=hB.kle
  unfold bxLeft at hl
  rcases hB.log with ⟨hl0,rfl⟩ | ⟨q,rfl,hq,h3,h4,h5⟩
  · have en_b:=fun X Y=>Heap.upd_ne X (i:=n) (j:=b) Y (by omega)
    have en1_b:=fun X Y=>Heap.upd_ne X (i:=n+1) (j:=b) Y (by omega)
    have em_b:=fun X Y=>Heap.upd_ne X (i:=m) (j:=b) Y (by omega)
    have en_m:=fun X Y=>Heap.upd_ne X (i:=n) (j:=m) Y (by omega)
    have en1_m:=fun X Y=>Heap.upd_ne X (i:=n+1) (j:=m) Y (by omega)
    have eb_m:=fun X Y=>Heap.upd_ne X (i:=b) (j:=m) Y (by omega)
    have eb_n:=fun X Y=>Heap.upd_ne X (i:=b) (j:=n) Y (by omega)
    have em_n:=fun X Y=>Heap.upd_ne X (i:=m) (j:=n) Y (by omega)
    have en1_n:=fun X Y=>Heap.upd_ne X (i:=n+1) (j:=n) Y (by omega)
    have eb_n1:=fun X Y=>Heap.upd_ne X (i:=b) (j:=n+1) Y (by omega)
    have em_n1:=fun X Y=>Heap.upd_ne X (i:=m) (j:=n+1) Y (by omega)
    have en_n1:=fun X Y=>Heap.upd_ne X (i:=n) (j:=n+1) Y (by omega)
    refine awp_ev dr0 (by decide +kernel) ?_
    simp only[go_sem,Tryz.f66,hb,hm,en_b,en1_b,em_b,en_m,en1_m,eb_m,eb_n,em_n,en1_n,eb_n1,em_n1,en_n1,sp4]
    have ha:a.toNat<s.mem.length:=by rw[hlen]; exact a.isLt
    have ha2:=a.isLt
    rw[u8_getD ha]
    refine⟨by first | omega | (rw[List.length_map]; omega) | (rw[List.length_map]; exact ha) | decide | (exact Nat.le_refl _) | simp,by first | omega | (rw[List.length_map]; omega) | (rw[List.length_map]; exact ha) | decide | (exact Nat.le_refl _) | simp,by first | omega | (rw[List.length_map]; omega) | (rw[List.length_map]; exact ha) | decide | (exact Nat.le_refl _) | simp,Fin.keep (h _ _ (fun i=>F i∨i=n+1) ?_ (by omega) ⟨m,.su (n+1) 0 (s.log.length+1) 1,A,k,ac,by first | exact hlen | (show _=_; exact hlen),by simp only[Heap.upd_same,en_b,en1_b,em_b,en_m,en1_m,eb_m,eb_n,em_n,en1_n,eb_n1,em_n1,en_n1] <;> simp[bxO,hl0],by simp only[Heap.upd_same,en_b,en1_b,em_b,en_m,en1_m,eb_m,eb_n,em_n,en1_n,eb_n1,em_n1,en_n1]; first | exact hm | (show _=some (⟨(s.mem.set _ _).map .u8,_,_⟩:Blk); rw[List.map_set]),.inr ⟨n+1,by simp[bxO,hl0],by simp only[Heap.upd_same,en_b,en1_b,em_b,en_m,en1_m,eb_m,eb_n,em_n,en1_n,eb_n1,em_n1,en_n1] <;> simp[bxO,hl0],by omega,by omega,.inr rfl⟩,by show k≤(s.log++[_]).length; rw[List.length_append]; omega,hacl,hB.aok,?_,hbm,.inl hB.fb,.inl hB.fm,fun i hi=>?_⟩ (fun i hi=>?_) (fun i hi hF=>?_))⟩
    · repeat' first
        | exact wf
        | refine Heap.wf_upd ?_ ?_
        | refine Heap.wf_upd_none ?_
        | refine Heap.wf_set ?_ (by omega) ?_
      all_goals first | (simp[AV.ok]; done) | (simp[AV.ok]; omega) | exact oks_app (i64s_ok _ _) (by simp[AV.ok]) | exact oks_app (fun v hv=>hB.aok v hv _) (by simp[AV.ok]) | (rw[← List.map_set]; exact u8s_ok _ _) | (have q1:=AV.ok_mono (show n≤n+2 by omega) _ (hB.blkok wf).1; have q2:=AV.ok_mono (show n≤n+2 by omega) _ (hB.blkok wf).2; simp[AV.ok,q1,q2] <;> omega) | (have q1:=AV.ok_mono (show n≤n+4 by omega) _ (hB.blkok wf).1; have q2:=AV.ok_mono (show n≤n+4 by omega) _ (hB.blkok wf).2; simp[AV.ok,q1,q2] <;> omega)
    · rcases hB.asks with h1 | ⟨p',h1,hp,g3,g4,g5⟩
      · exact .inl h1
      · have lp:=hB.low p' g5
        refine .inr ⟨p',h1,?_,g3,g4,.inl g5⟩
        repeat (rw[Heap.upd_ne _ _ (by omega)])
        exact hp
    · rcases hi with h | h
      · have:=hB.low i h; omega
      · omega
    · rcases hi with h | h
      · exact .inl h
      · exact .inr (by omega)
    · have hib:i≠b:=fun e=>hF (e▸hB.fb)
      have him:i≠m:=fun e=>hF (e▸hB.fm)
      repeat (rw[Heap.upd_ne _ _ (by omega)])
  · have lq:=hB.low q h5
    have en_b:=fun X Y=>Heap.upd_ne X (i:=n) (j:=b) Y (by omega)
    have en1_b:=fun X Y=>Heap.upd_ne X (i:=n+1) (j:=b) Y (by omega)
    have em_b:=fun X Y=>Heap.upd_ne X (i:=m) (j:=b) Y (by omega)
    have eq_b:=fun X Y=>Heap.upd_ne X (i:=q) (j:=b) Y (by omega)
    have en_m:=fun X Y=>Heap.upd_ne X (i:=n) (j:=m) Y (by omega)
    have en1_m:=fun X Y=>Heap.upd_ne X (i:=n+1) (j:=m) Y (by omega)
    have eb_m:=fun X Y=>Heap.upd_ne X (i:=b) (j:=m) Y (by omega)
    have eq_m:=fun X Y=>Heap.upd_ne X (i:=q) (j:=m) Y (by omega)
    have en_q:=fun X Y=>Heap.upd_ne X (i:=n) (j:=q) Y (by omega)
    have en1_q:=fun X Y=>Heap.upd_ne X (i:=n+1) (j:=q) Y (by omega)
    have eb_q:=fun X Y=>Heap.upd_ne X (i:=b) (j:=q) Y (by omega)
    have em_q:=fun X Y=>Heap.upd_ne X (i:=m) (j:=q) Y (by omega)
    have eb_n:=fun X Y=>Heap.upd_ne X (i:=b) (j:=n) Y (by omega)
    have em_n:=fun X Y=>Heap.upd_ne X (i:=m) (j:=n) Y (by omega)
    have eq_n:=fun X Y=>Heap.upd_ne X (i:=q) (j:=n) Y (by omega)
    have en1_n:=fun X Y=>Heap.upd_ne X (i:=n+1) (j:=n) Y (by omega)
    have eb_n1:=fun X Y=>Heap.upd_ne X (i:=b) (j:=n+1) Y (by omega)
    have em_n1:=fun X Y=>Heap.upd_ne X (i:=m) (j:=n+1) Y (by omega)
    have eq_n1:=fun X Y=>Heap.upd_ne X (i:=q) (j:=n+1) Y (by omega)
    have en_n1:=fun X Y=>Heap.upd_ne X (i:=n) (j:=n+1) Y (by omega)
    refine awp_ev dr0 (by decide +kernel) ?_
    simp only[go_sem,Tryz.f66,hb,hm,hq,en_b,en1_b,em_b,eq_b,en_m,en1_m,eb_m,eq_m,en_q,en1_q,eb_q,em_q,eb_n,em_n,eq_n,en1_n,eb_n1,em_n1,eq_n1,en_n1,sp4]
    have ha:a.toNat<s.mem.length:=by rw[hlen]; exact a.isLt
    have ha2:=a.isLt
    rw[u8_getD ha]
    try rw[List.take_of_length_le (l:=s.log.map AV.i64) (by rw[List.length_map]; exact Nat.le_refl _)]
    refine⟨by first | omega | (rw[List.length_map]; omega) | (rw[List.length_map]; exact ha) | decide | (exact Nat.le_refl _) | simp,by first | omega | (rw[List.length_map]; omega) | (rw[List.length_map]; exact ha) | decide | (exact Nat.le_refl _) | simp,by first | omega | (rw[List.length_map]; omega) | (rw[List.length_map]; exact ha) | decide | (exact Nat.le_refl _) | simp,by first | omega | (rw[List.length_map]; omega) | (rw[List.length_map]; exact ha) | decide | (exact Nat.le_refl _) | simp,by first | omega | (rw[List.length_map]; omega) | (rw[List.length_map]; exact ha) | decide | (exact Nat.le_refl _) | simp,Fin.keep (h _ _ (fun i=>F i∨i=n+1) ?_ (by omega) ⟨m,.su (n+1) 0 (s.log.length+1) 1,A,k,ac,by first | exact hlen | (show _=_; exact hlen),by simp only[Heap.upd_same,en_b,en1_b,em_b,eq_b,en_m,en1_m,eb_m,eq_m,en_q,en1_q,eb_q,em_q,eb_n,em_n,eq_n,en1_n,eb_n1,em_n1,eq_n1,en_n1] <;> simp[bxO],by simp only[Heap.upd_same,en_b,en1_b,em_b,eq_b,en_m,en1_m,eb_m,eq_m,en_q,en1_q,eb_q,em_q,eb_n,em_n,eq_n,en1_n,eb_n1,em_n1,eq_n1,en_n1]; first | exact hm | (show _=some (⟨(s.mem.set _ _).map .u8,_,_⟩:Blk); rw[List.map_set]),.inr ⟨n+1,by simp[bxO],by simp only[Heap.upd_same,en_b,en1_b,em_b,eq_b,en_m,en1_m,eb_m,eq_m,en_q,en1_q,eb_q,em_q,eb_n,em_n,eq_n,en1_n,eb_n1,em_n1,eq_n1,en_n1] <;> simp[bxO],by omega,by omega,.inr rfl⟩,by show k≤(s.log++[_]).length; rw[List.length_append]; omega,hacl,hB.aok,?_,hbm,.inl hB.fb,.inl hB.fm,fun i hi=>?_⟩ (fun i hi=>?_) (fun i hi hF=>?_))⟩
    · repeat' first
        | exact wf
        | refine Heap.wf_upd ?_ ?_
        | refine Heap.wf_upd_none ?_
        | refine Heap.wf_set ?_ (by omega) ?_
      all_goals first | (simp[AV.ok]; done) | (simp[AV.ok]; omega) | exact oks_app (i64s_ok _ _) (by simp[AV.ok]) | exact oks_app (fun v hv=>hB.aok v hv _) (by simp[AV.ok]) | (rw[← List.map_set]; exact u8s_ok _ _) | (have q1:=AV.ok_mono (show n≤n+2 by omega) _ (hB.blkok wf).1; have q2:=AV.ok_mono (show n≤n+2 by omega) _ (hB.blkok wf).2; simp[AV.ok,q1,q2] <;> omega) | (have q1:=AV.ok_mono (show n≤n+4 by omega) _ (hB.blkok wf).1; have q2:=AV.ok_mono (show n≤n+4 by omega) _ (hB.blkok wf).2; simp[AV.ok,q1,q2] <;> omega)
    · rcases hB.asks with h1 | ⟨p',h1,hp,g3,g4,g5⟩
      · exact .inl h1
      · have lp:=hB.low p' g5
        have hqp:p'≠q:=fun e=>by subst e; rw[hq] at hp; simp at hp
        refine .inr ⟨p',h1,?_,g3,g4,.inl g5⟩
        repeat (rw[Heap.upd_ne _ _ (by omega)])
        exact hp
    · rcases hi with h | h
      · have:=hB.low i h; omega
      · omega
    · rcases hi with h | h
      · exact .inl h
      · exact .inr (by omega)
    · have hib:i≠b:=fun e=>hF (e▸hB.fb)
      have him:i≠m:=fun e=>hF (e▸hB.fm)
      have hiq:i≠q:=fun e=>hF (e▸h5)
      repeat (rw[Heap.upd_ne _ _ (by omega)])
theorem fl_write {b:Nat} {s:Bx} {a:BitVec 16} {x:BitVec 8} {H:Heap} {n:Nat} {F:Nat→Prop} {K:AV→Heap→Nat→Prop} (hl:1≤bxLeft s) (hr:flRep b s H n F) (h:∀H' n' F',H'.wf n'→n≤n'→flRep b (bxO.wr s a x) H' n' F'→(∀i,F' i→F i∨n≤i)→(∀i,i<n→¬F i→H' i=H i)→K (.tu []) H' n'):ACalls Tryz.prog 89 [.pt b 0,.u16 a,.u8 x] H n K:=by
  refine ACalls.of_awp Tryz.func89 rfl (by decide +kernel) (show 3≤45 by decide) (by simp) fun wf=>?_
  obtain⟨m,L,A,k,ac,hB⟩:=hr
  have hb:=hB.blk
  have hm:=hB.mem
  have lb:=hB.low b hB.fb
  have lm:=hB.low m hB.fm
  have hbm:=hB.bm
  have hlen:=hB.len
  have hacl:=hB.acl
  have hkle:=hB.kle
  unfold bxLeft at hl
  rcases hB.log with ⟨hl0,rfl⟩ | ⟨q,rfl,hq,h3,h4,h5⟩
  · have en_b:=fun X Y=>Heap.upd_ne X (i:=n) (j:=b) Y (by omega)
    have en1_b:=fun X Y=>Heap.upd_ne X (i:=n+1) (j:=b) Y (by omega)
    have em_b:=fun X Y=>Heap.upd_ne X (i:=m) (j:=b) Y (by omega)
    have en_m:=fun X Y=>Heap.upd_ne X (i:=n) (j:=m) Y (by omega)
    have en1_m:=fun X Y=>Heap.upd_ne X (i:=n+1) (j:=m) Y (by omega)
    have eb_m:=fun X Y=>Heap.upd_ne X (i:=b) (j:=m) Y (by omega)
    have eb_n:=fun X Y=>Heap.upd_ne X (i:=b) (j:=n) Y (by omega)
    have em_n:=fun X Y=>Heap.upd_ne X (i:=m) (j:=n) Y (by omega)
    have en1_n:=fun X Y=>Heap.upd_ne X (i:=n+1) (j:=n) Y (by omega)
    have eb_n1:=fun X Y=>Heap.upd_ne X (i:=b) (j:=n+1) Y (by omega)
    have em_n1:=fun X Y=>Heap.upd_ne X (i:=m) (j:=n+1) Y (by omega)
    have en_n1:=fun X Y=>Heap.upd_ne X (i:=n) (j:=n+1) Y (by omega)
    refine awp_ev dr0 (by decide +kernel) ?_
    simp only[go_sem,Tryz.f89,hb,hm,en_b,en1_b,em_b,en_m,en1_m,eb_m,eb_n,em_n,en1_n,eb_n1,em_n1,en_n1,sp4]
    have ha:a.toNat<s.mem.length:=by rw[hlen]; exact a.isLt
    have ha2:=a.isLt
    refine⟨by first | omega | (rw[List.length_map]; omega) | (rw[List.length_map]; exact ha) | decide | (exact Nat.le_refl _) | simp,by first | omega | (rw[List.length_map]; omega) | (rw[List.length_map]; exact ha) | decide | (exact Nat.le_refl _) | simp,Fin.keep (h _ _ (fun i=>F i∨i=n+1) ?_ (by omega) ⟨m,.su (n+1) 0 (s.log.length+1) 1,A,k,ac,by first | exact hlen | (show(s.mem.set _ _).length=_; rw[List.length_set]; exact hlen),by simp only[Heap.upd_same,en_b,en1_b,em_b,en_m,en1_m,eb_m,eb_n,em_n,en1_n,eb_n1,em_n1,en_n1] <;> simp[bxO,hl0],by simp only[Heap.upd_same,en_b,en1_b,em_b,en_m,en1_m,eb_m,eb_n,em_n,en1_n,eb_n1,em_n1,en_n1]; first | exact hm | (show _=some (⟨(s.mem.set _ _).map .u8,_,_⟩:Blk); rw[List.map_set]),.inr ⟨n+1,by simp[bxO,hl0],by simp only[Heap.upd_same,en_b,en1_b,em_b,en_m,en1_m,eb_m,eb_n,em_n,en1_n,eb_n1,em_n1,en_n1] <;> simp[bxO,hl0],by omega,by omega,.inr rfl⟩,by show k≤(s.log++[_]).length; rw[List.length_append]; omega,hacl,hB.aok,?_,hbm,.inl hB.fb,.inl hB.fm,fun i hi=>?_⟩ (fun i hi=>?_) (fun i hi hF=>?_))⟩
    · repeat' first
        | exact wf
        | refine Heap.wf_upd ?_ ?_
        | refine Heap.wf_upd_none ?_
        | refine Heap.wf_set ?_ (by omega) ?_
      all_goals first | (simp[AV.ok]; done) | (simp[AV.ok]; omega) | exact oks_app (i64s_ok _ _) (by simp[AV.ok]) | exact oks_app (fun v hv=>hB.aok v hv _) (by simp[AV.ok]) | (rw[← List.map_set]; exact u8s_ok _ _) | (have q1:=AV.ok_mono (show n≤n+2 by omega) _ (hB.blkok wf).1; have q2:=AV.ok_mono (show n≤n+2 by omega) _ (hB.blkok wf).2; simp[AV.ok,q1,q2] <;> omega) | (have q1:=AV.ok_mono (show n≤n+4 by omega) _ (hB.blkok wf).1; have q2:=AV.ok_mono (show n≤n+4 by omega) _ (hB.blkok wf).2; simp[AV.ok,q1,q2] <;> omega)
    · rcases hB.asks with h1 | ⟨p',h1,hp,g3,g4,g5⟩
      · exact .inl h1
      · have lp:=hB.low p' g5
        refine .inr ⟨p',h1,?_,g3,g4,.inl g5⟩
        repeat (rw[Heap.upd_ne _ _ (by omega)])
        exact hp
    · rcases hi with h | h
      · have:=hB.low i h; omega
      · omega
    · rcases hi with h | h
      · exact .inl h
      · exact .inr (by omega)
    · have hib:i≠b:=fun e=>hF (e▸hB.fb)
      have him:i≠m:=fun e=>hF (e▸hB.fm)
      repeat (rw[Heap.upd_ne _ _ (by omega)])
  · have lq:=hB.low q h5
    have en_b:=fun X Y=>Heap.upd_ne X (i:=n) (j:=b) Y (by omega)
    have en1_b:=fun X Y=>Heap.upd_ne X (i:=n+1) (j:=b) Y (by omega)
    have em_b:=fun X Y=>Heap.upd_ne X (i:=m) (j:=b) Y (by omega)
    have eq_b:=fun X Y=>Heap.upd_ne X (i:=q) (j:=b) Y (by omega)
    have en_m:=fun X Y=>Heap.upd_ne X (i:=n) (j:=m) Y (by omega)
    have en1_m:=fun X Y=>Heap.upd_ne X (i:=n+1) (j:=m) Y (by omega)
    have eb_m:=fun X Y=>Heap.upd_ne X (i:=b) (j:=m) Y (by omega)
    have eq_m:=fun X Y=>Heap.upd_ne X (i:=q) (j:=m) Y (by omega)
    have en_q:=fun X Y=>Heap.upd_ne X (i:=n) (j:=q) Y (by omega)
    have en1_q:=fun X Y=>Heap.upd_ne X (i:=n+1) (j:=q) Y (by omega)
    have eb_q:=fun X Y=>Heap.upd_ne X (i:=b) (j:=q) Y (by omega)
    have em_q:=fun X Y=>Heap.upd_ne X (i:=m) (j:=q) Y (by omega)
    have eb_n:=fun X Y=>Heap.upd_ne X (i:=b) (j:=n) Y (by omega)
    have em_n:=fun X Y=>Heap.upd_ne X (i:=m) (j:=n) Y (by omega)
    have eq_n:=fun X Y=>Heap.upd_ne X (i:=q) (j:=n) Y (by omega)
    have en1_n:=fun X Y=>Heap.upd_ne X (i:=n+1) (j:=n) Y (by omega)
    have eb_n1:=fun X Y=>Heap.upd_ne X (i:=b) (j:=n+1) Y (by omega)
    have em_n1:=fun X Y=>Heap.upd_ne X (i:=m) (j:=n+1) Y (by omega)
    have eq_n1:=fun X Y=>Heap.upd_ne X (i:=q) (j:=n+1) Y (by omega)
    have en_n1:=fun X Y=>Heap.upd_ne X (i:=n) (j:=n+1) Y (by omega)
    refine awp_ev dr0 (by decide +kernel) ?_
    simp only[go_sem,Tryz.f89,hb,hm,hq,en_b,en1_b,em_b,eq_b,en_m,en1_m,eb_m,eq_m,en_q,en1_q,eb_q,em_q,eb_n,em_n,eq_n,en1_n,eb_n1,em_n1,eq_n1,en_n1,sp4]
    have ha:a.toNat<s.mem.length:=by rw[hlen]; exact a.isLt
    have ha2:=a.isLt
    try rw[List.take_of_length_le (l:=s.log.map AV.i64) (by rw[List.length_map]; exact Nat.le_refl _)]
    refine⟨by first | omega | (rw[List.length_map]; omega) | (rw[List.length_map]; exact ha) | decide | (exact Nat.le_refl _) | simp,by first | omega | (rw[List.length_map]; omega) | (rw[List.length_map]; exact ha) | decide | (exact Nat.le_refl _) | simp,by first | omega | (rw[List.length_map]; omega) | (rw[List.length_map]; exact ha) | decide | (exact Nat.le_refl _) | simp,by first | omega | (rw[List.length_map]; omega) | (rw[List.length_map]; exact ha) | decide | (exact Nat.le_refl _) | simp,Fin.keep (h _ _ (fun i=>F i∨i=n+1) ?_ (by omega) ⟨m,.su (n+1) 0 (s.log.length+1) 1,A,k,ac,by first | exact hlen | (show(s.mem.set _ _).length=_; rw[List.length_set]; exact hlen),by simp only[Heap.upd_same,en_b,en1_b,em_b,eq_b,en_m,en1_m,eb_m,eq_m,en_q,en1_q,eb_q,em_q,eb_n,em_n,eq_n,en1_n,eb_n1,em_n1,eq_n1,en_n1] <;> simp[bxO],by simp only[Heap.upd_same,en_b,en1_b,em_b,eq_b,en_m,en1_m,eb_m,eq_m,en_q,en1_q,eb_q,em_q,eb_n,em_n,eq_n,en1_n,eb_n1,em_n1,eq_n1,en_n1]; first | exact hm | (show _=some (⟨(s.mem.set _ _).map .u8,_,_⟩:Blk); rw[List.map_set]),.inr ⟨n+1,by simp[bxO],by simp only[Heap.upd_same,en_b,en1_b,em_b,eq_b,en_m,en1_m,eb_m,eq_m,en_q,en1_q,eb_q,em_q,eb_n,em_n,eq_n,en1_n,eb_n1,em_n1,eq_n1,en_n1] <;> simp[bxO],by omega,by omega,.inr rfl⟩,by show k≤(s.log++[_]).length; rw[List.length_append]; omega,hacl,hB.aok,?_,hbm,.inl hB.fb,.inl hB.fm,fun i hi=>?_⟩ (fun i hi=>?_) (fun i hi hF=>?_))⟩
    · repeat' first
        | exact wf
        | refine Heap.wf_upd ?_ ?_
        | refine Heap.wf_upd_none ?_
        | refine Heap.wf_set ?_ (by omega) ?_
      all_goals first | (simp[AV.ok]; done) | (simp[AV.ok]; omega) | exact oks_app (i64s_ok _ _) (by simp[AV.ok]) | exact oks_app (fun v hv=>hB.aok v hv _) (by simp[AV.ok]) | (rw[← List.map_set]; exact u8s_ok _ _) | (have q1:=AV.ok_mono (show n≤n+2 by omega) _ (hB.blkok wf).1; have q2:=AV.ok_mono (show n≤n+2 by omega) _ (hB.blkok wf).2; simp[AV.ok,q1,q2] <;> omega) | (have q1:=AV.ok_mono (show n≤n+4 by omega) _ (hB.blkok wf).1; have q2:=AV.ok_mono (show n≤n+4 by omega) _ (hB.blkok wf).2; simp[AV.ok,q1,q2] <;> omega)
    · rcases hB.asks with h1 | ⟨p',h1,hp,g3,g4,g5⟩
      · exact .inl h1
      · have lp:=hB.low p' g5
        have hqp:p'≠q:=fun e=>by subst e; rw[hq] at hp; simp at hp
        refine .inr ⟨p',h1,?_,g3,g4,.inl g5⟩
        repeat (rw[Heap.upd_ne _ _ (by omega)])
        exact hp
    · rcases hi with h | h
      · have:=hB.low i h; omega
      · omega
    · rcases hi with h | h
      · exact .inl h
      · exact .inr (by omega)
    · have hib:i≠b:=fun e=>hF (e▸hB.fb)
      have him:i≠m:=fun e=>hF (e▸hB.fm)
      have hiq:i≠q:=fun e=>hF (e▸h5)
      repeat (rw[Heap.upd_ne _ _ (by omega)])
theorem fl_inp {b:Nat} {s:Bx} {p:BitVec 16} {u:Int} {H:Heap} {n:Nat} {F:Nat→Prop} {K:AV→Heap→Nat→Prop} (hu:0≤u∧u≤100) (hl:1≤bxLeft s) (hr:flRep b s H n F) (h:∀H' n' F',H'.wf n'→n≤n'→flRep b (bxO.inp s p u).2 H' n' F'→(∀i,F' i→F i∨n≤i)→(∀i,i<n→¬F i→H' i=H i)→K (.u8 (bxO.inp s p u).1) H' n'):ACalls Tryz.prog 145 [.pt b 0,.u16 p,.i64 u] H n K:=by
  refine ACalls.of_awp Tryz.func145 rfl (by decide +kernel) (show 3≤54 by decide) (by simp) fun wf=>?_
  obtain⟨m,L,A,k,ac,hB⟩:=hr
  have hb:=hB.blk
  have hm:=hB.mem
  have lb:=hB.low b hB.fb
  have lm:=hB.low m hB.fm
  have hbm:=hB.bm
  have hlen:=hB.len
  have hacl:=hB.acl
  have hkle:=hB.kle
  unfold bxLeft at hl
  rcases hB.log with ⟨hl0,rfl⟩ | ⟨q,rfl,hq,h3,h4,h5⟩
  · rcases hB.asks with ⟨hk0,rfl⟩ | ⟨p',rfl,hp,g3,g4,g5⟩
    · have en_b:=fun X Y=>Heap.upd_ne X (i:=n) (j:=b) Y (by omega)
      have en1_b:=fun X Y=>Heap.upd_ne X (i:=n+1) (j:=b) Y (by omega)
      have en2_b:=fun X Y=>Heap.upd_ne X (i:=n+2) (j:=b) Y (by omega)
      have en3_b:=fun X Y=>Heap.upd_ne X (i:=n+3) (j:=b) Y (by omega)
      have em_b:=fun X Y=>Heap.upd_ne X (i:=m) (j:=b) Y (by omega)
      have en_m:=fun X Y=>Heap.upd_ne X (i:=n) (j:=m) Y (by omega)
      have en1_m:=fun X Y=>Heap.upd_ne X (i:=n+1) (j:=m) Y (by omega)
      have en2_m:=fun X Y=>Heap.upd_ne X (i:=n+2) (j:=m) Y (by omega)
      have en3_m:=fun X Y=>Heap.upd_ne X (i:=n+3) (j:=m) Y (by omega)
      have eb_m:=fun X Y=>Heap.upd_ne X (i:=b) (j:=m) Y (by omega)
      have eb_n:=fun X Y=>Heap.upd_ne X (i:=b) (j:=n) Y (by omega)
      have em_n:=fun X Y=>Heap.upd_ne X (i:=m) (j:=n) Y (by omega)
      have en1_n:=fun X Y=>Heap.upd_ne X (i:=n+1) (j:=n) Y (by omega)
      have en2_n:=fun X Y=>Heap.upd_ne X (i:=n+2) (j:=n) Y (by omega)
      have en3_n:=fun X Y=>Heap.upd_ne X (i:=n+3) (j:=n) Y (by omega)
      have eb_n1:=fun X Y=>Heap.upd_ne X (i:=b) (j:=n+1) Y (by omega)
      have em_n1:=fun X Y=>Heap.upd_ne X (i:=m) (j:=n+1) Y (by omega)
      have en_n1:=fun X Y=>Heap.upd_ne X (i:=n) (j:=n+1) Y (by omega)
      have en2_n1:=fun X Y=>Heap.upd_ne X (i:=n+2) (j:=n+1) Y (by omega)
      have en3_n1:=fun X Y=>Heap.upd_ne X (i:=n+3) (j:=n+1) Y (by omega)
      have eb_n2:=fun X Y=>Heap.upd_ne X (i:=b) (j:=n+2) Y (by omega)
      have em_n2:=fun X Y=>Heap.upd_ne X (i:=m) (j:=n+2) Y (by omega)
      have en_n2:=fun X Y=>Heap.upd_ne X (i:=n) (j:=n+2) Y (by omega)
      have en1_n2:=fun X Y=>Heap.upd_ne X (i:=n+1) (j:=n+2) Y (by omega)
      have en3_n2:=fun X Y=>Heap.upd_ne X (i:=n+3) (j:=n+2) Y (by omega)
      have eb_n3:=fun X Y=>Heap.upd_ne X (i:=b) (j:=n+3) Y (by omega)
      have em_n3:=fun X Y=>Heap.upd_ne X (i:=m) (j:=n+3) Y (by omega)
      have en_n3:=fun X Y=>Heap.upd_ne X (i:=n) (j:=n+3) Y (by omega)
      have en1_n3:=fun X Y=>Heap.upd_ne X (i:=n+1) (j:=n+3) Y (by omega)
      have en2_n3:=fun X Y=>Heap.upd_ne X (i:=n+2) (j:=n+3) Y (by omega)
      refine awp_ev dr0 (by decide +kernel) ?_
      simp only[go_sem,Tryz.f145,hb,hm,en_b,en1_b,en2_b,en3_b,em_b,en_m,en1_m,en2_m,en3_m,eb_m,eb_n,em_n,en1_n,en2_n,en3_n,eb_n1,em_n1,en_n1,en2_n1,en3_n1,eb_n2,em_n2,en_n2,en1_n2,en3_n2,eb_n3,em_n3,en_n3,en1_n3,en2_n3,sp4]
      have e13:wrap64 13=wrap64 (((s.log.length+1:Nat):Int)*13):=by rw[hl0]; rfl
      rw[e13]
      subst hk0
      have hac0:ac=[]:=List.length_eq_zero_iff.1 (by omega)
      subst hac0
      refine⟨by first | omega | (rw[List.length_map]; omega) | (rw[List.length_map]; exact ha) | decide | (exact Nat.le_refl _) | simp,Fin.keep (h _ _ (fun i=>F i∨i=n+1∨i=n+3) ?_ (by omega) ⟨m,.su (n+1) 0 (s.log.length+1) 1,.su (n+3) 0 (0+1) 4,0+1,([]:List AV)++[.bo false,.u16 p,.u8 0#8,.i64 u],by first | exact hlen | (show _=_; exact hlen),by simp only[Heap.upd_same,en_b,en1_b,en2_b,en3_b,em_b,en_m,en1_m,en2_m,en3_m,eb_m,eb_n,em_n,en1_n,en2_n,en3_n,eb_n1,em_n1,en_n1,en2_n1,en3_n1,eb_n2,em_n2,en_n2,en1_n2,en3_n2,eb_n3,em_n3,en_n3,en1_n3,en2_n3] <;> simp[bxO,hl0],by simp only[Heap.upd_same,en_b,en1_b,en2_b,en3_b,em_b,en_m,en1_m,en2_m,en3_m,eb_m,eb_n,em_n,en1_n,en2_n,en3_n,eb_n1,em_n1,en_n1,en2_n1,en3_n1,eb_n2,em_n2,en_n2,en1_n2,en3_n2,eb_n3,em_n3,en_n3,en1_n3,en2_n3]; first | exact hm | (show _=some (⟨(s.mem.set _ _).map .u8,_,_⟩:Blk); rw[List.map_set]),.inr ⟨n+1,by simp[bxO,hl0],by simp only[Heap.upd_same,en_b,en1_b,en2_b,en3_b,em_b,en_m,en1_m,en2_m,en3_m,eb_m,eb_n,em_n,en1_n,en2_n,en3_n,eb_n1,em_n1,en_n1,en2_n1,en3_n1,eb_n2,em_n2,en_n2,en1_n2,en3_n2,eb_n3,em_n3,en_n3,en1_n3,en2_n3] <;> simp[bxO,hl0],by omega,by omega,.inr (.inl rfl)⟩,by show 0+1≤(s.log++[_]).length; simp,rfl,by simp[AV.ok],.inr ⟨n+3,rfl,by simp only[Heap.upd_same,en_b,en1_b,en2_b,en3_b,em_b,en_m,en1_m,en2_m,en3_m,eb_m,eb_n,em_n,en1_n,en2_n,en3_n,eb_n1,em_n1,en_n1,en2_n1,en3_n1,eb_n2,em_n2,en_n2,en1_n2,en3_n2,eb_n3,em_n3,en_n3,en1_n3,en2_n3]; rfl,by omega,by omega,.inr (.inr rfl)⟩,hbm,.inl hB.fb,.inl hB.fm,fun i hi=>?_⟩ (fun i hi=>?_) (fun i hi hF=>?_))⟩
      · repeat' first
          | exact wf
          | refine Heap.wf_upd ?_ ?_
          | refine Heap.wf_upd_none ?_
          | refine Heap.wf_set ?_ (by omega) ?_
        all_goals first | (simp[AV.ok]; done) | (simp[AV.ok]; omega) | exact oks_app (i64s_ok _ _) (by simp[AV.ok]) | exact oks_app (fun v hv=>hB.aok v hv _) (by simp[AV.ok]) | (rw[← List.map_set]; exact u8s_ok _ _) | (have q1:=AV.ok_mono (show n≤n+2 by omega) _ (hB.blkok wf).1; have q2:=AV.ok_mono (show n≤n+2 by omega) _ (hB.blkok wf).2; simp[AV.ok,q1,q2] <;> omega) | (have q1:=AV.ok_mono (show n≤n+4 by omega) _ (hB.blkok wf).1; have q2:=AV.ok_mono (show n≤n+4 by omega) _ (hB.blkok wf).2; simp[AV.ok,q1,q2] <;> omega)
      · rcases hi with h | h | h
        · have:=hB.low i h; omega
        · omega
        · omega
      · rcases hi with h | h | h
        · exact .inl h
        · exact .inr (by omega)
        · exact .inr (by omega)
      · have hib:i≠b:=fun e=>hF (e▸hB.fb)
        have him:i≠m:=fun e=>hF (e▸hB.fm)
        repeat (rw[Heap.upd_ne _ _ (by omega)])
    · have lp:=hB.low p' g5
      have en_b:=fun X Y=>Heap.upd_ne X (i:=n) (j:=b) Y (by omega)
      have en1_b:=fun X Y=>Heap.upd_ne X (i:=n+1) (j:=b) Y (by omega)
      have en2_b:=fun X Y=>Heap.upd_ne X (i:=n+2) (j:=b) Y (by omega)
      have en3_b:=fun X Y=>Heap.upd_ne X (i:=n+3) (j:=b) Y (by omega)
      have em_b:=fun X Y=>Heap.upd_ne X (i:=m) (j:=b) Y (by omega)
      have ep_b:=fun X Y=>Heap.upd_ne X (i:=p') (j:=b) Y (by omega)
      have en_m:=fun X Y=>Heap.upd_ne X (i:=n) (j:=m) Y (by omega)
      have en1_m:=fun X Y=>Heap.upd_ne X (i:=n+1) (j:=m) Y (by omega)
      have en2_m:=fun X Y=>Heap.upd_ne X (i:=n+2) (j:=m) Y (by omega)
      have en3_m:=fun X Y=>Heap.upd_ne X (i:=n+3) (j:=m) Y (by omega)
      have eb_m:=fun X Y=>Heap.upd_ne X (i:=b) (j:=m) Y (by omega)
      have ep_m:=fun X Y=>Heap.upd_ne X (i:=p') (j:=m) Y (by omega)
      have en_p':=fun X Y=>Heap.upd_ne X (i:=n) (j:=p') Y (by omega)
      have en1_p':=fun X Y=>Heap.upd_ne X (i:=n+1) (j:=p') Y (by omega)
      have en2_p':=fun X Y=>Heap.upd_ne X (i:=n+2) (j:=p') Y (by omega)
      have en3_p':=fun X Y=>Heap.upd_ne X (i:=n+3) (j:=p') Y (by omega)
      have eb_p':=fun X Y=>Heap.upd_ne X (i:=b) (j:=p') Y (by omega)
      have em_p':=fun X Y=>Heap.upd_ne X (i:=m) (j:=p') Y (by omega)
      have eb_n:=fun X Y=>Heap.upd_ne X (i:=b) (j:=n) Y (by omega)
      have em_n:=fun X Y=>Heap.upd_ne X (i:=m) (j:=n) Y (by omega)
      have ep_n:=fun X Y=>Heap.upd_ne X (i:=p') (j:=n) Y (by omega)
      have en1_n:=fun X Y=>Heap.upd_ne X (i:=n+1) (j:=n) Y (by omega)
      have en2_n:=fun X Y=>Heap.upd_ne X (i:=n+2) (j:=n) Y (by omega)
      have en3_n:=fun X Y=>Heap.upd_ne X (i:=n+3) (j:=n) Y (by omega)
      have eb_n1:=fun X Y=>Heap.upd_ne X (i:=b) (j:=n+1) Y (by omega)
      have em_n1:=fun X Y=>Heap.upd_ne X (i:=m) (j:=n+1) Y (by omega)
      have ep_n1:=fun X Y=>Heap.upd_ne X (i:=p') (j:=n+1) Y (by omega)
      have en_n1:=fun X Y=>Heap.upd_ne X (i:=n) (j:=n+1) Y (by omega)
      have en2_n1:=fun X Y=>Heap.upd_ne X (i:=n+2) (j:=n+1) Y (by omega)
      have en3_n1:=fun X Y=>Heap.upd_ne X (i:=n+3) (j:=n+1) Y (by omega)
      have eb_n2:=fun X Y=>Heap.upd_ne X (i:=b) (j:=n+2) Y (by omega)
      have em_n2:=fun X Y=>Heap.upd_ne X (i:=m) (j:=n+2) Y (by omega)
      have ep_n2:=fun X Y=>Heap.upd_ne X (i:=p') (j:=n+2) Y (by omega)
      have en_n2:=fun X Y=>Heap.upd_ne X (i:=n) (j:=n+2) Y (by omega)
      have en1_n2:=fun X Y=>Heap.upd_ne X (i:=n+1) (j:=n+2) Y (by omega)
      have en3_n2:=fun X Y=>Heap.upd_ne X (i:=n+3) (j:=n+2) Y (by omega)
      have eb_n3:=fun X Y=>Heap.upd_ne X (i:=b) (j:=n+3) Y (by omega)
      have em_n3:=fun X Y=>Heap.upd_ne X (i:=m) (j:=n+3) Y (by omega)
      have ep_n3:=fun X Y=>Heap.upd_ne X (i:=p') (j:=n+3) Y (by omega)
      have en_n3:=fun X Y=>Heap.upd_ne X (i:=n) (j:=n+3) Y (by omega)
      have en1_n3:=fun X Y=>Heap.upd_ne X (i:=n+1) (j:=n+3) Y (by omega)
      have en2_n3:=fun X Y=>Heap.upd_ne X (i:=n+2) (j:=n+3) Y (by omega)
      refine awp_ev dr0 (by decide +kernel) ?_
      simp only[go_sem,Tryz.f145,hb,hm,hp,en_b,en1_b,en2_b,en3_b,em_b,ep_b,en_m,en1_m,en2_m,en3_m,eb_m,ep_m,en_p',en1_p',en2_p',en3_p',eb_p',em_p',eb_n,em_n,ep_n,en1_n,en2_n,en3_n,eb_n1,em_n1,ep_n1,en_n1,en2_n1,en3_n1,eb_n2,em_n2,ep_n2,en_n2,en1_n2,en3_n2,eb_n3,em_n3,ep_n3,en_n3,en1_n3,en2_n3,sp4]
      rw[List.take_of_length_le (l:=ac) (by omega)]
      have e13:wrap64 13=wrap64 (((s.log.length+1:Nat):Int)*13):=by rw[hl0]; rfl
      rw[e13]
      refine⟨by first | omega | (rw[List.length_map]; omega) | (rw[List.length_map]; exact ha) | decide | (exact Nat.le_refl _) | simp,by first | omega | (rw[List.length_map]; omega) | (rw[List.length_map]; exact ha) | decide | (exact Nat.le_refl _) | simp,by first | omega | (rw[List.length_map]; omega) | (rw[List.length_map]; exact ha) | decide | (exact Nat.le_refl _) | simp,Fin.keep (h _ _ (fun i=>F i∨i=n+1∨i=n+3) ?_ (by omega) ⟨m,.su (n+1) 0 (s.log.length+1) 1,.su (n+3) 0 (k+1) 4,k+1,ac++[.bo false,.u16 p,.u8 0#8,.i64 u],by first | exact hlen | (show _=_; exact hlen),by simp only[Heap.upd_same,en_b,en1_b,en2_b,en3_b,em_b,ep_b,en_m,en1_m,en2_m,en3_m,eb_m,ep_m,en_p',en1_p',en2_p',en3_p',eb_p',em_p',eb_n,em_n,ep_n,en1_n,en2_n,en3_n,eb_n1,em_n1,ep_n1,en_n1,en2_n1,en3_n1,eb_n2,em_n2,ep_n2,en_n2,en1_n2,en3_n2,eb_n3,em_n3,ep_n3,en_n3,en1_n3,en2_n3] <;> simp[bxO,hl0],by simp only[Heap.upd_same,en_b,en1_b,en2_b,en3_b,em_b,ep_b,en_m,en1_m,en2_m,en3_m,eb_m,ep_m,en_p',en1_p',en2_p',en3_p',eb_p',em_p',eb_n,em_n,ep_n,en1_n,en2_n,en3_n,eb_n1,em_n1,ep_n1,en_n1,en2_n1,en3_n1,eb_n2,em_n2,ep_n2,en_n2,en1_n2,en3_n2,eb_n3,em_n3,ep_n3,en_n3,en1_n3,en2_n3]; first | exact hm | (show _=some (⟨(s.mem.set _ _).map .u8,_,_⟩:Blk); rw[List.map_set]),.inr ⟨n+1,by simp[bxO,hl0],by simp only[Heap.upd_same,en_b,en1_b,en2_b,en3_b,em_b,ep_b,en_m,en1_m,en2_m,en3_m,eb_m,ep_m,en_p',en1_p',en2_p',en3_p',eb_p',em_p',eb_n,em_n,ep_n,en1_n,en2_n,en3_n,eb_n1,em_n1,ep_n1,en_n1,en2_n1,en3_n1,eb_n2,em_n2,ep_n2,en_n2,en1_n2,en3_n2,eb_n3,em_n3,ep_n3,en_n3,en1_n3,en2_n3] <;> simp[bxO,hl0],by omega,by omega,.inr (.inl rfl)⟩,by show k+1≤(s.log++[_]).length; rw[List.length_append]; simp; omega,by rw[List.length_append,hacl]; simp; omega,oks_app' hB.aok (by simp[AV.ok]),.inr ⟨n+3,rfl,by simp only[Heap.upd_same,en_b,en1_b,en2_b,en3_b,em_b,ep_b,en_m,en1_m,en2_m,en3_m,eb_m,ep_m,en_p',en1_p',en2_p',en3_p',eb_p',em_p',eb_n,em_n,ep_n,en1_n,en2_n,en3_n,eb_n1,em_n1,ep_n1,en_n1,en2_n1,en3_n1,eb_n2,em_n2,ep_n2,en_n2,en1_n2,en3_n2,eb_n3,em_n3,ep_n3,en_n3,en1_n3,en2_n3],by omega,by omega,.inr (.inr rfl)⟩,hbm,.inl hB.fb,.inl hB.fm,fun i hi=>?_⟩ (fun i hi=>?_) (fun i hi hF=>?_))⟩
      · repeat' first
          | exact wf
          | refine Heap.wf_upd ?_ ?_
          | refine Heap.wf_upd_none ?_
          | refine Heap.wf_set ?_ (by omega) ?_
        all_goals first | (simp[AV.ok]; done) | (simp[AV.ok]; omega) | exact oks_app (i64s_ok _ _) (by simp[AV.ok]) | exact oks_app (fun v hv=>hB.aok v hv _) (by simp[AV.ok]) | (rw[← List.map_set]; exact u8s_ok _ _) | (have q1:=AV.ok_mono (show n≤n+2 by omega) _ (hB.blkok wf).1; have q2:=AV.ok_mono (show n≤n+2 by omega) _ (hB.blkok wf).2; simp[AV.ok,q1,q2] <;> omega) | (have q1:=AV.ok_mono (show n≤n+4 by omega) _ (hB.blkok wf).1; have q2:=AV.ok_mono (show n≤n+4 by omega) _ (hB.blkok wf).2; simp[AV.ok,q1,q2] <;> omega)
      · rcases hi with h | h | h
        · have:=hB.low i h; omega
        · omega
        · omega
      · rcases hi with h | h | h
        · exact .inl h
        · exact .inr (by omega)
        · exact .inr (by omega)
      · have hib:i≠b:=fun e=>hF (e▸hB.fb)
        have him:i≠m:=fun e=>hF (e▸hB.fm)
        have hip:i≠p':=fun e=>hF (e▸g5)
        repeat (rw[Heap.upd_ne _ _ (by omega)])
  · have lq:=hB.low q h5
    rcases hB.asks with ⟨hk0,rfl⟩ | ⟨p',rfl,hp,g3,g4,g5⟩
    · have en_b:=fun X Y=>Heap.upd_ne X (i:=n) (j:=b) Y (by omega)
      have en1_b:=fun X Y=>Heap.upd_ne X (i:=n+1) (j:=b) Y (by omega)
      have en2_b:=fun X Y=>Heap.upd_ne X (i:=n+2) (j:=b) Y (by omega)
      have en3_b:=fun X Y=>Heap.upd_ne X (i:=n+3) (j:=b) Y (by omega)
      have em_b:=fun X Y=>Heap.upd_ne X (i:=m) (j:=b) Y (by omega)
      have eq_b:=fun X Y=>Heap.upd_ne X (i:=q) (j:=b) Y (by omega)
      have en_m:=fun X Y=>Heap.upd_ne X (i:=n) (j:=m) Y (by omega)
      have en1_m:=fun X Y=>Heap.upd_ne X (i:=n+1) (j:=m) Y (by omega)
      have en2_m:=fun X Y=>Heap.upd_ne X (i:=n+2) (j:=m) Y (by omega)
      have en3_m:=fun X Y=>Heap.upd_ne X (i:=n+3) (j:=m) Y (by omega)
      have eb_m:=fun X Y=>Heap.upd_ne X (i:=b) (j:=m) Y (by omega)
      have eq_m:=fun X Y=>Heap.upd_ne X (i:=q) (j:=m) Y (by omega)
      have en_q:=fun X Y=>Heap.upd_ne X (i:=n) (j:=q) Y (by omega)
      have en1_q:=fun X Y=>Heap.upd_ne X (i:=n+1) (j:=q) Y (by omega)
      have en2_q:=fun X Y=>Heap.upd_ne X (i:=n+2) (j:=q) Y (by omega)
      have en3_q:=fun X Y=>Heap.upd_ne X (i:=n+3) (j:=q) Y (by omega)
      have eb_q:=fun X Y=>Heap.upd_ne X (i:=b) (j:=q) Y (by omega)
      have em_q:=fun X Y=>Heap.upd_ne X (i:=m) (j:=q) Y (by omega)
      have eb_n:=fun X Y=>Heap.upd_ne X (i:=b) (j:=n) Y (by omega)
      have em_n:=fun X Y=>Heap.upd_ne X (i:=m) (j:=n) Y (by omega)
      have eq_n:=fun X Y=>Heap.upd_ne X (i:=q) (j:=n) Y (by omega)
      have en1_n:=fun X Y=>Heap.upd_ne X (i:=n+1) (j:=n) Y (by omega)
      have en2_n:=fun X Y=>Heap.upd_ne X (i:=n+2) (j:=n) Y (by omega)
      have en3_n:=fun X Y=>Heap.upd_ne X (i:=n+3) (j:=n) Y (by omega)
      have eb_n1:=fun X Y=>Heap.upd_ne X (i:=b) (j:=n+1) Y (by omega)
      have em_n1:=fun X Y=>Heap.upd_ne X (i:=m) (j:=n+1) Y (by omega)
      have eq_n1:=fun X Y=>Heap.upd_ne X (i:=q) (j:=n+1) Y (by omega)
      have en_n1:=fun X Y=>Heap.upd_ne X (i:=n) (j:=n+1) Y (by omega)
      have en2_n1:=fun X Y=>Heap.upd_ne X (i:=n+2) (j:=n+1) Y (by omega)
      have en3_n1:=fun X Y=>Heap.upd_ne X (i:=n+3) (j:=n+1) Y (by omega)
      have eb_n2:=fun X Y=>Heap.upd_ne X (i:=b) (j:=n+2) Y (by omega)
      have em_n2:=fun X Y=>Heap.upd_ne X (i:=m) (j:=n+2) Y (by omega)
      have eq_n2:=fun X Y=>Heap.upd_ne X (i:=q) (j:=n+2) Y (by omega)
      have en_n2:=fun X Y=>Heap.upd_ne X (i:=n) (j:=n+2) Y (by omega)
      have en1_n2:=fun X Y=>Heap.upd_ne X (i:=n+1) (j:=n+2) Y (by omega)
      have en3_n2:=fun X Y=>Heap.upd_ne X (i:=n+3) (j:=n+2) Y (by omega)
      have eb_n3:=fun X Y=>Heap.upd_ne X (i:=b) (j:=n+3) Y (by omega)
      have em_n3:=fun X Y=>Heap.upd_ne X (i:=m) (j:=n+3) Y (by omega)
      have eq_n3:=fun X Y=>Heap.upd_ne X (i:=q) (j:=n+3) Y (by omega)
      have en_n3:=fun X Y=>Heap.upd_ne X (i:=n) (j:=n+3) Y (by omega)
      have en1_n3:=fun X Y=>Heap.upd_ne X (i:=n+1) (j:=n+3) Y (by omega)
      have en2_n3:=fun X Y=>Heap.upd_ne X (i:=n+2) (j:=n+3) Y (by omega)
      refine awp_ev dr0 (by decide +kernel) ?_
      simp only[go_sem,Tryz.f145,hb,hm,hq,en_b,en1_b,en2_b,en3_b,em_b,eq_b,en_m,en1_m,en2_m,en3_m,eb_m,eq_m,en_q,en1_q,en2_q,en3_q,eb_q,em_q,eb_n,em_n,eq_n,en1_n,en2_n,en3_n,eb_n1,em_n1,eq_n1,en_n1,en2_n1,en3_n1,eb_n2,em_n2,eq_n2,en_n2,en1_n2,en3_n2,eb_n3,em_n3,eq_n3,en_n3,en1_n3,en2_n3,sp4]
      try rw[List.take_of_length_le (l:=s.log.map AV.i64) (by rw[List.length_map]; exact Nat.le_refl _)]
      subst hk0
      have hac0:ac=[]:=List.length_eq_zero_iff.1 (by omega)
      subst hac0
      refine⟨by first | omega | (rw[List.length_map]; omega) | (rw[List.length_map]; exact ha) | decide | (exact Nat.le_refl _) | simp,by first | omega | (rw[List.length_map]; omega) | (rw[List.length_map]; exact ha) | decide | (exact Nat.le_refl _) | simp,by first | omega | (rw[List.length_map]; omega) | (rw[List.length_map]; exact ha) | decide | (exact Nat.le_refl _) | simp,Fin.keep (h _ _ (fun i=>F i∨i=n+1∨i=n+3) ?_ (by omega) ⟨m,.su (n+1) 0 (s.log.length+1) 1,.su (n+3) 0 (0+1) 4,0+1,([]:List AV)++[.bo false,.u16 p,.u8 0#8,.i64 u],by first | exact hlen | (show _=_; exact hlen),by simp only[Heap.upd_same,en_b,en1_b,en2_b,en3_b,em_b,eq_b,en_m,en1_m,en2_m,en3_m,eb_m,eq_m,en_q,en1_q,en2_q,en3_q,eb_q,em_q,eb_n,em_n,eq_n,en1_n,en2_n,en3_n,eb_n1,em_n1,eq_n1,en_n1,en2_n1,en3_n1,eb_n2,em_n2,eq_n2,en_n2,en1_n2,en3_n2,eb_n3,em_n3,eq_n3,en_n3,en1_n3,en2_n3] <;> simp[bxO],by simp only[Heap.upd_same,en_b,en1_b,en2_b,en3_b,em_b,eq_b,en_m,en1_m,en2_m,en3_m,eb_m,eq_m,en_q,en1_q,en2_q,en3_q,eb_q,em_q,eb_n,em_n,eq_n,en1_n,en2_n,en3_n,eb_n1,em_n1,eq_n1,en_n1,en2_n1,en3_n1,eb_n2,em_n2,eq_n2,en_n2,en1_n2,en3_n2,eb_n3,em_n3,eq_n3,en_n3,en1_n3,en2_n3]; first | exact hm | (show _=some (⟨(s.mem.set _ _).map .u8,_,_⟩:Blk); rw[List.map_set]),.inr ⟨n+1,by simp[bxO],by simp only[Heap.upd_same,en_b,en1_b,en2_b,en3_b,em_b,eq_b,en_m,en1_m,en2_m,en3_m,eb_m,eq_m,en_q,en1_q,en2_q,en3_q,eb_q,em_q,eb_n,em_n,eq_n,en1_n,en2_n,en3_n,eb_n1,em_n1,eq_n1,en_n1,en2_n1,en3_n1,eb_n2,em_n2,eq_n2,en_n2,en1_n2,en3_n2,eb_n3,em_n3,eq_n3,en_n3,en1_n3,en2_n3] <;> simp[bxO],by omega,by omega,.inr (.inl rfl)⟩,by show 0+1≤(s.log++[_]).length; simp,rfl,by simp[AV.ok],.inr ⟨n+3,rfl,by simp only[Heap.upd_same,en_b,en1_b,en2_b,en3_b,em_b,eq_b,en_m,en1_m,en2_m,en3_m,eb_m,eq_m,en_q,en1_q,en2_q,en3_q,eb_q,em_q,eb_n,em_n,eq_n,en1_n,en2_n,en3_n,eb_n1,em_n1,eq_n1,en_n1,en2_n1,en3_n1,eb_n2,em_n2,eq_n2,en_n2,en1_n2,en3_n2,eb_n3,em_n3,eq_n3,en_n3,en1_n3,en2_n3]; rfl,by omega,by omega,.inr (.inr rfl)⟩,hbm,.inl hB.fb,.inl hB.fm,fun i hi=>?_⟩ (fun i hi=>?_) (fun i hi hF=>?_))⟩
      · repeat' first
          | exact wf
          | refine Heap.wf_upd ?_ ?_
          | refine Heap.wf_upd_none ?_
          | refine Heap.wf_set ?_ (by omega) ?_
        all_goals first | (simp[AV.ok]; done) | (simp[AV.ok]; omega) | exact oks_app (i64s_ok _ _) (by simp[AV.ok]) | exact oks_app (fun v hv=>hB.aok v hv _) (by simp[AV.ok]) | (rw[← List.map_set]; exact u8s_ok _ _) | (have q1:=AV.ok_mono (show n≤n+2 by omega) _ (hB.blkok wf).1; have q2:=AV.ok_mono (show n≤n+2 by omega) _ (hB.blkok wf).2; simp[AV.ok,q1,q2] <;> omega) | (have q1:=AV.ok_mono (show n≤n+4 by omega) _ (hB.blkok wf).1; have q2:=AV.ok_mono (show n≤n+4 by omega) _ (hB.blkok wf).2; simp[AV.ok,q1,q2] <;> omega)
      · rcases hi with h | h | h
        · have:=hB.low i h; omega
        · omega
        · omega
      · rcases hi with h | h | h
        · exact .inl h
        · exact .inr (by omega)
        · exact .inr (by omega)
      · have hib:i≠b:=fun e=>hF (e▸hB.fb)
        have him:i≠m:=fun e=>hF (e▸hB.fm)
        have hiq:i≠q:=fun e=>hF (e▸h5)
        repeat (rw[Heap.upd_ne _ _ (by omega)])
    · have lp:=hB.low p' g5
      have hqp:q≠p':=fun e=>by subst e; rw[hq] at hp; simp at hp
      have en_b:=fun X Y=>Heap.upd_ne X (i:=n) (j:=b) Y (by omega)
      have en1_b:=fun X Y=>Heap.upd_ne X (i:=n+1) (j:=b) Y (by omega)
      have en2_b:=fun X Y=>Heap.upd_ne X (i:=n+2) (j:=b) Y (by omega)
      have en3_b:=fun X Y=>Heap.upd_ne X (i:=n+3) (j:=b) Y (by omega)
      have em_b:=fun X Y=>Heap.upd_ne X (i:=m) (j:=b) Y (by omega)
      have eq_b:=fun X Y=>Heap.upd_ne X (i:=q) (j:=b) Y (by omega)
      have ep_b:=fun X Y=>Heap.upd_ne X (i:=p') (j:=b) Y (by omega)
      have en_m:=fun X Y=>Heap.upd_ne X (i:=n) (j:=m) Y (by omega)
      have en1_m:=fun X Y=>Heap.upd_ne X (i:=n+1) (j:=m) Y (by omega)
      have en2_m:=fun X Y=>Heap.upd_ne X (i:=n+2) (j:=m) Y (by omega)
      have en3_m:=fun X Y=>Heap.upd_ne X (i:=n+3) (j:=m) Y (by omega)
      have eb_m:=fun X Y=>Heap.upd_ne X (i:=b) (j:=m) Y (by omega)
      have eq_m:=fun X Y=>Heap.upd_ne X (i:=q) (j:=m) Y (by omega)
      have ep_m:=fun X Y=>Heap.upd_ne X (i:=p') (j:=m) Y (by omega)
      have en_q:=fun X Y=>Heap.upd_ne X (i:=n) (j:=q) Y (by omega)
      have en1_q:=fun X Y=>Heap.upd_ne X (i:=n+1) (j:=q) Y (by omega)
      have en2_q:=fun X Y=>Heap.upd_ne X (i:=n+2) (j:=q) Y (by omega)
      have en3_q:=fun X Y=>Heap.upd_ne X (i:=n+3) (j:=q) Y (by omega)
      have eb_q:=fun X Y=>Heap.upd_ne X (i:=b) (j:=q) Y (by omega)
      have em_q:=fun X Y=>Heap.upd_ne X (i:=m) (j:=q) Y (by omega)
      have ep_q:=fun X Y=>Heap.upd_ne X (i:=p') (j:=q) Y (by omega)
      have en_p':=fun X Y=>Heap.upd_ne X (i:=n) (j:=p') Y (by omega)
      have en1_p':=fun X Y=>Heap.upd_ne X (i:=n+1) (j:=p') Y (by omega)
      have en2_p':=fun X Y=>Heap.upd_ne X (i:=n+2) (j:=p') Y (by omega)
      have en3_p':=fun X Y=>Heap.upd_ne X (i:=n+3) (j:=p') Y (by omega)
      have eb_p':=fun X Y=>Heap.upd_ne X (i:=b) (j:=p') Y (by omega)
      have em_p':=fun X Y=>Heap.upd_ne X (i:=m) (j:=p') Y (by omega)
      have eq_p':=fun X Y=>Heap.upd_ne X (i:=q) (j:=p') Y (by omega)
      have eb_n:=fun X Y=>Heap.upd_ne X (i:=b) (j:=n) Y (by omega)
      have em_n:=fun X Y=>Heap.upd_ne X (i:=m) (j:=n) Y (by omega)
      have eq_n:=fun X Y=>Heap.upd_ne X (i:=q) (j:=n) Y (by omega)
      have ep_n:=fun X Y=>Heap.upd_ne X (i:=p') (j:=n) Y (by omega)
      have en1_n:=fun X Y=>Heap.upd_ne X (i:=n+1) (j:=n) Y (by omega)
      have en2_n:=fun X Y=>Heap.upd_ne X (i:=n+2) (j:=n) Y (by omega)
      have en3_n:=fun X Y=>Heap.upd_ne X (i:=n+3) (j:=n) Y (by omega)
      have eb_n1:=fun X Y=>Heap.upd_ne X (i:=b) (j:=n+1) Y (by omega)
      have em_n1:=fun X Y=>Heap.upd_ne X (i:=m) (j:=n+1) Y (by omega)
      have eq_n1:=fun X Y=>Heap.upd_ne X (i:=q) (j:=n+1) Y (by omega)
      have ep_n1:=fun X Y=>Heap.upd_ne X (i:=p') (j:=n+1) Y (by omega)
      have en_n1:=fun X Y=>Heap.upd_ne X (i:=n) (j:=n+1) Y (by omega)
      have en2_n1:=fun X Y=>Heap.upd_ne X (i:=n+2) (j:=n+1) Y (by omega)
      have en3_n1:=fun X Y=>Heap.upd_ne X (i:=n+3) (j:=n+1) Y (by omega)
      have eb_n2:=fun X Y=>Heap.upd_ne X (i:=b) (j:=n+2) Y (by omega)
      have em_n2:=fun X Y=>Heap.upd_ne X (i:=m) (j:=n+2) Y (by omega)
      have eq_n2:=fun X Y=>Heap.upd_ne X (i:=q) (j:=n+2) Y (by omega)
      have ep_n2:=fun X Y=>Heap.upd_ne X (i:=p') (j:=n+2) Y (by omega)
      have en_n2:=fun X Y=>Heap.upd_ne X (i:=n) (j:=n+2) Y (by omega)
      have en1_n2:=fun X Y=>Heap.upd_ne X (i:=n+1) (j:=n+2) Y (by omega)
      have en3_n2:=fun X Y=>Heap.upd_ne X (i:=n+3) (j:=n+2) Y (by omega)
      have eb_n3:=fun X Y=>Heap.upd_ne X (i:=b) (j:=n+3) Y (by omega)
      have em_n3:=fun X Y=>Heap.upd_ne X (i:=m) (j:=n+3) Y (by omega)
      have eq_n3:=fun X Y=>Heap.upd_ne X (i:=q) (j:=n+3) Y (by omega)
      have ep_n3:=fun X Y=>Heap.upd_ne X (i:=p') (j:=n+3) Y (by omega)
      have en_n3:=fun X Y=>Heap.upd_ne X (i:=n) (j:=n+3) Y (by omega)
      have en1_n3:=fun X Y=>Heap.upd_ne X (i:=n+1) (j:=n+3) Y (by omega)
      have en2_n3:=fun X Y=>Heap.upd_ne X (i:=n+2) (j:=n+3) Y (by omega)
      refine awp_ev dr0 (by decide +kernel) ?_
      simp only[go_sem,Tryz.f145,hb,hm,hq,hp,en_b,en1_b,en2_b,en3_b,em_b,eq_b,ep_b,en_m,en1_m,en2_m,en3_m,eb_m,eq_m,ep_m,en_q,en1_q,en2_q,en3_q,eb_q,em_q,ep_q,en_p',en1_p',en2_p',en3_p',eb_p',em_p',eq_p',eb_n,em_n,eq_n,ep_n,en1_n,en2_n,en3_n,eb_n1,em_n1,eq_n1,ep_n1,en_n1,en2_n1,en3_n1,eb_n2,em_n2,eq_n2,ep_n2,en_n2,en1_n2,en3_n2,eb_n3,em_n3,eq_n3,ep_n3,en_n3,en1_n3,en2_n3,sp4]
      try rw[List.take_of_length_le (l:=s.log.map AV.i64) (by rw[List.length_map]; exact Nat.le_refl _)]
      rw[List.take_of_length_le (l:=ac) (by omega)]
      refine⟨by first | omega | (rw[List.length_map]; omega) | (rw[List.length_map]; exact ha) | decide | (exact Nat.le_refl _) | simp,by first | omega | (rw[List.length_map]; omega) | (rw[List.length_map]; exact ha) | decide | (exact Nat.le_refl _) | simp,by first | omega | (rw[List.length_map]; omega) | (rw[List.length_map]; exact ha) | decide | (exact Nat.le_refl _) | simp,by first | omega | (rw[List.length_map]; omega) | (rw[List.length_map]; exact ha) | decide | (exact Nat.le_refl _) | simp,by first | omega | (rw[List.length_map]; omega) | (rw[List.length_map]; exact ha) | decide | (exact Nat.le_refl _) | simp,Fin.keep (h _ _ (fun i=>F i∨i=n+1∨i=n+3) ?_ (by omega) ⟨m,.su (n+1) 0 (s.log.length+1) 1,.su (n+3) 0 (k+1) 4,k+1,ac++[.bo false,.u16 p,.u8 0#8,.i64 u],by first | exact hlen | (show _=_; exact hlen),by simp only[Heap.upd_same,en_b,en1_b,en2_b,en3_b,em_b,eq_b,ep_b,en_m,en1_m,en2_m,en3_m,eb_m,eq_m,ep_m,en_q,en1_q,en2_q,en3_q,eb_q,em_q,ep_q,en_p',en1_p',en2_p',en3_p',eb_p',em_p',eq_p',eb_n,em_n,eq_n,ep_n,en1_n,en2_n,en3_n,eb_n1,em_n1,eq_n1,ep_n1,en_n1,en2_n1,en3_n1,eb_n2,em_n2,eq_n2,ep_n2,en_n2,en1_n2,en3_n2,eb_n3,em_n3,eq_n3,ep_n3,en_n3,en1_n3,en2_n3] <;> simp[bxO],by simp only[Heap.upd_same,en_b,en1_b,en2_b,en3_b,em_b,eq_b,ep_b,en_m,en1_m,en2_m,en3_m,eb_m,eq_m,ep_m,en_q,en1_q,en2_q,en3_q,eb_q,em_q,ep_q,en_p',en1_p',en2_p',en3_p',eb_p',em_p',eq_p',eb_n,em_n,eq_n,ep_n,en1_n,en2_n,en3_n,eb_n1,em_n1,eq_n1,ep_n1,en_n1,en2_n1,en3_n1,eb_n2,em_n2,eq_n2,ep_n2,en_n2,en1_n2,en3_n2,eb_n3,em_n3,eq_n3,ep_n3,en_n3,en1_n3,en2_n3]; first | exact hm | (show _=some (⟨(s.mem.set _ _).map .u8,_,_⟩:Blk); rw[List.map_set]),.inr ⟨n+1,by simp[bxO],by simp only[Heap.upd_same,en_b,en1_b,en2_b,en3_b,em_b,eq_b,ep_b,en_m,en1_m,en2_m,en3_m,eb_m,eq_m,ep_m,en_q,en1_q,en2_q,en3_q,eb_q,em_q,ep_q,en_p',en1_p',en2_p',en3_p',eb_p',em_p',eq_p',eb_n,em_n,eq_n,ep_n,en1_n,en2_n,en3_n,eb_n1,em_n1,eq_n1,ep_n1,en_n1,en2_n1,en3_n1,eb_n2,em_n2,eq_n2,ep_n2,en_n2,en1_n2,en3_n2,eb_n3,em_n3,eq_n3,ep_n3,en_n3,en1_n3,en2_n3] <;> simp[bxO],by omega,by omega,.inr (.inl rfl)⟩,by show k+1≤(s.log++[_]).length; rw[List.length_append]; simp; omega,by rw[List.length_append,hacl]; simp; omega,oks_app' hB.aok (by simp[AV.ok]),.inr ⟨n+3,rfl,by simp only[Heap.upd_same,en_b,en1_b,en2_b,en3_b,em_b,eq_b,ep_b,en_m,en1_m,en2_m,en3_m,eb_m,eq_m,ep_m,en_q,en1_q,en2_q,en3_q,eb_q,em_q,ep_q,en_p',en1_p',en2_p',en3_p',eb_p',em_p',eq_p',eb_n,em_n,eq_n,ep_n,en1_n,en2_n,en3_n,eb_n1,em_n1,eq_n1,ep_n1,en_n1,en2_n1,en3_n1,eb_n2,em_n2,eq_n2,ep_n2,en_n2,en1_n2,en3_n2,eb_n3,em_n3,eq_n3,ep_n3,en_n3,en1_n3,en2_n3],by omega,by omega,.inr (.inr rfl)⟩,hbm,.inl hB.fb,.inl hB.fm,fun i hi=>?_⟩ (fun i hi=>?_) (fun i hi hF=>?_))⟩
      · repeat' first
          | exact wf
          | refine Heap.wf_upd ?_ ?_
          | refine Heap.wf_upd_none ?_
          | refine Heap.wf_set ?_ (by omega) ?_
        all_goals first | (simp[AV.ok]; done) | (simp[AV.ok]; omega) | exact oks_app (i64s_ok _ _) (by simp[AV.ok]) | exact oks_app (fun v hv=>hB.aok v hv _) (by simp[AV.ok]) | (rw[← List.map_set]; exact u8s_ok _ _) | (have q1:=AV.ok_mono (show n≤n+2 by omega) _ (hB.blkok wf).1; have q2:=AV.ok_mono (show n≤n+2 by omega) _ (hB.blkok wf).2; simp[AV.ok,q1,q2] <;> omega) | (have q1:=AV.ok_mono (show n≤n+4 by omega) _ (hB.blkok wf).1; have q2:=AV.ok_mono (show n≤n+4 by omega) _ (hB.blkok wf).2; simp[AV.ok,q1,q2] <;> omega)
      · rcases hi with h | h | h
        · have:=hB.low i h; omega
        · omega
        · omega
      · rcases hi with h | h | h
        · exact .inl h
        · exact .inr (by omega)
        · exact .inr (by omega)
      · have hib:i≠b:=fun e=>hF (e▸hB.fb)
        have him:i≠m:=fun e=>hF (e▸hB.fm)
        have hiq:i≠q:=fun e=>hF (e▸h5)
        have hip:i≠p':=fun e=>hF (e▸g5)
        repeat (rw[Heap.upd_ne _ _ (by omega)])
theorem fl_out {b:Nat} {s:Bx} {p:BitVec 16} {x:BitVec 8} {u:Int} {H:Heap} {n:Nat} {F:Nat→Prop} {K:AV→Heap→Nat→Prop} (hu:0≤u∧u≤100) (hl:1≤bxLeft s) (hr:flRep b s H n F) (h:∀H' n' F',H'.wf n'→n≤n'→flRep b (bxO.out s p x u) H' n' F'→(∀i,F' i→F i∨n≤i)→(∀i,i<n→¬F i→H' i=H i)→K (.tu []) H' n'):ACalls Tryz.prog 144 [.pt b 0,.u16 p,.u8 x,.i64 u] H n K:=by
  refine ACalls.of_awp Tryz.func144 rfl (by decide +kernel) (show 4≤40 by decide) (by simp) fun wf=>?_
  obtain⟨m,L,A,k,ac,hB⟩:=hr
  have hb:=hB.blk
  have hm:=hB.mem
  have lb:=hB.low b hB.fb
  have lm:=hB.low m hB.fm
  have hbm:=hB.bm
  have hlen:=hB.len
  have hacl:=hB.acl
  have hkle:=hB.kle
  unfold bxLeft at hl
  rcases hB.log with ⟨hl0,rfl⟩ | ⟨q,rfl,hq,h3,h4,h5⟩
  · rcases hB.asks with ⟨hk0,rfl⟩ | ⟨p',rfl,hp,g3,g4,g5⟩
    · have en_b:=fun X Y=>Heap.upd_ne X (i:=n) (j:=b) Y (by omega)
      have en1_b:=fun X Y=>Heap.upd_ne X (i:=n+1) (j:=b) Y (by omega)
      have en2_b:=fun X Y=>Heap.upd_ne X (i:=n+2) (j:=b) Y (by omega)
      have en3_b:=fun X Y=>Heap.upd_ne X (i:=n+3) (j:=b) Y (by omega)
      have em_b:=fun X Y=>Heap.upd_ne X (i:=m) (j:=b) Y (by omega)
      have en_m:=fun X Y=>Heap.upd_ne X (i:=n) (j:=m) Y (by omega)
      have en1_m:=fun X Y=>Heap.upd_ne X (i:=n+1) (j:=m) Y (by omega)
      have en2_m:=fun X Y=>Heap.upd_ne X (i:=n+2) (j:=m) Y (by omega)
      have en3_m:=fun X Y=>Heap.upd_ne X (i:=n+3) (j:=m) Y (by omega)
      have eb_m:=fun X Y=>Heap.upd_ne X (i:=b) (j:=m) Y (by omega)
      have eb_n:=fun X Y=>Heap.upd_ne X (i:=b) (j:=n) Y (by omega)
      have em_n:=fun X Y=>Heap.upd_ne X (i:=m) (j:=n) Y (by omega)
      have en1_n:=fun X Y=>Heap.upd_ne X (i:=n+1) (j:=n) Y (by omega)
      have en2_n:=fun X Y=>Heap.upd_ne X (i:=n+2) (j:=n) Y (by omega)
      have en3_n:=fun X Y=>Heap.upd_ne X (i:=n+3) (j:=n) Y (by omega)
      have eb_n1:=fun X Y=>Heap.upd_ne X (i:=b) (j:=n+1) Y (by omega)
      have em_n1:=fun X Y=>Heap.upd_ne X (i:=m) (j:=n+1) Y (by omega)
      have en_n1:=fun X Y=>Heap.upd_ne X (i:=n) (j:=n+1) Y (by omega)
      have en2_n1:=fun X Y=>Heap.upd_ne X (i:=n+2) (j:=n+1) Y (by omega)
      have en3_n1:=fun X Y=>Heap.upd_ne X (i:=n+3) (j:=n+1) Y (by omega)
      have eb_n2:=fun X Y=>Heap.upd_ne X (i:=b) (j:=n+2) Y (by omega)
      have em_n2:=fun X Y=>Heap.upd_ne X (i:=m) (j:=n+2) Y (by omega)
      have en_n2:=fun X Y=>Heap.upd_ne X (i:=n) (j:=n+2) Y (by omega)
      have en1_n2:=fun X Y=>Heap.upd_ne X (i:=n+1) (j:=n+2) Y (by omega)
      have en3_n2:=fun X Y=>Heap.upd_ne X (i:=n+3) (j:=n+2) Y (by omega)
      have eb_n3:=fun X Y=>Heap.upd_ne X (i:=b) (j:=n+3) Y (by omega)
      have em_n3:=fun X Y=>Heap.upd_ne X (i:=m) (j:=n+3) Y (by omega)
      have en_n3:=fun X Y=>Heap.upd_ne X (i:=n) (j:=n+3) Y (by omega)
      have en1_n3:=fun X Y=>Heap.upd_ne X (i:=n+1) (j:=n+3) Y (by omega)
      have en2_n3:=fun X Y=>Heap.upd_ne X (i:=n+2) (j:=n+3) Y (by omega)
      refine awp_ev dr0 (by decide +kernel) ?_
      simp only[go_sem,Tryz.f144,hb,hm,en_b,en1_b,en2_b,en3_b,em_b,en_m,en1_m,en2_m,en3_m,eb_m,eb_n,em_n,en1_n,en2_n,en3_n,eb_n1,em_n1,en_n1,en2_n1,en3_n1,eb_n2,em_n2,en_n2,en1_n2,en3_n2,eb_n3,em_n3,en_n3,en1_n3,en2_n3,sp4]
      subst hk0
      have hac0:ac=[]:=List.length_eq_zero_iff.1 (by omega)
      subst hac0
      refine⟨by first | omega | (rw[List.length_map]; omega) | (rw[List.length_map]; exact ha) | decide | (exact Nat.le_refl _) | simp,Fin.keep (h _ _ (fun i=>F i∨i=n+1∨i=n+3) ?_ (by omega) ⟨m,.su (n+1) 0 (s.log.length+1) 1,.su (n+3) 0 (0+1) 4,0+1,([]:List AV)++[.bo true,.u16 p,.u8 x,.i64 u],by first | exact hlen | (show _=_; exact hlen),by simp only[Heap.upd_same,en_b,en1_b,en2_b,en3_b,em_b,en_m,en1_m,en2_m,en3_m,eb_m,eb_n,em_n,en1_n,en2_n,en3_n,eb_n1,em_n1,en_n1,en2_n1,en3_n1,eb_n2,em_n2,en_n2,en1_n2,en3_n2,eb_n3,em_n3,en_n3,en1_n3,en2_n3] <;> simp[bxO,hl0],by simp only[Heap.upd_same,en_b,en1_b,en2_b,en3_b,em_b,en_m,en1_m,en2_m,en3_m,eb_m,eb_n,em_n,en1_n,en2_n,en3_n,eb_n1,em_n1,en_n1,en2_n1,en3_n1,eb_n2,em_n2,en_n2,en1_n2,en3_n2,eb_n3,em_n3,en_n3,en1_n3,en2_n3]; first | exact hm | (show _=some (⟨(s.mem.set _ _).map .u8,_,_⟩:Blk); rw[List.map_set]),.inr ⟨n+1,by simp[bxO,hl0],by simp only[Heap.upd_same,en_b,en1_b,en2_b,en3_b,em_b,en_m,en1_m,en2_m,en3_m,eb_m,eb_n,em_n,en1_n,en2_n,en3_n,eb_n1,em_n1,en_n1,en2_n1,en3_n1,eb_n2,em_n2,en_n2,en1_n2,en3_n2,eb_n3,em_n3,en_n3,en1_n3,en2_n3] <;> simp[bxO,hl0],by omega,by omega,.inr (.inl rfl)⟩,by show 0+1≤(s.log++[_]).length; simp,rfl,by simp[AV.ok],.inr ⟨n+3,rfl,by simp only[Heap.upd_same,en_b,en1_b,en2_b,en3_b,em_b,en_m,en1_m,en2_m,en3_m,eb_m,eb_n,em_n,en1_n,en2_n,en3_n,eb_n1,em_n1,en_n1,en2_n1,en3_n1,eb_n2,em_n2,en_n2,en1_n2,en3_n2,eb_n3,em_n3,en_n3,en1_n3,en2_n3]; rfl,by omega,by omega,.inr (.inr rfl)⟩,hbm,.inl hB.fb,.inl hB.fm,fun i hi=>?_⟩ (fun i hi=>?_) (fun i hi hF=>?_))⟩
      · repeat' first
          | exact wf
          | refine Heap.wf_upd ?_ ?_
          | refine Heap.wf_upd_none ?_
          | refine Heap.wf_set ?_ (by omega) ?_
        all_goals first | (simp[AV.ok]; done) | (simp[AV.ok]; omega) | exact oks_app (i64s_ok _ _) (by simp[AV.ok]) | exact oks_app (fun v hv=>hB.aok v hv _) (by simp[AV.ok]) | (rw[← List.map_set]; exact u8s_ok _ _) | (have q1:=AV.ok_mono (show n≤n+2 by omega) _ (hB.blkok wf).1; have q2:=AV.ok_mono (show n≤n+2 by omega) _ (hB.blkok wf).2; simp[AV.ok,q1,q2] <;> omega) | (have q1:=AV.ok_mono (show n≤n+4 by omega) _ (hB.blkok wf).1; have q2:=AV.ok_mono (show n≤n+4 by omega) _ (hB.blkok wf).2; simp[AV.ok,q1,q2] <;> omega)
      · rcases hi with h | h | h
        · have:=hB.low i h; omega
        · omega
        · omega
      · rcases hi with h | h | h
        · exact .inl h
        · exact .inr (by omega)
        · exact .inr (by omega)
      · have hib:i≠b:=fun e=>hF (e▸hB.fb)
        have him:i≠m:=fun e=>hF (e▸hB.fm)
        repeat (rw[Heap.upd_ne _ _ (by omega)])
    · have lp:=hB.low p' g5
      have en_b:=fun X Y=>Heap.upd_ne X (i:=n) (j:=b) Y (by omega)
      have en1_b:=fun X Y=>Heap.upd_ne X (i:=n+1) (j:=b) Y (by omega)
      have en2_b:=fun X Y=>Heap.upd_ne X (i:=n+2) (j:=b) Y (by omega)
      have en3_b:=fun X Y=>Heap.upd_ne X (i:=n+3) (j:=b) Y (by omega)
      have em_b:=fun X Y=>Heap.upd_ne X (i:=m) (j:=b) Y (by omega)
      have ep_b:=fun X Y=>Heap.upd_ne X (i:=p') (j:=b) Y (by omega)
      have en_m:=fun X Y=>Heap.upd_ne X (i:=n) (j:=m) Y (by omega)
      have en1_m:=fun X Y=>Heap.upd_ne X (i:=n+1) (j:=m) Y (by omega)
      have en2_m:=fun X Y=>Heap.upd_ne X (i:=n+2) (j:=m) Y (by omega)
      have en3_m:=fun X Y=>Heap.upd_ne X (i:=n+3) (j:=m) Y (by omega)
      have eb_m:=fun X Y=>Heap.upd_ne X (i:=b) (j:=m) Y (by omega)
      have ep_m:=fun X Y=>Heap.upd_ne X (i:=p') (j:=m) Y (by omega)
      have en_p':=fun X Y=>Heap.upd_ne X (i:=n) (j:=p') Y (by omega)
      have en1_p':=fun X Y=>Heap.upd_ne X (i:=n+1) (j:=p') Y (by omega)
      have en2_p':=fun X Y=>Heap.upd_ne X (i:=n+2) (j:=p') Y (by omega)
      have en3_p':=fun X Y=>Heap.upd_ne X (i:=n+3) (j:=p') Y (by omega)
      have eb_p':=fun X Y=>Heap.upd_ne X (i:=b) (j:=p') Y (by omega)
      have em_p':=fun X Y=>Heap.upd_ne X (i:=m) (j:=p') Y (by omega)
      have eb_n:=fun X Y=>Heap.upd_ne X (i:=b) (j:=n) Y (by omega)
      have em_n:=fun X Y=>Heap.upd_ne X (i:=m) (j:=n) Y (by omega)
      have ep_n:=fun X Y=>Heap.upd_ne X (i:=p') (j:=n) Y (by omega)
      have en1_n:=fun X Y=>Heap.upd_ne X (i:=n+1) (j:=n) Y (by omega)
      have en2_n:=fun X Y=>Heap.upd_ne X (i:=n+2) (j:=n) Y (by omega)
      have en3_n:=fun X Y=>Heap.upd_ne X (i:=n+3) (j:=n) Y (by omega)
      have eb_n1:=fun X Y=>Heap.upd_ne X (i:=b) (j:=n+1) Y (by omega)
      have em_n1:=fun X Y=>Heap.upd_ne X (i:=m) (j:=n+1) Y (by omega)
      have ep_n1:=fun X Y=>Heap.upd_ne X (i:=p') (j:=n+1) Y (by omega)
      have en_n1:=fun X Y=>Heap.upd_ne X (i:=n) (j:=n+1) Y (by omega)
      have en2_n1:=fun X Y=>Heap.upd_ne X (i:=n+2) (j:=n+1) Y (by omega)
      have en3_n1:=fun X Y=>Heap.upd_ne X (i:=n+3) (j:=n+1) Y (by omega)
      have eb_n2:=fun X Y=>Heap.upd_ne X (i:=b) (j:=n+2) Y (by omega)
      have em_n2:=fun X Y=>Heap.upd_ne X (i:=m) (j:=n+2) Y (by omega)
      have ep_n2:=fun X Y=>Heap.upd_ne X (i:=p') (j:=n+2) Y (by omega)
      have en_n2:=fun X Y=>Heap.upd_ne X (i:=n) (j:=n+2) Y (by omega)
      have en1_n2:=fun X Y=>Heap.upd_ne X (i:=n+1) (j:=n+2) Y (by omega)
      have en3_n2:=fun X Y=>Heap.upd_ne X (i:=n+3) (j:=n+2) Y (by omega)
      have eb_n3:=fun X Y=>Heap.upd_ne X (i:=b) (j:=n+3) Y (by omega)
      have em_n3:=fun X Y=>Heap.upd_ne X (i:=m) (j:=n+3) Y (by omega)
      have ep_n3:=fun X Y=>Heap.upd_ne X (i:=p') (j:=n+3) Y (by omega)
      have en_n3:=fun X Y=>Heap.upd_ne X (i:=n) (j:=n+3) Y (by omega)
      have en1_n3:=fun X Y=>Heap.upd_ne X (i:=n+1) (j:=n+3) Y (by omega)
      have en2_n3:=fun X Y=>Heap.upd_ne X (i:=n+2) (j:=n+3) Y (by omega)
      refine awp_ev dr0 (by decide +kernel) ?_
      simp only[go_sem,Tryz.f144,hb,hm,hp,en_b,en1_b,en2_b,en3_b,em_b,ep_b,en_m,en1_m,en2_m,en3_m,eb_m,ep_m,en_p',en1_p',en2_p',en3_p',eb_p',em_p',eb_n,em_n,ep_n,en1_n,en2_n,en3_n,eb_n1,em_n1,ep_n1,en_n1,en2_n1,en3_n1,eb_n2,em_n2,ep_n2,en_n2,en1_n2,en3_n2,eb_n3,em_n3,ep_n3,en_n3,en1_n3,en2_n3,sp4]
      rw[List.take_of_length_le (l:=ac) (by omega)]
      refine⟨by first | omega | (rw[List.length_map]; omega) | (rw[List.length_map]; exact ha) | decide | (exact Nat.le_refl _) | simp,by first | omega | (rw[List.length_map]; omega) | (rw[List.length_map]; exact ha) | decide | (exact Nat.le_refl _) | simp,by first | omega | (rw[List.length_map]; omega) | (rw[List.length_map]; exact ha) | decide | (exact Nat.le_refl _) | simp,Fin.keep (h _ _ (fun i=>F i∨i=n+1∨i=n+3) ?_ (by omega) ⟨m,.su (n+1) 0 (s.log.length+1) 1,.su (n+3) 0 (k+1) 4,k+1,ac++[.bo true,.u16 p,.u8 x,.i64 u],by first | exact hlen | (show _=_; exact hlen),by simp only[Heap.upd_same,en_b,en1_b,en2_b,en3_b,em_b,ep_b,en_m,en1_m,en2_m,en3_m,eb_m,ep_m,en_p',en1_p',en2_p',en3_p',eb_p',em_p',eb_n,em_n,ep_n,en1_n,en2_n,en3_n,eb_n1,em_n1,ep_n1,en_n1,en2_n1,en3_n1,eb_n2,em_n2,ep_n2,en_n2,en1_n2,en3_n2,eb_n3,em_n3,ep_n3,en_n3,en1_n3,en2_n3] <;> simp[bxO,hl0],by simp only[Heap.upd_same,en_b,en1_b,en2_b,en3_b,em_b,ep_b,en_m,en1_m,en2_m,en3_m,eb_m,ep_m,en_p',en1_p',en2_p',en3_p',eb_p',em_p',eb_n,em_n,ep_n,en1_n,en2_n,en3_n,eb_n1,em_n1,ep_n1,en_n1,en2_n1,en3_n1,eb_n2,em_n2,ep_n2,en_n2,en1_n2,en3_n2,eb_n3,em_n3,ep_n3,en_n3,en1_n3,en2_n3]; first | exact hm | (show _=some (⟨(s.mem.set _ _).map .u8,_,_⟩:Blk); rw[List.map_set]),.inr ⟨n+1,by simp[bxO,hl0],by simp only[Heap.upd_same,en_b,en1_b,en2_b,en3_b,em_b,ep_b,en_m,en1_m,en2_m,en3_m,eb_m,ep_m,en_p',en1_p',en2_p',en3_p',eb_p',em_p',eb_n,em_n,ep_n,en1_n,en2_n,en3_n,eb_n1,em_n1,ep_n1,en_n1,en2_n1,en3_n1,eb_n2,em_n2,ep_n2,en_n2,en1_n2,en3_n2,eb_n3,em_n3,ep_n3,en_n3,en1_n3,en2_n3] <;> simp[bxO,hl0],by omega,by omega,.inr (.inl rfl)⟩,by show k+1≤(s.log++[_]).length; rw[List.length_append]; simp; omega,by rw[List.length_append,hacl]; simp; omega,oks_app' hB.aok (by simp[AV.ok]),.inr ⟨n+3,rfl,by simp only[Heap.upd_same,en_b,en1_b,en2_b,en3_b,em_b,ep_b,en_m,en1_m,en2_m,en3_m,eb_m,ep_m,en_p',en1_p',en2_p',en3_p',eb_p',em_p',eb_n,em_n,ep_n,en1_n,en2_n,en3_n,eb_n1,em_n1,ep_n1,en_n1,en2_n1,en3_n1,eb_n2,em_n2,ep_n2,en_n2,en1_n2,en3_n2,eb_n3,em_n3,ep_n3,en_n3,en1_n3,en2_n3],by omega,by omega,.inr (.inr rfl)⟩,hbm,.inl hB.fb,.inl hB.fm,fun i hi=>?_⟩ (fun i hi=>?_) (fun i hi hF=>?_))⟩
      · repeat' first
          | exact wf
          | refine Heap.wf_upd ?_ ?_
          | refine Heap.wf_upd_none ?_
          | refine Heap.wf_set ?_ (by omega) ?_
        all_goals first | (simp[AV.ok]; done) | (simp[AV.ok]; omega) | exact oks_app (i64s_ok _ _) (by simp[AV.ok]) | exact oks_app (fun v hv=>hB.aok v hv _) (by simp[AV.ok]) | (rw[← List.map_set]; exact u8s_ok _ _) | (have q1:=AV.ok_mono (show n≤n+2 by omega) _ (hB.blkok wf).1; have q2:=AV.ok_mono (show n≤n+2 by omega) _ (hB.blkok wf).2; simp[AV.ok,q1,q2] <;> omega) | (have q1:=AV.ok_mono (show n≤n+4 by omega) _ (hB.blkok wf).1; have q2:=AV.ok_mono (show n≤n+4 by omega) _ (hB.blkok wf).2; simp[AV.ok,q1,q2] <;> omega)
      · rcases hi with h | h | h
        · have:=hB.low i h; omega
        · omega
        · omega
      · rcases hi with h | h | h
        · exact .inl h
        · exact .inr (by omega)
        · exact .inr (by omega)
      · have hib:i≠b:=fun e=>hF (e▸hB.fb)
        have him:i≠m:=fun e=>hF (e▸hB.fm)
        have hip:i≠p':=fun e=>hF (e▸g5)
        repeat (rw[Heap.upd_ne _ _ (by omega)])
  · have lq:=hB.low q h5
    rcases hB.asks with ⟨hk0,rfl⟩ | ⟨p',rfl,hp,g3,g4,g5⟩
    · have en_b:=fun X Y=>Heap.upd_ne X (i:=n) (j:=b) Y (by omega)
      have en1_b:=fun X Y=>Heap.upd_ne X (i:=n+1) (j:=b) Y (by omega)
      have en2_b:=fun X Y=>Heap.upd_ne X (i:=n+2) (j:=b) Y (by omega)
      have en3_b:=fun X Y=>Heap.upd_ne X (i:=n+3) (j:=b) Y (by omega)
      have em_b:=fun X Y=>Heap.upd_ne X (i:=m) (j:=b) Y (by omega)
      have eq_b:=fun X Y=>Heap.upd_ne X (i:=q) (j:=b) Y (by omega)
      have en_m:=fun X Y=>Heap.upd_ne X (i:=n) (j:=m) Y (by omega)
      have en1_m:=fun X Y=>Heap.upd_ne X (i:=n+1) (j:=m) Y (by omega)
      have en2_m:=fun X Y=>Heap.upd_ne X (i:=n+2) (j:=m) Y (by omega)
      have en3_m:=fun X Y=>Heap.upd_ne X (i:=n+3) (j:=m) Y (by omega)
      have eb_m:=fun X Y=>Heap.upd_ne X (i:=b) (j:=m) Y (by omega)
      have eq_m:=fun X Y=>Heap.upd_ne X (i:=q) (j:=m) Y (by omega)
      have en_q:=fun X Y=>Heap.upd_ne X (i:=n) (j:=q) Y (by omega)
      have en1_q:=fun X Y=>Heap.upd_ne X (i:=n+1) (j:=q) Y (by omega)
      have en2_q:=fun X Y=>Heap.upd_ne X (i:=n+2) (j:=q) Y (by omega)
      have en3_q:=fun X Y=>Heap.upd_ne X (i:=n+3) (j:=q) Y (by omega)
      have eb_q:=fun X Y=>Heap.upd_ne X (i:=b) (j:=q) Y (by omega)
      have em_q:=fun X Y=>Heap.upd_ne X (i:=m) (j:=q) Y (by omega)
      have eb_n:=fun X Y=>Heap.upd_ne X (i:=b) (j:=n) Y (by omega)
      have em_n:=fun X Y=>Heap.upd_ne X (i:=m) (j:=n) Y (by omega)
      have eq_n:=fun X Y=>Heap.upd_ne X (i:=q) (j:=n) Y (by omega)
      have en1_n:=fun X Y=>Heap.upd_ne X (i:=n+1) (j:=n) Y (by omega)
      have en2_n:=fun X Y=>Heap.upd_ne X (i:=n+2) (j:=n) Y (by omega)
      have en3_n:=fun X Y=>Heap.upd_ne X (i:=n+3) (j:=n) Y (by omega)
      have eb_n1:=fun X Y=>Heap.upd_ne X (i:=b) (j:=n+1) Y (by omega)
      have em_n1:=fun X Y=>Heap.upd_ne X (i:=m) (j:=n+1) Y (by omega)
      have eq_n1:=fun X Y=>Heap.upd_ne X (i:=q) (j:=n+1) Y (by omega)
      have en_n1:=fun X Y=>Heap.upd_ne X (i:=n) (j:=n+1) Y (by omega)
      have en2_n1:=fun X Y=>Heap.upd_ne X (i:=n+2) (j:=n+1) Y (by omega)
      have en3_n1:=fun X Y=>Heap.upd_ne X (i:=n+3) (j:=n+1) Y (by omega)
      have eb_n2:=fun X Y=>Heap.upd_ne X (i:=b) (j:=n+2) Y (by omega)
      have em_n2:=fun X Y=>Heap.upd_ne X (i:=m) (j:=n+2) Y (by omega)
      have eq_n2:=fun X Y=>Heap.upd_ne X (i:=q) (j:=n+2) Y (by omega)
      have en_n2:=fun X Y=>Heap.upd_ne X (i:=n) (j:=n+2) Y (by omega)
      have en1_n2:=fun X Y=>Heap.upd_ne X (i:=n+1) (j:=n+2) Y (by omega)
      have en3_n2:=fun X Y=>Heap.upd_ne X (i:=n+3) (j:=n+2) Y (by omega)
      have eb_n3:=fun X Y=>Heap.upd_ne X (i:=b) (j:=n+3) Y (by omega)
      have em_n3:=fun X Y=>Heap.upd_ne X (i:=m) (j:=n+3) Y (by omega)
      have eq_n3:=fun X Y=>Heap.upd_ne X (i:=q) (j:=n+3) Y (by omega)
      have en_n3:=fun X Y=>Heap.upd_ne X (i:=n) (j:=n+3) Y (by omega)
      have en1_n3:=fun X Y=>Heap.upd_ne X (i:=n+1) (j:=n+3) Y (by omega)
      have en2_n3:=fun X Y=>Heap.upd_ne X (i:=n+2) (j:=n+3) Y (by omega)
      refine awp_ev dr0 (by decide +kernel) ?_
      simp only[go_sem,Tryz.f144,hb,hm,hq,en_b,en1_b,en2_b,en3_b,em_b,eq_b,en_m,en1_m,en2_m,en3_m,eb_m,eq_m,en_q,en1_q,en2_q,en3_q,eb_q,em_q,eb_n,em_n,eq_n,en1_n,en2_n,en3_n,eb_n1,em_n1,eq_n1,en_n1,en2_n1,en3_n1,eb_n2,em_n2,eq_n2,en_n2,en1_n2,en3_n2,eb_n3,em_n3,eq_n3,en_n3,en1_n3,en2_n3,sp4]
      try rw[List.take_of_length_le (l:=s.log.map AV.i64) (by rw[List.length_map]; exact Nat.le_refl _)]
      subst hk0
      have hac0:ac=[]:=List.length_eq_zero_iff.1 (by omega)
      subst hac0
      refine⟨by first | omega | (rw[List.length_map]; omega) | (rw[List.length_map]; exact ha) | decide | (exact Nat.le_refl _) | simp,by first | omega | (rw[List.length_map]; omega) | (rw[List.length_map]; exact ha) | decide | (exact Nat.le_refl _) | simp,by first | omega | (rw[List.length_map]; omega) | (rw[List.length_map]; exact ha) | decide | (exact Nat.le_refl _) | simp,Fin.keep (h _ _ (fun i=>F i∨i=n+1∨i=n+3) ?_ (by omega) ⟨m,.su (n+1) 0 (s.log.length+1) 1,.su (n+3) 0 (0+1) 4,0+1,([]:List AV)++[.bo true,.u16 p,.u8 x,.i64 u],by first | exact hlen | (show _=_; exact hlen),by simp only[Heap.upd_same,en_b,en1_b,en2_b,en3_b,em_b,eq_b,en_m,en1_m,en2_m,en3_m,eb_m,eq_m,en_q,en1_q,en2_q,en3_q,eb_q,em_q,eb_n,em_n,eq_n,en1_n,en2_n,en3_n,eb_n1,em_n1,eq_n1,en_n1,en2_n1,en3_n1,eb_n2,em_n2,eq_n2,en_n2,en1_n2,en3_n2,eb_n3,em_n3,eq_n3,en_n3,en1_n3,en2_n3] <;> simp[bxO],by simp only[Heap.upd_same,en_b,en1_b,en2_b,en3_b,em_b,eq_b,en_m,en1_m,en2_m,en3_m,eb_m,eq_m,en_q,en1_q,en2_q,en3_q,eb_q,em_q,eb_n,em_n,eq_n,en1_n,en2_n,en3_n,eb_n1,em_n1,eq_n1,en_n1,en2_n1,en3_n1,eb_n2,em_n2,eq_n2,en_n2,en1_n2,en3_n2,eb_n3,em_n3,eq_n3,en_n3,en1_n3,en2_n3]; first | exact hm | (show _=some (⟨(s.mem.set _ _).map .u8,_,_⟩:Blk); rw[List.map_set]),.inr ⟨n+1,by simp[bxO],by simp only[Heap.upd_same,en_b,en1_b,en2_b,en3_b,em_b,eq_b,en_m,en1_m,en2_m,en3_m,eb_m,eq_m,en_q,en1_q,en2_q,en3_q,eb_q,em_q,eb_n,em_n,eq_n,en1_n,en2_n,en3_n,eb_n1,em_n1,eq_n1,en_n1,en2_n1,en3_n1,eb_n2,em_n2,eq_n2,en_n2,en1_n2,en3_n2,eb_n3,em_n3,eq_n3,en_n3,en1_n3,en2_n3] <;> simp[bxO],by omega,by omega,.inr (.inl rfl)⟩,by show 0+1≤(s.log++[_]).length; simp,rfl,by simp[AV.ok],.inr ⟨n+3,rfl,by simp only[Heap.upd_same,en_b,en1_b,en2_b,en3_b,em_b,eq_b,en_m,en1_m,en2_m,en3_m,eb_m,eq_m,en_q,en1_q,en2_q,en3_q,eb_q,em_q,eb_n,em_n,eq_n,en1_n,en2_n,en3_n,eb_n1,em_n1,eq_n1,en_n1,en2_n1,en3_n1,eb_n2,em_n2,eq_n2,en_n2,en1_n2,en3_n2,eb_n3,em_n3,eq_n3,en_n3,en1_n3,en2_n3]; rfl,by omega,by omega,.inr (.inr rfl)⟩,hbm,.inl hB.fb,.inl hB.fm,fun i hi=>?_⟩ (fun i hi=>?_) (fun i hi hF=>?_))⟩
      · repeat' first
          | exact wf
          | refine Heap.wf_upd ?_ ?_
          | refine Heap.wf_upd_none ?_
          | refine Heap.wf_set ?_ (by omega) ?_
        all_goals first | (simp[AV.ok]; done) | (simp[AV.ok]; omega) | exact oks_app (i64s_ok _ _) (by simp[AV.ok]) | exact oks_app (fun v hv=>hB.aok v hv _) (by simp[AV.ok]) | (rw[← List.map_set]; exact u8s_ok _ _) | (have q1:=AV.ok_mono (show n≤n+2 by omega) _ (hB.blkok wf).1; have q2:=AV.ok_mono (show n≤n+2 by omega) _ (hB.blkok wf).2; simp[AV.ok,q1,q2] <;> omega) | (have q1:=AV.ok_mono (show n≤n+4 by omega) _ (hB.blkok wf).1; have q2:=AV.ok_mono (show n≤n+4 by omega) _ (hB.blkok wf).2; simp[AV.ok,q1,q2] <;> omega)
      · rcases hi with h | h | h
        · have:=hB.low i h; omega
        · omega
        · omega
      · rcases hi with h | h | h
        · exact .inl h
        · exact .inr (by omega)
        · exact .inr (by omega)
      · have hib:i≠b:=fun e=>hF (e▸hB.fb)
        have him:i≠m:=fun e=>hF (e▸hB.fm)
        have hiq:i≠q:=fun e=>hF (e▸h5)
        repeat (rw[Heap.upd_ne _ _ (by omega)])
    · have lp:=hB.low p' g5
      have hqp:q≠p':=fun e=>by subst e; rw[hq] at hp; simp at hp
      have en_b:=fun X Y=>Heap.upd_ne X (i:=n) (j:=b) Y (by omega)
      have en1_b:=fun X Y=>Heap.upd_ne X (i:=n+1) (j:=b) Y (by omega)
      have en2_b:=fun X Y=>Heap.upd_ne X (i:=n+2) (j:=b) Y (by omega)
      have en3_b:=fun X Y=>Heap.upd_ne X (i:=n+3) (j:=b) Y (by omega)
      have em_b:=fun X Y=>Heap.upd_ne X (i:=m) (j:=b) Y (by omega)
      have eq_b:=fun X Y=>Heap.upd_ne X (i:=q) (j:=b) Y (by omega)
      have ep_b:=fun X Y=>Heap.upd_ne X (i:=p') (j:=b) Y (by omega)
      have en_m:=fun X Y=>Heap.upd_ne X (i:=n) (j:=m) Y (by omega)
      have en1_m:=fun X Y=>Heap.upd_ne X (i:=n+1) (j:=m) Y (by omega)
      have en2_m:=fun X Y=>Heap.upd_ne X (i:=n+2) (j:=m) Y (by omega)
      have en3_m:=fun X Y=>Heap.upd_ne X (i:=n+3) (j:=m) Y (by omega)
      have eb_m:=fun X Y=>Heap.upd_ne X (i:=b) (j:=m) Y (by omega)
      have eq_m:=fun X Y=>Heap.upd_ne X (i:=q) (j:=m) Y (by omega)
      have ep_m:=fun X Y=>Heap.upd_ne X (i:=p') (j:=m) Y (by omega)
      have en_q:=fun X Y=>Heap.upd_ne X (i:=n) (j:=q) Y (by omega)
      have en1_q:=fun X Y=>Heap.upd_ne X (i:=n+1) (j:=q) Y (by omega)
      have en2_q:=fun X Y=>Heap.upd_ne X (i:=n+2) (j:=q) Y (by omega)
      have en3_q:=fun X Y=>Heap.upd_ne X (i:=n+3) (j:=q) Y (by omega)
      have eb_q:=fun X Y=>Heap.upd_ne X (i:=b) (j:=q) Y (by omega)
      have em_q:=fun X Y=>Heap.upd_ne X (i:=m) (j:=q) Y (by omega)
      have ep_q:=fun X Y=>Heap.upd_ne X (i:=p') (j:=q) Y (by omega)
      have en_p':=fun X Y=>Heap.upd_ne X (i:=n) (j:=p') Y (by omega)
      have en1_p':=fun X Y=>Heap.upd_ne X (i:=n+1) (j:=p') Y (by omega)
      have en2_p':=fun X Y=>Heap.upd_ne X (i:=n+2) (j:=p') Y (by omega)
      have en3_p':=fun X Y=>Heap.upd_ne X (i:=n+3) (j:=p') Y (by omega)
      have eb_p':=fun X Y=>Heap.upd_ne X (i:=b) (j:=p') Y (by omega)
      have em_p':=fun X Y=>Heap.upd_ne X (i:=m) (j:=p') Y (by omega)
      have eq_p':=fun X Y=>Heap.upd_ne X (i:=q) (j:=p') Y (by omega)
      have eb_n:=fun X Y=>Heap.upd_ne X (i:=b) (j:=n) Y (by omega)
      have em_n:=fun X Y=>Heap.upd_ne X (i:=m) (j:=n) Y (by omega)
      have eq_n:=fun X Y=>Heap.upd_ne X (i:=q) (j:=n) Y (by omega)
      have ep_n:=fun X Y=>Heap.upd_ne X (i:=p') (j:=n) Y (by omega)
      have en1_n:=fun X Y=>Heap.upd_ne X (i:=n+1) (j:=n) Y (by omega)
      have en2_n:=fun X Y=>Heap.upd_ne X (i:=n+2) (j:=n) Y (by omega)
      have en3_n:=fun X Y=>Heap.upd_ne X (i:=n+3) (j:=n) Y (by omega)
      have eb_n1:=fun X Y=>Heap.upd_ne X (i:=b) (j:=n+1) Y (by omega)
      have em_n1:=fun X Y=>Heap.upd_ne X (i:=m) (j:=n+1) Y (by omega)
      have eq_n1:=fun X Y=>Heap.upd_ne X (i:=q) (j:=n+1) Y (by omega)
      have ep_n1:=fun X Y=>Heap.upd_ne X (i:=p') (j:=n+1) Y (by omega)
      have en_n1:=fun X Y=>Heap.upd_ne X (i:=n) (j:=n+1) Y (by omega)
      have en2_n1:=fun X Y=>Heap.upd_ne X (i:=n+2) (j:=n+1) Y (by omega)
      have en3_n1:=fun X Y=>Heap.upd_ne X (i:=n+3) (j:=n+1) Y (by omega)
      have eb_n2:=fun X Y=>Heap.upd_ne X (i:=b) (j:=n+2) Y (by omega)
      have em_n2:=fun X Y=>Heap.upd_ne X (i:=m) (j:=n+2) Y (by omega)
      have eq_n2:=fun X Y=>Heap.upd_ne X (i:=q) (j:=n+2) Y (by omega)
      have ep_n2:=fun X Y=>Heap.upd_ne X (i:=p') (j:=n+2) Y (by omega)
      have en_n2:=fun X Y=>Heap.upd_ne X (i:=n) (j:=n+2) Y (by omega)
      have en1_n2:=fun X Y=>Heap.upd_ne X (i:=n+1) (j:=n+2) Y (by omega)
      have en3_n2:=fun X Y=>Heap.upd_ne X (i:=n+3) (j:=n+2) Y (by omega)
      have eb_n3:=fun X Y=>Heap.upd_ne X (i:=b) (j:=n+3) Y (by omega)
      have em_n3:=fun X Y=>Heap.upd_ne X (i:=m) (j:=n+3) Y (by omega)
      have eq_n3:=fun X Y=>Heap.upd_ne X (i:=q) (j:=n+3) Y (by omega)
      have ep_n3:=fun X Y=>Heap.upd_ne X (i:=p') (j:=n+3) Y (by omega)
      have en_n3:=fun X Y=>Heap.upd_ne X (i:=n) (j:=n+3) Y (by omega)
      have en1_n3:=fun X Y=>Heap.upd_ne X (i:=n+1) (j:=n+3) Y (by omega)
      have en2_n3:=fun X Y=>Heap.upd_ne X (i:=n+2) (j:=n+3) Y (by omega)
      refine awp_ev dr0 (by decide +kernel) ?_
      simp only[go_sem,Tryz.f144,hb,hm,hq,hp,en_b,en1_b,en2_b,en3_b,em_b,eq_b,ep_b,en_m,en1_m,en2_m,en3_m,eb_m,eq_m,ep_m,en_q,en1_q,en2_q,en3_q,eb_q,em_q,ep_q,en_p',en1_p',en2_p',en3_p',eb_p',em_p',eq_p',eb_n,em_n,eq_n,ep_n,en1_n,en2_n,en3_n,eb_n1,em_n1,eq_n1,ep_n1,en_n1,en2_n1,en3_n1,eb_n2,em_n2,eq_n2,ep_n2,en_n2,en1_n2,en3_n2,eb_n3,em_n3,eq_n3,ep_n3,en_n3,en1_n3,en2_n3,sp4]
      try rw[List.take_of_length_le (l:=s.log.map AV.i64) (by rw[List.length_map]; exact Nat.le_refl _)]
      rw[List.take_of_length_le (l:=ac) (by omega)]
      refine⟨by first | omega | (rw[List.length_map]; omega) | (rw[List.length_map]; exact ha) | decide | (exact Nat.le_refl _) | simp,by first | omega | (rw[List.length_map]; omega) | (rw[List.length_map]; exact ha) | decide | (exact Nat.le_refl _) | simp,by first | omega | (rw[List.length_map]; omega) | (rw[List.length_map]; exact ha) | decide | (exact Nat.le_refl _) | simp,by first | omega | (rw[List.length_map]; omega) | (rw[List.length_map]; exact ha) | decide | (exact Nat.le_refl _) | simp,by first | omega | (rw[List.length_map]; omega) | (rw[List.length_map]; exact ha) | decide | (exact Nat.le_refl _) | simp,Fin.keep (h _ _ (fun i=>F i∨i=n+1∨i=n+3) ?_ (by omega) ⟨m,.su (n+1) 0 (s.log.length+1) 1,.su (n+3) 0 (k+1) 4,k+1,ac++[.bo true,.u16 p,.u8 x,.i64 u],by first | exact hlen | (show _=_; exact hlen),by simp only[Heap.upd_same,en_b,en1_b,en2_b,en3_b,em_b,eq_b,ep_b,en_m,en1_m,en2_m,en3_m,eb_m,eq_m,ep_m,en_q,en1_q,en2_q,en3_q,eb_q,em_q,ep_q,en_p',en1_p',en2_p',en3_p',eb_p',em_p',eq_p',eb_n,em_n,eq_n,ep_n,en1_n,en2_n,en3_n,eb_n1,em_n1,eq_n1,ep_n1,en_n1,en2_n1,en3_n1,eb_n2,em_n2,eq_n2,ep_n2,en_n2,en1_n2,en3_n2,eb_n3,em_n3,eq_n3,ep_n3,en_n3,en1_n3,en2_n3] <;> simp[bxO],by simp only[Heap.upd_same,en_b,en1_b,en2_b,en3_b,em_b,eq_b,ep_b,en_m,en1_m,en2_m,en3_m,eb_m,eq_m,ep_m,en_q,en1_q,en2_q,en3_q,eb_q,em_q,ep_q,en_p',en1_p',en2_p',en3_p',eb_p',em_p',eq_p',eb_n,em_n,eq_n,ep_n,en1_n,en2_n,en3_n,eb_n1,em_n1,eq_n1,ep_n1,en_n1,en2_n1,en3_n1,eb_n2,em_n2,eq_n2,ep_n2,en_n2,en1_n2,en3_n2,eb_n3,em_n3,eq_n3,ep_n3,en_n3,en1_n3,en2_n3]; first | exact hm | (show _=some (⟨(s.mem.set _ _).map .u8,_,_⟩:Blk); rw[List.map_set]),.inr ⟨n+1,by simp[bxO],by simp only[Heap.upd_same,en_b,en1_b,en2_b,en3_b,em_b,eq_b,ep_b,en_m,en1_m,en2_m,en3_m,eb_m,eq_m,ep_m,en_q,en1_q,en2_q,en3_q,eb_q,em_q,ep_q,en_p',en1_p',en2_p',en3_p',eb_p',em_p',eq_p',eb_n,em_n,eq_n,ep_n,en1_n,en2_n,en3_n,eb_n1,em_n1,eq_n1,ep_n1,en_n1,en2_n1,en3_n1,eb_n2,em_n2,eq_n2,ep_n2,en_n2,en1_n2,en3_n2,eb_n3,em_n3,eq_n3,ep_n3,en_n3,en1_n3,en2_n3] <;> simp[bxO],by omega,by omega,.inr (.inl rfl)⟩,by show k+1≤(s.log++[_]).length; rw[List.length_append]; simp; omega,by rw[List.length_append,hacl]; simp; omega,oks_app' hB.aok (by simp[AV.ok]),.inr ⟨n+3,rfl,by simp only[Heap.upd_same,en_b,en1_b,en2_b,en3_b,em_b,eq_b,ep_b,en_m,en1_m,en2_m,en3_m,eb_m,eq_m,ep_m,en_q,en1_q,en2_q,en3_q,eb_q,em_q,ep_q,en_p',en1_p',en2_p',en3_p',eb_p',em_p',eq_p',eb_n,em_n,eq_n,ep_n,en1_n,en2_n,en3_n,eb_n1,em_n1,eq_n1,ep_n1,en_n1,en2_n1,en3_n1,eb_n2,em_n2,eq_n2,ep_n2,en_n2,en1_n2,en3_n2,eb_n3,em_n3,eq_n3,ep_n3,en_n3,en1_n3,en2_n3],by omega,by omega,.inr (.inr rfl)⟩,hbm,.inl hB.fb,.inl hB.fm,fun i hi=>?_⟩ (fun i hi=>?_) (fun i hi hF=>?_))⟩
      · repeat' first
          | exact wf
          | refine Heap.wf_upd ?_ ?_
          | refine Heap.wf_upd_none ?_
          | refine Heap.wf_set ?_ (by omega) ?_
        all_goals first | (simp[AV.ok]; done) | (simp[AV.ok]; omega) | exact oks_app (i64s_ok _ _) (by simp[AV.ok]) | exact oks_app (fun v hv=>hB.aok v hv _) (by simp[AV.ok]) | (rw[← List.map_set]; exact u8s_ok _ _) | (have q1:=AV.ok_mono (show n≤n+2 by omega) _ (hB.blkok wf).1; have q2:=AV.ok_mono (show n≤n+2 by omega) _ (hB.blkok wf).2; simp[AV.ok,q1,q2] <;> omega) | (have q1:=AV.ok_mono (show n≤n+4 by omega) _ (hB.blkok wf).1; have q2:=AV.ok_mono (show n≤n+4 by omega) _ (hB.blkok wf).2; simp[AV.ok,q1,q2] <;> omega)
      · rcases hi with h | h | h
        · have:=hB.low i h; omega
        · omega
        · omega
      · rcases hi with h | h | h
        · exact .inl h
        · exact .inr (by omega)
        · exact .inr (by omega)
      · have hib:i≠b:=fun e=>hF (e▸hB.fb)
        have him:i≠m:=fun e=>hF (e▸hB.fm)
        have hiq:i≠q:=fun e=>hF (e▸h5)
        have hip:i≠p':=fun e=>hF (e▸g5)
        repeat (rw[Heap.upd_ne _ _ (by omega)])
end Go.Proofs.Joy
namespace Go.Proofs.Joy
open Go.Ab Go.Proofs
set_option maxHeartbeats 2000000
set_option maxRecDepth 20000
def flW (b:Nat):WC Tryz.prog Bx where
  O:=bxO
  v:=.pt b 0
  kr:=66
  kw:=89
  ki:=145
  ko:=144
  rep:=flRep b
  left:=bxLeft
  lrd:=bx_lrd
  lwr:=bx_lwr
  lin:=bx_lin
  lout:=bx_lout
  vok:=fun⟨_,_,_,_,_,h⟩=>by have:=h.low b h.fb; simp[AV.ok,this]
  low:=fun⟨_,_,_,_,_,h⟩ hi=>h.low _ hi
  stable:=fl_stable
  read:=fl_read
  write:=fl_write
  inp:=fl_inp
  out:=fl_out
def logIs (H:Heap) (L:AV) (l:List Int):Prop:=(l=[]∧L=.sn)∨∃q,L=.su q 0 l.length 1∧H q=some ⟨l.map .i64,3,false⟩
theorem logIs.ne {H:Heap} {L:AV} {l:List Int} (h:logIs H L l):L≠ .junk:=by rcases h with ⟨_,rfl⟩ | ⟨q,rfl,_⟩ <;> simp
theorem logIs.len {H:Heap} {L:AV} {l:List Int} (h:logIs H L l) (K:AV→Prop):lenB (some .slice) L K=K (.i64 l.length):=by
  rcases h with ⟨rfl,rfl⟩ | ⟨q,rfl,_⟩ <;> rfl
theorem logIs.ok {H:Heap} {n:Nat} {L:AV} {l:List Int} (h:logIs H L l) (wf:H.wf n):L.ok n=true:=by
  rcases h with ⟨_,rfl⟩ | ⟨q,rfl,h⟩
  · rfl
  · have:=(wf _ _ h).1; simp[AV.ok,this]
structure TW (b w nb:Nat) (G:Heap) (Q:Nat→Prop) (s t:Bx) (H:Heap) (m:Nat):Prop where
  wf:H.wf m
  le:nb≤m
  rep:∃F E,bxRep b s H m F∧flRep w t H m E∧(∀i,F i→nb≤i∧¬Q i∧¬E i)∧∀i,E i→nb≤i∧¬Q i
  own:∀i,Q i→nb≤i∧i<m
  fr:∀i,i<nb→H i=G i
section
variable {b w nb:Nat} {G:Heap} {Q:Nat→Prop} {s t:Bx} {H:Heap} {m:Nat} {K:AV→Heap→Nat→Prop}
theorem TW.bm (B:TW b w nb G Q s t H m):b<m∧w<m:=by
  obtain⟨F,E,⟨mm,L,h⟩,⟨_,_,_,_,_,g⟩,_⟩:=B.rep
  exact⟨h.low _ h.fb,g.low _ g.fb⟩
theorem TW.alloc (B:TW b w nb G Q s t H m) (bl:Blk) (ok:∀v∈bl.cells,v.ok (m+1)=true):TW b w nb G (fun i=>Q i∨i=m) s t (H.upd m (some bl)) (m+1):=by
  obtain⟨F,E,h1,h2,h3,h4⟩:=B.rep
  have lF:∀i,F i→i<m:=fun i hi=>(boxW b).low h1 hi
  have lE:∀i,E i→i<m:=fun i hi=>(flW w).low h2 hi
  refine⟨Heap.wf_upd B.wf ok,by have:=B.le; omega,⟨F,E,bx_stable h1 (fun i hi=>Heap.upd_ne _ _ (by have:=lF i hi; omega)) (by omega),fl_stable h2 (fun i hi=>Heap.upd_ne _ _ (by have:=lE i hi; omega)) (by omega),fun i hi=>⟨(h3 i hi).1,fun h=>?_,(h3 i hi).2.2⟩,fun i hi=>⟨(h4 i hi).1,fun h=>?_⟩⟩,fun i hi=>?_,fun i hi=>by rw[Heap.upd_ne _ _ (by have:=B.le; omega)]; exact B.fr i hi⟩
  · rcases h with h | h
    · exact(h3 i hi).2.1 h
    · have:=lF i hi; omega
  · rcases h with h | h
    · exact(h4 i hi).2 h
    · have:=lE i hi; omega
  · rcases hi with h | h
    · have:=B.own i h; omega
    · have:=B.le; omega
theorem TW.less {Q':Nat→Prop} (B:TW b w nb G Q s t H m) (hq:∀i,Q' i→Q i):TW b w nb G Q' s t H m:=let⟨F,E,h1,h2,h3,h4⟩:=B.rep; ⟨B.wf,B.le,⟨F,E,h1,h2,fun i hi=>⟨(h3 i hi).1,fun h=>(h3 i hi).2.1 (hq i h),(h3 i hi).2.2⟩,fun i hi=>⟨(h4 i hi).1,fun h=>(h4 i hi).2 (hq i h)⟩⟩,fun i hi=>B.own i (hq i hi),B.fr⟩
theorem TW.junk (B:TW b w nb G Q s t H m) (bl:Blk) (ok:∀v∈bl.cells,v.ok (m+1)=true):TW b w nb G Q s t (H.upd m (some bl)) (m+1):=(B.alloc bl ok).less fun _ h=>.inl h
theorem TW.put (B:TW b w nb G Q s t H m) {k:Nat} (hk:Q k) (bl:Blk) (ok:∀v∈bl.cells,v.ok m=true):TW b w nb G Q s t (H.upd k (some bl)) m:=by
  obtain⟨F,E,h1,h2,h3,h4⟩:=B.rep
  have hkm:=B.own k hk
  exact⟨Heap.wf_set B.wf hkm.2 ok,B.le,⟨F,E,bx_stable h1 (fun i hi=>Heap.upd_ne _ _ (fun e=>(h3 i hi).2.1 (e▸hk))) (Nat.le_refl _),fl_stable h2 (fun i hi=>Heap.upd_ne _ _ (fun e=>(h4 i hi).2 (e▸hk))) (Nat.le_refl _),h3,h4⟩,B.own,fun i hi=>by rw[Heap.upd_ne _ _ (by omega)]; exact B.fr i hi⟩
theorem TW.turnA (B:TW b w nb G Q s t H m) {F E:Nat→Prop} (h2:flRep w t H m E) (h3:∀i,F i→nb≤i∧¬Q i∧¬E i) (h4:∀i,E i→nb≤i∧¬Q i) {s':Bx} {H':Heap} {m':Nat} {F':Nat→Prop} (wf:H'.wf m') (l:m≤m') (r:bxRep b s' H' m' F') (o:∀i,F' i→F i∨m≤i) (f:∀i,i<m→¬F i→H' i=H i):
    TW b w nb G Q s' t H' m'∧∀i,Q i→H' i=H i:=by
  have hle:=B.le
  have lE:∀i,E i→i<m:=fun i hi=>(flW w).low h2 hi
  refine⟨⟨wf,by omega,⟨F',E,r,fl_stable h2 (fun i hi=>f i (lE i hi) fun hF=>(h3 i hF).2.2 hi) l,fun i hi=>?_,h4⟩,fun i hi=>by have:=B.own i hi; omega,fun i hi=>?_⟩,fun i hi=>f i (B.own i hi).2 fun hF=>(h3 i hF).2.1 hi⟩
  · rcases o i hi with g | g
    · exact h3 i g
    · exact⟨by omega,fun hq=>by have:=B.own i hq; omega,fun hE=>by have:=lE i hE; omega⟩
  · rw[f i (by omega) (fun hF=>by have:=(h3 i hF).1; omega)]; exact B.fr i hi
theorem TW.turnB (B:TW b w nb G Q s t H m) {F E:Nat→Prop} (h1:bxRep b s H m F) (h3:∀i,F i→nb≤i∧¬Q i∧¬E i) (h4:∀i,E i→nb≤i∧¬Q i) {t':Bx} {H':Heap} {m':Nat} {E':Nat→Prop} (wf:H'.wf m') (l:m≤m') (r:flRep w t' H' m' E') (o:∀i,E' i→E i∨m≤i) (f:∀i,i<m→¬E i→H' i=H i):
    TW b w nb G Q s t' H' m'∧∀i,Q i→H' i=H i:=by
  have hle:=B.le
  have lF:∀i,F i→i<m:=fun i hi=>(boxW b).low h1 hi
  refine⟨⟨wf,by omega,⟨F,E',bx_stable h1 (fun i hi=>f i (lF i hi) fun hE=>(h3 i hi).2.2 hE) l,r,fun i hi=>⟨(h3 i hi).1,(h3 i hi).2.1,fun hE=>?_⟩,fun i hi=>?_⟩,fun i hi=>by have:=B.own i hi; omega,fun i hi=>?_⟩,fun i hi=>f i (B.own i hi).2 fun hE=>(h4 i hE).2 hi⟩
  · rcases o i hE with g | g
    · exact(h3 i hi).2.2 g
    · have:=lF i hi; omega
  · rcases o i hi with g | g
    · exact h4 i g
    · exact⟨by omega,fun hq=>by have:=B.own i hq; omega⟩
  · rw[f i (by omega) (fun hE=>by have:=(h4 i hE).1; omega)]; exact B.fr i hi
theorem TW.step (B:TW b w nb G Q s t H m) (r:Rg) (hl:6≤bxLeft s) (h:∀(r':Rg) (q:Nat) s' H' m',(stepE r).run bxO s=((r',q),s')→bxLeft s≤bxLeft s'+6→TW b w nb G Q s' t H' m'→m≤m'→(∀i,Q i→H' i=H i)→K (.tu [.ag r'.cells,.i64 q]) H' m'):
    ACalls Tryz.prog 11 [.ag r.cells,.ifc 29 (.pt b 0)] H m K:=by
  obtain⟨F,E,h1,h2,h3,h4⟩:=B.rep
  refine c_step (boxM b) r h1 hl fun r' q s' H' m' F' e lf wf l r2 o f=>?_
  obtain⟨B',k⟩:=B.turnA h2 h3 h4 wf l r2 o f
  exact h r' q s' H' m' e lf B' l k
end
end Go.Proofs.Joy
namespace Go.Proofs.Joy
open Go.Ab Go.Proofs
set_option maxHeartbeats 4000000
set_option maxRecDepth 20000
theorem c_alive (H:Heap) (n:Nat) (K:AV→Heap→Nat→Prop) (h:K (.bo true) H n):ACalls Tryz.prog 7 [] H n K:=by
  refine ACalls.of_awp Tryz.func7 rfl (by decide +kernel) (show 0≤18 by decide) (by simp) fun wf=>?_
  refine awp_ev dr0 (by decide +kernel) ?_
  simp only[go_sem,Tryz.f7]
  refine c_box 100#16 [0x3E#8,5#8] 0#8 _ _ _ _ (bytesIn.whole (Heap.upd_same _ _ _) rfl (Nat.le_refl _)) (by simp[AV.ok]) (by decide) fun b H1 n1 F1 w1 l1 r1 o1 f1=>?_
  simp only[go_sem]
  refine c_step (boxM b) ({ rg0 with pc:=100#16}) r1 (box_left _ _ _) fun r' q s2 H2 n2 F2 e2 lf w2 l2 r2 o2 f2=>?_
  have kk:∀i,i<n→H2 i=H i:=fun i hi=>(f2 i (by omega) (fun hF=>absurd (o1 i hF) (by omega))).trans ((f1 i (by omega)).trans (Heap.upd_ne _ _ (by omega)))
  have hx:=(run_box e2).symm.trans alive_eq
  simp only[Prod.mk.injEq] at hx
  obtain⟨rfl,rfl⟩:=hx
  simp only[go_sem,Rg.cells,rg0]
  exact Fin.back wf h (fun i hi=>by rw[Heap.upd_ne _ _ (by omega)]; exact kk i hi) rfl
end Go.Proofs.Joy
namespace Go.Proofs.Joy
open Go.Ab Go.Proofs
set_option maxHeartbeats 4000000
set_option maxRecDepth 20000
theorem logIs.upd {H:Heap} {n:Nat} {L:AV} {l:List Int} (h:logIs H L l) (wf:H.wf n) (b:Option Blk):logIs (H.upd n b) L l:=by
  rcases h with h | ⟨q,h1,h2⟩
  · exact .inl h
  · exact .inr ⟨q,h1,by rw[Heap.upd_ne _ _ (by have:=(wf _ _ h2).1; omega)]; exact h2⟩
theorem TW.start {b w nb:Nat} {s t:Bx} {H1 H2:Heap} {m1 m2:Nat} {F E:Nat→Prop} (r1:bxRep b s H1 m1 F) (o1:∀i,F i→nb≤i) (l1:nb≤m1) (w2:H2.wf m2) (l2:m1≤m2) (r2:flRep w t H2 m2 E) (o2:∀i,E i→m1≤i) (f2:∀i,i<m1→H2 i=H1 i):TW b w nb H1 (fun _=>False) s t H2 m2:=
  have lF:∀i,F i→i<m1:=fun i hi=>(boxW b).low r1 hi
  ⟨w2,by omega,⟨F,E,bx_stable r1 (fun i hi=>f2 i (lF i hi)) l2,r2,fun i hi=>⟨o1 i hi,fun h=>h,fun hE=>by have:=lF i hi; have:=o2 i hE; omega⟩,fun i hi=>⟨by have:=o2 i hi; omega,fun h=>h⟩⟩,fun _ h=>h.elim,fun i hi=>f2 i (by omega)⟩
end Go.Proofs.Joy
namespace Go.Proofs.Joy
open Go.Ab
set_option maxHeartbeats 4000000
set_option maxRecDepth 20000
theorem repl_none (w:Str):∀s:Str,¬w<:+:s→replK w [] s 0=s
  | [],_=>rfl
  | c :: r,h=>by
    unfold replK
    rw[if_neg,repl_none w r (fun h2=>h (h2.trans (List.suffix_cons c r).isInfix))]
    rw[List.isPrefixOf_iff_prefix]
    exact fun h2=>h h2.isInfix
theorem repl_less (w:Str):∀s:Str,w≠[]→w<:+:s→(replK w [] s 0).length<s.length
  | [],hw,h=>absurd (List.infix_nil.1 h) hw
  | c :: r,hw,h=>by
    unfold replK
    split
    · have:=replK_len w [] 0 (Nat.le_refl _) r (w.length-1)
      simp only[List.nil_append,List.length_cons]; omega
    · rename_i hp
      rw[List.isPrefixOf_iff_prefix] at hp
      have h2:w<:+:r:=by
        rcases List.infix_cons_iff.1 h with h2 | h2
        · exact absurd h2 hp
        · exact h2
      have:=repl_less w r hw h2
      simp only[List.length_cons]; omega
theorem has_iff {s w:Str} (hw:w≠[]):hasS s w=true↔w<:+:s:=by
  unfold hasS replS
  constructor
  · intro h
    by_cases hi:w<:+:s
    · exact hi
    · rw[repl_none w s hi] at h; simp at h
  · intro h
    have:=repl_less w s hw h
    rw[bne_iff_ne]
    intro e
    rw[e] at this
    exact Nat.lt_irrefl _ this
theorem has_grow {h t w:Str} (hw:w≠[]) (e:hasS h w=true):hasS (h++t) w=true:=
  (has_iff hw).2 (((has_iff hw).1 e).trans (List.prefix_append h t).isInfix)
theorem repl_head (c:BitVec 8) (o by_:Str) (t:Str):∀h:Str,c∉h→replS (h++t) (c :: o) by_=h++replS t (c :: o) by_
  | [],_=>rfl
  | x :: h,hc=>by
    simp only[List.mem_cons,not_or] at hc
    have ih:=repl_head c o by_ t h hc.2
    unfold replS at ih ⊢
    rw[List.cons_append]
    show(if(c :: o).isPrefixOf (x :: (h++t)) then _ else _)=_
    rw[if_neg,ih]; rfl
    rw[List.isPrefixOf_iff_prefix,List.cons_prefix_cons]
    exact fun h2=>hc.1 h2.1
theorem count_drop (c:BitVec 8) (o:Str) (ho:c∉o) (s:Str) (h:o<+:s):s.count c=(s.drop o.length).count c:=by
  obtain⟨t,rfl⟩:=h
  rw[List.count_append,List.count_eq_zero.2 ho,List.drop_append,List.drop_length]; simp
theorem repl_count (c:BitVec 8) (o by_:Str) (ho:c∉o) (hb:c∉by_) (hn:o≠[]):∀(k:Nat) (s:Str),s.length≤k→(replK o by_ s 0).count c=s.count c
  | _,[],_=>rfl
  | 0,_ :: _,h=>absurd h (by simp)
  | k+1,x :: r,h=>by
    unfold replK
    simp only[List.length_cons] at h
    split
    · rename_i hp
      rw[List.isPrefixOf_iff_prefix] at hp
      rw[replK_skip,List.count_append,List.count_eq_zero.2 hb,repl_count c o by_ ho hb hn k _ (by rw[List.length_drop]; omega),count_drop c o ho _ hp]
      obtain⟨y,o',rfl⟩:=List.exists_cons_of_ne_nil hn
      simp
    · rw[List.count_cons,List.count_cons,repl_count c o by_ ho hb hn k r (by omega)]
theorem has_count1 (c:BitVec 8) (s:Str):hasS s [c]=decide (0<s.count c):=by
  rw[Bool.eq_iff_iff,has_iff (by simp),decide_eq_true_eq,List.count_pos_iff]
  constructor
  · intro h; exact h.subset (by simp)
  · intro h
    obtain⟨a,b,rfl⟩:=List.append_of_mem h
    exact⟨a,b,by simp⟩
theorem has_count2 (c:BitVec 8) (s:Str) (h:hasS s [c,c]=true):2≤s.count c:=by
  have h:=(has_iff (by simp)).1 h
  obtain⟨a,b,rfl⟩:=h
  rw[List.count_append,List.count_append]
  simp; omega
theorem repl_len (s o by_:Str) (B:Nat) (hb:by_.length≤B):(replS s o by_).length≤s.length*(B+1):=replK_len o by_ B hb s 0
end Go.Proofs.Joy
namespace Go.Proofs.Joy
open Go.Ab
set_option maxHeartbeats 4000000
def Eff.Lv {α:Type} (P:Option Int→α→Prop):Option Int→Eff α→Prop
  | o,.ret x=>P o x
  | o,.rd _ k=>∀v,(k v).Lv P o
  | o,.wr _ _ k=>k.Lv P o
  | o,.inp _ t k=>o=none∧∀v,(k v).Lv P (some t)
  | o,.out _ _ t k=>o=none∧k.Lv P (some t)
theorem Eff.Lv.bind {α β:Type} {P:Option Int→β→Prop} {Q:Option Int→α→Prop} {f:α→Eff β} (hf:∀o x,Q o x→(f x).Lv P o):∀(o:Option Int) (m:Eff α),m.Lv Q o→(m.bind f).Lv P o
  | o,.ret x,h=>hf o x h
  | o,.rd _ k,h=>fun v=>Eff.Lv.bind hf o (k v) (h v)
  | o,.wr _ _ k,h=>Eff.Lv.bind hf o k h
  | o,.inp _ t k,h=>⟨h.1,fun v=>Eff.Lv.bind hf (some t) (k v) (h.2 v)⟩
  | o,.out _ _ t k,h=>⟨h.1,Eff.Lv.bind hf (some t) k h.2⟩
theorem Eff.Lv.run {α σ:Type} {P:Option Int→α→Prop} {O:Ops σ}:∀(o:Option Int) (m:Eff α) (s:σ),m.Lv P o→∃o',P o' (m.run O s).1
  | o,.ret _,_,h=>⟨o,h⟩
  | o,.rd a k,s,h=>Eff.Lv.run o (k _) _ (h (O.rd s a).1)
  | o,.wr _ _ k,_,h=>Eff.Lv.run o k _ h
  | _,.inp p t k,s,h=>Eff.Lv.run (some t) (k _) _ (h.2 (O.inp s p t).1)
  | _,.out _ _ t k,_,h=>Eff.Lv.run (some t) k _ h.2
def PostC (im pre:BitVec 8) (o:Option Int) (x:Nat×Core):Prop:=4≤x.1∧x.1≤21∧(∀t,o=some t→0<t∧t<x.1)∧(im≤2#8→x.2.r.im≤2#8)∧x.2.r.pre=pre
def CM.Ok (m:CM Nat):Prop:=∀c:Core,(m c).Lv (PostC c.r.im c.r.pre) none
theorem setPairR_im (r:Rg) (n:Nat) (v:BitVec 16):(setPairR r n v).im=r.im∧(setPairR r n v).pre=r.pre:=by
  unfold setPairR
  repeat' split
  all_goals exact⟨rfl,rfl⟩
theorem setOneR_im (r:Rg) (n:Nat) (p v:BitVec 8):(setOneR r n p v).im=r.im∧(setOneR r n p v).pre=r.pre:=by
  unfold setOneR
  repeat' split
  all_goals first | exact setPairR_im _ _ _ | exact⟨rfl,rfl⟩
theorem quickC_im (n:Nat) (c:Core):(quickC n c).r.im=c.r.im∧(quickC n c).r.pre=c.r.pre:=by
  unfold quickC
  repeat' split
  all_goals exact⟨rfl,rfl⟩
theorem post_mk {im pre:BitVec 8} {o:Option Int} {k:Nat} {c:Core} (h1:4≤k∧k≤21) (h2:∀t,o=some t→0<t∧t<k) (h3:c.r.im=im) (h4:c.r.pre=pre):PostC im pre o (k,c):=⟨h1.1,h1.2,h2,fun h=>by show c.r.im≤_; rw[h3]; exact h,h4⟩
theorem pointed_ok {α:Type} {P:Option Int→α→Prop} {c:Core} {f:BitVec 16×Core→Eff α} (h:∀a c',c'.r.im=c.r.im→c'.r.pre=c.r.pre→(f (a,c')).Lv P none):((pointedM c).bind f).Lv P none:=by
  unfold pointedM
  split
  · exact fun v=>h _ _ rfl rfl
  · exact h _ _ rfl rfl
theorem longer_ok (p:BitVec 8) (a b:Nat) (ha:4≤a∧a≤21) (hb:4≤b∧b≤21):4≤longerS p a b∧longerS p a b≤21:=by unfold longerS; split <;> assumption
theorem turned_ok:CM.Ok turnedM:=by
  intro c
  unfold turnedM
  split
  · unfold turnedFarM
    refine pointed_ok fun a c' h1 h2=>?_
    simp only[nextM,rdE,wrE,Eff.bind,Eff.Lv]
    intro v w
    split
    · exact post_mk (by omega) (fun _ h=>by cases h) h1 h2
    · refine post_mk (by omega) (fun _ h=>by cases h) ?_ ?_
      · split
        · exact h1
        · exact(setOneR_im _ _ _ _).1.trans h1
      · split
        · exact h2
        · exact(setOneR_im _ _ _ _).2.trans h2
  · simp only[fetchM,nextM,rdE,wrE,Eff.bind,Eff.Lv]
    intro op
    split
    · refine pointed_ok fun a c' h1 h2=>?_
      intro v
      dsimp only
      split
      · exact post_mk (by omega) (fun _ h=>by cases h) h1 h2
      · exact post_mk (by omega) (fun _ h=>by cases h) h1 h2
    · refine post_mk (by omega) (fun _ h=>by cases h) ?_ ?_
      · split
        · rfl
        · exact(setOneR_im _ _ _ _).1
      · split
        · rfl
        · exact(setOneR_im _ _ _ _).2
theorem many_ok (op:BitVec 8):CM.Ok (manyM op):=by
  intro c
  unfold manyM
  have fin:∀(o:Option Int) (c1:Core) (on:Bool) (by_ hl:BitVec 16),(∀t,o=some t→0<t∧t<16)→c1.r.im=c.r.im→c1.r.pre=c.r.pre→Eff.Lv (PostC c.r.im c.r.pre) o
      (let c2:Core:={ c1 with r:=setPairR c1.r 2 (hl+by_)}
       if yO op<6∨on=false then .ret (16,c2)
       else
        let c3:Core:={ c2 with r:={ c2.r with pc:=c2.r.pc-2#16}}
        .ret (21,if zO op<2 then c3.wz (c3.r.pc+1#16) else c3)):=by
    intro o c1 on by_ hl ho h1 h2
    dsimp only
    have e:=setPairR_im c1.r 2 (hl+by_)
    split
    · exact post_mk (by omega) ho (e.1.trans h1) (e.2.trans h2)
    · refine post_mk (by omega) (fun t h=>by have:=ho t h; omega) ?_ ?_
      · split <;> exact e.1.trans h1
      · split <;> exact e.2.trans h2
  dsimp only
  split
  · intro v
    exact fin none _ _ _ _ (fun _ h=>by cases h) (((setPairR_im _ _ _).1).trans (setPairR_im _ _ _).1) (((setPairR_im _ _ _).2).trans (setPairR_im _ _ _).2)
  split
  · intro v
    exact fin none _ _ _ _ (fun _ h=>by cases h) ((setPairR_im _ _ _).1) ((setPairR_im _ _ _).2)
  split
  · refine⟨rfl,fun v=>?_⟩
    exact fin (some 13) _ _ _ _ (fun t h=>by cases h; omega) rfl rfl
  · intro v
    refine⟨rfl,?_⟩
    exact fin (some 13) _ _ _ _ (fun t h=>by cases h; omega) rfl rfl
theorem im_le (y:Nat):imS y≤2#8:=by unfold imS; split; decide; split <;> decide
theorem special_ok (y:Nat):CM.Ok (specialM y):=by
  intro c
  unfold specialM
  repeat' split
  all_goals first
    | exact post_mk (by omega) (fun _ h=>by cases h) rfl rfl
    | exact fun v=>post_mk (by omega) (fun _ h=>by cases h) rfl rfl
theorem extended_ok (op:BitVec 8):CM.Ok (extendedM op):=by
  intro c
  unfold extendedM
  dsimp only
  split
  · exact many_ok op c
  split
  · exact post_mk (by omega) (fun _ h=>by cases h) rfl rfl
  split
  · exact⟨rfl,fun v=>post_mk (by omega) (fun t h=>by cases h; omega) (setOneR_im _ _ _ _).1 (setOneR_im _ _ _ _).2⟩
  split
  · exact⟨rfl,post_mk (by omega) (fun t h=>by cases h; omega) rfl rfl⟩
  split
  · exact post_mk (by omega) (fun _ h=>by cases h) (setPairR_im _ _ _).1 (setPairR_im _ _ _).2
  split
  · intro v w
    split
    · exact post_mk (by omega) (fun _ h=>by cases h) rfl rfl
    · exact fun _ _=>post_mk (by omega) (fun _ h=>by cases h) (setPairR_im _ _ _).1 (setPairR_im _ _ _).2
  split
  · exact post_mk (by omega) (fun _ h=>by cases h) rfl rfl
  split
  · exact fun _ _=>post_mk (by omega) (fun _ h=>by cases h) rfl rfl
  split
  · exact⟨show 4≤8 by decide,show 8≤21 by decide,fun _ h=>(by cases h),fun _=>im_le _,rfl⟩
  · exact special_ok _ c
theorem move_ok (op:BitVec 8):CM.Ok (moveM op):=by
  intro c
  unfold moveM
  split
  · exact pointed_ok fun a c' h1 h2=>post_mk (longer_ok _ _ _ (by omega) (by omega)) (fun _ h=>by cases h) h1 h2
  split
  · exact pointed_ok fun a c' h1 h2=>fun v=>post_mk (longer_ok _ _ _ (by omega) (by omega)) (fun _ h=>by cases h) ((setOneR_im _ _ _ _).1.trans h1) ((setOneR_im _ _ _ _).2.trans h2)
  · exact post_mk (by omega) (fun _ h=>by cases h) (setOneR_im _ _ _ _).1 (setOneR_im _ _ _ _).2
theorem sum_ok (op:BitVec 8):CM.Ok (sumM op):=by
  intro c
  unfold sumM
  split
  · exact pointed_ok fun a c' h1 h2=>fun v=>post_mk (longer_ok _ _ _ (by omega) (by omega)) (fun _ h=>by cases h) h1 h2
  · exact post_mk (by omega) (fun _ h=>by cases h) rfl rfl
theorem count_ok (op:BitVec 8):CM.Ok (countM op):=by
  intro c
  unfold countM
  dsimp only
  split
  · exact pointed_ok fun a c' h1 h2=>fun v=>post_mk (longer_ok _ _ _ (by omega) (by omega)) (fun _ h=>by cases h) h1 h2
  · exact post_mk (by omega) (fun _ h=>by cases h) (setOneR_im _ _ _ _).1 (setOneR_im _ _ _ _).2
theorem there_ok (op:BitVec 8):CM.Ok (thereM op):=by
  intro c
  unfold thereM
  dsimp only
  have fin:∀(a:BitVec 16) (k:Nat) (c1:Core),4≤k∧k≤21→c1.r.im=c.r.im→c1.r.pre=c.r.pre→Eff.Lv (PostC c.r.im c.r.pre) none
      (if yO op%2=1 then(rdE a).bind fun v=>.ret (k,{ c1.wz (a+1#16) with r:={ (c1.wz (a+1#16)).r with a:=v}})
       else(wrE a (c1.wz (a+1#16)).r.a).bind fun _=>.ret (k,(c1.wz (a+1#16)).wz (joinS (c1.wz (a+1#16)).r.a (loS (a+1#16))))):=by
    intro a k c1 hk h1 h2
    split
    · exact fun v=>post_mk hk (fun _ h=>by cases h) h1 h2
    · exact post_mk hk (fun _ h=>by cases h) h1 h2
  split
  · exact fin _ 7 _ (by omega) rfl rfl
  split
  · intro v w
    split
    · exact post_mk (by omega) (fun _ h=>by cases h) rfl rfl
    · exact fun _ _=>post_mk (by omega) (fun _ h=>by cases h) (setPairR_im _ _ _).1 (setPairR_im _ _ _).2
  · intro v w
    exact fin _ 13 _ (by omega) rfl rfl
theorem jump_ok (op:BitVec 8):CM.Ok (jumpM op):=by
  intro c
  unfold jumpM
  dsimp only
  split
  · exact post_mk (by omega) (fun _ h=>by cases h) rfl rfl
  split
  · exact post_mk (by omega) (fun _ h=>by cases h) rfl rfl
  · simp only[nextM,rdE,Eff.bind,Eff.Lv]
    intro v
    have hk:7≤(if yO op=2 then 8 else 7)∧(if yO op=2 then 8 else 7)≤8:=by split <;> omega
    generalize (if yO op=2 then 8 else 7)=k at hk ⊢
    have h1:(if yO op=2 then({ r:={ c.r with b:=c.r.b-1#8},pr:=c.pr}:Core) else c).r.im=c.r.im∧(if yO op=2 then({ r:={ c.r with b:=c.r.b-1#8},pr:=c.pr}:Core) else c).r.pre=c.r.pre:=by split <;> exact⟨rfl,rfl⟩
    generalize (if yO op=2 then({ r:={ c.r with b:=c.r.b-1#8},pr:=c.pr}:Core) else c)=c1 at h1 ⊢
    generalize (if yO op=2 then c1.r.b !=0#8 else if yO op=3 then true else metR c1.r.f (yO op-4))=met
    cases met
    · exact post_mk (by omega) (fun _ h=>by cases h) h1.1 h1.2
    · exact post_mk (by omega) (fun _ h=>by cases h) h1.1 h1.2
theorem low_ok (op:BitVec 8):CM.Ok (lowM op):=by
  intro c
  unfold lowM
  dsimp only
  split
  · exact jump_ok op c
  split
  · split
    · exact fun _ _=>post_mk (by omega) (fun _ h=>by cases h) (setPairR_im _ _ _).1 (setPairR_im _ _ _).2
    · exact post_mk (by omega) (fun _ h=>by cases h) (setPairR_im _ _ _).1 (setPairR_im _ _ _).2
  split
  · exact there_ok op c
  split
  · exact post_mk (by omega) (fun _ h=>by cases h) (setPairR_im _ _ _).1 (setPairR_im _ _ _).2
  split
  · exact count_ok op c
  split
  · split
    · exact pointed_ok fun a c' h1 h2=>fun v=>post_mk (longer_ok _ _ _ (by omega) (by omega)) (fun _ h=>by cases h) h1 h2
    · exact fun _=>post_mk (by omega) (fun _ h=>by cases h) (setOneR_im _ _ _ _).1 (setOneR_im _ _ _ _).2
  · exact post_mk (by omega) (fun _ h=>by cases h) (quickC_im _ _).1 (quickC_im _ _).2
theorem call_ok (met:Bool):CM.Ok (callM met):=by
  intro c
  unfold callM
  intro v w
  dsimp only
  split <;> exact post_mk (by omega) (fun _ h=>by cases h) rfl rfl
theorem backO_ok (op:BitVec 8):CM.Ok (backM op):=by
  intro c
  unfold backM
  dsimp only
  split
  · exact fun _ _=>post_mk (by omega) (fun _ h=>by cases h) (setPairR_im _ _ _).1 (setPairR_im _ _ _).2
  split
  · exact fun _ _=>post_mk (by omega) (fun _ h=>by cases h) rfl rfl
  repeat' split
  all_goals exact post_mk (by omega) (fun _ h=>by cases h) rfl rfl
theorem others_ok (op:BitVec 8):CM.Ok (othersM op):=by
  intro c
  unfold othersM
  dsimp only
  split
  · exact fun _ _=>post_mk (by omega) (fun _ h=>by cases h) rfl rfl
  split
  · exact fun _=>⟨rfl,post_mk (by omega) (fun t h=>by cases h; omega) rfl rfl⟩
  split
  · exact fun _=>⟨rfl,fun _=>post_mk (by omega) (fun t h=>by cases h; omega) rfl rfl⟩
  split
  · exact fun _ _=>post_mk (by omega) (fun _ h=>by cases h) (setPairR_im _ _ _).1 (setPairR_im _ _ _).2
  repeat' split
  all_goals exact post_mk (by omega) (fun _ h=>by cases h) rfl rfl
theorem high_ok (op:BitVec 8):CM.Ok (highM op):=by
  intro c
  unfold highM
  dsimp only
  split
  · split
    · exact post_mk (by omega) (fun _ h=>by cases h) rfl rfl
    · exact fun _ _=>post_mk (by omega) (fun _ h=>by cases h) rfl rfl
  split
  · exact backO_ok op c
  split
  · intro v w
    show PostC _ _ _ (10,if _ then _ else _)
    split <;> exact post_mk (by omega) (fun _ h=>by cases h) rfl rfl
  split
  · exact others_ok op c
  split
  · exact call_ok _ c
  split
  · split
    · exact call_ok _ c
    · exact post_mk (by omega) (fun _ h=>by cases h) rfl rfl
  split
  · exact fun _=>post_mk (by omega) (fun _ h=>by cases h) rfl rfl
  · exact post_mk (by omega) (fun _ h=>by cases h) rfl rfl
theorem plain_ok (op:BitVec 8):CM.Ok (plainM op):=by
  intro c
  unfold plainM
  split
  · exact low_ok op c
  split
  · exact post_mk (by omega) (fun _ h=>by cases h) rfl rfl
  split
  · exact move_ok op c
  split
  · exact sum_ok op c
  · exact high_ok op c
def PostR (o:Option Int) (x:Rg×Nat):Prop:=4≤x.2∧x.2≤21∧(∀t,o=some t→0<t∧t<x.2)∧x.1.right=true
theorem right_of {r:Rg} (h1:r.im≤2#8) (h2:r.pre=0#8∨r.pre=0xDD#8∨r.pre=0xFD#8):r.right=true:=by
  unfold Rg.right
  rw[decide_eq_true h1]
  rcases h2 with h | h | h <;> rw[h] <;> rfl
theorem right_im {r:Rg} (h:r.right=true):r.im≤2#8:=by
  unfold Rg.right at h
  simp only[Bool.and_eq_true,decide_eq_true_eq] at h
  exact h.1
theorem step_ok (r:Rg) (h:r.right=true):(stepE r).Lv PostR none:=by
  have him:=right_im h
  have done:∀(m:CM Nat),CM.Ok m→∀c:Core,c.r.im=r.im→c.r.pre=0#8→((m c).bind fun x=>.ret (x.2.r,x.1)).Lv PostR none:=by
    intro m hm c h1 h2
    refine Eff.Lv.bind (Q:=PostC c.r.im c.r.pre) ?_ none (m c) (hm c)
    rintro o ⟨k,c'⟩ ⟨g1,g2,g3,g4,g5⟩
    exact⟨g1,g2,g3,right_of (g4 (by rw[h1]; exact him)) (.inl (g5.trans h2))⟩
  unfold stepE
  split
  · exact⟨show 4≤4 by decide,show 4≤21 by decide,fun _ h=>(by cases h),h⟩
  simp only[fetchM,nextM,rdE,Eff.bind,Eff.Lv]
  intro v
  split
  · rename_i hv
    refine⟨show 4≤4 by decide,show 4≤21 by decide,fun _ h=>(by cases h),right_of him ?_⟩
    rw[Bool.or_eq_true] at hv
    rcases hv with hv | hv
    · exact .inr (.inl (eq_of_beq hv))
    · exact .inr (.inr (eq_of_beq hv))
  split
  · exact fun w=>done _ (extended_ok w) _ rfl rfl
  split
  · exact done _ turned_ok _ rfl rfl
  · exact done _ (plain_ok v) _ rfl rfl
end Go.Proofs.Joy
namespace Go.Proofs.Joy
open Go.Ab
set_option maxHeartbeats 4000000
set_option maxRecDepth 20000
def PostM (c:Core) (e:BitVec 16) (lo:Nat) (_:Option Int) (x:Nat×Core):Prop:=x.2.r.pc=c.r.pc+e∧x.2.r.r=c.r.r∧lo≤x.1
theorem setPairR_pc (r:Rg) (n:Nat) (v:BitVec 16):(setPairR r n v).pc=r.pc∧(setPairR r n v).r=r.r:=by
  unfold setPairR
  repeat' split
  all_goals exact⟨rfl,rfl⟩
theorem setOneR_pc (r:Rg) (n:Nat) (p v:BitVec 8):(setOneR r n p v).pc=r.pc∧(setOneR r n p v).r=r.r:=by
  unfold setOneR
  repeat' split
  all_goals first | exact setPairR_pc _ _ _ | exact⟨rfl,rfl⟩
theorem quickC_pc (n:Nat) (c:Core):(quickC n c).r.pc=c.r.pc∧(quickC n c).r.r=c.r.r:=by
  unfold quickC
  repeat' split
  all_goals exact⟨rfl,rfl⟩
theorem yO_l (op:BitVec 8):yO op<8:=by revert op; decide +kernel
theorem zO_l (op:BitVec 8):zO op<8:=by revert op; decide +kernel
theorem xO_l (op:BitVec 8):xO op<4:=by revert op; decide +kernel
def dM (c:Core):BitVec 16:=if c.pr !=0#8 then 1#16 else 0#16
theorem pm0 {c:Core} {lo:Nat} {k:Nat} {c':Core} (hk:lo≤k) (h1:c'.r.pc=c.r.pc) (h2:c'.r.r=c.r.r):PostM c 0#16 lo none (k,c'):=⟨by show c'.r.pc=_; rw[h1,BitVec.add_zero],h2,hk⟩
theorem pmk {c:Core} {e:BitVec 16} {lo:Nat} {k:Nat} {c':Core} (hk:lo≤k) (h1:c'.r.pc=c.r.pc+e) (h2:c'.r.r=c.r.r):PostM c e lo none (k,c'):=⟨h1,h2,hk⟩
theorem pc2 (p:BitVec 16):p+1#16+1#16=p+2#16:=by rw[BitVec.add_assoc]; rfl
theorem pointed_len {α:Type} {P:Option Int→α→Prop} {c:Core} {f:BitVec 16×Core→Eff α} (h:∀a c',c'.r.pc=c.r.pc+dM c→c'.r.r=c.r.r→(f (a,c')).Lv P none):((pointedM c).bind f).Lv P none:=by
  unfold pointedM
  unfold dM at h
  split
  · rename_i hp
    rw[if_pos hp] at h
    exact fun v=>h _ _ rfl rfl
  · rename_i hp
    rw[if_neg hp] at h
    exact h _ _ (BitVec.add_zero _).symm rfl
theorem longer_lo (p:BitVec 8) (a b:Nat) (ha:4≤a) (hb:4≤b):4≤longerS p a b:=by unfold longerS; split <;> assumption
theorem turned_len (c:Core) (hp:(c.pr !=0#8)=false):(turnedM c).Lv (fun o x=>x.2.r.pc=c.r.pc+1#16∧x.2.r.r=(tickR c.r).r∧8≤x.1) none:=by
  unfold turnedM
  rw[if_neg (by rw[hp]; decide)]
  simp only[fetchM,nextM,rdE,wrE,Eff.bind,Eff.Lv]
  intro op
  split
  · refine pointed_len fun a c' h1 h2=>?_
    have h1:c'.r.pc=c.r.pc+1#16:=by rw[h1]; unfold dM; rw[if_neg (by show ¬(c.pr !=0#8)=true; rw[hp]; decide),BitVec.add_zero]; rfl
    intro v
    dsimp only
    split
    · exact⟨h1,h2,show 8≤12 by decide⟩
    · exact⟨h1,h2,show 8≤15 by decide⟩
  · refine⟨?_,?_,show 8≤8 by decide⟩
    · show Rg.pc (Core.r (if _ then _ else _))=_
      split
      · rfl
      · exact(setOneR_pc _ _ _ _).1
    · show Rg.r (Core.r (if _ then _ else _))=_
      split
      · rfl
      · exact(setOneR_pc _ _ _ _).2
theorem turned_far_len (c:Core) (hp:(c.pr !=0#8)=true):(turnedM c).Lv (PostM c 2#16 8) none:=by
  unfold turnedM
  rw[if_pos hp]
  unfold turnedFarM
  refine pointed_len fun a c' h1 h2=>?_
  have h1:c'.r.pc=c.r.pc+1#16:=by rw[h1]; unfold dM; rw[if_pos hp]
  simp only[nextM,rdE,wrE,Eff.bind,Eff.Lv]
  intro v w
  have e:∀x:BitVec 16,x=c'.r.pc+1#16→x=c.r.pc+2#16:=fun x hx=>by rw[hx,h1,pc2]
  split
  · exact pmk (by omega) (e _ rfl) h2
  · refine pmk (by omega) ?_ ?_
    · split
      · exact e _ rfl
      · exact e _ (setOneR_pc _ _ _ _).1
    · split
      · exact h2
      · exact(setOneR_pc _ _ _ _).2.trans h2
def extX (op:BitVec 8):BitVec 16:=if xO op=1∧zO op=3 then 2#16 else 0#16
def goodX (op:BitVec 8):Bool:=!(decide (xO op=2∧3<yO op∧zO op<4)&&decide (6≤yO op))&&!(decide (xO op=1)&&(decide (zO op=5)||(decide (zO op=7)&&decide (yO op=1))))
theorem many_len (op:BitVec 8) (hy:yO op<6) (c:Core):(manyM op c).Lv (PostM c 0#16 8) none:=by
  unfold manyM
  have fin:∀(o:Option Int) (c1:Core) (on:Bool) (by_ hl:BitVec 16),c1.r.pc=c.r.pc→c1.r.r=c.r.r→Eff.Lv (PostM c 0#16 8) o
      (let c2:Core:={ c1 with r:=setPairR c1.r 2 (hl+by_)}
       if yO op<6∨on=false then .ret (16,c2)
       else
        let c3:Core:={ c2 with r:={ c2.r with pc:=c2.r.pc-2#16}}
        .ret (21,if zO op<2 then c3.wz (c3.r.pc+1#16) else c3)):=by
    intro o c1 on by_ hl h1 h2
    dsimp only
    have e:=setPairR_pc c1.r 2 (hl+by_)
    rw[if_pos (.inl hy)]
    exact pm0 (by omega) (e.1.trans h1) (e.2.trans h2)
  dsimp only
  split
  · intro v
    exact fin none _ _ _ _ (((setPairR_pc _ _ _).1).trans (setPairR_pc _ _ _).1) (((setPairR_pc _ _ _).2).trans (setPairR_pc _ _ _).2)
  split
  · intro v
    exact fin none _ _ _ _ ((setPairR_pc _ _ _).1) ((setPairR_pc _ _ _).2)
  split
  · exact⟨rfl,fun v=>fin (some 13) _ _ _ _ rfl rfl⟩
  · exact fun v=>⟨rfl,fin (some 13) _ _ _ _ rfl rfl⟩
theorem special_len (y:Nat) (hy:y≠1) (c:Core):(specialM y c).Lv (PostM c 0#16 8) none:=by
  unfold specialM
  repeat' split
  all_goals first
    | exact pm0 (by omega) rfl rfl
    | exact fun v=>pm0 (by omega) rfl rfl
theorem extended_len (op:BitVec 8) (hg:goodX op=true) (c:Core):(extendedM op c).Lv (PostM c (extX op) 8) none:=by
  unfold goodX at hg
  simp only[Bool.and_eq_true,Bool.not_eq_true',Bool.and_eq_false_iff,Bool.or_eq_false_iff,decide_eq_false_iff_not] at hg
  have h3:xO op=1∧zO op=3→extX op=2#16:=fun h=>if_pos h
  have h0:¬(xO op=1∧zO op=3)→extX op=0#16:=fun h=>if_neg h
  unfold extendedM
  dsimp only
  split
  · rename_i h
    rw[h0 (by omega)]
    exact many_len op (by rcases hg.1 with h2 | h2; exact absurd h h2; omega) c
  split
  · rename_i h
    rw[h0 (by omega)]
    exact pm0 (by omega) rfl rfl
  rename_i h1 h2
  have hx:xO op=1:=by simpa using h2
  have hg2:=hg.2.resolve_left (by omega)
  split
  · rw[h0 (by omega)]
    exact⟨rfl,fun v=>pm0 (by omega) (setOneR_pc _ _ _ _).1 (setOneR_pc _ _ _ _).2⟩
  split
  · rw[h0 (by omega)]
    exact⟨rfl,pm0 (by omega) rfl rfl⟩
  split
  · rw[h0 (by omega)]
    exact pm0 (by omega) (setPairR_pc _ _ _).1 (setPairR_pc _ _ _).2
  split
  · rw[h3 (by omega)]
    intro v w
    split
    · exact pmk (by omega) (pc2 _) rfl
    · exact fun _ _=>pmk (by omega) ((setPairR_pc _ _ _).1.trans (pc2 _)) (setPairR_pc _ _ _).2
  split
  · rw[h0 (by omega)]
    exact pm0 (by omega) rfl rfl
  split
  · exact absurd ‹zO op=5› hg2.1
  split
  · rw[h0 (by omega)]
    exact pm0 (by omega) rfl rfl
  · rw[h0 (by omega)]
    refine special_len _ ?_ c
    have hz:zO op<8:=zO_l op
    intro hy
    rcases hg2.2 with h | h <;> omega
def extM (d:BitVec 16) (op:BitVec 8):BitVec 16:=
  let y:=yO op
  let z:=zO op
  if xO op=0 then
    if z=1 then(if y%2=0 then 2#16 else 0#16) else if z=2 then(if y / 2<2 then 0#16 else 2#16) else if z=4∨z=5 then(if y=6 then d else 0#16) else if z=6 then(if y=6 then d+1#16 else 1#16) else 0#16
  else if xO op=1∧y=6∧z=6 then 0#16
  else if xO op=1 then(if y=6∨z=6 then d else 0#16)
  else if xO op=2 then(if z=6 then d else 0#16)
  else if z=3 then(if y=2∨y=3 then 1#16 else 0#16) else if z=6 then 1#16 else 0#16
def goodM (op:BitVec 8):Bool:=
  let y:=yO op
  let z:=zO op
  !decide (xO op=0∧z=0∧2≤y)&&!decide (xO op=3∧(z=0∨z=2∨z=4∨z=7∨(z=1∧y%2=1∧(y / 2=0∨y / 2=2))∨(z=3∧y=0)∨(z=5∧y%2=1)))
theorem low_far (op:BitVec 8) (hx:xO op=0) (hg:goodM op=true) (c:Core):(lowM op c).Lv (PostM c (extM (dM c) op) 4) none:=by
  unfold goodM at hg
  simp only[Bool.and_eq_true,Bool.not_eq_true',decide_eq_false_iff_not] at hg
  obtain⟨g1,g2⟩:=hg
  have hy8:=yO_l op
  have hz8:=zO_l op
  unfold lowM
  dsimp only
  split
  · rw[show extM (dM c) op=0#16 from by unfold extM; dsimp only; (repeat' split) <;> first | rfl | (exfalso; omega)]
    unfold jumpM
    dsimp only
    split
    · exact pm0 (by omega) rfl rfl
    split
    · exact pm0 (by omega) rfl rfl
    · exfalso; omega
  split
  · split
    · rw[show extM (dM c) op=2#16 from by unfold extM; dsimp only; (repeat' split) <;> first | rfl | (exfalso; omega)]
      exact fun _ _=>pmk (by omega) ((setPairR_pc _ _ _).1.trans (pc2 _)) (setPairR_pc _ _ _).2
    · rw[show extM (dM c) op=0#16 from by unfold extM; dsimp only; (repeat' split) <;> first | rfl | (exfalso; omega)]
      exact pm0 (by omega) (setPairR_pc _ _ _).1 (setPairR_pc _ _ _).2
  split
  · unfold thereM
    dsimp only
    have fin:∀(a:BitVec 16) (k:Nat) (c1:Core) (e:BitVec 16),4≤k→c1.r.pc=c.r.pc+e→c1.r.r=c.r.r→Eff.Lv (PostM c e 4) none
        (if yO op%2=1 then(rdE a).bind fun v=>.ret (k,{ c1.wz (a+1#16) with r:={ (c1.wz (a+1#16)).r with a:=v}})
         else(wrE a (c1.wz (a+1#16)).r.a).bind fun _=>.ret (k,(c1.wz (a+1#16)).wz (joinS (c1.wz (a+1#16)).r.a (loS (a+1#16))))):=by
      intro a k c1 e hk h1 h2
      split
      · exact fun v=>pmk hk h1 h2
      · exact pmk hk h1 h2
    split
    · rw[show extM (dM c) op=0#16 from by unfold extM; dsimp only; (repeat' split) <;> first | rfl | (exfalso; omega)]
      exact fin _ 7 _ _ (by omega) (BitVec.add_zero _).symm rfl
    split
    · rw[show extM (dM c) op=2#16 from by unfold extM; dsimp only; (repeat' split) <;> first | rfl | (exfalso; omega)]
      intro v w
      split
      · exact pmk (by omega) (pc2 _) rfl
      · exact fun _ _=>pmk (by omega) ((setPairR_pc _ _ _).1.trans (pc2 _)) (setPairR_pc _ _ _).2
    · rw[show extM (dM c) op=2#16 from by unfold extM; dsimp only; (repeat' split) <;> first | rfl | (exfalso; omega)]
      intro v w
      exact fin _ 13 _ _ (by omega) (pc2 _) rfl
  split
  · rw[show extM (dM c) op=0#16 from by unfold extM; dsimp only; (repeat' split) <;> first | rfl | (exfalso; omega)]
    exact pm0 (by omega) (setPairR_pc _ _ _).1 (setPairR_pc _ _ _).2
  split
  · unfold countM
    dsimp only
    split
    · rw[show extM (dM c) op=dM c from by unfold extM; dsimp only; (repeat' split) <;> first | rfl | (exfalso; omega)]
      exact pointed_len fun a c' h1 h2=>fun v=>pmk (longer_lo _ _ _ (by omega) (by omega)) h1 h2
    · rw[show extM (dM c) op=0#16 from by unfold extM; dsimp only; (repeat' split) <;> first | rfl | (exfalso; omega)]
      exact pm0 (by omega) (setOneR_pc _ _ _ _).1 (setOneR_pc _ _ _ _).2
  split
  · split
    · rw[show extM (dM c) op=dM c+1#16 from by unfold extM; dsimp only; (repeat' split) <;> first | rfl | (exfalso; omega)]
      exact pointed_len fun a c' h1 h2=>fun v=>pmk (longer_lo _ _ _ (by omega) (by omega)) (show c'.r.pc+1#16=_ by rw[h1,BitVec.add_assoc]) h2
    · rw[show extM (dM c) op=1#16 from by unfold extM; dsimp only; (repeat' split) <;> first | rfl | (exfalso; omega)]
      exact fun v=>pmk (by omega) (setOneR_pc _ _ _ _).1 (setOneR_pc _ _ _ _).2
  · rw[show extM (dM c) op=0#16 from by unfold extM; dsimp only; (repeat' split) <;> first | rfl | (exfalso; omega)]
    exact pm0 (by omega) (quickC_pc _ _).1 (quickC_pc _ _).2
theorem high_far (op:BitVec 8) (hx:xO op=3) (hg:goodM op=true) (c:Core):(highM op c).Lv (PostM c (extM (dM c) op) 4) none:=by
  unfold goodM at hg
  simp only[Bool.and_eq_true,Bool.not_eq_true',decide_eq_false_iff_not] at hg
  obtain⟨g1,g2⟩:=hg
  have hy8:=yO_l op
  have hz8:=zO_l op
  unfold highM
  dsimp only
  split
  · exfalso; omega
  split
  · rw[show extM (dM c) op=0#16 from by unfold extM; dsimp only; (repeat' split) <;> first | rfl | (exfalso; omega)]
    unfold backM
    dsimp only
    split
    · exact fun _ _=>pm0 (by omega) (setPairR_pc _ _ _).1 (setPairR_pc _ _ _).2
    split
    · exfalso; omega
    split
    · exact pm0 (by omega) rfl rfl
    split
    · exfalso; omega
    · exact pm0 (by omega) rfl rfl
  split
  · exfalso; omega
  split
  · unfold othersM
    dsimp only
    split
    · exfalso; omega
    split
    · rw[show extM (dM c) op=1#16 from by unfold extM; dsimp only; (repeat' split) <;> first | rfl | (exfalso; omega)]
      exact fun _=>⟨rfl,pmk (by omega) rfl rfl⟩
    split
    · rw[show extM (dM c) op=1#16 from by unfold extM; dsimp only; (repeat' split) <;> first | rfl | (exfalso; omega)]
      exact fun _=>⟨rfl,fun _=>pmk (by omega) rfl rfl⟩
    split
    · rw[show extM (dM c) op=0#16 from by unfold extM; dsimp only; (repeat' split) <;> first | rfl | (exfalso; omega)]
      exact fun _ _=>pm0 (by omega) (setPairR_pc _ _ _).1 (setPairR_pc _ _ _).2
    split
    · rw[show extM (dM c) op=0#16 from by unfold extM; dsimp only; (repeat' split) <;> first | rfl | (exfalso; omega)]
      exact pm0 (by omega) rfl rfl
    · rw[show extM (dM c) op=0#16 from by unfold extM; dsimp only; (repeat' split) <;> first | rfl | (exfalso; omega)]
      exact pm0 (by omega) rfl rfl
  split
  · exfalso; omega
  split
  · split
    · exfalso; omega
    · rw[show extM (dM c) op=0#16 from by unfold extM; dsimp only; (repeat' split) <;> first | rfl | (exfalso; omega)]
      exact pm0 (by omega) rfl rfl
  split
  · rw[show extM (dM c) op=1#16 from by unfold extM; dsimp only; (repeat' split) <;> first | rfl | (exfalso; omega)]
    exact fun _=>pmk (by omega) rfl rfl
  · exfalso; omega
theorem plain_far (op:BitVec 8) (hg:goodM op=true) (c:Core):(plainM op c).Lv (PostM c (extM (dM c) op) 4) none:=by
  have hy8:=yO_l op
  have hz8:=zO_l op
  have hx4:=xO_l op
  unfold plainM
  split
  · exact low_far op ‹_› hg c
  split
  · rw[show extM (dM c) op=0#16 from by unfold extM; dsimp only; (repeat' split) <;> first | rfl | (exfalso; omega)]
    exact pm0 (by omega) rfl rfl
  split
  · unfold moveM
    split
    · rw[show extM (dM c) op=dM c from by unfold extM; dsimp only; (repeat' split) <;> first | rfl | (exfalso; omega)]
      exact pointed_len fun a c' h1 h2=>pmk (longer_lo _ _ _ (by omega) (by omega)) h1 h2
    split
    · rw[show extM (dM c) op=dM c from by unfold extM; dsimp only; (repeat' split) <;> first | rfl | (exfalso; omega)]
      exact pointed_len fun a c' h1 h2=>fun v=>pmk (longer_lo _ _ _ (by omega) (by omega)) ((setOneR_pc _ _ _ _).1.trans h1) ((setOneR_pc _ _ _ _).2.trans h2)
    · rw[show extM (dM c) op=0#16 from by unfold extM; dsimp only; (repeat' split) <;> first | rfl | (exfalso; omega)]
      exact pm0 (by omega) (setOneR_pc _ _ _ _).1 (setOneR_pc _ _ _ _).2
  split
  · unfold sumM
    split
    · rw[show extM (dM c) op=dM c from by unfold extM; dsimp only; (repeat' split) <;> first | rfl | (exfalso; omega)]
      exact pointed_len fun a c' h1 h2=>fun v=>pmk (longer_lo _ _ _ (by omega) (by omega)) h1 h2
    · rw[show extM (dM c) op=0#16 from by unfold extM; dsimp only; (repeat' split) <;> first | rfl | (exfalso; omega)]
      exact pm0 (by omega) rfl rfl
  · exact high_far op (by omega) hg c
end Go.Proofs.Joy
namespace Go.Proofs.Joy
open Go.Ab
set_option maxHeartbeats 4000000
set_option maxRecDepth 20000
def digN (k:Nat):BitVec 8:=BitVec.ofNat 8 (48+k)
def decN (n:Nat):Str:=if n<10 then [digN n] else if n<100 then [digN (n / 10),digN (n%10)] else [digN (n / 100),digN (n / 10%10),digN (n%10)]
def signN (v:BitVec 8):Str:=if 128#8≤v then 45#8 :: decN (256-v.toNat) else 43#8 :: decN v.toNat
def hexD:Str:=[48#8,49#8,50#8,51#8,52#8,53#8,54#8,55#8,56#8,57#8,65#8,66#8,67#8,68#8,69#8,70#8]
def hexN (v:BitVec 8):Str:=[hexD.getD (v / 16#8).toNat 0#8,hexD.getD (v%16#8).toNat 0#8]
def pgN (l:Str):Option (Nat×Nat):=
  if l.getD 0 0#8=203#8 then some (1,1) else if l.getD 0 0#8=237#8 then some (2,1)
  else if l.getD 0 0#8=221#8∨l.getD 0 0#8=253#8 then
    let p:=if l.getD 0 0#8=221#8 then 3 else 4
    if l.getD 1 0#8=221#8∨l.getD 1 0#8=237#8∨l.getD 1 0#8=253#8 then none else if l.getD 1 0#8=203#8 then some (p+2,3) else some (p,1)
  else some (0,0)
def plusD:Str:=[43#8,100#8]
def nameD (l:Str) (pg:Nat) (op:BitVec 8):Str:=if hasS (patS pg op) plusD then replS (patS pg op) plusD (signN (l.getD 2 0#8)) else patS pg op
def nameE (s:Str) (at_:Nat) (l:Str):Str×Nat:=
  if hasS s [110#8,110#8] then(replS s [110#8,110#8] (36#8 :: (hexN (l.getD (at_+1) 0#8)++hexN (l.getD at_ 0#8))),at_+2)
  else if hasS s [110#8] then(replS s [110#8] (36#8 :: hexN (l.getD at_ 0#8)),at_+1)
  else if hasS s [101#8] then(replS s [101#8] (signN (l.getD at_ 0#8)),at_+1)
  else(s,at_)
def nameN (l:Str):Str×Nat:=
  match pgN l with
  | none=>(plainS (l.getD 0 0#8),1)
  | some (pg,at_)=>nameE (nameD l pg (l.getD at_ 0#8)) (if hasS (patS pg (l.getD at_ 0#8)) plusD∧pg<5 then at_+2 else at_+1) l
def wordsM:List Str:=[[74#8],[67#8,65#8,76#8,76#8],[82#8,69#8,84#8],[82#8,83#8,84#8],[68#8,74#8,78#8,90#8],[73#8,82#8],[68#8,82#8],[68#8,68#8],[70#8,68#8],[76#8,68#8,32#8,82#8]]
def headS (s:Str):Str:=s.takeWhile fun c=>!decide (97#8≤c)&&c !=43#8
def badP (pg:Nat) (op:BitVec 8):Bool:=wordsM.any fun w=>hasS (headS (patS pg op)) w
theorem head_app (s:Str):∃t,s=headS s++t:=⟨s.dropWhile _,(List.takeWhile_append_dropWhile ..).symm⟩
theorem head_not (s:Str) (c:BitVec 8) (h:(!decide (97#8≤c)&&c !=43#8)=false):c∉headS s:=fun hc=>by
  have:=List.all_eq_true.1 (List.all_takeWhile (l:=s) (p:=fun c=>!decide (97#8≤c)&&c !=43#8)) c hc
  rw[h] at this; cases this
theorem repl_pre {s h:Str} (c:BitVec 8) (o by_:Str) (hc:c∉h) (e:∃t,s=h++t):∃t,replS s (c :: o) by_=h++t:=by
  obtain⟨t,rfl⟩:=e
  exact⟨_,repl_head c o by_ t h hc⟩
theorem name_head (l:Str) (pg at_:Nat) (op:BitVec 8):∃t,(nameE (nameD l pg op) at_ l).1=headS (patS pg op)++t:=by
  have h1:∃t,nameD l pg op=headS (patS pg op)++t:=by
    unfold nameD
    split
    · exact repl_pre _ _ _ (head_not _ _ (by decide)) (head_app _)
    · exact head_app _
  unfold nameE
  split
  · exact repl_pre _ _ _ (head_not _ _ (by decide)) h1
  split
  · exact repl_pre _ _ _ (head_not _ _ (by decide)) h1
  split
  · exact repl_pre _ _ _ (head_not _ _ (by decide)) h1
  · exact h1
theorem words_ne:∀w∈wordsM,w≠[]:=by decide
theorem name_bad {l:Str} {pg at_:Nat} {op:BitVec 8} (h:∀w∈wordsM,hasS (nameE (nameD l pg op) at_ l).1 w=false):badP pg op=false:=by
  cases e:badP pg op with
  | false=>rfl
  | true=>
    unfold badP at e
    obtain⟨w,hw,hh⟩:=List.any_eq_true.1 e
    obtain⟨t,ht⟩:=name_head l pg at_ op
    have:=h w hw
    rw[ht,has_grow (words_ne w hw) hh] at this
    cases this
theorem sign_not:∀v:BitVec 8,110#8∉signN v∧101#8∉signN v:=by decide +kernel
theorem sign_len:∀v:BitVec 8,(signN v).length≤4:=by decide +kernel
def extP (pg:Nat) (op:BitVec 8):Nat:=
  let s:=patS pg op
  if hasS s plusD then(if pg<5 then 1 else 0)+(if 0<s.count 110#8 then 1 else 0)
  else if hasS s [110#8,110#8] then 2 else if hasS s [110#8] then 1 else if hasS s [101#8] then 1 else 0
def pdOk (pg:Nat) (op:BitVec 8):Bool:=!hasS (patS pg op) plusD||(decide ((patS pg op).count 110#8≤1)&&decide ((patS pg op).count 101#8=0))
theorem pd_ok:∀pg,pg<7→∀op,op<256→pdOk pg (BitVec.ofNat 8 op)=true:=by decide +kernel
theorem pat_len:∀pg,pg<7→∀op,op<256→(patS pg (BitVec.ofNat 8 op)).length≤30:=by decide +kernel
theorem pat_len' {pg:Nat} (h:pg<7) (op:BitVec 8):(patS pg op).length≤30:=by
  have:=pat_len pg h op.toNat op.isLt
  rwa [BitVec.ofNat_toNat,BitVec.setWidth_eq] at this
theorem nameE_len (l:Str) (pg at_:Nat) (op:BitVec 8) (hp:pg<7):(nameE (nameD l pg op) (if hasS (patS pg op) plusD∧pg<5 then at_+2 else at_+1) l).2=at_+1+extP pg op:=by
  have h:=pd_ok pg hp op.toNat op.isLt
  rw[BitVec.ofNat_toNat,BitVec.setWidth_eq] at h
  unfold pdOk at h
  unfold extP nameE
  dsimp only
  cases e:hasS (patS pg op) plusD with
  | false=>
    have en:nameD l pg op=patS pg op:=by unfold nameD; rw[if_neg (by rw[e]; decide)]
    rw[en]
    simp only[Bool.false_eq_true,false_and,if_false]
    by_cases h1:hasS (patS pg op) [110#8,110#8]=true
    · rw[if_pos h1,if_pos h1]
    rw[if_neg h1,if_neg h1]
    by_cases h2:hasS (patS pg op) [110#8]=true
    · rw[if_pos h2,if_pos h2]
    rw[if_neg h2,if_neg h2]
    by_cases h3:hasS (patS pg op) [101#8]=true
    · rw[if_pos h3,if_pos h3]
    · rw[if_neg h3,if_neg h3]
  | true=>
    rw[e] at h
    simp only[Bool.not_true,Bool.false_or,Bool.and_eq_true,decide_eq_true_eq] at h
    rw[if_pos (rfl:true=true)]
    have hc:∀c:BitVec 8,c∉plusD→c∉signN (l.getD 2 0#8)→(nameD l pg op).count c=(patS pg op).count c:=by
      intro c h1 h2
      unfold nameD
      rw[if_pos e]
      exact repl_count c plusD _ h1 h2 (by decide) _ _ (Nat.le_refl _)
    have sn:=sign_not (l.getD 2 0#8)
    have hn:=hc 110#8 (by decide) sn.1
    have he:=hc 101#8 (by decide) sn.2
    have h1:hasS (nameD l pg op) [110#8,110#8]=false:=by
      cases e1:hasS (nameD l pg op) [110#8,110#8] with
      | false=>rfl
      | true=>have:=has_count2 _ _ e1; omega
    have h2:hasS (nameD l pg op) [101#8]=false:=by rw[has_count1,he,h.2]; rfl
    rw[if_neg (by rw[h1]; decide),has_count1,hn]
    have h3:¬hasS (nameD l pg op) [101#8]=true:=by rw[h2]; decide
    rw[if_neg h3]
    simp only[decide_eq_true_eq]
    split <;> split <;> split <;> simp_all <;> omega
def preB (op:Nat):Bool:=op==0xCB||op==0xDD||op==0xED||op==0xFD
def lenOk (pg:Nat) (op:BitVec 8):Bool:=
  badP pg op||(if pg=0 then preB op.toNat||goodM op&&(BitVec.ofNat 16 (extP 0 op)==extM 0#16 op) else if pg=1 then extP 1 op==0 else if pg=2 then goodX op&&(BitVec.ofNat 16 (extP 2 op)==extX op)
    else if pg<5 then preB op.toNat||goodM op&&(BitVec.ofNat 16 (extP pg op)==extM 1#16 op) else extP pg op==0)
theorem len_ok:∀pg,pg<7→∀op,op<256→lenOk pg (BitVec.ofNat 8 op)=true:=by decide +kernel
theorem len_ok' {pg:Nat} (h:pg<7) {op:BitVec 8} (hb:badP pg op=false):(if pg=0 then preB op.toNat||goodM op&&(BitVec.ofNat 16 (extP 0 op)==extM 0#16 op) else if pg=1 then extP 1 op==0 else if pg=2 then goodX op&&(BitVec.ofNat 16 (extP 2 op)==extX op)
    else if pg<5 then preB op.toNat||goodM op&&(BitVec.ofNat 16 (extP pg op)==extM 1#16 op) else extP pg op==0)=true:=by
  have:=len_ok pg h op.toNat op.isLt
  rw[BitVec.ofNat_toNat,BitVec.setWidth_eq] at this
  unfold lenOk at this
  rwa [hb,Bool.false_or] at this
end Go.Proofs.Joy
namespace Go.Proofs.Joy
open Go.Ab
set_option maxHeartbeats 1000000
end Go.Proofs.Joy
namespace Go.Proofs.Joy
open Go.Ab
set_option maxHeartbeats 1000000
theorem step_pre {r:Rg} {f:Nat→BitVec 8} {l:List Int} {op:BitVec 8} (hh:r.hlt=false) (ho:f r.pc.toNat=op) (h1:(op==0xDD#8||op==0xFD#8)=true):∃l1,(stepE r).run fnO (f,l)=(({ fetchedR r with pre:=op},4),(f,l1)):=by
  obtain⟨l1,hl⟩:=step_fetch r f l hh
  refine⟨l1,?_⟩
  unfold stepE
  rw[if_neg (by rw[hh]; decide),hl]
  dsimp only
  rw[ho,if_pos h1]
  rfl
theorem code_at {at_:BitVec 16} {code:List (BitVec 8)} {fill:BitVec 8} (hl:code.length≤20) {j:Nat} (hj:j<code.length):∀m,j<m→m≤code.length→codeS at_ code fill m (at_+BitVec.ofNat 16 j).toNat=code.getD j 0#8
  | 0,h,_=>by omega
  | m+1,h,h2=>by
    unfold codeS
    by_cases e:j=m
    · subst e; rw[if_pos rfl]
    · rw[if_neg,code_at hl hj m (by omega) (by omega)]
      intro e2
      have e3:=BitVec.eq_of_toNat_eq e2
      have e4:BitVec.ofNat 16 j=BitVec.ofNat 16 m:=by
        have:=congrArg (fun x=>x-at_) e3
        simpa [BitVec.add_comm at_,BitVec.add_sub_cancel] using this
      have e5:=congrArg BitVec.toNat e4
      simp only[BitVec.toNat_ofNat] at e5
      omega
end Go.Proofs.Joy
namespace Go.Proofs.Joy
open Go.Ab
set_option maxHeartbeats 1000000
end Go.Proofs.Joy
namespace Go.Proofs.Joy
open Go.Ab
set_option maxHeartbeats 1000000
end Go.Proofs.Joy
namespace Go.Proofs.Joy
open Go.Ab
set_option maxHeartbeats 1000000
end Go.Proofs.Joy
namespace Go.Proofs.Joy
open Go.Ab
set_option maxHeartbeats 1000000
end Go.Proofs.Joy
namespace Go.Proofs.Joy
open Go.Ab
set_option maxHeartbeats 1000000
end Go.Proofs.Joy
namespace Go.Proofs.Joy
open Go.Ab
set_option maxHeartbeats 4000000
set_option maxRecDepth 20000
theorem far_plain {r:Rg} {f:Nat→BitVec 8} {l:List Int} {op:BitVec 8} (hh:r.hlt=false) (ho:f r.pc.toNat=op) (h1:(op==0xDD#8||op==0xFD#8)=false) (h2:(op==0xED#8)=false) (h3:(op==0xCB#8)=false) (hg:goodM op=true):
    ((stepE r).run fnO (f,l)).1.1.pc=r.pc+1#16+extM (if r.pre !=0#8 then 1#16 else 0#16) op∧((stepE r).run fnO (f,l)).1.1.r=(tickR r).r∧4≤((stepE r).run fnO (f,l)).1.2:=by
  obtain⟨l1,e⟩:=step_plain r f l op hh ho h1 h2 h3
  rw[e]
  obtain⟨o,g1,g2,g3⟩:=Eff.Lv.run (O:=fnO) none _ (f,l1) (plain_far op hg ⟨fetchedR r,r.pre⟩)
  exact⟨g1,g2,g3⟩
theorem far_ed {r:Rg} {f:Nat→BitVec 8} {l:List Int} {op:BitVec 8} (hh:r.hlt=false) (ho:f r.pc.toNat=0xED#8) (ho2:f (r.pc+1#16).toNat=op) (hg:goodX op=true):
    ((stepE r).run fnO (f,l)).1.1.pc=r.pc+1#16+1#16+extX op∧((stepE r).run fnO (f,l)).1.1.r=(tickR (tickR r)).r∧8≤((stepE r).run fnO (f,l)).1.2:=by
  obtain⟨l1,hl⟩:=step_fetch r f l hh
  unfold stepE
  rw[if_neg (by rw[hh]; decide),hl]
  dsimp only
  rw[ho,if_neg (by decide),if_pos (by decide)]
  have e:∀ {β:Type} (k:BitVec 8×Core→Eff β),((fetchM ⟨fetchedR r,0#8⟩).bind k).run fnO (f,l1)=(k (f (r.pc+1#16).toNat,⟨{ tickR (fetchedR r) with pc:=r.pc+1#16+1#16},0#8⟩)).run fnO (f,(fnO.rd (f,l1) (r.pc+1#16)).2.2):=fun k=>rfl
  rw[e,ho2,Eff.run_bind]
  obtain⟨o,g1,g2,g3⟩:=Eff.Lv.run (O:=fnO) none _ (f,(fnO.rd (f,l1) (r.pc+1#16)).2.2) (extended_len op hg ⟨{ tickR (fetchedR r) with pc:=r.pc+1#16+1#16},0#8⟩)
  exact⟨g1,g2,g3⟩
theorem far_cb {r:Rg} {f:Nat→BitVec 8} {l:List Int} (hh:r.hlt=false) (ho:f r.pc.toNat=0xCB#8) (hp:r.pre=0#8):
    ((stepE r).run fnO (f,l)).1.1.pc=r.pc+1#16+1#16∧((stepE r).run fnO (f,l)).1.1.r=(tickR (tickR r)).r∧8≤((stepE r).run fnO (f,l)).1.2:=by
  obtain⟨l1,hl⟩:=step_fetch r f l hh
  unfold stepE
  rw[if_neg (by rw[hh]; decide),hl]
  dsimp only
  rw[ho,if_neg (by decide),if_neg (by decide),if_pos (by decide),Eff.run_bind]
  obtain⟨o,g1,g2,g3⟩:=Eff.Lv.run (O:=fnO) none _ (f,l1) (turned_len ⟨fetchedR r,r.pre⟩ (by show(r.pre !=0#8)=false; rw[hp]; rfl))
  exact⟨g1,g2,g3⟩
theorem far_cb2 {r:Rg} {f:Nat→BitVec 8} {l:List Int} (hh:r.hlt=false) (ho:f r.pc.toNat=0xCB#8) (hp:(r.pre !=0#8)=true):
    ((stepE r).run fnO (f,l)).1.1.pc=r.pc+1#16+2#16∧((stepE r).run fnO (f,l)).1.1.r=(tickR r).r∧4≤((stepE r).run fnO (f,l)).1.2:=by
  obtain⟨l1,hl⟩:=step_fetch r f l hh
  unfold stepE
  rw[if_neg (by rw[hh]; decide),hl]
  dsimp only
  rw[ho,if_neg (by decide),if_neg (by decide),if_pos (by decide),Eff.run_bind]
  obtain⟨o,g1,g2,g3⟩:=Eff.Lv.run (O:=fnO) none _ (f,l1) (turned_far_len ⟨fetchedR r,r.pre⟩ hp)
  exact⟨g1,g2,Nat.le_trans (by decide) g3⟩
def ticksOk (r x:BitVec 8) (k:Nat):Bool:=((x-r)&&&127#8==BitVec.ofNat 8 k)&&(x&&&128#8==r&&&128#8)
theorem tick1:∀r:BitVec 8,ticksOk r (r&&&128#8|||(r+1#8)&&&127#8) 1=true:=by decide +kernel
theorem tick2:∀r:BitVec 8,ticksOk r ((r&&&128#8|||(r+1#8)&&&127#8)&&&128#8|||((r&&&128#8|||(r+1#8)&&&127#8)+1#8)&&&127#8) 2=true:=by decide +kernel
def isFar (b:BitVec 8):Bool:=b==221#8||b==253#8
theorem near_law {r:Rg} {l code:Str} {f:Nat→BitVec 8} {lg:List Int} (hh:r.hlt=false) (hp:r.pre=0#8) (h0:f r.pc.toNat=l.getD 0 0#8) (h1:f (r.pc+1#16).toNat=l.getD 1 0#8) (hf:isFar (l.getD 0 0#8)=false)
    (hb:∀w∈wordsM,hasS (nameN l).1 w=false):
    ((stepE r).run fnO (f,lg)).1.1.pc=r.pc+BitVec.ofNat 16 (nameN l).2∧ticksOk r.r ((stepE r).run fnO (f,lg)).1.1.r (if l.getD 0 0#8==203#8||l.getD 0 0#8==237#8 then 2 else 1)=true∧4*(if l.getD 0 0#8==203#8||l.getD 0 0#8==237#8 then 2 else 1)≤((stepE r).run fnO (f,lg)).1.2:=by
  have hff:=hf
  unfold isFar at hff
  simp only[Bool.or_eq_false_iff,beq_eq_false_iff_ne,ne_eq] at hff
  by_cases e1:l.getD 0 0#8=203#8
  · have hn:nameN l=nameE (nameD l 1 (l.getD 1 0#8)) (if hasS (patS 1 (l.getD 1 0#8)) plusD∧1<5 then 1+2 else 1+1) l:=by unfold nameN pgN; rw[if_pos e1]
    rw[hn] at hb ⊢
    rw[nameE_len l 1 1 _ (by decide)]
    have hbad:=name_bad hb
    have hl:=len_ok' (by decide) hbad
    simp only[if_neg (show ¬(1:Nat)=0 by decide),if_true] at hl
    rw[eq_of_beq hl]
    obtain⟨g1,g2,g3⟩:=far_cb (l:=lg) hh (h0.trans e1) hp
    rw[e1]
    refine⟨g1.trans (pc2 _),?_,g3⟩
    rw[g2]; exact tick2 r.r
  by_cases e2:l.getD 0 0#8=237#8
  · have hn:nameN l=nameE (nameD l 2 (l.getD 1 0#8)) (if hasS (patS 2 (l.getD 1 0#8)) plusD∧2<5 then 1+2 else 1+1) l:=by unfold nameN pgN; rw[if_neg e1,if_pos e2]
    rw[hn] at hb ⊢
    rw[nameE_len l 2 1 _ (by decide)]
    have hbad:=name_bad hb
    have hl:=len_ok' (by decide) hbad
    simp only[if_neg (show ¬(2:Nat)=0 by decide),if_neg (show ¬(2:Nat)=1 by decide),if_true,Bool.and_eq_true] at hl
    obtain⟨g1,g2,g3⟩:=far_ed (l:=lg) hh (h0.trans e2) h1 hl.1
    rw[e2]
    refine⟨?_,?_,g3⟩
    · rw[g1,← eq_of_beq hl.2,pc2,BitVec.add_assoc]
      congr 1
      rw[BitVec.ofNat_add]
    · rw[g2]; exact tick2 r.r
  · have hn:nameN l=nameE (nameD l 0 (l.getD 0 0#8)) (if hasS (patS 0 (l.getD 0 0#8)) plusD∧0<5 then 0+2 else 0+1) l:=by
      unfold nameN pgN
      rw[if_neg e1,if_neg e2,if_neg (by simp; exact⟨hff.1,hff.2⟩)]
    rw[hn] at hb ⊢
    rw[nameE_len l 0 0 _ (by decide)]
    have hbad:=name_bad hb
    have hl:=len_ok' (by decide) hbad
    simp only[if_true] at hl
    have hpre:preB (l.getD 0 0#8).toNat=false:=by
      have key:∀op:BitVec 8,¬op=203#8→¬op=237#8→¬op=221#8→¬op=253#8→preB op.toNat=false:=by decide +kernel
      exact key _ e1 e2 hff.1 hff.2
    rw[hpre,Bool.false_or,Bool.and_eq_true] at hl
    obtain⟨g1,g2,g3⟩:=far_plain (l:=lg) hh h0 hf (by simpa using e2) (by simpa using e1) hl.1
    rw[if_neg (by simp; exact⟨e1,e2⟩)]
    refine⟨?_,?_,g3⟩
    · rw[g1,hp,if_neg (by decide),← eq_of_beq hl.2,BitVec.add_assoc]
      congr 1
      rw[Nat.zero_add,BitVec.ofNat_add]
    · rw[g2]; exact tick1 r.r
theorem far_law {r:Rg} {l:Str} {f:Nat→BitVec 8} {lg lg2:List Int} (hh:r.hlt=false) (hp:r.pre=0#8) (h0:f r.pc.toNat=l.getD 0 0#8) (h1:f (r.pc+1#16).toNat=l.getD 1 0#8) (hf:isFar (l.getD 0 0#8)=true)
    (hb:∀w∈wordsM,hasS (nameN l).1 w=false):
    ((stepE { fetchedR r with pre:=l.getD 0 0#8}).run fnO (f,lg2)).1.1.pc=r.pc+BitVec.ofNat 16 (nameN l).2∧ticksOk r.r ((stepE { fetchedR r with pre:=l.getD 0 0#8}).run fnO (f,lg2)).1.1.r 2=true∧4≤((stepE { fetchedR r with pre:=l.getD 0 0#8}).run fnO (f,lg2)).1.2:=by
  have hff:=hf
  unfold isFar at hff
  simp only[Bool.or_eq_true,beq_iff_eq] at hff
  have n1:¬l.getD 0 0#8=203#8:=by rcases hff with h | h <;> rw[h] <;> decide
  have n2:¬l.getD 0 0#8=237#8:=by rcases hff with h | h <;> rw[h] <;> decide
  have hpr:(l.getD 0 0#8 !=0#8)=true:=by rcases hff with h | h <;> rw[h] <;> decide
  have hR:({ fetchedR r with pre:=l.getD 0 0#8}:Rg).hlt=false:=hh
  by_cases e0:l.getD 1 0#8=221#8∨l.getD 1 0#8=237#8∨l.getD 1 0#8=253#8
  · exfalso
    have hn:nameN l=(plainS (l.getD 0 0#8),1):=by unfold nameN pgN; rw[if_neg n1,if_neg n2,if_pos hff]; dsimp only; rw[if_pos e0]
    rw[hn] at hb
    rcases hff with h | h
    · have:=hb [68#8,68#8] (by decide)
      rw[h] at this
      exact absurd this (by decide +kernel)
    · have:=hb [70#8,68#8] (by decide)
      rw[h] at this
      exact absurd this (by decide +kernel)
  have hp34:(if l.getD 0 0#8=221#8 then 3 else 4)=3∨(if l.getD 0 0#8=221#8 then 3 else 4)=4:=by split <;> simp
  by_cases e1:l.getD 1 0#8=203#8
  · have hn:nameN l=nameE (nameD l ((if l.getD 0 0#8=221#8 then 3 else 4)+2) (l.getD 3 0#8)) (if hasS (patS ((if l.getD 0 0#8=221#8 then 3 else 4)+2) (l.getD 3 0#8)) plusD∧(if l.getD 0 0#8=221#8 then 3 else 4)+2<5 then 3+2 else 3+1) l:=by
      unfold nameN pgN; rw[if_neg n1,if_neg n2,if_pos hff]; dsimp only; rw[if_neg e0,if_pos e1]
    rw[hn] at hb ⊢
    rw[nameE_len l _ 3 _ (by omega)]
    have hbad:=name_bad hb
    have hl:=len_ok' (by omega) hbad
    rw[if_neg (by omega),if_neg (by omega),if_neg (by omega),if_neg (by omega)] at hl
    rw[eq_of_beq hl]
    obtain⟨g1,g2,g3⟩:=far_cb2 (r:={ fetchedR r with pre:=l.getD 0 0#8}) (l:=lg2) hR (h1.trans e1) hpr
    refine⟨?_,?_,g3⟩
    · rw[g1]
      show r.pc+1#16+1#16+2#16=_
      rw[BitVec.add_assoc,BitVec.add_assoc]; rfl
    · rw[g2]; exact tick2 r.r
  · have hn:nameN l=nameE (nameD l (if l.getD 0 0#8=221#8 then 3 else 4) (l.getD 1 0#8)) (if hasS (patS (if l.getD 0 0#8=221#8 then 3 else 4) (l.getD 1 0#8)) plusD∧(if l.getD 0 0#8=221#8 then 3 else 4)<5 then 1+2 else 1+1) l:=by
      unfold nameN pgN; rw[if_neg n1,if_neg n2,if_pos hff]; dsimp only; rw[if_neg e0,if_neg e1]
    rw[hn] at hb ⊢
    rw[nameE_len l _ 1 _ (by omega)]
    have hbad:=name_bad hb
    have hl:=len_ok' (by omega) hbad
    rw[if_neg (by omega),if_neg (by omega),if_neg (by omega),if_pos (by omega)] at hl
    simp only[not_or] at e0
    have hpre:preB (l.getD 1 0#8).toNat=false:=by
      have key:∀op:BitVec 8,¬op=203#8→¬op=237#8→¬op=221#8→¬op=253#8→preB op.toNat=false:=by decide +kernel
      exact key _ e1 e0.2.1 e0.1 e0.2.2
    rw[hpre,Bool.false_or,Bool.and_eq_true] at hl
    obtain⟨g1,g2,g3⟩:=far_plain (r:={ fetchedR r with pre:=l.getD 0 0#8}) (l:=lg2) hR h1 (by simp; exact⟨e0.1,e0.2.2⟩) (by simpa using e0.2.1) (by simpa using e1) hl.1
    refine⟨?_,?_,g3⟩
    · rw[g1]
      show r.pc+1#16+1#16+extM (if l.getD 0 0#8 !=0#8 then 1#16 else 0#16) _=_
      rw[hpr,if_pos rfl,← eq_of_beq hl.2,pc2,BitVec.add_assoc]
      congr 1
      rw[BitVec.ofNat_add]
    · rw[g2]; exact tick2 r.r
end Go.Proofs.Joy
namespace Go.Proofs.Joy
open Go.Ab Go.Proofs
set_option maxHeartbeats 4000000
set_option maxRecDepth 20000
theorem dig_take {k:Nat} (hk:k<10):List.take (k+1-k) (List.drop k [48#8,49#8,50#8,51#8,52#8,53#8,54#8,55#8,56#8,57#8])=[digN k]:=by
  have:∀k,k<10→List.take (k+1-k) (List.drop k [48#8,49#8,50#8,51#8,52#8,53#8,54#8,55#8,56#8,57#8])=[digN k]:=by decide
  exact this k hk
theorem hex_take:∀k,k<16→List.take (k+1-k) (List.drop k hexD)=[hexD.getD k 0#8]:=by decide
theorem z_dec1 (k:Nat) (hk:k<10) (H:Heap) (n:Nat) (K:AV→Heap→Nat→Prop) (h:K (.st [digN k]) H n):ACalls Tryz.prog 87 [.i64 k] H n K:=by
  refine ACalls.of_awp Tryz.func87 rfl (by decide +kernel) (show 1≤16 by decide) (by simp) fun wf=>?_
  refine awp_ev dr0 (by decide +kernel) ?_
  have e1:wrap64 ((k:Int)+1)=((k+1:Nat):Int):=by rw[wrap_id _ (by omega) (by omega)]; omega
  simp only[go_sem,Tryz.f87,e1,Int.toNat_natCast,dig_take hk]
  exact⟨fun _=>⟨by omega,by omega,Fin.back wf h (fun _ _=>rfl) rfl⟩,fun e=>by exfalso; omega⟩
theorem z_dec2 (k:Nat) (h1:10≤k) (a b:Str) (ha:a.length≤10) (hb:b.length≤10)
    (c1:∀H n (K:AV→Heap→Nat→Prop),K (.st a) H n→ACalls Tryz.prog 87 [.i64 (k / 10:Nat)] H n K)
    (c2:∀H n (K:AV→Heap→Nat→Prop),K (.st b) H n→ACalls Tryz.prog 87 [.i64 (k%10:Nat)] H n K)
    (hk:k≤1000) (H:Heap) (n:Nat) (K:AV→Heap→Nat→Prop) (h:K (.st (a++b)) H n):ACalls Tryz.prog 87 [.i64 k] H n K:=by
  refine ACalls.of_awp Tryz.func87 rfl (by decide +kernel) (show 1≤16 by decide) (by simp) fun wf=>?_
  refine awp_ev dr0 (by decide +kernel) ?_
  have e1:wrap64 ((k:Int).tdiv 10)=((k / 10:Nat):Int):=by
    rw[show(k:Int).tdiv 10=((k / 10:Nat):Int) from rfl]; exact wrap_id _ (by omega) (by omega)
  have e2:(k:Int).tmod 10=((k%10:Nat):Int):=rfl
  simp only[go_sem,Tryz.f87,e1,e2]
  refine⟨fun e=>by exfalso; omega,fun _=>?_⟩
  refine c1 _ _ _ ?_
  simp only[go_sem]
  refine c2 _ _ _ ?_
  simp only[go_sem]
  exact⟨by omega,Fin.back wf h (fun _ _=>rfl) rfl⟩
theorem z_decA (k:Nat) (hk:k<100) (H:Heap) (n:Nat) (K:AV→Heap→Nat→Prop) (h:K (.st (decN k)) H n):ACalls Tryz.prog 87 [.i64 k] H n K:=by
  unfold decN at h
  by_cases h1:k<10
  · rw[if_pos h1] at h
    exact z_dec1 k h1 H n K h
  · rw[if_neg h1,if_pos hk] at h
    exact z_dec2 k (by omega) [digN (k / 10)] [digN (k%10)] (by simp) (by simp) (fun H n K=>z_dec1 _ (by omega) H n K) (fun H n K=>z_dec1 _ (by omega) H n K) (by omega) H n K h
theorem z_decN (k:Nat) (hk:k<1000) (H:Heap) (n:Nat) (K:AV→Heap→Nat→Prop) (h:K (.st (decN k)) H n):ACalls Tryz.prog 87 [.i64 k] H n K:=by
  by_cases h1:k<100
  · exact z_decA k h1 H n K h
  · unfold decN at h
    rw[if_neg (by omega),if_neg h1] at h
    refine z_dec2 k (by omega) (decN (k / 10)) [digN (k%10)] ?_ (by simp) (fun H n K=>z_decA _ (by omega) H n K) (fun H n K=>z_dec1 _ (by omega) H n K) (by omega) H n K ?_
    · unfold decN; split; simp; split <;> simp
    · unfold decN
      rw[if_neg (by omega),if_pos (by omega),Nat.div_div_eq_div_mul]; exact h
theorem z_hex (v:BitVec 8) (H:Heap) (n:Nat) (K:AV→Heap→Nat→Prop) (h:K (.st (hexN v)) H n):ACalls Tryz.prog 35 [.u8 v] H n K:=by
  refine ACalls.of_awp Tryz.func35 rfl (by decide +kernel) (show 1≤16 by decide) (by simp) fun wf=>?_
  refine awp_ev dr35 (by decide +kernel) ?_
  have b1:(v / 16#8).toNat<16:=by rw[BitVec.toNat_udiv]; have:=v.isLt; show v.toNat / 16<16; omega
  have b2:(v%16#8).toNat<16:=by rw[BitVec.toNat_umod]; exact Nat.mod_lt _ (by decide)
  have e1:(v / 16#8+1#8).toNat=(v / 16#8).toNat+1:=by rw[BitVec.toNat_add]; show(_+1)%256=_; omega
  have e2:(v%16#8+1#8).toNat=(v%16#8).toNat+1:=by rw[BitVec.toNat_add]; show(_+1)%256=_; omega
  have t1:=hex_take _ b1
  have t2:=hex_take _ b2
  unfold hexD at t1 t2
  unfold hexN hexD at h
  simp only[go_sem,Tryz.f35,e1,e2,t1,t2]
  repeat' first
    | exact Fin.back wf h (fun _ _=>rfl) rfl
    | with_reducible refine And.intro ?_ ?_
  all_goals first | omega | simp
theorem z_sign (v:BitVec 8) (H:Heap) (n:Nat) (K:AV→Heap→Nat→Prop) (h:K (.st (signN v)) H n):ACalls Tryz.prog 34 [.u8 v] H n K:=by
  refine ACalls.of_awp Tryz.func34 rfl (by decide +kernel) (show 1≤14 by decide) (by simp) fun wf=>?_
  refine awp_ev dr0 (by decide +kernel) ?_
  have hv:=v.isLt
  have e1:wrap64 (256-(v.toNat:Int))=((256-v.toNat:Nat):Int):=by rw[wrap_id _ (by omega) (by omega)]; omega
  have hd:∀k,(decN k).length≤3:=fun k=>by unfold decN; split; simp; split <;> simp
  unfold signN at h
  simp only[go_sem,Tryz.f34,e1]
  refine⟨fun e=>?_,fun e=>?_⟩
  · rw[if_pos e] at h
    have e':=BitVec.le_def.1 e
    refine z_decN _ (by omega) _ _ _ ?_
    simp only[go_sem]
    exact⟨by have:=hd (256-v.toNat); omega,Fin.back wf h (fun _ _=>rfl) rfl⟩
  · rw[if_neg e] at h
    refine z_decN _ (by omega) _ _ _ ?_
    simp only[go_sem]
    exact⟨by have:=hd v.toNat; omega,Fin.back wf h (fun _ _=>rfl) rfl⟩
theorem z_page (code:Str) (cv:AV) (H:Heap) (n:Nat) (K:AV→Heap→Nat→Prop) (hc:bytesIn H cv code) (hok:cv.ok n=true) (hl:code.length≤1000) (hl4:4≤code.length)
    (h:∀v,v=(match pgN code with | none=>AV.tu [.i64 (-1),.i64 0] | some (p,a)=>.tu [.i64 p,.i64 a])→K v H n):ACalls Tryz.prog 31 [cv] H n K:=by
  have hne:cv≠ .junk:=hc.ne
  refine ACalls.of_awp Tryz.func31 rfl (by decide +kernel) (show 1≤39 by decide) (by simp; exact hne) fun wf=>?_
  refine awp_step dr0 (by decide +kernel) ?_
  simp only[go_sem,Tryz.f31]
  have hs:=srcK_bytes (hc.mono hok (fun i hi=>Heap.upd_ne H (some ⟨repCells 0 [AV.u8 0#8],5,false⟩) (show i≠n by omega)))
  refine awp_step dr0 (by decide +kernel) ?_
  simp only[go_sem,hne,appX_bytes hc,hs]
  refine⟨Nat.zero_le _,fun e=>by exfalso; omega,fun _=>⟨by omega,by rw[List.length_map]; exact Nat.le_refl _,by omega,?_⟩⟩
  have hL:∀j,j<code.length→(code.map AV.u8++[AV.u8 0#8,AV.u8 0#8,AV.u8 0#8,AV.u8 0#8]).getD j .junk=.u8 (code.getD j 0#8):=fun j hj=>by
    rw[List.getD_eq_getElem?_getD,List.getElem?_append_left (by rw[List.length_map]; exact hj),← List.getD_eq_getElem?_getD]; exact u8_getD hj
  have hL0:=hL 0 (by omega)
  have hL1:=hL 1 (by omega)
  have hlen:(code.map AV.u8++[AV.u8 0#8,AV.u8 0#8,AV.u8 0#8,AV.u8 0#8]).length=code.length+4:=by rw[List.length_append,List.length_map]; rfl
  generalize code.map AV.u8++[AV.u8 0#8,AV.u8 0#8,AV.u8 0#8,AV.u8 0#8]=cells at hL0 hL1 hlen ⊢
  refine awp_gen (fun X=>(∀i,i<n→X i=H i)∧X (n+3)=some ⟨cells,5,false⟩) ⟨fun i hi=>by repeat (rw[Heap.upd_ne _ _ (by omega)]),Heap.upd_same _ _ _⟩ fun X ⟨hX,hX3⟩=>?_
  have fin:∀(a b:Int),(match pgN code with | none=>AV.tu [.i64 (-1),.i64 0] | some (p,a)=>.tu [.i64 p,.i64 a])=.tu [.i64 a,.i64 b]→Go.Ab.Fin n (.tu [.i64 a,.i64 b]) X (n+4) K:=fun a b e=>by
    have:=h _ rfl
    rw[e] at this
    exact Fin.back wf this hX rfl
  unfold pgN at fin
  generalize code.getD 0 0#8=a0 at hL0 fin
  generalize code.getD 1 0#8=a1 at hL1 fin
  refine awp_ev dr0 (by decide +kernel) ?_
  simp only[go_sem,hX3,hL0,hL1,hlen]
  refine⟨by omega,by omega,?_⟩
  repeat' first
    | with_reducible refine And.intro ?_ ?_
    | intro e
  all_goals simp only[beq_iff_eq,beq_eq_false_iff_ne,ne_eq] at*
  all_goals first
    | omega
    | contradiction
    | (subst a0; subst a1; first | contradiction | (refine fin _ _ ?_; clear fin h; simp +decide [*]; done))
    | (subst a0; first | contradiction | (refine fin _ _ ?_; clear fin h; simp +decide [*]; done))
    | (refine fin _ _ ?_; clear fin h; simp +decide [*])
end Go.Proofs.Joy
namespace Go.Proofs.Joy
open Go.Ab Go.Proofs
set_option maxHeartbeats 4000000
set_option maxRecDepth 20000
def pad6 (code:Str):Str:=code++[0#8,0#8,0#8,0#8,0#8,0#8]
theorem pad_lt (code:Str) {j:Nat} (h:j<code.length):(pad6 code).getD j 0#8=code.getD j 0#8:=by
  unfold pad6
  rw[List.getD_eq_getElem?_getD,List.getElem?_append_left h,← List.getD_eq_getElem?_getD]
theorem pgN_pad (code:Str) (h:4≤code.length):pgN (pad6 code)=pgN code:=by
  unfold pgN
  rw[pad_lt code (j:=0) (by omega),pad_lt code (j:=1) (by omega)]
theorem pgN_lt {l:Str} {p a:Nat} (h:pgN l=some (p,a)):p<7∧a≤3:=by
  unfold pgN at h
  dsimp only at h
  have hp:(if l.getD 0 0#8=221#8 then 3 else 4)≤4:=by split <;> omega
  generalize (if l.getD 0 0#8=221#8 then 3 else 4)=q at h hp
  repeat' split at h
  all_goals first
    | (simp only[Option.some.injEq,Prod.mk.injEq] at h; omega)
    | (exact absurd h (by simp))
theorem nameD_len (l:Str) {pg:Nat} (h:pg<7) (op:BitVec 8):(nameD l pg op).length≤150:=by
  have h1:=pat_len' h op
  unfold nameD
  split
  · have:=repl_len (patS pg op) plusD _ 4 (sign_len (l.getD 2 0#8))
    omega
  · omega
theorem hexN_len (v:BitVec 8):(hexN v).length=2:=rfl
theorem z_name (code:Str) (cv:AV) (H:Heap) (n:Nat) (K:AV→Heap→Nat→Prop) (hc:bytesIn H cv code) (hok:cv.ok n=true) (hl:code.length≤1000) (hl4:4≤code.length)
    (h:K (.tu [.st (nameN (pad6 code)).1,.i64 (nameN (pad6 code)).2]) H n):ACalls Tryz.prog 14 [cv] H n K:=by
  have hne:cv≠ .junk:=hc.ne
  refine ACalls.of_awp Tryz.func14 rfl (by decide +kernel) (show 1≤93 by decide) (by simp; exact hne) fun wf=>?_
  refine awp_step dr14 (by decide +kernel) ?_
  simp only[go_sem,Tryz.f14]
  have hs:=srcK_bytes (hc.mono hok (fun i hi=>Heap.upd_ne H (some ⟨repCells 0 [AV.u8 0#8],5,false⟩) (show i≠n by omega)))
  refine awp_step dr14 (by decide +kernel) ?_
  simp only[go_sem,hne,appX_bytes hc,hs]
  refine⟨Nat.zero_le _,fun e=>by exfalso; omega,fun _=>⟨by omega,by rw[List.length_map]; exact Nat.le_refl _,by omega,?_⟩⟩
  have hL:∀j,j<code.length+6→(code.map AV.u8++[AV.u8 0#8,AV.u8 0#8,AV.u8 0#8,AV.u8 0#8,AV.u8 0#8,AV.u8 0#8]).getD j .junk=.u8 ((pad6 code).getD j 0#8):=fun j hj=>by
    have:code.map AV.u8++[AV.u8 0#8,AV.u8 0#8,AV.u8 0#8,AV.u8 0#8,AV.u8 0#8,AV.u8 0#8]=(pad6 code).map AV.u8:=by unfold pad6; rw[List.map_append]; rfl
    rw[this]
    exact u8_getD (by unfold pad6; rw[List.length_append]; exact hj)
  have hlen:(code.map AV.u8++[AV.u8 0#8,AV.u8 0#8,AV.u8 0#8,AV.u8 0#8,AV.u8 0#8,AV.u8 0#8]).length=code.length+6:=by rw[List.length_append,List.length_map]; rfl
  have hcok:∀m,∀v∈code.map AV.u8++[AV.u8 0#8,AV.u8 0#8,AV.u8 0#8,AV.u8 0#8,AV.u8 0#8,AV.u8 0#8],v.ok m=true:=fun m=>oks_app (u8s_ok _ _) (by simp[AV.ok])
  generalize code.map AV.u8++[AV.u8 0#8,AV.u8 0#8,AV.u8 0#8,AV.u8 0#8,AV.u8 0#8,AV.u8 0#8]=cells at hL hlen hcok ⊢
  refine awp_gen (fun X=>X.wf (n+4)∧(∀i,i<n→X i=H i)∧X (n+3)=some ⟨cells,5,false⟩) ⟨?_,fun i hi=>by repeat (rw[Heap.upd_ne _ _ (by omega)]),Heap.upd_same _ _ _⟩ fun X ⟨hXw,hX,hX3⟩=>?_
  · repeat' first
      | exact wf
      | refine Heap.wf_upd ?_ ?_
      | refine Heap.wf_upd_none ?_
    all_goals first | exact hcok _ | exact u8s_ok _ _ | (simp[AV.ok,repCells]; done)
  have hcX:=hc.mono hok hX
  generalize hll:pad6 code=l at h hL
  refine awp_step dr14 (by decide +kernel) ?_
  simp only[go_sem,hne]
  refine z_page code cv _ _ _ hcX (AV.ok_mono (by omega) _ hok) hl hl4 fun v hv=>?_
  rw[← pgN_pad code hl4,hll] at hv
  have hL0:=hL 0 (by omega)
  cases hp:pgN l with
  | none=>
    rw[hp] at hv
    subst hv
    have hn:nameN l=(plainS (l.getD 0 0#8),1):=by unfold nameN; rw[hp]
    rw[hn] at h
    simp only[go_sem]
    refine awp_ev dr14 (by decide +kernel) ?_
    simp +decide only[go_sem,hX3,hL0,hlen]
    refine⟨by omega,by omega,?_⟩
    refine z_plain _ _ _ _ ?_
    simp only[go_sem]
    exact Fin.back wf h hX rfl
  | some pa=>
    obtain⟨pg,at_⟩:=pa
    obtain⟨b1,b2⟩:=pgN_lt hp
    rw[hp] at hv
    subst hv
    have hn:nameN l=nameE (nameD l pg (l.getD at_ 0#8)) (if hasS (patS pg (l.getD at_ 0#8)) plusD∧pg<5 then at_+2 else at_+1) l:=by unfold nameN; rw[hp]
    rw[hn] at h
    have hLa:=hL at_ (by omega)
    have hL2:=hL 2 (by omega)
    simp only[go_sem]
    refine awp_step dr14 (by decide +kernel) ?_
    simp only[go_sem]
    refine⟨fun e=>by exfalso; omega,fun _=>?_⟩
    refine awp_step dr14 (by decide +kernel) ?_
    simp only[go_sem,hX3,hLa,hlen]
    refine⟨by omega,by omega,?_⟩
    refine z_pattern pg b1 _ _ _ _ ?_
    simp only[go_sem]
    have e1:wrap64 ((at_:Int)+1)=((at_+1:Nat):Int):=by rw[wrap_id _ (by omega) (by omega)]; omega
    have e2:wrap64 (((at_+1:Nat):Int)+1)=((at_+2:Nat):Int):=by rw[wrap_id _ (by omega) (by omega)]; omega
    refine awp_step dr14 (by decide +kernel) ?_
    simp only[go_sem,e1]
    generalize hop:l.getD at_ 0#8=op at h
    have hpl:=pat_len' b1 op
    have hnl:=nameD_len l b1 op
    have hsl:=sign_len (l.getD 2 0#8)
    refine awp_seqF (S:=Unit) (fun _=>[(4,.su (n+3) 0 (code.length+6) 1),(6,.i64 ((if hasS (patS pg op) plusD∧pg<5 then at_+2 else at_+1:Nat):Int)),(7,.st (nameD l pg op))]) (fun _=>X) (fun _=>n+4) (fun _=>True) (fun _ _=>⟨hXw,Env.okAt_of2 (by simp[AV.ok])⟩) ?_ ?_
    · refine awp_ev dr14 (by decide +kernel) ?_
      simp only[go_sem]
      refine z_has _ _ (by decide) (by omega) (by decide) _ _ _ ?_
      simp only[go_sem]
      refine⟨fun e=>?_,fun e=>?_⟩
      · have e':hasS (patS pg op) plusD=true:=e
        have en:nameD l pg op=replS (patS pg op) [43#8,100#8] (signN (l.getD 2 0#8)):=by unfold nameD; rw[if_pos e']; rfl
        simp only[go_sem,hX3,hL2,hlen,e2]
        refine⟨by omega,by omega,fun e5=>?_,fun e5=>?_⟩
        · refine z_sign _ _ _ _ ?_
          simp only[go_sem]
          refine z_replace _ _ _ (by decide) (by omega) (by omega) (by decide) _ _ _ ?_
          simp only[go_sem]
          refine Ends.mk () trivial ?_ (fun _ _=>rfl) (Nat.le_refl _) (Nat.le_refl _)
          rw[if_pos ⟨e',by omega⟩,en]
          exact(by repeat (first | exact Env.le_nil _ | refine Env.le_cons rfl ?_))
        · refine z_sign _ _ _ _ ?_
          simp only[go_sem]
          refine z_replace _ _ _ (by decide) (by omega) (by omega) (by decide) _ _ _ ?_
          simp only[go_sem]
          refine Ends.mk () trivial ?_ (fun _ _=>rfl) (Nat.le_refl _) (Nat.le_refl _)
          rw[if_neg (fun q=>by omega),en]
          exact(by repeat (first | exact Env.le_nil _ | refine Env.le_cons rfl ?_))
      · have e':hasS (patS pg op) plusD=false:=e
        have en:nameD l pg op=patS pg op:=by unfold nameD; rw[if_neg (nF e')]
        refine Ends.mk () trivial ?_ (fun _ _=>rfl) (Nat.le_refl _) (Nat.le_refl _)
        rw[if_neg (fun q=>absurd (q.1.symm.trans e') (by decide)),en]
        exact(by repeat (first | exact Env.le_nil _ | refine Env.le_cons rfl ?_))
    rintro- -
    have hA5:(if hasS (patS pg op) plusD∧pg<5 then at_+2 else at_+1)≤5:=by split <;> omega
    generalize (if hasS (patS pg op) plusD∧pg<5 then at_+2 else at_+1)=A at h hA5
    generalize nameD l pg op=s1 at h hnl
    have hA0:=hL A (by omega)
    have hA1:=hL (A+1) (by omega)
    have w1:wrap64 ((A:Int)+1)=((A+1:Nat):Int):=by rw[wrap_id _ (by omega) (by omega)]; omega
    have w2:wrap64 ((A:Int)+2)=((A+2:Nat):Int):=by rw[wrap_id _ (by omega) (by omega)]; omega
    unfold nameE at h
    refine awp_ev dr14 (by decide +kernel) ?_
    simp only[go_sem]
    refine z_has _ _ (by decide) (by omega) (by decide) _ _ _ ?_
    simp only[go_sem,w1,w2,hX3,hA0,hA1,hlen]
    refine⟨fun e=>?_,fun e=>?_⟩
    · rw[if_pos e] at h
      refine⟨by omega,by omega,by omega,by omega,?_⟩
      refine z_hex _ _ _ _ ?_
      simp only[go_sem,hX3,hA0,hA1,hlen]
      refine⟨by omega,by rw[hexN_len]; decide,?_⟩
      refine z_hex _ _ _ _ ?_
      simp only[go_sem,hX3,hA0,hA1,hlen]
      refine⟨by rw[hexN_len,hexN_len]; decide,?_⟩
      refine z_replace _ _ _ (by decide) (by omega) (by simp[hexN_len]) (by decide) _ _ _ ?_
      simp only[go_sem,hX3,hA0,hA1,hlen,w2]
      exact Fin.back wf h hX rfl
    rw[if_neg (nF e)] at h
    refine z_has _ _ (by decide) (by omega) (by decide) _ _ _ ?_
    simp only[go_sem,w1,w2,hX3,hA0,hA1,hlen]
    refine⟨fun e=>?_,fun e=>?_⟩
    · rw[if_pos e] at h
      refine⟨by omega,by omega,?_⟩
      refine z_hex _ _ _ _ ?_
      simp only[go_sem,hexN_len]
      refine z_replace _ _ _ (by decide) (by omega) (by simp[hexN_len]) (by decide) _ _ _ ?_
      simp only[go_sem,w1]
      exact Fin.back wf h hX rfl
    rw[if_neg (nF e)] at h
    refine z_has _ _ (by decide) (by omega) (by decide) _ _ _ ?_
    simp only[go_sem,w1,w2,hX3,hA0,hA1,hlen]
    refine⟨fun e=>?_,fun e=>?_⟩
    · rw[if_pos e] at h
      refine⟨by omega,by omega,?_⟩
      have hsl:=sign_len (l.getD A 0#8)
      refine z_sign _ _ _ _ ?_
      simp only[go_sem]
      refine z_replace _ _ _ (by decide) (by omega) (by omega) (by decide) _ _ _ ?_
      simp only[go_sem,w1]
      exact Fin.back wf h hX rfl
    · rw[if_neg (nF e)] at h
      exact Fin.back wf h hX rfl
end Go.Proofs.Joy
namespace Go.Proofs.Joy
open Go.Ab Go.Proofs
set_option maxHeartbeats 1000000
set_option maxRecDepth 20000
structure BS (b nb:Nat) (G:Heap) (Q:Nat→Prop) (s:Bx) (H:Heap) (m:Nat):Prop where
  wf:H.wf m
  le:nb≤m
  rep:∃F,bxRep b s H m F∧∀i,F i→nb≤i∧¬Q i
  own:∀i,Q i→nb≤i∧i<m
  fr:∀i,i<nb→H i=G i
section
variable {b nb:Nat} {G:Heap} {Q:Nat→Prop} {s:Bx} {H:Heap} {m:Nat} {K:AV→Heap→Nat→Prop}
theorem BS.bm (B:BS b nb G Q s H m):b<m∧nb≤b∧¬Q b:=by
  obtain⟨F,⟨mm,L,h⟩,h2⟩:=B.rep
  exact⟨h.low _ h.fb,(h2 _ h.fb).1,(h2 _ h.fb).2⟩
theorem BS.start {n:Nat} {F:Nat→Prop} (w:H.wf m) (l:n≤m) (r:bxRep b s H m F) (o:∀i,F i→n≤i) (f:∀i,i<n→H i=G i):BS b n G (fun _=>False) s H m:=
  ⟨w,l,⟨F,r,fun i hi=>⟨o i hi,fun h=>h⟩⟩,fun _ h=>h.elim,f⟩
theorem BS.alloc (B:BS b nb G Q s H m) (bl:Blk) (ok:∀v∈bl.cells,v.ok (m+1)=true):BS b nb G (fun i=>Q i∨i=m) s (H.upd m (some bl)) (m+1):=by
  obtain⟨F,h1,h2⟩:=B.rep
  have low:∀i,F i→i<m:=fun i hi=>(boxW b).low h1 hi
  refine⟨Heap.wf_upd B.wf ok,by have:=B.le; omega,⟨F,bx_stable h1 (fun i hi=>Heap.upd_ne _ _ (by have:=low i hi; omega)) (by omega),fun i hi=>⟨(h2 i hi).1,fun h=>?_⟩⟩,fun i hi=>?_,fun i hi=>by rw[Heap.upd_ne _ _ (by have:=B.le; omega)]; exact B.fr i hi⟩
  · rcases h with h | h
    · exact(h2 i hi).2 h
    · have:=low i hi; omega
  · rcases hi with h | h
    · have:=B.own i h; omega
    · have:=B.le; omega
theorem BS.junk (B:BS b nb G Q s H m) (bl:Blk) (ok:∀v∈bl.cells,v.ok (m+1)=true):BS b nb G Q s (H.upd m (some bl)) (m+1):=by
  have A:=B.alloc bl ok
  obtain⟨F,h1,h2⟩:=A.rep
  exact⟨A.wf,A.le,⟨F,h1,fun i hi=>⟨(h2 i hi).1,fun h=>(h2 i hi).2 (.inl h)⟩⟩,fun i hi=>A.own i (.inl hi),A.fr⟩
theorem BS.less {Q':Nat→Prop} (B:BS b nb G Q s H m) (hq:∀i,Q' i→Q i):BS b nb G Q' s H m:=let⟨F,h1,h2⟩:=B.rep; ⟨B.wf,B.le,⟨F,h1,fun i hi=>⟨(h2 i hi).1,fun h=>(h2 i hi).2 (hq i h)⟩⟩,fun i hi=>B.own i (hq i hi),B.fr⟩
theorem BS.put (B:BS b nb G Q s H m) {k:Nat} (hk:Q k) (bl:Blk) (ok:∀v∈bl.cells,v.ok m=true):BS b nb G Q s (H.upd k (some bl)) m:=by
  obtain⟨F,h1,h2⟩:=B.rep
  have hkm:=B.own k hk
  exact⟨Heap.wf_set B.wf hkm.2 ok,B.le,⟨F,bx_stable h1 (fun i hi=>Heap.upd_ne _ _ (fun e=>(h2 i hi).2 (e▸hk))) (Nat.le_refl _),h2⟩,B.own,fun i hi=>by rw[Heap.upd_ne _ _ (by omega)]; exact B.fr i hi⟩
theorem BS.step (B:BS b nb G Q s H m) (r:Rg) (hl:6≤bxLeft s) (h:∀(r':Rg) (q:Nat) s' H' m',(stepE r).run bxO s=((r',q),s')→bxLeft s≤bxLeft s'+6→BS b nb G Q s' H' m'→m≤m'→(∀i,Q i→H' i=H i)→K (.tu [.ag r'.cells,.i64 q]) H' m'):
    ACalls Tryz.prog 11 [.ag r.cells,.ifc 29 (.pt b 0)] H m K:=by
  obtain⟨F,h1,h2⟩:=B.rep
  have hle:=B.le
  refine c_step (boxM b) r h1 hl fun r' q s' H' m' F' e lf w l r2 o f=>h r' q s' H' m' e lf ⟨w,by omega,⟨F',r2,fun i hi=>?_⟩,fun i hi=>by have:=B.own i hi; omega,fun i hi=>?_⟩ l fun i hi=>?_
  · rcases o i hi with g | g
    · exact h2 i g
    · exact⟨by omega,fun hq=>by have:=B.own i hq; omega⟩
  · rw[f i (by omega) (fun hF=>by have:=(h2 i hF).1; omega)]; exact B.fr i hi
  · exact f i (B.own i hi).2 fun hF=>(h2 i hF).2 hi
end
theorem left_box (at_:BitVec 16) (code:List (BitVec 8)) (fill:BitVec 8):bxLeft (boxS at_ code fill)=4294967296:=rfl
end Go.Proofs.Joy
namespace Go.Proofs.Joy
open Go.Ab Go.Proofs
set_option maxHeartbeats 4000000
set_option maxRecDepth 20000
theorem nameE_le (s:Str) (a:Nat) (l:Str) (h:s.length≤150):(nameE s a l).1.length≤1000:=by
  unfold nameE
  split
  · have:=repl_len s [110#8,110#8] (36#8 :: (hexN (l.getD (a+1) 0#8)++hexN (l.getD a 0#8))) 5 (by simp[hexN_len]); dsimp only; omega
  split
  · have:=repl_len s [110#8] (36#8 :: hexN (l.getD a 0#8)) 5 (by simp[hexN_len]); dsimp only; omega
  split
  · have:=repl_len s [101#8] (signN (l.getD a 0#8)) 4 (sign_len _); dsimp only; omega
  · dsimp only; omega
theorem nameN_le (l:Str):(nameN l).1.length≤1000:=by
  unfold nameN
  cases hp:pgN l with
  | none=>have:=plain_len (l.getD 0 0#8); dsimp only; omega
  | some pa=>
    obtain⟨pg,a⟩:=pa
    exact nameE_le _ _ _ (nameD_len l (pgN_lt hp).1 _)
structure MvS where
  x:Rg
  q:Nat
  k:Nat
  s:Bx
  H:Heap
  m:Nat
theorem moves_walk (r:Rg) (code:Str) (cv:AV) (H:Heap) (n:Nat) (K:AV→Heap→Nat→Prop) (hc:bytesIn H cv code) (hok:cv.ok n=true) (h:K (.bo true) H n):ACalls Tryz.prog 4 [.ag r.cells,cv] H n K:=by
  have hne:cv≠ .junk:=hc.ne
  refine ACalls.of_awp Tryz.func4 rfl (by decide +kernel) (show 2≤134 by decide) (by simp; exact hne) fun wf=>?_
  refine awp_step dr0 (by decide +kernel) ?_
  simp only[go_sem,Tryz.f4]
  refine awp_step dr0 (by decide +kernel) ?_
  simp only[go_sem]
  refine c_alive _ _ _ ?_
  simp only[go_sem,Rg.cells]
  refine awp_seqF (S:=Unit) (fun _=>[(1,cv),(2,.pt n 0)]) (fun _=>H.upd n (some ⟨r.cells,25,false⟩)) (fun _=>n+1) (fun _=>r.right=true∧4≤code.length∧code.length≤20∧r.pre=0#8∧r.hlt=false) (fun _ _=>⟨Heap.wf_upd wf (cells_ok ⟨r,0#8⟩ _),Env.okAt_of2 (by have:=AV.ok_mono (show n≤n+1 by omega) _ hok; simp[AV.ok,this])⟩) ?_ ?_
  · refine awp_ev dr0 (by decide +kernel) ?_
    simp only[go_sem]
    refine c_right r _ _ _ ?_
    simp only[go_sem,lenB_bytes hc,hne]
    repeat' first
      | with_reducible refine And.intro ?_ ?_
      | intro e
    all_goals first
      | exact Fin.back wf h (fun i hi=>Heap.upd_ne _ _ (by omega)) rfl
      | exact Ends.mk () ⟨by simpa using ‹(!r.right)=false›,by omega,by omega,by simpa using ‹(r.pre !=0#8)=false›,‹r.hlt=false›⟩ (by repeat (first | exact Env.le_nil _ | refine Env.le_cons rfl ?_)) (fun _ _=>rfl) (Nat.le_refl _) (Nat.le_refl _)
  rintro-⟨hr,hl4,hl20,hpre,hhlt⟩
  have wf1:(H.upd n (some ⟨r.cells,25,false⟩)).wf (n+1):=Heap.wf_upd wf (cells_ok ⟨r,0#8⟩ _)
  have hc1:=hc.mono hok (fun i hi=>Heap.upd_ne H (some ⟨r.cells,25,false⟩) (show i≠n by omega))
  have hnl:=nameN_le (pad6 code)
  refine awp_step dr0 (by decide +kernel) ?_
  simp only[go_sem,hne]
  refine z_name code cv _ _ _ hc1 (AV.ok_mono (by omega) _ hok) (by omega) hl4 ?_
  simp only[go_sem]
  have wf2:((H.upd n (some ⟨r.cells,25,false⟩)).upd (n+1) (some ⟨wordsM.map .st,9,false⟩)).wf (n+2):=Heap.wf_upd wf1 (sts_ok wordsM _)
  refine awp_seqF (S:=Unit) (fun _=>[(1,cv),(2,.pt n 0),(6,.i64 (nameN (pad6 code)).2)]) (fun _=>(H.upd n (some ⟨r.cells,25,false⟩)).upd (n+1) (some ⟨wordsM.map .st,9,false⟩)) (fun _=>n+2) (fun _=>∀w∈wordsM,hasS (nameN (pad6 code)).1 w=false) (fun _ _=>⟨wf2,Env.okAt_of2 (by have:=AV.ok_mono (show n≤n+2 by omega) _ hok; simp[AV.ok,this])⟩) ?_ ?_
  · refine awp_step dr0 (by decide +kernel) ?_
    simp only[go_sem]
    refine awp_block ?_
    refine awp_loopF (S:=Nat) (fun j=>[(1,cv),(2,.pt n 0),(5,.st (nameN (pad6 code)).1),(6,.i64 (nameN (pad6 code)).2),(44,.sl (n+1) 0 10 10),(45,.i64 10),(46,.i64 j)]) (fun _=>(H.upd n (some ⟨r.cells,25,false⟩)).upd (n+1) (some ⟨wordsM.map .st,9,false⟩)) (fun _=>n+2) (fun j=>j≤10∧∀i,i<j→hasS (nameN (pad6 code)).1 (wordsM.getD i [])=false) (fun j=>10-j)
      (fun _ _=>⟨wf2,Env.okAt_of2 (by have:=AV.ok_mono (show n≤n+2 by omega) _ hok; simp[AV.ok,this])⟩) ?_ 0 ⟨Nat.zero_le _,fun i hi=>by omega⟩ (by repeat (first | exact Env.le_nil _ | refine Env.le_cons rfl ?_)) (fun _ _=>rfl) rfl
    rintro j ⟨hj,hw⟩
    refine awp_step dr0 (by decide +kernel) ?_
    simp only[go_sem]
    refine awp_step dr0 (by decide +kernel) ?_
    simp only[go_sem]
    refine⟨fun hlt=>?_,fun hlt=>?_⟩
    · have hlt':j<10:=by omega
      have e1:(wrap64 ((j:Int)+1))=((j+1:Nat):Int):=by rw[wrap_id _ (by omega) (by omega)]; omega
      have e2:(wordsM.map AV.st).getD j .junk=.st (wordsM.getD j []):=st_getD (by show j<10; omega)
      have hwn:∀j,j<10→0<(wordsM.getD j []).length∧(wordsM.getD j []).length≤10:=by decide
      refine awp_ev dr0 (by decide +kernel) ?_
      simp only[go_sem,e2]
      refine⟨by omega,by show j<10; omega,?_⟩
      refine z_has _ _ (hwn j hlt').1 hnl (by have:=(hwn j hlt').2; omega) _ _ _ ?_
      simp only[go_sem,e1]
      refine⟨fun e=>Fin.back wf h (fun i hi=>by repeat (rw[Heap.upd_ne _ _ (by omega)])) rfl,fun e=>?_⟩
      exact Ends.mk (j+1) ⟨by omega,by omega,fun i hi=>by
        by_cases hij:i=j
        · rw[hij]; exact e
        · exact hw i (by omega)⟩ (by repeat (first | exact Env.le_nil _ | refine Env.le_cons rfl ?_)) (fun _ _=>rfl) (Nat.le_refl _) (Nat.le_refl _)
    · have hj10:j=10:=by omega
      subst hj10
      refine Ends.mk () (fun w hw'=>?_) (by repeat (first | exact Env.le_nil _ | refine Env.le_cons rfl ?_)) (fun _ _=>rfl) (by omega) (Nat.le_refl _)
      obtain⟨i,hi,rfl⟩:=List.getElem_of_mem hw'
      have:=hw i hi
      rwa [List.getD_eq_getElem?_getD,List.getElem?_eq_getElem hi] at this
  rintro-hb
  have hc2:=hc1.mono (AV.ok_mono (Nat.le_succ n) _ hok) (fun i hi=>Heap.upd_ne _ (some ⟨wordsM.map .st,9,false⟩) (show i≠n+1 by omega))
  have g0:((H.upd n (some ⟨r.cells,25,false⟩)).upd (n+1) (some ⟨wordsM.map .st,9,false⟩)) n=some ⟨r.cells,25,false⟩:=by rw[Heap.upd_ne _ _ (by omega),Heap.upd_same]
  have g0':=g0
  simp only[Rg.cells] at g0'
  refine awp_step dr0 (by decide +kernel) ?_
  simp only[go_sem,Rg.cells,g0']
  refine awp_step dr0 (by decide +kernel) ?_
  simp only[go_sem]
  have wf3:(((H.upd n (some ⟨r.cells,25,false⟩)).upd (n+1) (some ⟨wordsM.map .st,9,false⟩)).upd (n+2) (some ⟨r.cells,25,false⟩)).wf (n+3):=Heap.wf_upd wf2 (cells_ok ⟨r,0#8⟩ _)
  have hc3:=hc2.mono (AV.ok_mono (show n≤n+2 by omega) _ hok) (fun i hi=>Heap.upd_ne _ (some ⟨r.cells,25,false⟩) (show i≠n+2 by omega))
  refine awp_gen (fun X=>X.wf (n+3)∧(∀i,i<n→X i=H i)∧X n=some ⟨r.cells,25,false⟩∧X (n+2)=some ⟨r.cells,25,false⟩∧bytesIn X cv code) ⟨wf3,fun i hi=>by repeat (rw[Heap.upd_ne _ _ (by omega)]),(Heap.upd_ne _ _ (by omega)).trans g0,Heap.upd_same _ _ _,hc3⟩ fun X ⟨hXw,hXe,hXn,hX2,hcX⟩=>?_
  refine awp_seqF (S:=Unit) (fun _=>[(1,cv),(2,.pt n 0),(6,.i64 (nameN (pad6 code)).2),(9,.pt (n+2) 0),(10,.i64 0),(11,.bo (isFar (code.getD 0 0#8)))]) (fun _=>X) (fun _=>n+3) (fun _=>True) (fun _ _=>⟨hXw,Env.okAt_of2 (by have:=AV.ok_mono (show n≤n+3 by omega) _ hok; simp[AV.ok,this])⟩) ?_ ?_
  · refine awp_ev dr0 (by decide +kernel) ?_
    rcases hcX with ⟨rfl,rfl⟩ | ⟨su,b,o,c,blk,rfl,h0,h1,h2,h3⟩
    · simp at hl4
    have hlt':0<code.length:=by omega
    obtain⟨q1,q2⟩:=cells_at h2 h3 hlt'
    simp only[go_sem]
    have hvw:¬vw su b o code.length c=AV.junk:=by cases su <;> simp[vw]
    simp only[hvw,go_sem,h1,q1,q2]
    refine⟨by omega,fun e=>⟨by omega,?_⟩,fun e=>?_⟩
    · have hi:isFar (code.getD 0 0#8)=(code.getD 0 0#8==253#8):=by unfold isFar; rw[e,Bool.false_or]
      refine Ends.mk () trivial ?_ (fun _ _=>rfl) (Nat.le_refl _) (Nat.le_refl _)
      rw[hi]; exact(by repeat (first | exact Env.le_nil _ | refine Env.le_cons rfl ?_))
    · have hi:isFar (code.getD 0 0#8)=true:=by unfold isFar; rw[e,Bool.true_or]
      refine Ends.mk () trivial ?_ (fun _ _=>rfl) (Nat.le_refl _) (Nat.le_refl _)
      rw[hi]; exact(by repeat (first | exact Env.le_nil _ | refine Env.le_cons rfl ?_))
  rintro- -
  have hXn':=hXn
  simp only[Rg.cells] at hXn'
  refine awp_step dr0 (by decide +kernel) ?_
  simp only[go_sem,hXn',hne]
  refine c_box r.pc code 0#8 cv _ _ _ hcX (AV.ok_mono (by omega) _ hok) (by omega) fun b H1 m1 F1 w1 l1 r1 o1 f1=>?_
  simp only[go_sem]
  have B0:BS b (n+2) X (fun i=>i=n+2) (boxS r.pc code 0#8) H1 m1:=⟨w1,by omega,⟨F1,r1,fun i hi=>⟨by have:=o1 i hi; omega,fun h=>by have:=o1 i hi; omega⟩⟩,fun i hi=>by omega,fun i hi=>f1 i (by omega)⟩
  have hx0:H1 (n+2)=some ⟨r.cells,25,false⟩:=by rw[f1 _ (by omega)]; exact hX2
  have hx0':=hx0
  simp only[Rg.cells] at hx0'
  refine awp_step dr0 (by decide +kernel) ?_
  simp only[go_sem,hx0']
  refine B0.step r (by rw[left_box]; decide) fun x1 q1 s1 X1 n1 e1 lf1 B1 l3 k1=>?_
  have hx1:=(k1 (n+2) rfl).trans hx0
  simp only[Rg.cells] at hx1
  simp only[go_sem,Rg.cells,hx1]
  have B2:=B1.put (k:=n+2) rfl ⟨x1.cells,25,false⟩ (cells_ok ⟨x1,0#8⟩ _)
  have hx2:(X1.upd (n+2) (some ⟨x1.cells,25,false⟩)) (n+2)=some ⟨x1.cells,25,false⟩:=Heap.upd_same _ _ _
  have q1le:q1≤21:=by
    obtain⟨d1,d2,-,d3⟩:=(Eff.Lv.run (O:=bxO) none _ (boxS r.pc code 0#8) (step_ok r hr)).choose_spec
    rw[e1] at d2; exact d2
  have x1r:x1.right=true:=by
    obtain⟨d1,d2,-,d3⟩:=(Eff.Lv.run (O:=bxO) none _ (boxS r.pc code 0#8) (step_ok r hr)).choose_spec
    rw[e1] at d3; exact d3
  have f0:codeS r.pc code 0#8 code.length r.pc.toNat=(pad6 code).getD 0 0#8:=by
    rw[pad_lt code (by omega)]
    have:=code_at (at_:=r.pc) (fill:=0#8) hl20 (j:=0) (by omega) code.length (by omega) (Nat.le_refl _)
    simpa using this
  have f1':codeS r.pc code 0#8 code.length (r.pc+1#16).toNat=(pad6 code).getD 1 0#8:=by
    rw[pad_lt code (by omega)]
    exact code_at (at_:=r.pc) (fill:=0#8) hl20 (j:=1) (by omega) code.length (by omega) (Nat.le_refl _)
  have p0:(pad6 code).getD 0 0#8=code.getD 0 0#8:=pad_lt code (by omega)
  have hfr:∀i,i<n→X i=H i:=hXe
  refine awp_step dr0 (by decide +kernel) ?_
  simp only[go_sem]
  have w1q:wrap64 (0+(q1:Int))=(q1:Int):=by rw[wrap_id _ (by omega) (by omega)]; omega
  refine awp_step dr0 (by decide +kernel) ?_
  simp only[go_sem,w1q]
  have fnear:isFar (code.getD 0 0#8)=false→x1.pc=r.pc+BitVec.ofNat 16 (nameN (pad6 code)).2∧ticksOk r.r x1.r (if code.getD 0 0#8==203#8||code.getD 0 0#8==237#8 then 2 else 1)=true∧4*(if code.getD 0 0#8==203#8||code.getD 0 0#8==237#8 then 2 else 1)≤q1:=fun hf=>by
    have:=near_law (l:=pad6 code) (code:=code) (lg:=[]) hhlt hpre f0 f1' (by rw[p0]; exact hf) hb
    rw[run_box e1,p0] at this
    exact this
  refine awp_seqF (S:=MvS) (fun s=>[(1,cv),(2,.pt n 0),(6,.i64 (nameN (pad6 code)).2),(9,.pt (n+2) 0),(10,.i64 s.q),(14,.i64 s.k)]) (fun s=>s.H) (fun s=>s.m)
    (fun s=>BS b (n+2) X (fun i=>i=n+2) s.s s.H s.m∧s.H (n+2)=some ⟨s.x.cells,25,false⟩∧s.q≤100∧s.k≤2∧s.x.pc=r.pc+BitVec.ofNat 16 (nameN (pad6 code)).2∧ticksOk r.r s.x.r (if code.getD 0 0#8==203#8||code.getD 0 0#8==237#8 then 2 else s.k)=true∧4*(if code.getD 0 0#8==203#8||code.getD 0 0#8==237#8 then 2 else s.k)≤s.q)
    (fun s ⟨B,_⟩=>⟨B.wf,Env.okAt_of2 (by have:=B.own (n+2) rfl; have:=AV.ok_mono (show n≤s.m by omega) _ hok; simp[AV.ok,this]; omega)⟩) ?_ ?_
  · cases hfar:isFar (code.getD 0 0#8) with
    | false=>
      refine awp_ev dr0 (by decide +kernel) ?_
      simp only[go_sem]
      obtain⟨v1,v2,v3⟩:=fnear hfar
      exact Ends.mk (⟨x1,q1,1,s1,(X1.upd (n+2) (some ⟨x1.cells,25,false⟩)),n1⟩:MvS) ⟨B2,hx2,by simp only; omega,by simp only; omega,v1,v2,v3⟩ (by repeat (first | exact Env.le_nil _ | refine Env.le_cons rfl ?_)) (fun _ _=>rfl) (by simp only; have:=B2.le; omega) (Nat.le_refl _)
    | true=>
      have hx2':=hx2
      simp only[Rg.cells] at hx2'
      refine awp_ev dr0 (by decide +kernel) ?_
      simp only[go_sem,hx2']
      refine B2.step x1 (by rw[left_box] at lf1; omega) fun x2 q2 s2 X2 n2 e2 lf2 B3 l4 k2=>?_
      have hx3:=(k2 (n+2) rfl).trans hx2
      simp only[Rg.cells] at hx3
      simp only[go_sem,Rg.cells,hx3]
      have q2le:q2≤21:=by
        obtain⟨d1,d2,-,d3⟩:=(Eff.Lv.run (O:=bxO) none _ s1 (step_ok x1 x1r)).choose_spec
        rw[e2] at d2; exact d2
      have w2q:wrap64 ((q1:Int)+(q2:Int))=((q1+q2:Nat):Int):=by rw[wrap_id _ (by omega) (by omega)]; omega
      have B4:=B3.put (k:=n+2) rfl ⟨x2.cells,25,false⟩ (cells_ok ⟨x2,0#8⟩ _)
      simp only[w2q]
      have hff:=hfar
      unfold isFar at hff
      obtain⟨l1,hpr⟩:=step_pre (r:=r) (f:=codeS r.pc code 0#8 code.length) (l:=[]) hhlt (f0.trans p0) hff
      have eb:(stepE r).run bxO (boxS r.pc code 0#8)=(({ fetchedR r with pre:=code.getD 0 0#8},4),⟨memL (codeS r.pc code 0#8 code.length),l1⟩):=by
        unfold boxS; rw[run_mem,hpr]
      have he:=e1.symm.trans eb
      simp only[Prod.mk.injEq] at he
      obtain⟨⟨hxe,hqe⟩,hse⟩:=he
      have hfl:=far_law (l:=pad6 code) (lg:=[]) (lg2:=l1) hhlt hpre f0 f1' (by rw[p0]; exact hfar) hb
      rw[p0,← hxe] at hfl
      have e2':=e2
      rw[hse,run_mem] at e2'
      have e3:=congrArg Prod.fst e2'
      simp only at e3
      rw[e3] at hfl
      obtain⟨v1,v2,v3⟩:=hfl
      have ncb:(code.getD 0 0#8==203#8||code.getD 0 0#8==237#8)=false:=by
        have key:∀c:BitVec 8,(c==221#8||c==253#8)=true→(c==203#8||c==237#8)=false:=by decide +kernel
        exact key _ hff
      exact Ends.mk (⟨x2,q1+q2,2,s2,(X2.upd (n+2) (some ⟨x2.cells,25,false⟩)),n2⟩:MvS) ⟨B4,Heap.upd_same _ _ _,by simp only; omega,by simp only; omega,v1,by rw[ncb]; exact v2,by rw[ncb]; simp only[Bool.false_eq_true,if_false]; omega⟩ (by repeat (first | exact Env.le_nil _ | refine Env.le_cons rfl ?_)) (fun _ _=>rfl) (by simp only; have:=B4.le; omega) (Nat.le_refl _)
  rintro⟨x,q,k,s,Y,m⟩ ⟨B,hY,hq,hk2,v1,v2,v3⟩
  simp only at B hY hq hk2 v1 v2 v3 ⊢
  generalize hkk:(if code.getD 0 0#8==203#8||code.getD 0 0#8==237#8 then 2 else k)=kk at v2 v3
  have hYe:∀i,i<n→Y i=H i:=fun i hi=>(B.fr i (by omega)).trans (hXe i hi)
  have hYn:Y n=some ⟨r.cells,25,false⟩:=(B.fr n (by omega)).trans hXn
  have hcY:=hc.mono hok hYe
  refine awp_seqF (S:=Unit) (fun _=>[(2,.pt n 0),(6,.i64 (nameN (pad6 code)).2),(9,.pt (n+2) 0),(10,.i64 q),(14,.i64 kk)]) (fun _=>Y) (fun _=>m) (fun _=>True) (fun _ _=>⟨B.wf,Env.okAt_of2 (by have:=B.own (n+2) rfl; simp[AV.ok]; omega)⟩) ?_ ?_
  · refine awp_ev dr0 (by decide +kernel) ?_
    rcases hcY with ⟨rfl,rfl⟩ | ⟨su,b',o,c,blk,rfl,h0,h1,h2,h3⟩
    · simp at hl4
    have hlt':0<code.length:=by omega
    obtain⟨q1',q2'⟩:=cells_at h2 h3 hlt'
    simp only[go_sem]
    have hvw:¬vw su b' o code.length c=AV.junk:=by cases su <;> simp[vw]
    simp only[hvw,go_sem,h1,q1',q2']
    refine⟨by omega,fun e=>⟨by omega,fun e2=>?_,fun e2=>?_⟩,fun e=>?_⟩
    · rw[e,e2] at hkk
      simp only[Bool.or_true,if_true] at hkk
      subst hkk
      exact Ends.mk () trivial (by repeat (first | exact Env.le_nil _ | refine Env.le_cons rfl ?_)) (fun _ _=>rfl) (Nat.le_refl _) (Nat.le_refl _)
    · rw[e,e2] at hkk
      simp only[Bool.or_false,Bool.false_eq_true,if_false] at hkk
      subst hkk
      exact Ends.mk () trivial (by repeat (first | exact Env.le_nil _ | refine Env.le_cons rfl ?_)) (fun _ _=>rfl) (Nat.le_refl _) (Nat.le_refl _)
    · rw[e] at hkk
      simp only[Bool.true_or,if_true] at hkk
      subst hkk
      exact Ends.mk () trivial (by repeat (first | exact Env.le_nil _ | refine Env.le_cons rfl ?_)) (fun _ _=>rfl) (Nat.le_refl _) (Nat.le_refl _)
  rintro- -
  simp only[Rg.cells] at hY hYn
  refine awp_ev dr0 (by decide +kernel) ?_
  simp only[go_sem,hY,hYn]
  have hkk2:kk≤2:=by rw[← hkk]; split <;> omega
  unfold ticksOk at v2
  rw[Bool.and_eq_true] at v2
  have t1:(x.pc==r.pc+BitVec.ofInt 16 ((nameN (pad6 code)).2:Int))=true:=by rw[v1]; exact beq_self_eq_true _
  have t2:(x.r-r.r&&&127#8==BitVec.ofInt 8 (kk:Int))=true:=v2.1
  have w4:wrap64 (4*(kk:Int))=((4*kk:Nat):Int):=by rw[wrap_id _ (by omega) (by omega)]; omega
  have t4:decide (((4*kk:Nat):Int)≤(q:Int))=true:=decide_eq_true (by omega)
  refine⟨fun _=>⟨fun _=>⟨fun _=>?_,fun e=>absurd (v2.2.symm.trans e) (by decide)⟩,fun e=>absurd (t2.symm.trans e) (by decide)⟩,fun e=>absurd (t1.symm.trans e) (by decide)⟩
  rw[w4,t4]
  exact Fin.back wf h hYe rfl
end Go.Proofs.Joy
namespace Go.Proofs.Joy
open Go.Ab Go
theorem fitsR_cons {k:EK} {ks:List EK} {l:List AV} (h:FitsR (k :: ks) l):∃x l',l=x :: l'∧x.fits k=true∧FitsR ks l':=by
  match l,h with
  | [],h=>simp[FitsR,fits] at h
  | x :: l',⟨h,hr⟩=>
    simp only[fits,Bool.and_eq_true] at h
    exact⟨x,l',rfl,h.1,h.2,fun y hy=>hr y (List.mem_cons_of_mem _ hy)⟩
theorem fits_u8 {x:AV} (h:x.fits (.int .u8)=true):∃v,x=.u8 v:=by cases x <;> simp[AV.fits] at h; exact⟨_,rfl⟩
theorem fits_u16 {x:AV} (h:x.fits (.int .u16)=true):∃v,x=.u16 v:=by cases x <;> simp[AV.fits] at h; exact⟨_,rfl⟩
theorem fits_bool {x:AV} (h:x.fits .bool=true):∃v,x=.bo v:=by cases x <;> simp[AV.fits] at h; exact⟨_,rfl⟩
theorem fitsR_u8 {ks:List EK} {l:List AV} (h:FitsR (.int .u8 :: ks) l):∃x l',l=.u8 x :: l'∧FitsR ks l':=by
  obtain⟨x,l',rfl,h1,h2⟩:=fitsR_cons h
  obtain⟨v,rfl⟩:=fits_u8 h1
  exact⟨v,l',rfl,h2⟩
theorem fitsR_u16 {ks:List EK} {l:List AV} (h:FitsR (.int .u16 :: ks) l):∃x l',l=.u16 x :: l'∧FitsR ks l':=by
  obtain⟨x,l',rfl,h1,h2⟩:=fitsR_cons h
  obtain⟨v,rfl⟩:=fits_u16 h1
  exact⟨v,l',rfl,h2⟩
theorem fitsR_bool {ks:List EK} {l:List AV} (h:FitsR (.bool :: ks) l):∃x l',l=.bo x :: l'∧FitsR ks l':=by
  obtain⟨x,l',rfl,h1,h2⟩:=fitsR_cons h
  obtain⟨v,rfl⟩:=fits_bool h1
  exact⟨v,l',rfl,h2⟩
theorem fitsR_nil {l:List AV} (h:FitsR [] l):l=[]:=by
  match l,h with
  | [],_=>rfl
  | _ :: _,h=>simp[FitsR,fits] at h
def kR:List EK:=[.int .u8,.int .u8,.int .u8,.int .u8,.int .u8,.int .u8,.int .u8,.int .u8,.int .u8,.int .u8,.int .u8,.int .u8,.int .u8,.int .u8,.int .u8,.int .u8,.int .u16,.int .u16,.int .u16,.int .u16,.int .u16,.int .u8,.int .u8,.int .u8,.int .u8,.bool,.bool,.bool,.bool]
def shR:AK:=.ag (kR.map .k)
theorem fitA_rg {H:Heap} {v:AV} (h00:fitA H shR v):∃r:Rg,v=.ag r.cells:=by
  obtain⟨l1,rfl,h1⟩:=fitA_flat h00
  obtain⟨a,l2,rfl,h2⟩:=fitsR_u8 h1
  obtain⟨f,l3,rfl,h3⟩:=fitsR_u8 h2
  obtain⟨b,l4,rfl,h4⟩:=fitsR_u8 h3
  obtain⟨c,l5,rfl,h5⟩:=fitsR_u8 h4
  obtain⟨d,l6,rfl,h6⟩:=fitsR_u8 h5
  obtain⟨e,l7,rfl,h7⟩:=fitsR_u8 h6
  obtain⟨hh_,l8,rfl,h8⟩:=fitsR_u8 h7
  obtain⟨ll_,l9,rfl,h9⟩:=fitsR_u8 h8
  obtain⟨a2,l10,rfl,h10⟩:=fitsR_u8 h9
  obtain⟨f2,l11,rfl,h11⟩:=fitsR_u8 h10
  obtain⟨b2,l12,rfl,h12⟩:=fitsR_u8 h11
  obtain⟨c2,l13,rfl,h13⟩:=fitsR_u8 h12
  obtain⟨d2,l14,rfl,h14⟩:=fitsR_u8 h13
  obtain⟨e2,l15,rfl,h15⟩:=fitsR_u8 h14
  obtain⟨h2_,l16,rfl,h16⟩:=fitsR_u8 h15
  obtain⟨l2_,l17,rfl,h17⟩:=fitsR_u8 h16
  obtain⟨ix,l18,rfl,h18⟩:=fitsR_u16 h17
  obtain⟨iy,l19,rfl,h19⟩:=fitsR_u16 h18
  obtain⟨sp,l20,rfl,h20⟩:=fitsR_u16 h19
  obtain⟨pc,l21,rfl,h21⟩:=fitsR_u16 h20
  obtain⟨wz,l22,rfl,h22⟩:=fitsR_u16 h21
  obtain⟨i,l23,rfl,h23⟩:=fitsR_u8 h22
  obtain⟨r,l24,rfl,h24⟩:=fitsR_u8 h23
  obtain⟨im,l25,rfl,h25⟩:=fitsR_u8 h24
  obtain⟨pre,l26,rfl,h26⟩:=fitsR_u8 h25
  obtain⟨x1,l27,rfl,h27⟩:=fitsR_bool h26
  obtain⟨x2,l28,rfl,h28⟩:=fitsR_bool h27
  obtain⟨x3,l29,rfl,h29⟩:=fitsR_bool h28
  obtain⟨x4,l30,rfl,h30⟩:=fitsR_bool h29
  obtain rfl:=fitsR_nil h30
  exact⟨⟨a,f,b,c,d,e,hh_,ll_,a2,f2,b2,c2,d2,e2,h2_,l2_,ix,iy,sp,pc,wz,i,r,im,pre,x1,x2,x3,x4⟩,rfl⟩
end Go.Proofs.Joy
namespace Go.Proofs.Joy
open Go.Ab Go.Proofs
def shBs:AK:=.one (.s 5 [.int .u8])
end Go.Proofs.Joy
namespace Go.Proofs.Joy
open Go.Ab Go.Proofs
theorem moves_all (H:Heap) (n:Nat) (L:List AV) (_:RO H) (_:H.wf n) (hok:∀x∈L,x.ok n=true) (hf:fitAs H [shR,shBs] L):ACalls Tryz.prog 4 L H n fun v _ _=>v=.bo true:=by
  match L,hf with
  | [a,b],⟨h1,h2,_⟩=>
    obtain⟨r,rfl⟩:=fitA_rg h1
    obtain⟨bs,hb⟩:=fitL_bytesIn (el:=5) h2
    exact moves_walk _ bs _ _ _ _ hb (hok b (by simp)) rfl
end Go.Proofs.Joy
