/- Parts of the proof: contracts of the seat's functions. -/
import Derived.Test.YtofkkcflpkcdaaaGreatJoyX3
import Derived.Test.YtofkkcflpkcdaaaGreatJoyX2
import Derived.Test.YtofkkcflpkcdaaaGreatJoyX4
import Derived.Test.YtofkkcflpkcdaaaGreatJoyW1
set_option linter.unusedSimpArgs false
set_option linter.unusedVariables false
set_option linter.unnecessarySimpa false
namespace Go.Proofs.Joy
open Go.Ab Go.Proofs
set_option maxHeartbeats 2000000
set_option maxRecDepth 20000
structure BxAt (b:Nat) (s:Bx) (H:Heap) (n:Nat) (F:Nat→Prop) (m:Nat) (L:AV):Prop where
  len:s.mem.length=65536
  blk:H b=some ⟨[.sl m 0 65536 65536,L],39,false⟩
  mem:H m=some ⟨s.mem.map .u8,5,false⟩
  log:(s.log=[]∧L=.sn)∨∃q,L=.su q 0 s.log.length 1∧H q=some ⟨s.log.map .i64,3,false⟩∧q≠b∧q≠m∧F q
  bm:b≠m
  fb:F b
  fm:F m
  low:∀i,F i→i<n
def bxRep (b:Nat) (s:Bx) (H:Heap) (n:Nat) (F:Nat→Prop):Prop:=∃m L,BxAt b s H n F m L
theorem bx_stable {b:Nat} {s:Bx} {H:Heap} {n:Nat} {F:Nat→Prop} {H':Heap} {n':Nat} (h:bxRep b s H n F) (he:∀i,F i→H' i=H i) (hn:n≤n'):bxRep b s H' n' F:=by
  obtain⟨m,L,h⟩:=h
  refine⟨m,L,h.len,by rw[he _ h.fb]; exact h.blk,by rw[he _ h.fm]; exact h.mem,?_,h.bm,h.fb,h.fm,fun i hi=>Nat.lt_of_lt_of_le (h.low i hi) hn⟩
  rcases h.log with h1 | ⟨q,h1,h2,h3,h4,h5⟩
  · exact .inl h1
  · exact .inr ⟨q,h1,by rw[he _ h5]; exact h2,h3,h4,h5⟩
theorem u8s_ok (l:List (BitVec 8)) (n:Nat):∀v∈l.map AV.u8,v.ok n=true:=fun v hv=>by obtain⟨x,_,rfl⟩:=List.mem_map.1 hv; rfl
theorem i64s_ok (l:List Int) (n:Nat):∀v∈l.map AV.i64,v.ok n=true:=fun v hv=>by obtain⟨x,_,rfl⟩:=List.mem_map.1 hv; rfl
theorem bx_end {b:Nat} {s:Bx} {H:Heap} {n:Nat} {F:Nat→Prop} {m:Nat} {L:AV} (hB:BxAt b s H n F m L) (mem':List (BitVec 8)) (hl:mem'.length=65536) (x:Int) {H':Heap} (hb':H' b=some ⟨[.sl m 0 65536 65536,.su (n+1) 0 (s.log.length+1) 1],39,false⟩)
    (hm':H' m=some ⟨mem'.map .u8,5,false⟩) (hq':H' (n+1)=some ⟨(s.log++[x]).map .i64,3,false⟩) (hfr:∀i,i<n→¬F i→H' i=H i):
    ∃F',bxRep b ⟨mem',s.log++[x]⟩ H' (n+2) F'∧(∀i,F' i→F i∨n≤i)∧∀i,i<n→¬F i→H' i=H i:=by
  have lb:=hB.low b hB.fb
  have lm:=hB.low m hB.fm
  refine⟨fun i=>F i∨i=n+1,⟨m,_,hl,hb',hm',.inr ⟨n+1,by simp,hq',by omega,by omega,.inr rfl⟩,hB.bm,.inl hB.fb,.inl hB.fm,fun i hi=>?_⟩,fun i hi=>?_,hfr⟩
  · rcases hi with h | h
    · have:=hB.low i h; omega
    · omega
  · rcases hi with h | h
    · exact .inl h
    · exact .inr (by omega)
theorem bx_fin {b:Nat} {s:Bx} {H:Heap} {n:Nat} {F:Nat→Prop} {m:Nat} {L:AV} {K:AV→Heap→Nat→Prop} {V:AV} (hB:BxAt b s H n F m L) (mem':List (BitVec 8)) (hl:mem'.length=65536) (x:Int)
    (h:∀H' n' F',H'.wf n'→n≤n'→bxRep b ⟨mem',s.log++[x]⟩ H' n' F'→(∀i,F' i→F i∨n≤i)→(∀i,i<n→¬F i→H' i=H i)→K V H' n') {H':Heap} (hwf:H'.wf (n+2)) (hb':H' b=some ⟨[.sl m 0 65536 65536,.su (n+1) 0 (s.log.length+1) 1],39,false⟩)
    (hm':H' m=some ⟨mem'.map .u8,5,false⟩) (hq':H' (n+1)=some ⟨(s.log++[x]).map .i64,3,false⟩) (hfr:∀i,i<n→¬F i→H' i=H i):K V H' (n+2):=by
  obtain⟨F',w1,w2,w3⟩:=bx_end hB mem' hl x hb' hm' hq' hfr
  exact h _ _ F' hwf (by omega) w1 w2 w3
theorem u8_getD {l:List (BitVec 8)} {i:Nat} (h:i<l.length):(l.map AV.u8).getD i .junk=.u8 (l.getD i 0#8):=by
  simp[List.getD,List.getElem?_map,List.getElem?_eq_getElem h]
theorem bx_read {b:Nat} {s:Bx} {a:BitVec 16} {H:Heap} {n:Nat} {F:Nat→Prop} {K:AV→Heap→Nat→Prop} (hl:1≤bxLeft s) (hr:bxRep b s H n F) (h:∀H' n' F',H'.wf n'→n≤n'→bxRep b (bxO.rd s a).2 H' n' F'→(∀i,F' i→F i∨n≤i)→(∀i,i<n→¬F i→H' i=H i)→K (.u8 (bxO.rd s a).1) H' n'):ACalls Tryz.prog 214 [.pt b 0,.u16 a] H n K:=by
  refine ACalls.of_awp Tryz.func214 rfl (by decide +kernel) (show 2≤23 by decide) (by simp) fun wf=>?_
  obtain⟨m,L,hB⟩:=hr
  have hb:=hB.blk
  have hm:=hB.mem
  have lb:=hB.low b hB.fb
  have lm:=hB.low m hB.fm
  have eb:=fun X Y=>Heap.upd_ne X (i:=n) (j:=b) Y (by omega)
  have eb1:=fun X Y=>Heap.upd_ne X (i:=n+1) (j:=b) Y (by omega)
  have em:=fun X Y=>Heap.upd_ne X (i:=n) (j:=m) Y (by omega)
  have em1:=fun X Y=>Heap.upd_ne X (i:=n+1) (j:=m) Y (by omega)
  have emb:=fun X Y=>Heap.upd_ne X (i:=b) (j:=m) Y (Ne.symm hB.bm)
  have ebm:=fun X Y=>Heap.upd_ne X (i:=m) (j:=b) Y hB.bm
  have e1b:=fun X Y=>Heap.upd_ne X (i:=b) (j:=n+1) Y (by omega)
  have e1m:=fun X Y=>Heap.upd_ne X (i:=m) (j:=n+1) Y (by omega)
  have hlen:=hB.len
  refine awp_ev dr0 (by decide +kernel) ?_
  unfold bxLeft at hl
  rcases hB.log with ⟨hl0,rfl⟩ | ⟨q,rfl,hq,h3,h4,h5⟩
  · simp only[go_sem,Tryz.f214,hb,hm,eb,eb1,em,em1,emb,ebm]
    have ha:a.toNat<s.mem.length:=by rw[hlen]; exact a.isLt
    rw[u8_getD ha]
    refine⟨by have:=a.isLt; omega,by rw[List.length_map]; exact ha,by simp,?_⟩
    refine Fin.keep (bx_fin hB s.mem (by exact hlen) _ h ?_ ?_ ?_ ?_ ?_)
    · exact Heap.wf_set (Heap.wf_upd (Heap.wf_upd wf (by simp[AV.ok])) (by simp[AV.ok])) (by omega) (by simp[AV.ok]; omega)
    · rw[Heap.upd_same]; simp[hl0]
    · rw[emb,em1,em]; exact hm
    · rw[e1b,Heap.upd_same]; simp[hl0]
    · intro i hi hF
      have hib:i≠b:=fun e=>hF (e▸hB.fb)
      have him:i≠m:=fun e=>hF (e▸hB.fm)
      rw[Heap.upd_ne _ _ hib,Heap.upd_ne _ _ (by omega),Heap.upd_ne _ _ (by omega)]
  · have lq:=hB.low q h5
    have eq:=fun X Y=>Heap.upd_ne X (i:=n) (j:=q) Y (by omega)
    have ebq:=fun X Y=>Heap.upd_ne X (i:=q) (j:=b) Y (Ne.symm h3)
    have emq:=fun X Y=>Heap.upd_ne X (i:=q) (j:=m) Y (Ne.symm h4)
    simp only[go_sem,Tryz.f214,hb,hm,hq,eb,eb1,em,em1,emb,ebm,eq,ebq,emq,List.take_of_length_le (Nat.le_refl (s.log.map AV.i64).length)]
    have ha:a.toNat<s.mem.length:=by rw[hlen]; exact a.isLt
    rw[u8_getD ha]
    refine⟨by rw[List.length_map]; exact Nat.le_refl _,by omega,by have:=a.isLt; omega,by rw[List.length_map]; exact ha,by simp,?_⟩
    rw[List.take_of_length_le (l:=s.log.map AV.i64) (by rw[List.length_map]; exact Nat.le_refl _)]
    refine Fin.keep (bx_fin hB s.mem (by exact hlen) _ h ?_ ?_ ?_ ?_ ?_)
    · exact Heap.wf_set (Heap.wf_upd (Heap.wf_upd_none (Heap.wf_upd wf (by simp[AV.ok]))) (fun v hv=>by rcases List.mem_append.1 hv with hv | hv; exact i64s_ok _ _ v hv; simp only[List.mem_cons,List.not_mem_nil,or_false] at hv; rw[hv]; rfl)) (by omega) (by simp[AV.ok]; omega)
    · rw[Heap.upd_same]
    · rw[emb,em1,emq,em]; exact hm
    · rw[e1b,Heap.upd_same]; simp
    · intro i hi hF
      have hib:i≠b:=fun e=>hF (e▸hB.fb)
      have him:i≠m:=fun e=>hF (e▸hB.fm)
      have hiq:i≠q:=fun e=>hF (e▸h5)
      rw[Heap.upd_ne _ _ hib,Heap.upd_ne _ _ (by omega),Heap.upd_ne _ _ hiq,Heap.upd_ne _ _ (by omega)]
theorem bx_write {b:Nat} {s:Bx} {a:BitVec 16} {x:BitVec 8} {H:Heap} {n:Nat} {F:Nat→Prop} {K:AV→Heap→Nat→Prop} (hl:1≤bxLeft s) (hr:bxRep b s H n F) (h:∀H' n' F',H'.wf n'→n≤n'→bxRep b (bxO.wr s a x) H' n' F'→(∀i,F' i→F i∨n≤i)→(∀i,i<n→¬F i→H' i=H i)→K (.tu []) H' n'):ACalls Tryz.prog 215 [.pt b 0,.u16 a,.u8 x] H n K:=by
  refine ACalls.of_awp Tryz.func215 rfl (by decide +kernel) (show 3≤29 by decide) (by simp) fun wf=>?_
  obtain⟨m,L,hB⟩:=hr
  have hb:=hB.blk
  have hm:=hB.mem
  have lb:=hB.low b hB.fb
  have lm:=hB.low m hB.fm
  have eb:=fun X Y=>Heap.upd_ne X (i:=n) (j:=b) Y (by omega)
  have eb1:=fun X Y=>Heap.upd_ne X (i:=n+1) (j:=b) Y (by omega)
  have em:=fun X Y=>Heap.upd_ne X (i:=n) (j:=m) Y (by omega)
  have em1:=fun X Y=>Heap.upd_ne X (i:=n+1) (j:=m) Y (by omega)
  have emb:=fun X Y=>Heap.upd_ne X (i:=b) (j:=m) Y (Ne.symm hB.bm)
  have ebm:=fun X Y=>Heap.upd_ne X (i:=m) (j:=b) Y hB.bm
  have e1b:=fun X Y=>Heap.upd_ne X (i:=b) (j:=n+1) Y (by omega)
  have e1m:=fun X Y=>Heap.upd_ne X (i:=m) (j:=n+1) Y (by omega)
  have hlen:=hB.len
  refine awp_ev dr0 (by decide +kernel) ?_
  unfold bxLeft at hl
  rcases hB.log with ⟨hl0,rfl⟩ | ⟨q,rfl,hq,h3,h4,h5⟩
  · simp only[go_sem,Tryz.f215,hb,hm,eb,eb1,em,em1,emb,ebm]
    have ha:a.toNat<s.mem.length:=by rw[hlen]; exact a.isLt
    refine⟨by have:=a.isLt; omega,by rw[List.length_map]; exact ha,?_⟩
    refine Fin.keep (bx_fin hB (s.mem.set a.toNat x) (by rw[List.length_set]; exact hlen) _ h ?_ ?_ ?_ ?_ ?_)
    · exact Heap.wf_set (Heap.wf_set (Heap.wf_upd (Heap.wf_upd wf (by simp[AV.ok])) (by simp[AV.ok])) (by omega) (by simp[AV.ok]; omega)) (by omega) (fun v hv=>by rw[← List.map_set] at hv; exact u8s_ok _ _ v hv)
    · rw[ebm,Heap.upd_same]; simp[hl0]
    · rw[Heap.upd_same,List.map_set]
    · rw[e1m,e1b,Heap.upd_same]; simp[hl0]
    · intro i hi hF
      have hib:i≠b:=fun e=>hF (e▸hB.fb)
      have him:i≠m:=fun e=>hF (e▸hB.fm)
      rw[Heap.upd_ne _ _ him,Heap.upd_ne _ _ hib,Heap.upd_ne _ _ (by omega),Heap.upd_ne _ _ (by omega)]
  · have lq:=hB.low q h5
    have eq:=fun X Y=>Heap.upd_ne X (i:=n) (j:=q) Y (by omega)
    have ebq:=fun X Y=>Heap.upd_ne X (i:=q) (j:=b) Y (Ne.symm h3)
    have emq:=fun X Y=>Heap.upd_ne X (i:=q) (j:=m) Y (Ne.symm h4)
    simp only[go_sem,Tryz.f215,hb,hm,hq,eb,eb1,em,em1,emb,ebm,eq,ebq,emq,List.take_of_length_le (Nat.le_refl (s.log.map AV.i64).length)]
    have ha:a.toNat<s.mem.length:=by rw[hlen]; exact a.isLt
    refine⟨by rw[List.length_map]; exact Nat.le_refl _,by omega,by have:=a.isLt; omega,by rw[List.length_map]; exact ha,?_⟩
    rw[List.take_of_length_le (l:=s.log.map AV.i64) (by rw[List.length_map]; exact Nat.le_refl _)]
    refine Fin.keep (bx_fin hB (s.mem.set a.toNat x) (by rw[List.length_set]; exact hlen) _ h ?_ ?_ ?_ ?_ ?_)
    · exact Heap.wf_set (Heap.wf_set (Heap.wf_upd (Heap.wf_upd_none (Heap.wf_upd wf (by simp[AV.ok]))) (fun v hv=>by rcases List.mem_append.1 hv with hv | hv; exact i64s_ok _ _ v hv; simp only[List.mem_cons,List.not_mem_nil,or_false] at hv; rw[hv]; rfl)) (by omega) (by simp[AV.ok]; omega)) (by omega) (fun v hv=>by rw[← List.map_set] at hv; exact u8s_ok _ _ v hv)
    · rw[ebm,Heap.upd_same]
    · rw[Heap.upd_same,List.map_set]
    · rw[e1m,e1b,Heap.upd_same]; simp
    · intro i hi hF
      have hib:i≠b:=fun e=>hF (e▸hB.fb)
      have him:i≠m:=fun e=>hF (e▸hB.fm)
      have hiq:i≠q:=fun e=>hF (e▸h5)
      rw[Heap.upd_ne _ _ him,Heap.upd_ne _ _ hib,Heap.upd_ne _ _ (by omega),Heap.upd_ne _ _ hiq,Heap.upd_ne _ _ (by omega)]
theorem bx_inp {b:Nat} {s:Bx} {p:BitVec 16} {u:Int} {H:Heap} {n:Nat} {F:Nat→Prop} {K:AV→Heap→Nat→Prop} (hu:0≤u∧u≤100) (hl:1≤bxLeft s) (hr:bxRep b s H n F) (h:∀H' n' F',H'.wf n'→n≤n'→bxRep b (bxO.inp s p u).2 H' n' F'→(∀i,F' i→F i∨n≤i)→(∀i,i<n→¬F i→H' i=H i)→K (.u8 (bxO.inp s p u).1) H' n'):ACalls Tryz.prog 212 [.pt b 0,.u16 p,.i64 u] H n K:=by
  refine ACalls.of_awp Tryz.func212 rfl (by decide +kernel) (show 3≤33 by decide) (by simp) fun wf=>?_
  obtain⟨m,L,hB⟩:=hr
  have hb:=hB.blk
  have hm:=hB.mem
  have lb:=hB.low b hB.fb
  have lm:=hB.low m hB.fm
  have eb:=fun X Y=>Heap.upd_ne X (i:=n) (j:=b) Y (by omega)
  have eb1:=fun X Y=>Heap.upd_ne X (i:=n+1) (j:=b) Y (by omega)
  have em:=fun X Y=>Heap.upd_ne X (i:=n) (j:=m) Y (by omega)
  have em1:=fun X Y=>Heap.upd_ne X (i:=n+1) (j:=m) Y (by omega)
  have emb:=fun X Y=>Heap.upd_ne X (i:=b) (j:=m) Y (Ne.symm hB.bm)
  have ebm:=fun X Y=>Heap.upd_ne X (i:=m) (j:=b) Y hB.bm
  have e1b:=fun X Y=>Heap.upd_ne X (i:=b) (j:=n+1) Y (by omega)
  have e1m:=fun X Y=>Heap.upd_ne X (i:=m) (j:=n+1) Y (by omega)
  have hlen:=hB.len
  refine awp_ev dr0 (by decide +kernel) ?_
  unfold bxLeft at hl
  rcases hB.log with ⟨hl0,rfl⟩ | ⟨q,rfl,hq,h3,h4,h5⟩
  · simp only[go_sem,Tryz.f212,hb,hm,eb,eb1,em,em1,emb,ebm]
    have e13:wrap64 13=wrap64 (((s.log.length+1:Nat):Int)*13):=by rw[hl0]; rfl
    rw[e13]
    refine Fin.keep (bx_fin hB s.mem (by exact hlen) _ h ?_ ?_ ?_ ?_ ?_)
    · exact Heap.wf_set (Heap.wf_upd (Heap.wf_upd wf (by simp[AV.ok])) (by simp[AV.ok])) (by omega) (by simp[AV.ok]; omega)
    · rw[Heap.upd_same]; simp[hl0]
    · rw[emb,em1,em]; exact hm
    · rw[e1b,Heap.upd_same]; simp[hl0]
    · intro i hi hF
      have hib:i≠b:=fun e=>hF (e▸hB.fb)
      have him:i≠m:=fun e=>hF (e▸hB.fm)
      rw[Heap.upd_ne _ _ hib,Heap.upd_ne _ _ (by omega),Heap.upd_ne _ _ (by omega)]
  · have lq:=hB.low q h5
    have eq:=fun X Y=>Heap.upd_ne X (i:=n) (j:=q) Y (by omega)
    have ebq:=fun X Y=>Heap.upd_ne X (i:=q) (j:=b) Y (Ne.symm h3)
    have emq:=fun X Y=>Heap.upd_ne X (i:=q) (j:=m) Y (Ne.symm h4)
    simp only[go_sem,Tryz.f212,hb,hm,hq,eb,eb1,em,em1,emb,ebm,eq,ebq,emq,List.take_of_length_le (Nat.le_refl (s.log.map AV.i64).length)]
    refine⟨by rw[List.length_map]; exact Nat.le_refl _,by omega,?_⟩
    rw[List.take_of_length_le (l:=s.log.map AV.i64) (by rw[List.length_map]; exact Nat.le_refl _)]
    refine Fin.keep (bx_fin hB s.mem (by exact hlen) _ h ?_ ?_ ?_ ?_ ?_)
    · exact Heap.wf_set (Heap.wf_upd (Heap.wf_upd_none (Heap.wf_upd wf (by simp[AV.ok]))) (fun v hv=>by rcases List.mem_append.1 hv with hv | hv; exact i64s_ok _ _ v hv; simp only[List.mem_cons,List.not_mem_nil,or_false] at hv; rw[hv]; rfl)) (by omega) (by simp[AV.ok]; omega)
    · rw[Heap.upd_same]
    · rw[emb,em1,emq,em]; exact hm
    · rw[e1b,Heap.upd_same]; simp
    · intro i hi hF
      have hib:i≠b:=fun e=>hF (e▸hB.fb)
      have him:i≠m:=fun e=>hF (e▸hB.fm)
      have hiq:i≠q:=fun e=>hF (e▸h5)
      rw[Heap.upd_ne _ _ hib,Heap.upd_ne _ _ (by omega),Heap.upd_ne _ _ hiq,Heap.upd_ne _ _ (by omega)]
theorem bx_out {b:Nat} {s:Bx} {p:BitVec 16} {x:BitVec 8} {u:Int} {H:Heap} {n:Nat} {F:Nat→Prop} {K:AV→Heap→Nat→Prop} (hu:0≤u∧u≤100) (hl:1≤bxLeft s) (hr:bxRep b s H n F) (h:∀H' n' F',H'.wf n'→n≤n'→bxRep b (bxO.out s p x u) H' n' F'→(∀i,F' i→F i∨n≤i)→(∀i,i<n→¬F i→H' i=H i)→K (.tu []) H' n'):ACalls Tryz.prog 213 [.pt b 0,.u16 p,.u8 x,.i64 u] H n K:=by
  refine ACalls.of_awp Tryz.func213 rfl (by decide +kernel) (show 4≤27 by decide) (by simp) fun wf=>?_
  obtain⟨m,L,hB⟩:=hr
  have hb:=hB.blk
  have hm:=hB.mem
  have lb:=hB.low b hB.fb
  have lm:=hB.low m hB.fm
  have eb:=fun X Y=>Heap.upd_ne X (i:=n) (j:=b) Y (by omega)
  have eb1:=fun X Y=>Heap.upd_ne X (i:=n+1) (j:=b) Y (by omega)
  have em:=fun X Y=>Heap.upd_ne X (i:=n) (j:=m) Y (by omega)
  have em1:=fun X Y=>Heap.upd_ne X (i:=n+1) (j:=m) Y (by omega)
  have emb:=fun X Y=>Heap.upd_ne X (i:=b) (j:=m) Y (Ne.symm hB.bm)
  have ebm:=fun X Y=>Heap.upd_ne X (i:=m) (j:=b) Y hB.bm
  have e1b:=fun X Y=>Heap.upd_ne X (i:=b) (j:=n+1) Y (by omega)
  have e1m:=fun X Y=>Heap.upd_ne X (i:=m) (j:=n+1) Y (by omega)
  have hlen:=hB.len
  refine awp_ev dr0 (by decide +kernel) ?_
  unfold bxLeft at hl
  rcases hB.log with ⟨hl0,rfl⟩ | ⟨q,rfl,hq,h3,h4,h5⟩
  · simp only[go_sem,Tryz.f213,hb,hm,eb,eb1,em,em1,emb,ebm]
    refine Fin.keep (bx_fin hB s.mem (by exact hlen) _ h ?_ ?_ ?_ ?_ ?_)
    · exact Heap.wf_set (Heap.wf_upd (Heap.wf_upd wf (by simp[AV.ok])) (by simp[AV.ok])) (by omega) (by simp[AV.ok]; omega)
    · rw[Heap.upd_same]; simp[hl0]
    · rw[emb,em1,em]; exact hm
    · rw[e1b,Heap.upd_same]; simp[hl0]
    · intro i hi hF
      have hib:i≠b:=fun e=>hF (e▸hB.fb)
      have him:i≠m:=fun e=>hF (e▸hB.fm)
      rw[Heap.upd_ne _ _ hib,Heap.upd_ne _ _ (by omega),Heap.upd_ne _ _ (by omega)]
  · have lq:=hB.low q h5
    have eq:=fun X Y=>Heap.upd_ne X (i:=n) (j:=q) Y (by omega)
    have ebq:=fun X Y=>Heap.upd_ne X (i:=q) (j:=b) Y (Ne.symm h3)
    have emq:=fun X Y=>Heap.upd_ne X (i:=q) (j:=m) Y (Ne.symm h4)
    simp only[go_sem,Tryz.f213,hb,hm,hq,eb,eb1,em,em1,emb,ebm,eq,ebq,emq,List.take_of_length_le (Nat.le_refl (s.log.map AV.i64).length)]
    refine⟨by rw[List.length_map]; exact Nat.le_refl _,by omega,?_⟩
    rw[List.take_of_length_le (l:=s.log.map AV.i64) (by rw[List.length_map]; exact Nat.le_refl _)]
    refine Fin.keep (bx_fin hB s.mem (by exact hlen) _ h ?_ ?_ ?_ ?_ ?_)
    · exact Heap.wf_set (Heap.wf_upd (Heap.wf_upd_none (Heap.wf_upd wf (by simp[AV.ok]))) (fun v hv=>by rcases List.mem_append.1 hv with hv | hv; exact i64s_ok _ _ v hv; simp only[List.mem_cons,List.not_mem_nil,or_false] at hv; rw[hv]; rfl)) (by omega) (by simp[AV.ok]; omega)
    · rw[Heap.upd_same]
    · rw[emb,em1,emq,em]; exact hm
    · rw[e1b,Heap.upd_same]; simp
    · intro i hi hF
      have hib:i≠b:=fun e=>hF (e▸hB.fb)
      have him:i≠m:=fun e=>hF (e▸hB.fm)
      have hiq:i≠q:=fun e=>hF (e▸h5)
      rw[Heap.upd_ne _ _ hib,Heap.upd_ne _ _ (by omega),Heap.upd_ne _ _ hiq,Heap.upd_ne _ _ (by omega)]
end Go.Proofs.Joy
namespace Go.Proofs.Joy
open Go.Ab Go.Proofs
set_option maxHeartbeats 2000000
set_option maxRecDepth 20000
def boxW (b:Nat):WC Tryz.prog Bx where
  O:=bxO
  v:=.pt b 0
  kr:=214
  kw:=215
  ki:=212
  ko:=213
  rep:=bxRep b
  left:=bxLeft
  lrd:=bx_lrd
  lwr:=bx_lwr
  lin:=bx_lin
  lout:=bx_lout
  vok:=fun⟨_,_,h⟩=>by have:=h.low b h.fb; simp[AV.ok,this]
  low:=fun⟨_,_,h⟩ hi=>h.low _ hi
  stable:=bx_stable
  read:=bx_read
  write:=bx_write
  inp:=bx_inp
  out:=bx_out
theorem boxM (b:Nat):MT (boxW b) 29:=⟨(by show mthT Tryz.prog 29 "Read" =some 214; decide +kernel),(by show mthT Tryz.prog 29 "Write" =some 215; decide +kernel),(by show mthT Tryz.prog 29 "In" =some 212; decide +kernel),(by show mthT Tryz.prog 29 "Out" =some 213; decide +kernel)⟩
theorem c_right (r:Rg) (H:Heap) (n:Nat) (K:AV→Heap→Nat→Prop) (h:K (.bo r.right) H n):ACalls Tryz.prog 8 [.ag r.cells] H n K:=by
  refine ACalls.of_awp Tryz.func8 rfl (by decide +kernel) (show 1≤21 by decide) (by simp) fun wf=>?_
  refine awp_ev dr0 (by decide +kernel) ?_
  simp only[go_sem,Tryz.f8,Rg.cells]
  have hle:(decide (r.im≤2#8))=decide (r.im<3#8):=by
    generalize r.im=x
    revert x; decide +kernel
  unfold Rg.right at h
  rw[hle] at h
  have hf:∀i,i<n→(H.upd n (some ⟨r.cells,25,false⟩)) i=H i:=fun i hi=>Heap.upd_ne _ _ (by omega)
  refine⟨fun e=>⟨fun e0=>⟨fun e1=>?_,fun e1=>?_⟩,fun e0=>?_⟩,fun e=>?_⟩
  · simp only[e,e0,e1,decide_true,Bool.true_and,Bool.false_or] at h
    exact Fin.back wf h hf rfl
  · simp only[e,e0,e1,decide_true,Bool.true_and,Bool.false_or,Bool.true_or] at h
    exact Fin.back wf h hf rfl
  · simp only[e,e0,decide_true,Bool.true_and,Bool.true_or] at h
    exact Fin.back wf h hf rfl
  · simp only[e,decide_false,Bool.false_and] at h
    exact Fin.back wf h hf rfl
structure BoS where
  j:Nat
def boH (H:Heap) (n:Nat) (f:Nat→BitVec 8):Heap:=(H.upd n (some ⟨(memL f).map .u8,5,false⟩)).upd (n+1) (some ⟨[.sl n 0 65536 65536,.sn],39,false⟩)
theorem boH_wf {H:Heap} {n:Nat} (wf:H.wf n) (f:Nat→BitVec 8):(boH H n f).wf (n+2):=Heap.wf_upd (Heap.wf_upd wf (u8s_ok (memL f) _)) (fun v hv=>by simp only[List.mem_cons,List.not_mem_nil,or_false] at hv; rcases hv with rfl | rfl; exact decide_eq_true (by omega); rfl)
def half1 (fill:BitVec 8) (j:Nat):Nat→BitVec 8:=fun i=>if i<j then fillS fill i else 0#8
theorem c_box (at_:BitVec 16) (code:List (BitVec 8)) (fill:BitVec 8) (cv:AV) (H:Heap) (n:Nat) (K:AV→Heap→Nat→Prop) (hc:bytesIn H cv code) (hok:cv.ok n=true) (hl:code.length≤1000)
    (h:∀b H' n' F',H'.wf n'→n≤n'→bxRep b (boxS at_ code fill) H' n' F'→(∀i,F' i→n≤i)→(∀i,i<n→H' i=H i)→K (.pt b 0) H' n'):ACalls Tryz.prog 9 [.u16 at_,cv,.u8 fill] H n K:=by
  have hne:cv≠ .junk:=hc.ne
  refine ACalls.of_awp Tryz.func9 rfl (by decide +kernel) (show 3≤56 by decide) (by simp; exact hne) fun wf=>?_
  refine awp_step dr0 (by decide +kernel) ?_
  simp only[go_sem,Tryz.f9]
  refine awp_step dr0 (by decide +kernel) ?_
  simp only[go_sem]
  refine awp_step dr0 (by decide +kernel) ?_
  simp only[go_sem]
  have e0:(repCells 65536 [AV.u8 0#8])=(memL (half1 fill 0)).map .u8:=by
    rw[rep_u8,← memL_zero]; rfl
  rw[e0]
  refine awp_loopF (S:=BoS) (fun s=>[(0,.u16 at_),(1,cv),(2,.u8 fill),(7,.pt (n+1) 0),(18,.i64 65536),(19,.i64 s.j)]) (fun s=>boH H n (half1 fill s.j)) (fun _=>n+2) (fun s=>s.j≤65536) (fun s=>65536-s.j)
    (fun s _=>⟨boH_wf wf _,Env.okAt_of2 (by simp[AV.ok]; exact AV.ok_mono (by omega) _ hok)⟩) ?_ ⟨0⟩ (Nat.zero_le _) (by repeat (first | exact Env.le_nil _ | refine Env.le_cons rfl ?_)) (fun _ _=>rfl) rfl
  rintro⟨j⟩ hj
  simp only at hj ⊢
  refine awp_step dr0 (by decide +kernel) ?_
  simp only[go_sem]
  refine awp_step dr0 (by decide +kernel) ?_
  simp only[go_sem]
  refine⟨fun hlt=>?_,fun hlt=>?_⟩
  · refine awp_ev dr0 (by decide +kernel) ?_
    simp only[go_sem,boH]
    refine⟨by omega,by rw[List.length_map,memL_len]; omega,?_⟩
    have e1:(wrap64 ((j:Int)+1))=((j+1:Nat):Int):=by rw[wrap_id _ (by omega) (by omega)]; omega
    have e2:BitVec.ofInt 8 (j:Int)*fill^^^BitVec.ofInt 8 (wrap64 ((j:Int).tdiv 256))=fillS fill j:=by
      unfold fillS
      have:wrap64 ((j:Int).tdiv 256)=((j / 256:Nat):Int):=by
        rw[show(j:Int).tdiv 256=((j / 256:Nat):Int) from rfl]; exact wrap_id _ (by omega) (by omega)
      rw[this]; rfl
    have e3:(List.map AV.u8 (memL (half1 fill j))).set j (AV.u8 (fillS fill j))=(memL (half1 fill (j+1))).map .u8:=by
      rw[← List.map_set,memL_set]
      congr 1
      apply memL_congr
      intro i _
      simp only[half1]
      by_cases h1:i=j
      · subst h1; rw[if_pos rfl,if_pos (by omega)]
      · rw[if_neg h1]
        by_cases h2:i<j
        · rw[if_pos h2,if_pos (by omega)]
        · rw[if_neg h2,if_neg (by omega)]
    rw[e1,e2,e3]
    refine Ends.mk (⟨j+1⟩:BoS) ⟨by simp only; omega,by simp only; omega⟩ (by repeat (first | exact Env.le_nil _ | refine Env.le_cons rfl ?_)) (fun i _=>?_) (Nat.le_refl _) (Nat.le_refl _)
    simp only[Heap.upd]
    by_cases h1:i=n
    · subst h1; simp
    · simp[h1]
  · have hj2:j=65536:=by omega
    subst hj2
    have e4:boH H n (half1 fill 65536)=boH H n (codeS at_ code fill 0):=by unfold boH; rw[memL_congr (f:=half1 fill 65536) (g:=codeS at_ code fill 0) fun i hi=>if_pos hi]
    rw[e4]
    have hvok:cv.ok n=true:=hok
    have hlb:∀K,lenB (some .slice) cv K=K (.i64 code.length):=lenB_bytes hc
    have hcc:bytesIn (boH H n (codeS at_ code fill 0)) cv code:=hc.mono hok (fun i hi=>by unfold boH; rw[Heap.upd_ne _ _ (by omega),Heap.upd_ne _ _ (by omega)])
    refine awp_seq (awp_step dr0 (by decide +kernel) ?_)
    simp only[go_sem,hlb]
    refine awp_block ?_
    refine awp_loopF (S:=BoS) (fun s=>[(0,.u16 at_),(37,cv),(7,.pt (n+1) 0),(38,.i64 code.length),(39,.i64 s.j)]) (fun s=>boH H n (codeS at_ code fill s.j)) (fun _=>n+2) (fun s=>s.j≤code.length) (fun s=>code.length-s.j)
      (fun s _=>⟨boH_wf wf _,Env.okAt_of2 (by simp[AV.ok]; exact AV.ok_mono (by omega) _ hok)⟩) ?_ ⟨0⟩ (Nat.zero_le _) (by repeat (first | exact Env.le_nil _ | refine Env.le_cons rfl ?_)) (fun _ _=>rfl) rfl
    rintro⟨j⟩ hj
    simp only at hj ⊢
    refine awp_step dr0 (by decide +kernel) ?_
    simp only[go_sem]
    refine awp_step dr0 (by decide +kernel) ?_
    simp only[go_sem]
    refine⟨fun hlt=>?_,fun hlt=>?_⟩
    · have hlt':j<code.length:=by omega
      refine awp_ev dr0 (by decide +kernel) ?_
      simp only[go_sem]
      rcases hc with ⟨rfl,rfl⟩ | ⟨su,b,o,c,blk,rfl,h0,h1,h2,h3⟩
      · simp at hlt'
      have hbn:=(wf b _ h1).1
      have hbb:boH H n (codeS at_ code fill j) b=some blk:=by unfold boH; rw[Heap.upd_ne _ _ (by omega),Heap.upd_ne _ _ (by omega)]; exact h1
      refine ixB_vw hlt' ?_
      obtain⟨q1,q2⟩:=cells_at h2 h3 hlt'
      simp only[go_sem,hbb,q1,q2,true_and]
      simp only[go_sem,boH]
      have e1:(wrap64 ((j:Int)+1))=((j+1:Nat):Int):=by rw[wrap_id _ (by omega) (by omega)]; omega
      have e2:BitVec.ofInt 16 (j:Int)=BitVec.ofNat 16 j:=rfl
      rw[e2]
      have ha:=(at_+BitVec.ofNat 16 j).isLt
      refine⟨by omega,by rw[List.length_map,memL_len]; omega,?_⟩
      have e3:(List.map AV.u8 (memL (codeS at_ code fill j))).set (at_+BitVec.ofNat 16 j).toNat (AV.u8 (code.getD j 0#8))=(memL (codeS at_ code fill (j+1))).map .u8:=by
        rw[← List.map_set,memL_set]; rfl
      rw[e1,e3]
      refine Ends.mk (⟨j+1⟩:BoS) ⟨by simp only; omega,by simp only; omega⟩ (by repeat (first | exact Env.le_nil _ | refine Env.le_cons rfl ?_)) (fun i _=>?_) (Nat.le_refl _) (Nat.le_refl _)
      simp only[Heap.upd]
      by_cases h1:i=n
      · subst h1; simp
      · simp[h1]
    · have hj3:j=code.length:=by omega
      subst hj3
      refine awp_ev dr0 (by decide +kernel) ?_
      simp only[go_sem]
      refine Fin.keep (h (n+1) _ _ (fun i=>i=n∨i=n+1) (boH_wf wf _) (by omega) ⟨n,.sn,memL_len _,?_,?_,.inl ⟨rfl,rfl⟩,by omega,.inr rfl,.inl rfl,fun i hi=>by rcases hi with h | h <;> omega⟩ (fun i hi=>by rcases hi with h | h <;> omega) (fun i hi=>?_))
      · unfold boH; rw[Heap.upd_same]
      · unfold boH; rw[Heap.upd_ne _ _ (by omega),Heap.upd_same]; rfl
      · unfold boH; rw[Heap.upd_ne _ _ (by omega),Heap.upd_ne _ _ (by omega)]
end Go.Proofs.Joy
namespace Go.Proofs.Joy
open Go.Ab Go.Proofs
set_option maxHeartbeats 2000000
set_option maxRecDepth 20000
structure FlAt (b:Nat) (s:Bx) (H:Heap) (n:Nat) (F:Nat→Prop) (m:Nat) (L A:AV) (k:Nat) (ac:List AV):Prop where
  len:s.mem.length=65536
  blk:H b=some ⟨[.sl m 0 65536 65536,.pn,L,.bo false,.u8 0#8,A],43,false⟩
  mem:H m=some ⟨s.mem.map .u8,5,false⟩
  log:(s.log=[]∧L=.sn)∨∃q,L=.su q 0 s.log.length 1∧H q=some ⟨s.log.map .i64,3,false⟩∧q≠b∧q≠m∧F q
  kle:k≤s.log.length
  acl:ac.length=k*4
  aok:∀v∈ac,∀n,v.ok n=true
  asks:(k=0∧A=.sn)∨∃q,A=.su q 0 k 4∧H q=some ⟨ac,170,false⟩∧q≠b∧q≠m∧F q
  bm:b≠m
  fb:F b
  fm:F m
  low:∀i,F i→i<n
def flRep (b:Nat) (s:Bx) (H:Heap) (n:Nat) (F:Nat→Prop):Prop:=∃m L A k ac,FlAt b s H n F m L A k ac
theorem fl_stable {b:Nat} {s:Bx} {H:Heap} {n:Nat} {F:Nat→Prop} {H':Heap} {n':Nat} (h:flRep b s H n F) (he:∀i,F i→H' i=H i) (hn:n≤n'):flRep b s H' n' F:=by
  obtain⟨m,L,A,k,ac,h⟩:=h
  refine⟨m,L,A,k,ac,h.len,by rw[he _ h.fb]; exact h.blk,by rw[he _ h.fm]; exact h.mem,?_,h.kle,h.acl,h.aok,?_,h.bm,h.fb,h.fm,fun i hi=>Nat.lt_of_lt_of_le (h.low i hi) hn⟩
  · rcases h.log with h1 | ⟨q,h1,h2,h3,h4,h5⟩
    · exact .inl h1
    · exact .inr ⟨q,h1,by rw[he _ h5]; exact h2,h3,h4,h5⟩
  · rcases h.asks with h1 | ⟨q,h1,h2,h3,h4,h5⟩
    · exact .inl h1
    · exact .inr ⟨q,h1,by rw[he _ h5]; exact h2,h3,h4,h5⟩
theorem sp4 (a b c d a' b' c' d':AV):splice (repCells 1 [a',b',c',d']) 0 [a,b,c,d]=[a,b,c,d]:=rfl
theorem oks_app' {a b:List AV} (h1:∀v∈a,∀n,v.ok n=true) (h2:∀v∈b,∀n,v.ok n=true):∀v∈a++b,∀n,v.ok n=true:=fun v hv=>(List.mem_append.1 hv).elim (h1 v) (h2 v)
theorem FlAt.blkok {b:Nat} {s:Bx} {H:Heap} {n:Nat} {F:Nat→Prop} {m:Nat} {L A:AV} {k:Nat} {ac:List AV} (hB:FlAt b s H n F m L A k ac) (wf:H.wf n):L.ok n=true∧A.ok n=true:=by
  have h:=(wf _ _ hB.blk).2
  exact⟨h L (by simp),h A (by simp)⟩
theorem oks_app {a b:List AV} {n:Nat} (h1:∀v∈a,v.ok n=true) (h2:∀v∈b,v.ok n=true):∀v∈a++b,v.ok n=true:=fun v hv=>(List.mem_append.1 hv).elim (h1 v) (h2 v)
theorem fl_read {b:Nat} {s:Bx} {a:BitVec 16} {H:Heap} {n:Nat} {F:Nat→Prop} {K:AV→Heap→Nat→Prop} (hl:1≤bxLeft s) (hr:flRep b s H n F) (h:∀H' n' F',H'.wf n'→n≤n'→flRep b (bxO.rd s a).2 H' n' F'→(∀i,F' i→F i∨n≤i)→(∀i,i<n→¬F i→H' i=H i)→K (.u8 (bxO.rd s a).1) H' n'):ACalls Tryz.prog 66 [.pt b 0,.u16 a] H n K:=by
  refine ACalls.of_awp Tryz.func66 rfl (by decide +kernel) (show 2≤34 by decide) (by simp) fun wf=>?_
  obtain⟨m,L,A,k,ac,hB⟩:=hr
  have hb:=hB.blk
  have hm:=hB.mem
  have lb:=hB.low b hB.fb
  have lm:=hB.low m hB.fm
  have hbm:=hB.bm
  have hlen:=hB.len
  have hacl:=hB.acl
  have hkle:=hB.kle
  unfold bxLeft at hl
  rcases hB.log with ⟨hl0,rfl⟩ | ⟨q,rfl,hq,h3,h4,h5⟩
  · have en_b:=fun X Y=>Heap.upd_ne X (i:=n) (j:=b) Y (by omega)
    have en1_b:=fun X Y=>Heap.upd_ne X (i:=n+1) (j:=b) Y (by omega)
    have em_b:=fun X Y=>Heap.upd_ne X (i:=m) (j:=b) Y (by omega)
    have en_m:=fun X Y=>Heap.upd_ne X (i:=n) (j:=m) Y (by omega)
    have en1_m:=fun X Y=>Heap.upd_ne X (i:=n+1) (j:=m) Y (by omega)
    have eb_m:=fun X Y=>Heap.upd_ne X (i:=b) (j:=m) Y (by omega)
    have eb_n:=fun X Y=>Heap.upd_ne X (i:=b) (j:=n) Y (by omega)
    have em_n:=fun X Y=>Heap.upd_ne X (i:=m) (j:=n) Y (by omega)
    have en1_n:=fun X Y=>Heap.upd_ne X (i:=n+1) (j:=n) Y (by omega)
    have eb_n1:=fun X Y=>Heap.upd_ne X (i:=b) (j:=n+1) Y (by omega)
    have em_n1:=fun X Y=>Heap.upd_ne X (i:=m) (j:=n+1) Y (by omega)
    have en_n1:=fun X Y=>Heap.upd_ne X (i:=n) (j:=n+1) Y (by omega)
    refine awp_ev dr0 (by decide +kernel) ?_
    simp only[go_sem,Tryz.f66,hb,hm,en_b,en1_b,em_b,en_m,en1_m,eb_m,eb_n,em_n,en1_n,eb_n1,em_n1,en_n1,sp4]
    have ha:a.toNat<s.mem.length:=by rw[hlen]; exact a.isLt
    have ha2:=a.isLt
    rw[u8_getD ha]
    refine⟨by first | omega | (rw[List.length_map]; omega) | (rw[List.length_map]; exact ha) | decide | (exact Nat.le_refl _) | simp,by first | omega | (rw[List.length_map]; omega) | (rw[List.length_map]; exact ha) | decide | (exact Nat.le_refl _) | simp,by first | omega | (rw[List.length_map]; omega) | (rw[List.length_map]; exact ha) | decide | (exact Nat.le_refl _) | simp,Fin.keep (h _ _ (fun i=>F i∨i=n+1) ?_ (by omega) ⟨m,.su (n+1) 0 (s.log.length+1) 1,A,k,ac,by first | exact hlen | (show _=_; exact hlen),by simp only[Heap.upd_same,en_b,en1_b,em_b,en_m,en1_m,eb_m,eb_n,em_n,en1_n,eb_n1,em_n1,en_n1] <;> simp[bxO,hl0],by simp only[Heap.upd_same,en_b,en1_b,em_b,en_m,en1_m,eb_m,eb_n,em_n,en1_n,eb_n1,em_n1,en_n1]; first | exact hm | (show _=some (⟨(s.mem.set _ _).map .u8,_,_⟩:Blk); rw[List.map_set]),.inr ⟨n+1,by simp[bxO,hl0],by simp only[Heap.upd_same,en_b,en1_b,em_b,en_m,en1_m,eb_m,eb_n,em_n,en1_n,eb_n1,em_n1,en_n1] <;> simp[bxO,hl0],by omega,by omega,.inr rfl⟩,by show k≤(s.log++[_]).length; rw[List.length_append]; omega,hacl,hB.aok,?_,hbm,.inl hB.fb,.inl hB.fm,fun i hi=>?_⟩ (fun i hi=>?_) (fun i hi hF=>?_))⟩
    · repeat' first
        | exact wf
        | refine Heap.wf_upd ?_ ?_
        | refine Heap.wf_upd_none ?_
        | refine Heap.wf_set ?_ (by omega) ?_
      all_goals first | (simp[AV.ok]; done) | (simp[AV.ok]; omega) | exact oks_app (i64s_ok _ _) (by simp[AV.ok]) | exact oks_app (fun v hv=>hB.aok v hv _) (by simp[AV.ok]) | (rw[← List.map_set]; exact u8s_ok _ _) | (have q1:=AV.ok_mono (show n≤n+2 by omega) _ (hB.blkok wf).1; have q2:=AV.ok_mono (show n≤n+2 by omega) _ (hB.blkok wf).2; simp[AV.ok,q1,q2] <;> omega) | (have q1:=AV.ok_mono (show n≤n+4 by omega) _ (hB.blkok wf).1; have q2:=AV.ok_mono (show n≤n+4 by omega) _ (hB.blkok wf).2; simp[AV.ok,q1,q2] <;> omega)
    · rcases hB.asks with h1 | ⟨p',h1,hp,g3,g4,g5⟩
      · exact .inl h1
      · have lp:=hB.low p' g5
        refine .inr ⟨p',h1,?_,g3,g4,.inl g5⟩
        repeat (rw[Heap.upd_ne _ _ (by omega)])
        exact hp
    · rcases hi with h | h
      · have:=hB.low i h; omega
      · omega
    · rcases hi with h | h
      · exact .inl h
      · exact .inr (by omega)
    · have hib:i≠b:=fun e=>hF (e▸hB.fb)
      have him:i≠m:=fun e=>hF (e▸hB.fm)
      repeat (rw[Heap.upd_ne _ _ (by omega)])
  · have lq:=hB.low q h5
    have en_b:=fun X Y=>Heap.upd_ne X (i:=n) (j:=b) Y (by omega)
    have en1_b:=fun X Y=>Heap.upd_ne X (i:=n+1) (j:=b) Y (by omega)
    have em_b:=fun X Y=>Heap.upd_ne X (i:=m) (j:=b) Y (by omega)
    have eq_b:=fun X Y=>Heap.upd_ne X (i:=q) (j:=b) Y (by omega)
    have en_m:=fun X Y=>Heap.upd_ne X (i:=n) (j:=m) Y (by omega)
    have en1_m:=fun X Y=>Heap.upd_ne X (i:=n+1) (j:=m) Y (by omega)
    have eb_m:=fun X Y=>Heap.upd_ne X (i:=b) (j:=m) Y (by omega)
    have eq_m:=fun X Y=>Heap.upd_ne X (i:=q) (j:=m) Y (by omega)
    have en_q:=fun X Y=>Heap.upd_ne X (i:=n) (j:=q) Y (by omega)
    have en1_q:=fun X Y=>Heap.upd_ne X (i:=n+1) (j:=q) Y (by omega)
    have eb_q:=fun X Y=>Heap.upd_ne X (i:=b) (j:=q) Y (by omega)
    have em_q:=fun X Y=>Heap.upd_ne X (i:=m) (j:=q) Y (by omega)
    have eb_n:=fun X Y=>Heap.upd_ne X (i:=b) (j:=n) Y (by omega)
    have em_n:=fun X Y=>Heap.upd_ne X (i:=m) (j:=n) Y (by omega)
    have eq_n:=fun X Y=>Heap.upd_ne X (i:=q) (j:=n) Y (by omega)
    have en1_n:=fun X Y=>Heap.upd_ne X (i:=n+1) (j:=n) Y (by omega)
    have eb_n1:=fun X Y=>Heap.upd_ne X (i:=b) (j:=n+1) Y (by omega)
    have em_n1:=fun X Y=>Heap.upd_ne X (i:=m) (j:=n+1) Y (by omega)
    have eq_n1:=fun X Y=>Heap.upd_ne X (i:=q) (j:=n+1) Y (by omega)
    have en_n1:=fun X Y=>Heap.upd_ne X (i:=n) (j:=n+1) Y (by omega)
    refine awp_ev dr0 (by decide +kernel) ?_
    simp only[go_sem,Tryz.f66,hb,hm,hq,en_b,en1_b,em_b,eq_b,en_m,en1_m,eb_m,eq_m,en_q,en1_q,eb_q,em_q,eb_n,em_n,eq_n,en1_n,eb_n1,em_n1,eq_n1,en_n1,sp4]
    have ha:a.toNat<s.mem.length:=by rw[hlen]; exact a.isLt
    have ha2:=a.isLt
    rw[u8_getD ha]
    try rw[List.take_of_length_le (l:=s.log.map AV.i64) (by rw[List.length_map]; exact Nat.le_refl _)]
    refine⟨by first | omega | (rw[List.length_map]; omega) | (rw[List.length_map]; exact ha) | decide | (exact Nat.le_refl _) | simp,by first | omega | (rw[List.length_map]; omega) | (rw[List.length_map]; exact ha) | decide | (exact Nat.le_refl _) | simp,by first | omega | (rw[List.length_map]; omega) | (rw[List.length_map]; exact ha) | decide | (exact Nat.le_refl _) | simp,by first | omega | (rw[List.length_map]; omega) | (rw[List.length_map]; exact ha) | decide | (exact Nat.le_refl _) | simp,by first | omega | (rw[List.length_map]; omega) | (rw[List.length_map]; exact ha) | decide | (exact Nat.le_refl _) | simp,Fin.keep (h _ _ (fun i=>F i∨i=n+1) ?_ (by omega) ⟨m,.su (n+1) 0 (s.log.length+1) 1,A,k,ac,by first | exact hlen | (show _=_; exact hlen),by simp only[Heap.upd_same,en_b,en1_b,em_b,eq_b,en_m,en1_m,eb_m,eq_m,en_q,en1_q,eb_q,em_q,eb_n,em_n,eq_n,en1_n,eb_n1,em_n1,eq_n1,en_n1] <;> simp[bxO],by simp only[Heap.upd_same,en_b,en1_b,em_b,eq_b,en_m,en1_m,eb_m,eq_m,en_q,en1_q,eb_q,em_q,eb_n,em_n,eq_n,en1_n,eb_n1,em_n1,eq_n1,en_n1]; first | exact hm | (show _=some (⟨(s.mem.set _ _).map .u8,_,_⟩:Blk); rw[List.map_set]),.inr ⟨n+1,by simp[bxO],by simp only[Heap.upd_same,en_b,en1_b,em_b,eq_b,en_m,en1_m,eb_m,eq_m,en_q,en1_q,eb_q,em_q,eb_n,em_n,eq_n,en1_n,eb_n1,em_n1,eq_n1,en_n1] <;> simp[bxO],by omega,by omega,.inr rfl⟩,by show k≤(s.log++[_]).length; rw[List.length_append]; omega,hacl,hB.aok,?_,hbm,.inl hB.fb,.inl hB.fm,fun i hi=>?_⟩ (fun i hi=>?_) (fun i hi hF=>?_))⟩
    · repeat' first
        | exact wf
        | refine Heap.wf_upd ?_ ?_
        | refine Heap.wf_upd_none ?_
        | refine Heap.wf_set ?_ (by omega) ?_
      all_goals first | (simp[AV.ok]; done) | (simp[AV.ok]; omega) | exact oks_app (i64s_ok _ _) (by simp[AV.ok]) | exact oks_app (fun v hv=>hB.aok v hv _) (by simp[AV.ok]) | (rw[← List.map_set]; exact u8s_ok _ _) | (have q1:=AV.ok_mono (show n≤n+2 by omega) _ (hB.blkok wf).1; have q2:=AV.ok_mono (show n≤n+2 by omega) _ (hB.blkok wf).2; simp[AV.ok,q1,q2] <;> omega) | (have q1:=AV.ok_mono (show n≤n+4 by omega) _ (hB.blkok wf).1; have q2:=AV.ok_mono (show n≤n+4 by omega) _ (hB.blkok wf).2; simp[AV.ok,q1,q2] <;> omega)
    · rcases hB.asks with h1 | ⟨p',h1,hp,g3,g4,g5⟩
      · exact .inl h1
      · have lp:=hB.low p' g5
        have hqp:p'≠q:=fun e=>by subst e; rw[hq] at hp; simp at hp
        refine .inr ⟨p',h1,?_,g3,g4,.inl g5⟩
        repeat (rw[Heap.upd_ne _ _ (by omega)])
        exact hp
    · rcases hi with h | h
      · have:=hB.low i h; omega
      · omega
    · rcases hi with h | h
      · exact .inl h
      · exact .inr (by omega)
    · have hib:i≠b:=fun e=>hF (e▸hB.fb)
      have him:i≠m:=fun e=>hF (e▸hB.fm)
      have hiq:i≠q:=fun e=>hF (e▸h5)
      repeat (rw[Heap.upd_ne _ _ (by omega)])
theorem fl_write {b:Nat} {s:Bx} {a:BitVec 16} {x:BitVec 8} {H:Heap} {n:Nat} {F:Nat→Prop} {K:AV→Heap→Nat→Prop} (hl:1≤bxLeft s) (hr:flRep b s H n F) (h:∀H' n' F',H'.wf n'→n≤n'→flRep b (bxO.wr s a x) H' n' F'→(∀i,F' i→F i∨n≤i)→(∀i,i<n→¬F i→H' i=H i)→K (.tu []) H' n'):ACalls Tryz.prog 89 [.pt b 0,.u16 a,.u8 x] H n K:=by
  refine ACalls.of_awp Tryz.func89 rfl (by decide +kernel) (show 3≤45 by decide) (by simp) fun wf=>?_
  obtain⟨m,L,A,k,ac,hB⟩:=hr
  have hb:=hB.blk
  have hm:=hB.mem
  have lb:=hB.low b hB.fb
  have lm:=hB.low m hB.fm
  have hbm:=hB.bm
  have hlen:=hB.len
  have hacl:=hB.acl
  have hkle:=hB.kle
  unfold bxLeft at hl
  rcases hB.log with ⟨hl0,rfl⟩ | ⟨q,rfl,hq,h3,h4,h5⟩
  · have en_b:=fun X Y=>Heap.upd_ne X (i:=n) (j:=b) Y (by omega)
    have en1_b:=fun X Y=>Heap.upd_ne X (i:=n+1) (j:=b) Y (by omega)
    have em_b:=fun X Y=>Heap.upd_ne X (i:=m) (j:=b) Y (by omega)
    have en_m:=fun X Y=>Heap.upd_ne X (i:=n) (j:=m) Y (by omega)
    have en1_m:=fun X Y=>Heap.upd_ne X (i:=n+1) (j:=m) Y (by omega)
    have eb_m:=fun X Y=>Heap.upd_ne X (i:=b) (j:=m) Y (by omega)
    have eb_n:=fun X Y=>Heap.upd_ne X (i:=b) (j:=n) Y (by omega)
    have em_n:=fun X Y=>Heap.upd_ne X (i:=m) (j:=n) Y (by omega)
    have en1_n:=fun X Y=>Heap.upd_ne X (i:=n+1) (j:=n) Y (by omega)
    have eb_n1:=fun X Y=>Heap.upd_ne X (i:=b) (j:=n+1) Y (by omega)
    have em_n1:=fun X Y=>Heap.upd_ne X (i:=m) (j:=n+1) Y (by omega)
    have en_n1:=fun X Y=>Heap.upd_ne X (i:=n) (j:=n+1) Y (by omega)
    refine awp_ev dr0 (by decide +kernel) ?_
    simp only[go_sem,Tryz.f89,hb,hm,en_b,en1_b,em_b,en_m,en1_m,eb_m,eb_n,em_n,en1_n,eb_n1,em_n1,en_n1,sp4]
    have ha:a.toNat<s.mem.length:=by rw[hlen]; exact a.isLt
    have ha2:=a.isLt
    refine⟨by first | omega | (rw[List.length_map]; omega) | (rw[List.length_map]; exact ha) | decide | (exact Nat.le_refl _) | simp,by first | omega | (rw[List.length_map]; omega) | (rw[List.length_map]; exact ha) | decide | (exact Nat.le_refl _) | simp,Fin.keep (h _ _ (fun i=>F i∨i=n+1) ?_ (by omega) ⟨m,.su (n+1) 0 (s.log.length+1) 1,A,k,ac,by first | exact hlen | (show(s.mem.set _ _).length=_; rw[List.length_set]; exact hlen),by simp only[Heap.upd_same,en_b,en1_b,em_b,en_m,en1_m,eb_m,eb_n,em_n,en1_n,eb_n1,em_n1,en_n1] <;> simp[bxO,hl0],by simp only[Heap.upd_same,en_b,en1_b,em_b,en_m,en1_m,eb_m,eb_n,em_n,en1_n,eb_n1,em_n1,en_n1]; first | exact hm | (show _=some (⟨(s.mem.set _ _).map .u8,_,_⟩:Blk); rw[List.map_set]),.inr ⟨n+1,by simp[bxO,hl0],by simp only[Heap.upd_same,en_b,en1_b,em_b,en_m,en1_m,eb_m,eb_n,em_n,en1_n,eb_n1,em_n1,en_n1] <;> simp[bxO,hl0],by omega,by omega,.inr rfl⟩,by show k≤(s.log++[_]).length; rw[List.length_append]; omega,hacl,hB.aok,?_,hbm,.inl hB.fb,.inl hB.fm,fun i hi=>?_⟩ (fun i hi=>?_) (fun i hi hF=>?_))⟩
    · repeat' first
        | exact wf
        | refine Heap.wf_upd ?_ ?_
        | refine Heap.wf_upd_none ?_
        | refine Heap.wf_set ?_ (by omega) ?_
      all_goals first | (simp[AV.ok]; done) | (simp[AV.ok]; omega) | exact oks_app (i64s_ok _ _) (by simp[AV.ok]) | exact oks_app (fun v hv=>hB.aok v hv _) (by simp[AV.ok]) | (rw[← List.map_set]; exact u8s_ok _ _) | (have q1:=AV.ok_mono (show n≤n+2 by omega) _ (hB.blkok wf).1; have q2:=AV.ok_mono (show n≤n+2 by omega) _ (hB.blkok wf).2; simp[AV.ok,q1,q2] <;> omega) | (have q1:=AV.ok_mono (show n≤n+4 by omega) _ (hB.blkok wf).1; have q2:=AV.ok_mono (show n≤n+4 by omega) _ (hB.blkok wf).2; simp[AV.ok,q1,q2] <;> omega)
    · rcases hB.asks with h1 | ⟨p',h1,hp,g3,g4,g5⟩
      · exact .inl h1
      · have lp:=hB.low p' g5
        refine .inr ⟨p',h1,?_,g3,g4,.inl g5⟩
        repeat (rw[Heap.upd_ne _ _ (by omega)])
        exact hp
    · rcases hi with h | h
      · have:=hB.low i h; omega
      · omega
    · rcases hi with h | h
      · exact .inl h
      · exact .inr (by omega)
    · have hib:i≠b:=fun e=>hF (e▸hB.fb)
      have him:i≠m:=fun e=>hF (e▸hB.fm)
      repeat (rw[Heap.upd_ne _ _ (by omega)])
  · have lq:=hB.low q h5
    have en_b:=fun X Y=>Heap.upd_ne X (i:=n) (j:=b) Y (by omega)
    have en1_b:=fun X Y=>Heap.upd_ne X (i:=n+1) (j:=b) Y (by omega)
    have em_b:=fun X Y=>Heap.upd_ne X (i:=m) (j:=b) Y (by omega)
    have eq_b:=fun X Y=>Heap.upd_ne X (i:=q) (j:=b) Y (by omega)
    have en_m:=fun X Y=>Heap.upd_ne X (i:=n) (j:=m) Y (by omega)
    have en1_m:=fun X Y=>Heap.upd_ne X (i:=n+1) (j:=m) Y (by omega)
    have eb_m:=fun X Y=>Heap.upd_ne X (i:=b) (j:=m) Y (by omega)
    have eq_m:=fun X Y=>Heap.upd_ne X (i:=q) (j:=m) Y (by omega)
    have en_q:=fun X Y=>Heap.upd_ne X (i:=n) (j:=q) Y (by omega)
    have en1_q:=fun X Y=>Heap.upd_ne X (i:=n+1) (j:=q) Y (by omega)
    have eb_q:=fun X Y=>Heap.upd_ne X (i:=b) (j:=q) Y (by omega)
    have em_q:=fun X Y=>Heap.upd_ne X (i:=m) (j:=q) Y (by omega)
    have eb_n:=fun X Y=>Heap.upd_ne X (i:=b) (j:=n) Y (by omega)
    have em_n:=fun X Y=>Heap.upd_ne X (i:=m) (j:=n) Y (by omega)
    have eq_n:=fun X Y=>Heap.upd_ne X (i:=q) (j:=n) Y (by omega)
    have en1_n:=fun X Y=>Heap.upd_ne X (i:=n+1) (j:=n) Y (by omega)
    have eb_n1:=fun X Y=>Heap.upd_ne X (i:=b) (j:=n+1) Y (by omega)
    have em_n1:=fun X Y=>Heap.upd_ne X (i:=m) (j:=n+1) Y (by omega)
    have eq_n1:=fun X Y=>Heap.upd_ne X (i:=q) (j:=n+1) Y (by omega)
    have en_n1:=fun X Y=>Heap.upd_ne X (i:=n) (j:=n+1) Y (by omega)
    refine awp_ev dr0 (by decide +kernel) ?_
    simp only[go_sem,Tryz.f89,hb,hm,hq,en_b,en1_b,em_b,eq_b,en_m,en1_m,eb_m,eq_m,en_q,en1_q,eb_q,em_q,eb_n,em_n,eq_n,en1_n,eb_n1,em_n1,eq_n1,en_n1,sp4]
    have ha:a.toNat<s.mem.length:=by rw[hlen]; exact a.isLt
    have ha2:=a.isLt
    try rw[List.take_of_length_le (l:=s.log.map AV.i64) (by rw[List.length_map]; exact Nat.le_refl _)]
    refine⟨by first | omega | (rw[List.length_map]; omega) | (rw[List.length_map]; exact ha) | decide | (exact Nat.le_refl _) | simp,by first | omega | (rw[List.length_map]; omega) | (rw[List.length_map]; exact ha) | decide | (exact Nat.le_refl _) | simp,by first | omega | (rw[List.length_map]; omega) | (rw[List.length_map]; exact ha) | decide | (exact Nat.le_refl _) | simp,by first | omega | (rw[List.length_map]; omega) | (rw[List.length_map]; exact ha) | decide | (exact Nat.le_refl _) | simp,Fin.keep (h _ _ (fun i=>F i∨i=n+1) ?_ (by omega) ⟨m,.su (n+1) 0 (s.log.length+1) 1,A,k,ac,by first | exact hlen | (show(s.mem.set _ _).length=_; rw[List.length_set]; exact hlen),by simp only[Heap.upd_same,en_b,en1_b,em_b,eq_b,en_m,en1_m,eb_m,eq_m,en_q,en1_q,eb_q,em_q,eb_n,em_n,eq_n,en1_n,eb_n1,em_n1,eq_n1,en_n1] <;> simp[bxO],by simp only[Heap.upd_same,en_b,en1_b,em_b,eq_b,en_m,en1_m,eb_m,eq_m,en_q,en1_q,eb_q,em_q,eb_n,em_n,eq_n,en1_n,eb_n1,em_n1,eq_n1,en_n1]; first | exact hm | (show _=some (⟨(s.mem.set _ _).map .u8,_,_⟩:Blk); rw[List.map_set]),.inr ⟨n+1,by simp[bxO],by simp only[Heap.upd_same,en_b,en1_b,em_b,eq_b,en_m,en1_m,eb_m,eq_m,en_q,en1_q,eb_q,em_q,eb_n,em_n,eq_n,en1_n,eb_n1,em_n1,eq_n1,en_n1] <;> simp[bxO],by omega,by omega,.inr rfl⟩,by show k≤(s.log++[_]).length; rw[List.length_append]; omega,hacl,hB.aok,?_,hbm,.inl hB.fb,.inl hB.fm,fun i hi=>?_⟩ (fun i hi=>?_) (fun i hi hF=>?_))⟩
    · repeat' first
        | exact wf
        | refine Heap.wf_upd ?_ ?_
        | refine Heap.wf_upd_none ?_
        | refine Heap.wf_set ?_ (by omega) ?_
      all_goals first | (simp[AV.ok]; done) | (simp[AV.ok]; omega) | exact oks_app (i64s_ok _ _) (by simp[AV.ok]) | exact oks_app (fun v hv=>hB.aok v hv _) (by simp[AV.ok]) | (rw[← List.map_set]; exact u8s_ok _ _) | (have q1:=AV.ok_mono (show n≤n+2 by omega) _ (hB.blkok wf).1; have q2:=AV.ok_mono (show n≤n+2 by omega) _ (hB.blkok wf).2; simp[AV.ok,q1,q2] <;> omega) | (have q1:=AV.ok_mono (show n≤n+4 by omega) _ (hB.blkok wf).1; have q2:=AV.ok_mono (show n≤n+4 by omega) _ (hB.blkok wf).2; simp[AV.ok,q1,q2] <;> omega)
    · rcases hB.asks with h1 | ⟨p',h1,hp,g3,g4,g5⟩
      · exact .inl h1
      · have lp:=hB.low p' g5
        have hqp:p'≠q:=fun e=>by subst e; rw[hq] at hp; simp at hp
        refine .inr ⟨p',h1,?_,g3,g4,.inl g5⟩
        repeat (rw[Heap.upd_ne _ _ (by omega)])
        exact hp
    · rcases hi with h | h
      · have:=hB.low i h; omega
      · omega
    · rcases hi with h | h
      · exact .inl h
      · exact .inr (by omega)
    · have hib:i≠b:=fun e=>hF (e▸hB.fb)
      have him:i≠m:=fun e=>hF (e▸hB.fm)
      have hiq:i≠q:=fun e=>hF (e▸h5)
      repeat (rw[Heap.upd_ne _ _ (by omega)])
theorem fl_inp {b:Nat} {s:Bx} {p:BitVec 16} {u:Int} {H:Heap} {n:Nat} {F:Nat→Prop} {K:AV→Heap→Nat→Prop} (hu:0≤u∧u≤100) (hl:1≤bxLeft s) (hr:flRep b s H n F) (h:∀H' n' F',H'.wf n'→n≤n'→flRep b (bxO.inp s p u).2 H' n' F'→(∀i,F' i→F i∨n≤i)→(∀i,i<n→¬F i→H' i=H i)→K (.u8 (bxO.inp s p u).1) H' n'):ACalls Tryz.prog 145 [.pt b 0,.u16 p,.i64 u] H n K:=by
  refine ACalls.of_awp Tryz.func145 rfl (by decide +kernel) (show 3≤54 by decide) (by simp) fun wf=>?_
  obtain⟨m,L,A,k,ac,hB⟩:=hr
  have hb:=hB.blk
  have hm:=hB.mem
  have lb:=hB.low b hB.fb
  have lm:=hB.low m hB.fm
  have hbm:=hB.bm
  have hlen:=hB.len
  have hacl:=hB.acl
  have hkle:=hB.kle
  unfold bxLeft at hl
  rcases hB.log with ⟨hl0,rfl⟩ | ⟨q,rfl,hq,h3,h4,h5⟩
  · rcases hB.asks with ⟨hk0,rfl⟩ | ⟨p',rfl,hp,g3,g4,g5⟩
    · have en_b:=fun X Y=>Heap.upd_ne X (i:=n) (j:=b) Y (by omega)
      have en1_b:=fun X Y=>Heap.upd_ne X (i:=n+1) (j:=b) Y (by omega)
      have en2_b:=fun X Y=>Heap.upd_ne X (i:=n+2) (j:=b) Y (by omega)
      have en3_b:=fun X Y=>Heap.upd_ne X (i:=n+3) (j:=b) Y (by omega)
      have em_b:=fun X Y=>Heap.upd_ne X (i:=m) (j:=b) Y (by omega)
      have en_m:=fun X Y=>Heap.upd_ne X (i:=n) (j:=m) Y (by omega)
      have en1_m:=fun X Y=>Heap.upd_ne X (i:=n+1) (j:=m) Y (by omega)
      have en2_m:=fun X Y=>Heap.upd_ne X (i:=n+2) (j:=m) Y (by omega)
      have en3_m:=fun X Y=>Heap.upd_ne X (i:=n+3) (j:=m) Y (by omega)
      have eb_m:=fun X Y=>Heap.upd_ne X (i:=b) (j:=m) Y (by omega)
      have eb_n:=fun X Y=>Heap.upd_ne X (i:=b) (j:=n) Y (by omega)
      have em_n:=fun X Y=>Heap.upd_ne X (i:=m) (j:=n) Y (by omega)
      have en1_n:=fun X Y=>Heap.upd_ne X (i:=n+1) (j:=n) Y (by omega)
      have en2_n:=fun X Y=>Heap.upd_ne X (i:=n+2) (j:=n) Y (by omega)
      have en3_n:=fun X Y=>Heap.upd_ne X (i:=n+3) (j:=n) Y (by omega)
      have eb_n1:=fun X Y=>Heap.upd_ne X (i:=b) (j:=n+1) Y (by omega)
      have em_n1:=fun X Y=>Heap.upd_ne X (i:=m) (j:=n+1) Y (by omega)
      have en_n1:=fun X Y=>Heap.upd_ne X (i:=n) (j:=n+1) Y (by omega)
      have en2_n1:=fun X Y=>Heap.upd_ne X (i:=n+2) (j:=n+1) Y (by omega)
      have en3_n1:=fun X Y=>Heap.upd_ne X (i:=n+3) (j:=n+1) Y (by omega)
      have eb_n2:=fun X Y=>Heap.upd_ne X (i:=b) (j:=n+2) Y (by omega)
      have em_n2:=fun X Y=>Heap.upd_ne X (i:=m) (j:=n+2) Y (by omega)
      have en_n2:=fun X Y=>Heap.upd_ne X (i:=n) (j:=n+2) Y (by omega)
      have en1_n2:=fun X Y=>Heap.upd_ne X (i:=n+1) (j:=n+2) Y (by omega)
      have en3_n2:=fun X Y=>Heap.upd_ne X (i:=n+3) (j:=n+2) Y (by omega)
      have eb_n3:=fun X Y=>Heap.upd_ne X (i:=b) (j:=n+3) Y (by omega)
      have em_n3:=fun X Y=>Heap.upd_ne X (i:=m) (j:=n+3) Y (by omega)
      have en_n3:=fun X Y=>Heap.upd_ne X (i:=n) (j:=n+3) Y (by omega)
      have en1_n3:=fun X Y=>Heap.upd_ne X (i:=n+1) (j:=n+3) Y (by omega)
      have en2_n3:=fun X Y=>Heap.upd_ne X (i:=n+2) (j:=n+3) Y (by omega)
      refine awp_ev dr0 (by decide +kernel) ?_
      simp only[go_sem,Tryz.f145,hb,hm,en_b,en1_b,en2_b,en3_b,em_b,en_m,en1_m,en2_m,en3_m,eb_m,eb_n,em_n,en1_n,en2_n,en3_n,eb_n1,em_n1,en_n1,en2_n1,en3_n1,eb_n2,em_n2,en_n2,en1_n2,en3_n2,eb_n3,em_n3,en_n3,en1_n3,en2_n3,sp4]
      have e13:wrap64 13=wrap64 (((s.log.length+1:Nat):Int)*13):=by rw[hl0]; rfl
      rw[e13]
      subst hk0
      have hac0:ac=[]:=List.length_eq_zero_iff.1 (by omega)
      subst hac0
      refine⟨by first | omega | (rw[List.length_map]; omega) | (rw[List.length_map]; exact ha) | decide | (exact Nat.le_refl _) | simp,Fin.keep (h _ _ (fun i=>F i∨i=n+1∨i=n+3) ?_ (by omega) ⟨m,.su (n+1) 0 (s.log.length+1) 1,.su (n+3) 0 (0+1) 4,0+1,([]:List AV)++[.bo false,.u16 p,.u8 0#8,.i64 u],by first | exact hlen | (show _=_; exact hlen),by simp only[Heap.upd_same,en_b,en1_b,en2_b,en3_b,em_b,en_m,en1_m,en2_m,en3_m,eb_m,eb_n,em_n,en1_n,en2_n,en3_n,eb_n1,em_n1,en_n1,en2_n1,en3_n1,eb_n2,em_n2,en_n2,en1_n2,en3_n2,eb_n3,em_n3,en_n3,en1_n3,en2_n3] <;> simp[bxO,hl0],by simp only[Heap.upd_same,en_b,en1_b,en2_b,en3_b,em_b,en_m,en1_m,en2_m,en3_m,eb_m,eb_n,em_n,en1_n,en2_n,en3_n,eb_n1,em_n1,en_n1,en2_n1,en3_n1,eb_n2,em_n2,en_n2,en1_n2,en3_n2,eb_n3,em_n3,en_n3,en1_n3,en2_n3]; first | exact hm | (show _=some (⟨(s.mem.set _ _).map .u8,_,_⟩:Blk); rw[List.map_set]),.inr ⟨n+1,by simp[bxO,hl0],by simp only[Heap.upd_same,en_b,en1_b,en2_b,en3_b,em_b,en_m,en1_m,en2_m,en3_m,eb_m,eb_n,em_n,en1_n,en2_n,en3_n,eb_n1,em_n1,en_n1,en2_n1,en3_n1,eb_n2,em_n2,en_n2,en1_n2,en3_n2,eb_n3,em_n3,en_n3,en1_n3,en2_n3] <;> simp[bxO,hl0],by omega,by omega,.inr (.inl rfl)⟩,by show 0+1≤(s.log++[_]).length; simp,rfl,by simp[AV.ok],.inr ⟨n+3,rfl,by simp only[Heap.upd_same,en_b,en1_b,en2_b,en3_b,em_b,en_m,en1_m,en2_m,en3_m,eb_m,eb_n,em_n,en1_n,en2_n,en3_n,eb_n1,em_n1,en_n1,en2_n1,en3_n1,eb_n2,em_n2,en_n2,en1_n2,en3_n2,eb_n3,em_n3,en_n3,en1_n3,en2_n3]; rfl,by omega,by omega,.inr (.inr rfl)⟩,hbm,.inl hB.fb,.inl hB.fm,fun i hi=>?_⟩ (fun i hi=>?_) (fun i hi hF=>?_))⟩
      · repeat' first
          | exact wf
          | refine Heap.wf_upd ?_ ?_
          | refine Heap.wf_upd_none ?_
          | refine Heap.wf_set ?_ (by omega) ?_
        all_goals first | (simp[AV.ok]; done) | (simp[AV.ok]; omega) | exact oks_app (i64s_ok _ _) (by simp[AV.ok]) | exact oks_app (fun v hv=>hB.aok v hv _) (by simp[AV.ok]) | (rw[← List.map_set]; exact u8s_ok _ _) | (have q1:=AV.ok_mono (show n≤n+2 by omega) _ (hB.blkok wf).1; have q2:=AV.ok_mono (show n≤n+2 by omega) _ (hB.blkok wf).2; simp[AV.ok,q1,q2] <;> omega) | (have q1:=AV.ok_mono (show n≤n+4 by omega) _ (hB.blkok wf).1; have q2:=AV.ok_mono (show n≤n+4 by omega) _ (hB.blkok wf).2; simp[AV.ok,q1,q2] <;> omega)
      · rcases hi with h | h | h
        · have:=hB.low i h; omega
        · omega
        · omega
      · rcases hi with h | h | h
        · exact .inl h
        · exact .inr (by omega)
        · exact .inr (by omega)
      · have hib:i≠b:=fun e=>hF (e▸hB.fb)
        have him:i≠m:=fun e=>hF (e▸hB.fm)
        repeat (rw[Heap.upd_ne _ _ (by omega)])
    · have lp:=hB.low p' g5
      have en_b:=fun X Y=>Heap.upd_ne X (i:=n) (j:=b) Y (by omega)
      have en1_b:=fun X Y=>Heap.upd_ne X (i:=n+1) (j:=b) Y (by omega)
      have en2_b:=fun X Y=>Heap.upd_ne X (i:=n+2) (j:=b) Y (by omega)
      have en3_b:=fun X Y=>Heap.upd_ne X (i:=n+3) (j:=b) Y (by omega)
      have em_b:=fun X Y=>Heap.upd_ne X (i:=m) (j:=b) Y (by omega)
      have ep_b:=fun X Y=>Heap.upd_ne X (i:=p') (j:=b) Y (by omega)
      have en_m:=fun X Y=>Heap.upd_ne X (i:=n) (j:=m) Y (by omega)
      have en1_m:=fun X Y=>Heap.upd_ne X (i:=n+1) (j:=m) Y (by omega)
      have en2_m:=fun X Y=>Heap.upd_ne X (i:=n+2) (j:=m) Y (by omega)
      have en3_m:=fun X Y=>Heap.upd_ne X (i:=n+3) (j:=m) Y (by omega)
      have eb_m:=fun X Y=>Heap.upd_ne X (i:=b) (j:=m) Y (by omega)
      have ep_m:=fun X Y=>Heap.upd_ne X (i:=p') (j:=m) Y (by omega)
      have en_p':=fun X Y=>Heap.upd_ne X (i:=n) (j:=p') Y (by omega)
      have en1_p':=fun X Y=>Heap.upd_ne X (i:=n+1) (j:=p') Y (by omega)
      have en2_p':=fun X Y=>Heap.upd_ne X (i:=n+2) (j:=p') Y (by omega)
      have en3_p':=fun X Y=>Heap.upd_ne X (i:=n+3) (j:=p') Y (by omega)
      have eb_p':=fun X Y=>Heap.upd_ne X (i:=b) (j:=p') Y (by omega)
      have em_p':=fun X Y=>Heap.upd_ne X (i:=m) (j:=p') Y (by omega)
      have eb_n:=fun X Y=>Heap.upd_ne X (i:=b) (j:=n) Y (by omega)
      have em_n:=fun X Y=>Heap.upd_ne X (i:=m) (j:=n) Y (by omega)
      have ep_n:=fun X Y=>Heap.upd_ne X (i:=p') (j:=n) Y (by omega)
      have en1_n:=fun X Y=>Heap.upd_ne X (i:=n+1) (j:=n) Y (by omega)
      have en2_n:=fun X Y=>Heap.upd_ne X (i:=n+2) (j:=n) Y (by omega)
      have en3_n:=fun X Y=>Heap.upd_ne X (i:=n+3) (j:=n) Y (by omega)
      have eb_n1:=fun X Y=>Heap.upd_ne X (i:=b) (j:=n+1) Y (by omega)
      have em_n1:=fun X Y=>Heap.upd_ne X (i:=m) (j:=n+1) Y (by omega)
      have ep_n1:=fun X Y=>Heap.upd_ne X (i:=p') (j:=n+1) Y (by omega)
      have en_n1:=fun X Y=>Heap.upd_ne X (i:=n) (j:=n+1) Y (by omega)
      have en2_n1:=fun X Y=>Heap.upd_ne X (i:=n+2) (j:=n+1) Y (by omega)
      have en3_n1:=fun X Y=>Heap.upd_ne X (i:=n+3) (j:=n+1) Y (by omega)
      have eb_n2:=fun X Y=>Heap.upd_ne X (i:=b) (j:=n+2) Y (by omega)
      have em_n2:=fun X Y=>Heap.upd_ne X (i:=m) (j:=n+2) Y (by omega)
      have ep_n2:=fun X Y=>Heap.upd_ne X (i:=p') (j:=n+2) Y (by omega)
      have en_n2:=fun X Y=>Heap.upd_ne X (i:=n) (j:=n+2) Y (by omega)
      have en1_n2:=fun X Y=>Heap.upd_ne X (i:=n+1) (j:=n+2) Y (by omega)
      have en3_n2:=fun X Y=>Heap.upd_ne X (i:=n+3) (j:=n+2) Y (by omega)
      have eb_n3:=fun X Y=>Heap.upd_ne X (i:=b) (j:=n+3) Y (by omega)
      have em_n3:=fun X Y=>Heap.upd_ne X (i:=m) (j:=n+3) Y (by omega)
      have ep_n3:=fun X Y=>Heap.upd_ne X (i:=p') (j:=n+3) Y (by omega)
      have en_n3:=fun X Y=>Heap.upd_ne X (i:=n) (j:=n+3) Y (by omega)
      have en1_n3:=fun X Y=>Heap.upd_ne X (i:=n+1) (j:=n+3) Y (by omega)
      have en2_n3:=fun X Y=>Heap.upd_ne X (i:=n+2) (j:=n+3) Y (by omega)
      refine awp_ev dr0 (by decide +kernel) ?_
      simp only[go_sem,Tryz.f145,hb,hm,hp,en_b,en1_b,en2_b,en3_b,em_b,ep_b,en_m,en1_m,en2_m,en3_m,eb_m,ep_m,en_p',en1_p',en2_p',en3_p',eb_p',em_p',eb_n,em_n,ep_n,en1_n,en2_n,en3_n,eb_n1,em_n1,ep_n1,en_n1,en2_n1,en3_n1,eb_n2,em_n2,ep_n2,en_n2,en1_n2,en3_n2,eb_n3,em_n3,ep_n3,en_n3,en1_n3,en2_n3,sp4]
      rw[List.take_of_length_le (l:=ac) (by omega)]
      have e13:wrap64 13=wrap64 (((s.log.length+1:Nat):Int)*13):=by rw[hl0]; rfl
      rw[e13]
      refine⟨by first | omega | (rw[List.length_map]; omega) | (rw[List.length_map]; exact ha) | decide | (exact Nat.le_refl _) | simp,by first | omega | (rw[List.length_map]; omega) | (rw[List.length_map]; exact ha) | decide | (exact Nat.le_refl _) | simp,by first | omega | (rw[List.length_map]; omega) | (rw[List.length_map]; exact ha) | decide | (exact Nat.le_refl _) | simp,Fin.keep (h _ _ (fun i=>F i∨i=n+1∨i=n+3) ?_ (by omega) ⟨m,.su (n+1) 0 (s.log.length+1) 1,.su (n+3) 0 (k+1) 4,k+1,ac++[.bo false,.u16 p,.u8 0#8,.i64 u],by first | exact hlen | (show _=_; exact hlen),by simp only[Heap.upd_same,en_b,en1_b,en2_b,en3_b,em_b,ep_b,en_m,en1_m,en2_m,en3_m,eb_m,ep_m,en_p',en1_p',en2_p',en3_p',eb_p',em_p',eb_n,em_n,ep_n,en1_n,en2_n,en3_n,eb_n1,em_n1,ep_n1,en_n1,en2_n1,en3_n1,eb_n2,em_n2,ep_n2,en_n2,en1_n2,en3_n2,eb_n3,em_n3,ep_n3,en_n3,en1_n3,en2_n3] <;> simp[bxO,hl0],by simp only[Heap.upd_same,en_b,en1_b,en2_b,en3_b,em_b,ep_b,en_m,en1_m,en2_m,en3_m,eb_m,ep_m,en_p',en1_p',en2_p',en3_p',eb_p',em_p',eb_n,em_n,ep_n,en1_n,en2_n,en3_n,eb_n1,em_n1,ep_n1,en_n1,en2_n1,en3_n1,eb_n2,em_n2,ep_n2,en_n2,en1_n2,en3_n2,eb_n3,em_n3,ep_n3,en_n3,en1_n3,en2_n3]; first | exact hm | (show _=some (⟨(s.mem.set _ _).map .u8,_,_⟩:Blk); rw[List.map_set]),.inr ⟨n+1,by simp[bxO,hl0],by simp only[Heap.upd_same,en_b,en1_b,en2_b,en3_b,em_b,ep_b,en_m,en1_m,en2_m,en3_m,eb_m,ep_m,en_p',en1_p',en2_p',en3_p',eb_p',em_p',eb_n,em_n,ep_n,en1_n,en2_n,en3_n,eb_n1,em_n1,ep_n1,en_n1,en2_n1,en3_n1,eb_n2,em_n2,ep_n2,en_n2,en1_n2,en3_n2,eb_n3,em_n3,ep_n3,en_n3,en1_n3,en2_n3] <;> simp[bxO,hl0],by omega,by omega,.inr (.inl rfl)⟩,by show k+1≤(s.log++[_]).length; rw[List.length_append]; simp; omega,by rw[List.length_append,hacl]; simp; omega,oks_app' hB.aok (by simp[AV.ok]),.inr ⟨n+3,rfl,by simp only[Heap.upd_same,en_b,en1_b,en2_b,en3_b,em_b,ep_b,en_m,en1_m,en2_m,en3_m,eb_m,ep_m,en_p',en1_p',en2_p',en3_p',eb_p',em_p',eb_n,em_n,ep_n,en1_n,en2_n,en3_n,eb_n1,em_n1,ep_n1,en_n1,en2_n1,en3_n1,eb_n2,em_n2,ep_n2,en_n2,en1_n2,en3_n2,eb_n3,em_n3,ep_n3,en_n3,en1_n3,en2_n3],by omega,by omega,.inr (.inr rfl)⟩,hbm,.inl hB.fb,.inl hB.fm,fun i hi=>?_⟩ (fun i hi=>?_) (fun i hi hF=>?_))⟩
      · repeat' first
          | exact wf
          | refine Heap.wf_upd ?_ ?_
          | refine Heap.wf_upd_none ?_
          | refine Heap.wf_set ?_ (by omega) ?_
        all_goals first | (simp[AV.ok]; done) | (simp[AV.ok]; omega) | exact oks_app (i64s_ok _ _) (by simp[AV.ok]) | exact oks_app (fun v hv=>hB.aok v hv _) (by simp[AV.ok]) | (rw[← List.map_set]; exact u8s_ok _ _) | (have q1:=AV.ok_mono (show n≤n+2 by omega) _ (hB.blkok wf).1; have q2:=AV.ok_mono (show n≤n+2 by omega) _ (hB.blkok wf).2; simp[AV.ok,q1,q2] <;> omega) | (have q1:=AV.ok_mono (show n≤n+4 by omega) _ (hB.blkok wf).1; have q2:=AV.ok_mono (show n≤n+4 by omega) _ (hB.blkok wf).2; simp[AV.ok,q1,q2] <;> omega)
      · rcases hi with h | h | h
        · have:=hB.low i h; omega
        · omega
        · omega
      · rcases hi with h | h | h
        · exact .inl h
        · exact .inr (by omega)
        · exact .inr (by omega)
      · have hib:i≠b:=fun e=>hF (e▸hB.fb)
        have him:i≠m:=fun e=>hF (e▸hB.fm)
        have hip:i≠p':=fun e=>hF (e▸g5)
        repeat (rw[Heap.upd_ne _ _ (by omega)])
  · have lq:=hB.low q h5
    rcases hB.asks with ⟨hk0,rfl⟩ | ⟨p',rfl,hp,g3,g4,g5⟩
    · have en_b:=fun X Y=>Heap.upd_ne X (i:=n) (j:=b) Y (by omega)
      have en1_b:=fun X Y=>Heap.upd_ne X (i:=n+1) (j:=b) Y (by omega)
      have en2_b:=fun X Y=>Heap.upd_ne X (i:=n+2) (j:=b) Y (by omega)
      have en3_b:=fun X Y=>Heap.upd_ne X (i:=n+3) (j:=b) Y (by omega)
      have em_b:=fun X Y=>Heap.upd_ne X (i:=m) (j:=b) Y (by omega)
      have eq_b:=fun X Y=>Heap.upd_ne X (i:=q) (j:=b) Y (by omega)
      have en_m:=fun X Y=>Heap.upd_ne X (i:=n) (j:=m) Y (by omega)
      have en1_m:=fun X Y=>Heap.upd_ne X (i:=n+1) (j:=m) Y (by omega)
      have en2_m:=fun X Y=>Heap.upd_ne X (i:=n+2) (j:=m) Y (by omega)
      have en3_m:=fun X Y=>Heap.upd_ne X (i:=n+3) (j:=m) Y (by omega)
      have eb_m:=fun X Y=>Heap.upd_ne X (i:=b) (j:=m) Y (by omega)
      have eq_m:=fun X Y=>Heap.upd_ne X (i:=q) (j:=m) Y (by omega)
      have en_q:=fun X Y=>Heap.upd_ne X (i:=n) (j:=q) Y (by omega)
      have en1_q:=fun X Y=>Heap.upd_ne X (i:=n+1) (j:=q) Y (by omega)
      have en2_q:=fun X Y=>Heap.upd_ne X (i:=n+2) (j:=q) Y (by omega)
      have en3_q:=fun X Y=>Heap.upd_ne X (i:=n+3) (j:=q) Y (by omega)
      have eb_q:=fun X Y=>Heap.upd_ne X (i:=b) (j:=q) Y (by omega)
      have em_q:=fun X Y=>Heap.upd_ne X (i:=m) (j:=q) Y (by omega)
      have eb_n:=fun X Y=>Heap.upd_ne X (i:=b) (j:=n) Y (by omega)
      have em_n:=fun X Y=>Heap.upd_ne X (i:=m) (j:=n) Y (by omega)
      have eq_n:=fun X Y=>Heap.upd_ne X (i:=q) (j:=n) Y (by omega)
      have en1_n:=fun X Y=>Heap.upd_ne X (i:=n+1) (j:=n) Y (by omega)
      have en2_n:=fun X Y=>Heap.upd_ne X (i:=n+2) (j:=n) Y (by omega)
      have en3_n:=fun X Y=>Heap.upd_ne X (i:=n+3) (j:=n) Y (by omega)
      have eb_n1:=fun X Y=>Heap.upd_ne X (i:=b) (j:=n+1) Y (by omega)
      have em_n1:=fun X Y=>Heap.upd_ne X (i:=m) (j:=n+1) Y (by omega)
      have eq_n1:=fun X Y=>Heap.upd_ne X (i:=q) (j:=n+1) Y (by omega)
      have en_n1:=fun X Y=>Heap.upd_ne X (i:=n) (j:=n+1) Y (by omega)
      have en2_n1:=fun X Y=>Heap.upd_ne X (i:=n+2) (j:=n+1) Y (by omega)
      have en3_n1:=fun X Y=>Heap.upd_ne X (i:=n+3) (j:=n+1) Y (by omega)
      have eb_n2:=fun X Y=>Heap.upd_ne X (i:=b) (j:=n+2) Y (by omega)
      have em_n2:=fun X Y=>Heap.upd_ne X (i:=m) (j:=n+2) Y (by omega)
      have eq_n2:=fun X Y=>Heap.upd_ne X (i:=q) (j:=n+2) Y (by omega)
      have en_n2:=fun X Y=>Heap.upd_ne X (i:=n) (j:=n+2) Y (by omega)
      have en1_n2:=fun X Y=>Heap.upd_ne X (i:=n+1) (j:=n+2) Y (by omega)
      have en3_n2:=fun X Y=>Heap.upd_ne X (i:=n+3) (j:=n+2) Y (by omega)
      have eb_n3:=fun X Y=>Heap.upd_ne X (i:=b) (j:=n+3) Y (by omega)
      have em_n3:=fun X Y=>Heap.upd_ne X (i:=m) (j:=n+3) Y (by omega)
      have eq_n3:=fun X Y=>Heap.upd_ne X (i:=q) (j:=n+3) Y (by omega)
      have en_n3:=fun X Y=>Heap.upd_ne X (i:=n) (j:=n+3) Y (by omega)
      have en1_n3:=fun X Y=>Heap.upd_ne X (i:=n+1) (j:=n+3) Y (by omega)
      have en2_n3:=fun X Y=>Heap.upd_ne X (i:=n+2) (j:=n+3) Y (by omega)
      refine awp_ev dr0 (by decide +kernel) ?_
      simp only[go_sem,Tryz.f145,hb,hm,hq,en_b,en1_b,en2_b,en3_b,em_b,eq_b,en_m,en1_m,en2_m,en3_m,eb_m,eq_m,en_q,en1_q,en2_q,en3_q,eb_q,em_q,eb_n,em_n,eq_n,en1_n,en2_n,en3_n,eb_n1,em_n1,eq_n1,en_n1,en2_n1,en3_n1,eb_n2,em_n2,eq_n2,en_n2,en1_n2,en3_n2,eb_n3,em_n3,eq_n3,en_n3,en1_n3,en2_n3,sp4]
      try rw[List.take_of_length_le (l:=s.log.map AV.i64) (by rw[List.length_map]; exact Nat.le_refl _)]
      subst hk0
      have hac0:ac=[]:=List.length_eq_zero_iff.1 (by omega)
      subst hac0
      refine⟨by first | omega | (rw[List.length_map]; omega) | (rw[List.length_map]; exact ha) | decide | (exact Nat.le_refl _) | simp,by first | omega | (rw[List.length_map]; omega) | (rw[List.length_map]; exact ha) | decide | (exact Nat.le_refl _) | simp,by first | omega | (rw[List.length_map]; omega) | (rw[List.length_map]; exact ha) | decide | (exact Nat.le_refl _) | simp,Fin.keep (h _ _ (fun i=>F i∨i=n+1∨i=n+3) ?_ (by omega) ⟨m,.su (n+1) 0 (s.log.length+1) 1,.su (n+3) 0 (0+1) 4,0+1,([]:List AV)++[.bo false,.u16 p,.u8 0#8,.i64 u],by first | exact hlen | (show _=_; exact hlen),by simp only[Heap.upd_same,en_b,en1_b,en2_b,en3_b,em_b,eq_b,en_m,en1_m,en2_m,en3_m,eb_m,eq_m,en_q,en1_q,en2_q,en3_q,eb_q,em_q,eb_n,em_n,eq_n,en1_n,en2_n,en3_n,eb_n1,em_n1,eq_n1,en_n1,en2_n1,en3_n1,eb_n2,em_n2,eq_n2,en_n2,en1_n2,en3_n2,eb_n3,em_n3,eq_n3,en_n3,en1_n3,en2_n3] <;> simp[bxO],by simp only[Heap.upd_same,en_b,en1_b,en2_b,en3_b,em_b,eq_b,en_m,en1_m,en2_m,en3_m,eb_m,eq_m,en_q,en1_q,en2_q,en3_q,eb_q,em_q,eb_n,em_n,eq_n,en1_n,en2_n,en3_n,eb_n1,em_n1,eq_n1,en_n1,en2_n1,en3_n1,eb_n2,em_n2,eq_n2,en_n2,en1_n2,en3_n2,eb_n3,em_n3,eq_n3,en_n3,en1_n3,en2_n3]; first | exact hm | (show _=some (⟨(s.mem.set _ _).map .u8,_,_⟩:Blk); rw[List.map_set]),.inr ⟨n+1,by simp[bxO],by simp only[Heap.upd_same,en_b,en1_b,en2_b,en3_b,em_b,eq_b,en_m,en1_m,en2_m,en3_m,eb_m,eq_m,en_q,en1_q,en2_q,en3_q,eb_q,em_q,eb_n,em_n,eq_n,en1_n,en2_n,en3_n,eb_n1,em_n1,eq_n1,en_n1,en2_n1,en3_n1,eb_n2,em_n2,eq_n2,en_n2,en1_n2,en3_n2,eb_n3,em_n3,eq_n3,en_n3,en1_n3,en2_n3] <;> simp[bxO],by omega,by omega,.inr (.inl rfl)⟩,by show 0+1≤(s.log++[_]).length; simp,rfl,by simp[AV.ok],.inr ⟨n+3,rfl,by simp only[Heap.upd_same,en_b,en1_b,en2_b,en3_b,em_b,eq_b,en_m,en1_m,en2_m,en3_m,eb_m,eq_m,en_q,en1_q,en2_q,en3_q,eb_q,em_q,eb_n,em_n,eq_n,en1_n,en2_n,en3_n,eb_n1,em_n1,eq_n1,en_n1,en2_n1,en3_n1,eb_n2,em_n2,eq_n2,en_n2,en1_n2,en3_n2,eb_n3,em_n3,eq_n3,en_n3,en1_n3,en2_n3]; rfl,by omega,by omega,.inr (.inr rfl)⟩,hbm,.inl hB.fb,.inl hB.fm,fun i hi=>?_⟩ (fun i hi=>?_) (fun i hi hF=>?_))⟩
      · repeat' first
          | exact wf
          | refine Heap.wf_upd ?_ ?_
          | refine Heap.wf_upd_none ?_
          | refine Heap.wf_set ?_ (by omega) ?_
        all_goals first | (simp[AV.ok]; done) | (simp[AV.ok]; omega) | exact oks_app (i64s_ok _ _) (by simp[AV.ok]) | exact oks_app (fun v hv=>hB.aok v hv _) (by simp[AV.ok]) | (rw[← List.map_set]; exact u8s_ok _ _) | (have q1:=AV.ok_mono (show n≤n+2 by omega) _ (hB.blkok wf).1; have q2:=AV.ok_mono (show n≤n+2 by omega) _ (hB.blkok wf).2; simp[AV.ok,q1,q2] <;> omega) | (have q1:=AV.ok_mono (show n≤n+4 by omega) _ (hB.blkok wf).1; have q2:=AV.ok_mono (show n≤n+4 by omega) _ (hB.blkok wf).2; simp[AV.ok,q1,q2] <;> omega)
      · rcases hi with h | h | h
        · have:=hB.low i h; omega
        · omega
        · omega
      · rcases hi with h | h | h
        · exact .inl h
        · exact .inr (by omega)
        · exact .inr (by omega)
      · have hib:i≠b:=fun e=>hF (e▸hB.fb)
        have him:i≠m:=fun e=>hF (e▸hB.fm)
        have hiq:i≠q:=fun e=>hF (e▸h5)
        repeat (rw[Heap.upd_ne _ _ (by omega)])
    · have lp:=hB.low p' g5
      have hqp:q≠p':=fun e=>by subst e; rw[hq] at hp; simp at hp
      have en_b:=fun X Y=>Heap.upd_ne X (i:=n) (j:=b) Y (by omega)
      have en1_b:=fun X Y=>Heap.upd_ne X (i:=n+1) (j:=b) Y (by omega)
      have en2_b:=fun X Y=>Heap.upd_ne X (i:=n+2) (j:=b) Y (by omega)
      have en3_b:=fun X Y=>Heap.upd_ne X (i:=n+3) (j:=b) Y (by omega)
      have em_b:=fun X Y=>Heap.upd_ne X (i:=m) (j:=b) Y (by omega)
      have eq_b:=fun X Y=>Heap.upd_ne X (i:=q) (j:=b) Y (by omega)
      have ep_b:=fun X Y=>Heap.upd_ne X (i:=p') (j:=b) Y (by omega)
      have en_m:=fun X Y=>Heap.upd_ne X (i:=n) (j:=m) Y (by omega)
      have en1_m:=fun X Y=>Heap.upd_ne X (i:=n+1) (j:=m) Y (by omega)
      have en2_m:=fun X Y=>Heap.upd_ne X (i:=n+2) (j:=m) Y (by omega)
      have en3_m:=fun X Y=>Heap.upd_ne X (i:=n+3) (j:=m) Y (by omega)
      have eb_m:=fun X Y=>Heap.upd_ne X (i:=b) (j:=m) Y (by omega)
      have eq_m:=fun X Y=>Heap.upd_ne X (i:=q) (j:=m) Y (by omega)
      have ep_m:=fun X Y=>Heap.upd_ne X (i:=p') (j:=m) Y (by omega)
      have en_q:=fun X Y=>Heap.upd_ne X (i:=n) (j:=q) Y (by omega)
      have en1_q:=fun X Y=>Heap.upd_ne X (i:=n+1) (j:=q) Y (by omega)
      have en2_q:=fun X Y=>Heap.upd_ne X (i:=n+2) (j:=q) Y (by omega)
      have en3_q:=fun X Y=>Heap.upd_ne X (i:=n+3) (j:=q) Y (by omega)
      have eb_q:=fun X Y=>Heap.upd_ne X (i:=b) (j:=q) Y (by omega)
      have em_q:=fun X Y=>Heap.upd_ne X (i:=m) (j:=q) Y (by omega)
      have ep_q:=fun X Y=>Heap.upd_ne X (i:=p') (j:=q) Y (by omega)
      have en_p':=fun X Y=>Heap.upd_ne X (i:=n) (j:=p') Y (by omega)
      have en1_p':=fun X Y=>Heap.upd_ne X (i:=n+1) (j:=p') Y (by omega)
      have en2_p':=fun X Y=>Heap.upd_ne X (i:=n+2) (j:=p') Y (by omega)
      have en3_p':=fun X Y=>Heap.upd_ne X (i:=n+3) (j:=p') Y (by omega)
      have eb_p':=fun X Y=>Heap.upd_ne X (i:=b) (j:=p') Y (by omega)
      have em_p':=fun X Y=>Heap.upd_ne X (i:=m) (j:=p') Y (by omega)
      have eq_p':=fun X Y=>Heap.upd_ne X (i:=q) (j:=p') Y (by omega)
      have eb_n:=fun X Y=>Heap.upd_ne X (i:=b) (j:=n) Y (by omega)
      have em_n:=fun X Y=>Heap.upd_ne X (i:=m) (j:=n) Y (by omega)
      have eq_n:=fun X Y=>Heap.upd_ne X (i:=q) (j:=n) Y (by omega)
      have ep_n:=fun X Y=>Heap.upd_ne X (i:=p') (j:=n) Y (by omega)
      have en1_n:=fun X Y=>Heap.upd_ne X (i:=n+1) (j:=n) Y (by omega)
      have en2_n:=fun X Y=>Heap.upd_ne X (i:=n+2) (j:=n) Y (by omega)
      have en3_n:=fun X Y=>Heap.upd_ne X (i:=n+3) (j:=n) Y (by omega)
      have eb_n1:=fun X Y=>Heap.upd_ne X (i:=b) (j:=n+1) Y (by omega)
      have em_n1:=fun X Y=>Heap.upd_ne X (i:=m) (j:=n+1) Y (by omega)
      have eq_n1:=fun X Y=>Heap.upd_ne X (i:=q) (j:=n+1) Y (by omega)
      have ep_n1:=fun X Y=>Heap.upd_ne X (i:=p') (j:=n+1) Y (by omega)
      have en_n1:=fun X Y=>Heap.upd_ne X (i:=n) (j:=n+1) Y (by omega)
      have en2_n1:=fun X Y=>Heap.upd_ne X (i:=n+2) (j:=n+1) Y (by omega)
      have en3_n1:=fun X Y=>Heap.upd_ne X (i:=n+3) (j:=n+1) Y (by omega)
      have eb_n2:=fun X Y=>Heap.upd_ne X (i:=b) (j:=n+2) Y (by omega)
      have em_n2:=fun X Y=>Heap.upd_ne X (i:=m) (j:=n+2) Y (by omega)
      have eq_n2:=fun X Y=>Heap.upd_ne X (i:=q) (j:=n+2) Y (by omega)
      have ep_n2:=fun X Y=>Heap.upd_ne X (i:=p') (j:=n+2) Y (by omega)
      have en_n2:=fun X Y=>Heap.upd_ne X (i:=n) (j:=n+2) Y (by omega)
      have en1_n2:=fun X Y=>Heap.upd_ne X (i:=n+1) (j:=n+2) Y (by omega)
      have en3_n2:=fun X Y=>Heap.upd_ne X (i:=n+3) (j:=n+2) Y (by omega)
      have eb_n3:=fun X Y=>Heap.upd_ne X (i:=b) (j:=n+3) Y (by omega)
      have em_n3:=fun X Y=>Heap.upd_ne X (i:=m) (j:=n+3) Y (by omega)
      have eq_n3:=fun X Y=>Heap.upd_ne X (i:=q) (j:=n+3) Y (by omega)
      have ep_n3:=fun X Y=>Heap.upd_ne X (i:=p') (j:=n+3) Y (by omega)
      have en_n3:=fun X Y=>Heap.upd_ne X (i:=n) (j:=n+3) Y (by omega)
      have en1_n3:=fun X Y=>Heap.upd_ne X (i:=n+1) (j:=n+3) Y (by omega)
      have en2_n3:=fun X Y=>Heap.upd_ne X (i:=n+2) (j:=n+3) Y (by omega)
      refine awp_ev dr0 (by decide +kernel) ?_
      simp only[go_sem,Tryz.f145,hb,hm,hq,hp,en_b,en1_b,en2_b,en3_b,em_b,eq_b,ep_b,en_m,en1_m,en2_m,en3_m,eb_m,eq_m,ep_m,en_q,en1_q,en2_q,en3_q,eb_q,em_q,ep_q,en_p',en1_p',en2_p',en3_p',eb_p',em_p',eq_p',eb_n,em_n,eq_n,ep_n,en1_n,en2_n,en3_n,eb_n1,em_n1,eq_n1,ep_n1,en_n1,en2_n1,en3_n1,eb_n2,em_n2,eq_n2,ep_n2,en_n2,en1_n2,en3_n2,eb_n3,em_n3,eq_n3,ep_n3,en_n3,en1_n3,en2_n3,sp4]
      try rw[List.take_of_length_le (l:=s.log.map AV.i64) (by rw[List.length_map]; exact Nat.le_refl _)]
      rw[List.take_of_length_le (l:=ac) (by omega)]
      refine⟨by first | omega | (rw[List.length_map]; omega) | (rw[List.length_map]; exact ha) | decide | (exact Nat.le_refl _) | simp,by first | omega | (rw[List.length_map]; omega) | (rw[List.length_map]; exact ha) | decide | (exact Nat.le_refl _) | simp,by first | omega | (rw[List.length_map]; omega) | (rw[List.length_map]; exact ha) | decide | (exact Nat.le_refl _) | simp,by first | omega | (rw[List.length_map]; omega) | (rw[List.length_map]; exact ha) | decide | (exact Nat.le_refl _) | simp,by first | omega | (rw[List.length_map]; omega) | (rw[List.length_map]; exact ha) | decide | (exact Nat.le_refl _) | simp,Fin.keep (h _ _ (fun i=>F i∨i=n+1∨i=n+3) ?_ (by omega) ⟨m,.su (n+1) 0 (s.log.length+1) 1,.su (n+3) 0 (k+1) 4,k+1,ac++[.bo false,.u16 p,.u8 0#8,.i64 u],by first | exact hlen | (show _=_; exact hlen),by simp only[Heap.upd_same,en_b,en1_b,en2_b,en3_b,em_b,eq_b,ep_b,en_m,en1_m,en2_m,en3_m,eb_m,eq_m,ep_m,en_q,en1_q,en2_q,en3_q,eb_q,em_q,ep_q,en_p',en1_p',en2_p',en3_p',eb_p',em_p',eq_p',eb_n,em_n,eq_n,ep_n,en1_n,en2_n,en3_n,eb_n1,em_n1,eq_n1,ep_n1,en_n1,en2_n1,en3_n1,eb_n2,em_n2,eq_n2,ep_n2,en_n2,en1_n2,en3_n2,eb_n3,em_n3,eq_n3,ep_n3,en_n3,en1_n3,en2_n3] <;> simp[bxO],by simp only[Heap.upd_same,en_b,en1_b,en2_b,en3_b,em_b,eq_b,ep_b,en_m,en1_m,en2_m,en3_m,eb_m,eq_m,ep_m,en_q,en1_q,en2_q,en3_q,eb_q,em_q,ep_q,en_p',en1_p',en2_p',en3_p',eb_p',em_p',eq_p',eb_n,em_n,eq_n,ep_n,en1_n,en2_n,en3_n,eb_n1,em_n1,eq_n1,ep_n1,en_n1,en2_n1,en3_n1,eb_n2,em_n2,eq_n2,ep_n2,en_n2,en1_n2,en3_n2,eb_n3,em_n3,eq_n3,ep_n3,en_n3,en1_n3,en2_n3]; first | exact hm | (show _=some (⟨(s.mem.set _ _).map .u8,_,_⟩:Blk); rw[List.map_set]),.inr ⟨n+1,by simp[bxO],by simp only[Heap.upd_same,en_b,en1_b,en2_b,en3_b,em_b,eq_b,ep_b,en_m,en1_m,en2_m,en3_m,eb_m,eq_m,ep_m,en_q,en1_q,en2_q,en3_q,eb_q,em_q,ep_q,en_p',en1_p',en2_p',en3_p',eb_p',em_p',eq_p',eb_n,em_n,eq_n,ep_n,en1_n,en2_n,en3_n,eb_n1,em_n1,eq_n1,ep_n1,en_n1,en2_n1,en3_n1,eb_n2,em_n2,eq_n2,ep_n2,en_n2,en1_n2,en3_n2,eb_n3,em_n3,eq_n3,ep_n3,en_n3,en1_n3,en2_n3] <;> simp[bxO],by omega,by omega,.inr (.inl rfl)⟩,by show k+1≤(s.log++[_]).length; rw[List.length_append]; simp; omega,by rw[List.length_append,hacl]; simp; omega,oks_app' hB.aok (by simp[AV.ok]),.inr ⟨n+3,rfl,by simp only[Heap.upd_same,en_b,en1_b,en2_b,en3_b,em_b,eq_b,ep_b,en_m,en1_m,en2_m,en3_m,eb_m,eq_m,ep_m,en_q,en1_q,en2_q,en3_q,eb_q,em_q,ep_q,en_p',en1_p',en2_p',en3_p',eb_p',em_p',eq_p',eb_n,em_n,eq_n,ep_n,en1_n,en2_n,en3_n,eb_n1,em_n1,eq_n1,ep_n1,en_n1,en2_n1,en3_n1,eb_n2,em_n2,eq_n2,ep_n2,en_n2,en1_n2,en3_n2,eb_n3,em_n3,eq_n3,ep_n3,en_n3,en1_n3,en2_n3],by omega,by omega,.inr (.inr rfl)⟩,hbm,.inl hB.fb,.inl hB.fm,fun i hi=>?_⟩ (fun i hi=>?_) (fun i hi hF=>?_))⟩
      · repeat' first
          | exact wf
          | refine Heap.wf_upd ?_ ?_
          | refine Heap.wf_upd_none ?_
          | refine Heap.wf_set ?_ (by omega) ?_
        all_goals first | (simp[AV.ok]; done) | (simp[AV.ok]; omega) | exact oks_app (i64s_ok _ _) (by simp[AV.ok]) | exact oks_app (fun v hv=>hB.aok v hv _) (by simp[AV.ok]) | (rw[← List.map_set]; exact u8s_ok _ _) | (have q1:=AV.ok_mono (show n≤n+2 by omega) _ (hB.blkok wf).1; have q2:=AV.ok_mono (show n≤n+2 by omega) _ (hB.blkok wf).2; simp[AV.ok,q1,q2] <;> omega) | (have q1:=AV.ok_mono (show n≤n+4 by omega) _ (hB.blkok wf).1; have q2:=AV.ok_mono (show n≤n+4 by omega) _ (hB.blkok wf).2; simp[AV.ok,q1,q2] <;> omega)
      · rcases hi with h | h | h
        · have:=hB.low i h; omega
        · omega
        · omega
      · rcases hi with h | h | h
        · exact .inl h
        · exact .inr (by omega)
        · exact .inr (by omega)
      · have hib:i≠b:=fun e=>hF (e▸hB.fb)
        have him:i≠m:=fun e=>hF (e▸hB.fm)
        have hiq:i≠q:=fun e=>hF (e▸h5)
        have hip:i≠p':=fun e=>hF (e▸g5)
        repeat (rw[Heap.upd_ne _ _ (by omega)])
theorem fl_out {b:Nat} {s:Bx} {p:BitVec 16} {x:BitVec 8} {u:Int} {H:Heap} {n:Nat} {F:Nat→Prop} {K:AV→Heap→Nat→Prop} (hu:0≤u∧u≤100) (hl:1≤bxLeft s) (hr:flRep b s H n F) (h:∀H' n' F',H'.wf n'→n≤n'→flRep b (bxO.out s p x u) H' n' F'→(∀i,F' i→F i∨n≤i)→(∀i,i<n→¬F i→H' i=H i)→K (.tu []) H' n'):ACalls Tryz.prog 144 [.pt b 0,.u16 p,.u8 x,.i64 u] H n K:=by
  refine ACalls.of_awp Tryz.func144 rfl (by decide +kernel) (show 4≤40 by decide) (by simp) fun wf=>?_
  obtain⟨m,L,A,k,ac,hB⟩:=hr
  have hb:=hB.blk
  have hm:=hB.mem
  have lb:=hB.low b hB.fb
  have lm:=hB.low m hB.fm
  have hbm:=hB.bm
  have hlen:=hB.len
  have hacl:=hB.acl
  have hkle:=hB.kle
  unfold bxLeft at hl
  rcases hB.log with ⟨hl0,rfl⟩ | ⟨q,rfl,hq,h3,h4,h5⟩
  · rcases hB.asks with ⟨hk0,rfl⟩ | ⟨p',rfl,hp,g3,g4,g5⟩
    · have en_b:=fun X Y=>Heap.upd_ne X (i:=n) (j:=b) Y (by omega)
      have en1_b:=fun X Y=>Heap.upd_ne X (i:=n+1) (j:=b) Y (by omega)
      have en2_b:=fun X Y=>Heap.upd_ne X (i:=n+2) (j:=b) Y (by omega)
      have en3_b:=fun X Y=>Heap.upd_ne X (i:=n+3) (j:=b) Y (by omega)
      have em_b:=fun X Y=>Heap.upd_ne X (i:=m) (j:=b) Y (by omega)
      have en_m:=fun X Y=>Heap.upd_ne X (i:=n) (j:=m) Y (by omega)
      have en1_m:=fun X Y=>Heap.upd_ne X (i:=n+1) (j:=m) Y (by omega)
      have en2_m:=fun X Y=>Heap.upd_ne X (i:=n+2) (j:=m) Y (by omega)
      have en3_m:=fun X Y=>Heap.upd_ne X (i:=n+3) (j:=m) Y (by omega)
      have eb_m:=fun X Y=>Heap.upd_ne X (i:=b) (j:=m) Y (by omega)
      have eb_n:=fun X Y=>Heap.upd_ne X (i:=b) (j:=n) Y (by omega)
      have em_n:=fun X Y=>Heap.upd_ne X (i:=m) (j:=n) Y (by omega)
      have en1_n:=fun X Y=>Heap.upd_ne X (i:=n+1) (j:=n) Y (by omega)
      have en2_n:=fun X Y=>Heap.upd_ne X (i:=n+2) (j:=n) Y (by omega)
      have en3_n:=fun X Y=>Heap.upd_ne X (i:=n+3) (j:=n) Y (by omega)
      have eb_n1:=fun X Y=>Heap.upd_ne X (i:=b) (j:=n+1) Y (by omega)
      have em_n1:=fun X Y=>Heap.upd_ne X (i:=m) (j:=n+1) Y (by omega)
      have en_n1:=fun X Y=>Heap.upd_ne X (i:=n) (j:=n+1) Y (by omega)
      have en2_n1:=fun X Y=>Heap.upd_ne X (i:=n+2) (j:=n+1) Y (by omega)
      have en3_n1:=fun X Y=>Heap.upd_ne X (i:=n+3) (j:=n+1) Y (by omega)
      have eb_n2:=fun X Y=>Heap.upd_ne X (i:=b) (j:=n+2) Y (by omega)
      have em_n2:=fun X Y=>Heap.upd_ne X (i:=m) (j:=n+2) Y (by omega)
      have en_n2:=fun X Y=>Heap.upd_ne X (i:=n) (j:=n+2) Y (by omega)
      have en1_n2:=fun X Y=>Heap.upd_ne X (i:=n+1) (j:=n+2) Y (by omega)
      have en3_n2:=fun X Y=>Heap.upd_ne X (i:=n+3) (j:=n+2) Y (by omega)
      have eb_n3:=fun X Y=>Heap.upd_ne X (i:=b) (j:=n+3) Y (by omega)
      have em_n3:=fun X Y=>Heap.upd_ne X (i:=m) (j:=n+3) Y (by omega)
      have en_n3:=fun X Y=>Heap.upd_ne X (i:=n) (j:=n+3) Y (by omega)
      have en1_n3:=fun X Y=>Heap.upd_ne X (i:=n+1) (j:=n+3) Y (by omega)
      have en2_n3:=fun X Y=>Heap.upd_ne X (i:=n+2) (j:=n+3) Y (by omega)
      refine awp_ev dr0 (by decide +kernel) ?_
      simp only[go_sem,Tryz.f144,hb,hm,en_b,en1_b,en2_b,en3_b,em_b,en_m,en1_m,en2_m,en3_m,eb_m,eb_n,em_n,en1_n,en2_n,en3_n,eb_n1,em_n1,en_n1,en2_n1,en3_n1,eb_n2,em_n2,en_n2,en1_n2,en3_n2,eb_n3,em_n3,en_n3,en1_n3,en2_n3,sp4]
      subst hk0
      have hac0:ac=[]:=List.length_eq_zero_iff.1 (by omega)
      subst hac0
      refine⟨by first | omega | (rw[List.length_map]; omega) | (rw[List.length_map]; exact ha) | decide | (exact Nat.le_refl _) | simp,Fin.keep (h _ _ (fun i=>F i∨i=n+1∨i=n+3) ?_ (by omega) ⟨m,.su (n+1) 0 (s.log.length+1) 1,.su (n+3) 0 (0+1) 4,0+1,([]:List AV)++[.bo true,.u16 p,.u8 x,.i64 u],by first | exact hlen | (show _=_; exact hlen),by simp only[Heap.upd_same,en_b,en1_b,en2_b,en3_b,em_b,en_m,en1_m,en2_m,en3_m,eb_m,eb_n,em_n,en1_n,en2_n,en3_n,eb_n1,em_n1,en_n1,en2_n1,en3_n1,eb_n2,em_n2,en_n2,en1_n2,en3_n2,eb_n3,em_n3,en_n3,en1_n3,en2_n3] <;> simp[bxO,hl0],by simp only[Heap.upd_same,en_b,en1_b,en2_b,en3_b,em_b,en_m,en1_m,en2_m,en3_m,eb_m,eb_n,em_n,en1_n,en2_n,en3_n,eb_n1,em_n1,en_n1,en2_n1,en3_n1,eb_n2,em_n2,en_n2,en1_n2,en3_n2,eb_n3,em_n3,en_n3,en1_n3,en2_n3]; first | exact hm | (show _=some (⟨(s.mem.set _ _).map .u8,_,_⟩:Blk); rw[List.map_set]),.inr ⟨n+1,by simp[bxO,hl0],by simp only[Heap.upd_same,en_b,en1_b,en2_b,en3_b,em_b,en_m,en1_m,en2_m,en3_m,eb_m,eb_n,em_n,en1_n,en2_n,en3_n,eb_n1,em_n1,en_n1,en2_n1,en3_n1,eb_n2,em_n2,en_n2,en1_n2,en3_n2,eb_n3,em_n3,en_n3,en1_n3,en2_n3] <;> simp[bxO,hl0],by omega,by omega,.inr (.inl rfl)⟩,by show 0+1≤(s.log++[_]).length; simp,rfl,by simp[AV.ok],.inr ⟨n+3,rfl,by simp only[Heap.upd_same,en_b,en1_b,en2_b,en3_b,em_b,en_m,en1_m,en2_m,en3_m,eb_m,eb_n,em_n,en1_n,en2_n,en3_n,eb_n1,em_n1,en_n1,en2_n1,en3_n1,eb_n2,em_n2,en_n2,en1_n2,en3_n2,eb_n3,em_n3,en_n3,en1_n3,en2_n3]; rfl,by omega,by omega,.inr (.inr rfl)⟩,hbm,.inl hB.fb,.inl hB.fm,fun i hi=>?_⟩ (fun i hi=>?_) (fun i hi hF=>?_))⟩
      · repeat' first
          | exact wf
          | refine Heap.wf_upd ?_ ?_
          | refine Heap.wf_upd_none ?_
          | refine Heap.wf_set ?_ (by omega) ?_
        all_goals first | (simp[AV.ok]; done) | (simp[AV.ok]; omega) | exact oks_app (i64s_ok _ _) (by simp[AV.ok]) | exact oks_app (fun v hv=>hB.aok v hv _) (by simp[AV.ok]) | (rw[← List.map_set]; exact u8s_ok _ _) | (have q1:=AV.ok_mono (show n≤n+2 by omega) _ (hB.blkok wf).1; have q2:=AV.ok_mono (show n≤n+2 by omega) _ (hB.blkok wf).2; simp[AV.ok,q1,q2] <;> omega) | (have q1:=AV.ok_mono (show n≤n+4 by omega) _ (hB.blkok wf).1; have q2:=AV.ok_mono (show n≤n+4 by omega) _ (hB.blkok wf).2; simp[AV.ok,q1,q2] <;> omega)
      · rcases hi with h | h | h
        · have:=hB.low i h; omega
        · omega
        · omega
      · rcases hi with h | h | h
        · exact .inl h
        · exact .inr (by omega)
        · exact .inr (by omega)
      · have hib:i≠b:=fun e=>hF (e▸hB.fb)
        have him:i≠m:=fun e=>hF (e▸hB.fm)
        repeat (rw[Heap.upd_ne _ _ (by omega)])
    · have lp:=hB.low p' g5
      have en_b:=fun X Y=>Heap.upd_ne X (i:=n) (j:=b) Y (by omega)
      have en1_b:=fun X Y=>Heap.upd_ne X (i:=n+1) (j:=b) Y (by omega)
      have en2_b:=fun X Y=>Heap.upd_ne X (i:=n+2) (j:=b) Y (by omega)
      have en3_b:=fun X Y=>Heap.upd_ne X (i:=n+3) (j:=b) Y (by omega)
      have em_b:=fun X Y=>Heap.upd_ne X (i:=m) (j:=b) Y (by omega)
      have ep_b:=fun X Y=>Heap.upd_ne X (i:=p') (j:=b) Y (by omega)
      have en_m:=fun X Y=>Heap.upd_ne X (i:=n) (j:=m) Y (by omega)
      have en1_m:=fun X Y=>Heap.upd_ne X (i:=n+1) (j:=m) Y (by omega)
      have en2_m:=fun X Y=>Heap.upd_ne X (i:=n+2) (j:=m) Y (by omega)
      have en3_m:=fun X Y=>Heap.upd_ne X (i:=n+3) (j:=m) Y (by omega)
      have eb_m:=fun X Y=>Heap.upd_ne X (i:=b) (j:=m) Y (by omega)
      have ep_m:=fun X Y=>Heap.upd_ne X (i:=p') (j:=m) Y (by omega)
      have en_p':=fun X Y=>Heap.upd_ne X (i:=n) (j:=p') Y (by omega)
      have en1_p':=fun X Y=>Heap.upd_ne X (i:=n+1) (j:=p') Y (by omega)
      have en2_p':=fun X Y=>Heap.upd_ne X (i:=n+2) (j:=p') Y (by omega)
      have en3_p':=fun X Y=>Heap.upd_ne X (i:=n+3) (j:=p') Y (by omega)
      have eb_p':=fun X Y=>Heap.upd_ne X (i:=b) (j:=p') Y (by omega)
      have em_p':=fun X Y=>Heap.upd_ne X (i:=m) (j:=p') Y (by omega)
      have eb_n:=fun X Y=>Heap.upd_ne X (i:=b) (j:=n) Y (by omega)
      have em_n:=fun X Y=>Heap.upd_ne X (i:=m) (j:=n) Y (by omega)
      have ep_n:=fun X Y=>Heap.upd_ne X (i:=p') (j:=n) Y (by omega)
      have en1_n:=fun X Y=>Heap.upd_ne X (i:=n+1) (j:=n) Y (by omega)
      have en2_n:=fun X Y=>Heap.upd_ne X (i:=n+2) (j:=n) Y (by omega)
      have en3_n:=fun X Y=>Heap.upd_ne X (i:=n+3) (j:=n) Y (by omega)
      have eb_n1:=fun X Y=>Heap.upd_ne X (i:=b) (j:=n+1) Y (by omega)
      have em_n1:=fun X Y=>Heap.upd_ne X (i:=m) (j:=n+1) Y (by omega)
      have ep_n1:=fun X Y=>Heap.upd_ne X (i:=p') (j:=n+1) Y (by omega)
      have en_n1:=fun X Y=>Heap.upd_ne X (i:=n) (j:=n+1) Y (by omega)
      have en2_n1:=fun X Y=>Heap.upd_ne X (i:=n+2) (j:=n+1) Y (by omega)
      have en3_n1:=fun X Y=>Heap.upd_ne X (i:=n+3) (j:=n+1) Y (by omega)
      have eb_n2:=fun X Y=>Heap.upd_ne X (i:=b) (j:=n+2) Y (by omega)
      have em_n2:=fun X Y=>Heap.upd_ne X (i:=m) (j:=n+2) Y (by omega)
      have ep_n2:=fun X Y=>Heap.upd_ne X (i:=p') (j:=n+2) Y (by omega)
      have en_n2:=fun X Y=>Heap.upd_ne X (i:=n) (j:=n+2) Y (by omega)
      have en1_n2:=fun X Y=>Heap.upd_ne X (i:=n+1) (j:=n+2) Y (by omega)
      have en3_n2:=fun X Y=>Heap.upd_ne X (i:=n+3) (j:=n+2) Y (by omega)
      have eb_n3:=fun X Y=>Heap.upd_ne X (i:=b) (j:=n+3) Y (by omega)
      have em_n3:=fun X Y=>Heap.upd_ne X (i:=m) (j:=n+3) Y (by omega)
      have ep_n3:=fun X Y=>Heap.upd_ne X (i:=p') (j:=n+3) Y (by omega)
      have en_n3:=fun X Y=>Heap.upd_ne X (i:=n) (j:=n+3) Y (by omega)
      have en1_n3:=fun X Y=>Heap.upd_ne X (i:=n+1) (j:=n+3) Y (by omega)
      have en2_n3:=fun X Y=>Heap.upd_ne X (i:=n+2) (j:=n+3) Y (by omega)
      refine awp_ev dr0 (by decide +kernel) ?_
      simp only[go_sem,Tryz.f144,hb,hm,hp,en_b,en1_b,en2_b,en3_b,em_b,ep_b,en_m,en1_m,en2_m,en3_m,eb_m,ep_m,en_p',en1_p',en2_p',en3_p',eb_p',em_p',eb_n,em_n,ep_n,en1_n,en2_n,en3_n,eb_n1,em_n1,ep_n1,en_n1,en2_n1,en3_n1,eb_n2,em_n2,ep_n2,en_n2,en1_n2,en3_n2,eb_n3,em_n3,ep_n3,en_n3,en1_n3,en2_n3,sp4]
      rw[List.take_of_length_le (l:=ac) (by omega)]
      refine⟨by first | omega | (rw[List.length_map]; omega) | (rw[List.length_map]; exact ha) | decide | (exact Nat.le_refl _) | simp,by first | omega | (rw[List.length_map]; omega) | (rw[List.length_map]; exact ha) | decide | (exact Nat.le_refl _) | simp,by first | omega | (rw[List.length_map]; omega) | (rw[List.length_map]; exact ha) | decide | (exact Nat.le_refl _) | simp,Fin.keep (h _ _ (fun i=>F i∨i=n+1∨i=n+3) ?_ (by omega) ⟨m,.su (n+1) 0 (s.log.length+1) 1,.su (n+3) 0 (k+1) 4,k+1,ac++[.bo true,.u16 p,.u8 x,.i64 u],by first | exact hlen | (show _=_; exact hlen),by simp only[Heap.upd_same,en_b,en1_b,en2_b,en3_b,em_b,ep_b,en_m,en1_m,en2_m,en3_m,eb_m,ep_m,en_p',en1_p',en2_p',en3_p',eb_p',em_p',eb_n,em_n,ep_n,en1_n,en2_n,en3_n,eb_n1,em_n1,ep_n1,en_n1,en2_n1,en3_n1,eb_n2,em_n2,ep_n2,en_n2,en1_n2,en3_n2,eb_n3,em_n3,ep_n3,en_n3,en1_n3,en2_n3] <;> simp[bxO,hl0],by simp only[Heap.upd_same,en_b,en1_b,en2_b,en3_b,em_b,ep_b,en_m,en1_m,en2_m,en3_m,eb_m,ep_m,en_p',en1_p',en2_p',en3_p',eb_p',em_p',eb_n,em_n,ep_n,en1_n,en2_n,en3_n,eb_n1,em_n1,ep_n1,en_n1,en2_n1,en3_n1,eb_n2,em_n2,ep_n2,en_n2,en1_n2,en3_n2,eb_n3,em_n3,ep_n3,en_n3,en1_n3,en2_n3]; first | exact hm | (show _=some (⟨(s.mem.set _ _).map .u8,_,_⟩:Blk); rw[List.map_set]),.inr ⟨n+1,by simp[bxO,hl0],by simp only[Heap.upd_same,en_b,en1_b,en2_b,en3_b,em_b,ep_b,en_m,en1_m,en2_m,en3_m,eb_m,ep_m,en_p',en1_p',en2_p',en3_p',eb_p',em_p',eb_n,em_n,ep_n,en1_n,en2_n,en3_n,eb_n1,em_n1,ep_n1,en_n1,en2_n1,en3_n1,eb_n2,em_n2,ep_n2,en_n2,en1_n2,en3_n2,eb_n3,em_n3,ep_n3,en_n3,en1_n3,en2_n3] <;> simp[bxO,hl0],by omega,by omega,.inr (.inl rfl)⟩,by show k+1≤(s.log++[_]).length; rw[List.length_append]; simp; omega,by rw[List.length_append,hacl]; simp; omega,oks_app' hB.aok (by simp[AV.ok]),.inr ⟨n+3,rfl,by simp only[Heap.upd_same,en_b,en1_b,en2_b,en3_b,em_b,ep_b,en_m,en1_m,en2_m,en3_m,eb_m,ep_m,en_p',en1_p',en2_p',en3_p',eb_p',em_p',eb_n,em_n,ep_n,en1_n,en2_n,en3_n,eb_n1,em_n1,ep_n1,en_n1,en2_n1,en3_n1,eb_n2,em_n2,ep_n2,en_n2,en1_n2,en3_n2,eb_n3,em_n3,ep_n3,en_n3,en1_n3,en2_n3],by omega,by omega,.inr (.inr rfl)⟩,hbm,.inl hB.fb,.inl hB.fm,fun i hi=>?_⟩ (fun i hi=>?_) (fun i hi hF=>?_))⟩
      · repeat' first
          | exact wf
          | refine Heap.wf_upd ?_ ?_
          | refine Heap.wf_upd_none ?_
          | refine Heap.wf_set ?_ (by omega) ?_
        all_goals first | (simp[AV.ok]; done) | (simp[AV.ok]; omega) | exact oks_app (i64s_ok _ _) (by simp[AV.ok]) | exact oks_app (fun v hv=>hB.aok v hv _) (by simp[AV.ok]) | (rw[← List.map_set]; exact u8s_ok _ _) | (have q1:=AV.ok_mono (show n≤n+2 by omega) _ (hB.blkok wf).1; have q2:=AV.ok_mono (show n≤n+2 by omega) _ (hB.blkok wf).2; simp[AV.ok,q1,q2] <;> omega) | (have q1:=AV.ok_mono (show n≤n+4 by omega) _ (hB.blkok wf).1; have q2:=AV.ok_mono (show n≤n+4 by omega) _ (hB.blkok wf).2; simp[AV.ok,q1,q2] <;> omega)
      · rcases hi with h | h | h
        · have:=hB.low i h; omega
        · omega
        · omega
      · rcases hi with h | h | h
        · exact .inl h
        · exact .inr (by omega)
        · exact .inr (by omega)
      · have hib:i≠b:=fun e=>hF (e▸hB.fb)
        have him:i≠m:=fun e=>hF (e▸hB.fm)
        have hip:i≠p':=fun e=>hF (e▸g5)
        repeat (rw[Heap.upd_ne _ _ (by omega)])
  · have lq:=hB.low q h5
    rcases hB.asks with ⟨hk0,rfl⟩ | ⟨p',rfl,hp,g3,g4,g5⟩
    · have en_b:=fun X Y=>Heap.upd_ne X (i:=n) (j:=b) Y (by omega)
      have en1_b:=fun X Y=>Heap.upd_ne X (i:=n+1) (j:=b) Y (by omega)
      have en2_b:=fun X Y=>Heap.upd_ne X (i:=n+2) (j:=b) Y (by omega)
      have en3_b:=fun X Y=>Heap.upd_ne X (i:=n+3) (j:=b) Y (by omega)
      have em_b:=fun X Y=>Heap.upd_ne X (i:=m) (j:=b) Y (by omega)
      have eq_b:=fun X Y=>Heap.upd_ne X (i:=q) (j:=b) Y (by omega)
      have en_m:=fun X Y=>Heap.upd_ne X (i:=n) (j:=m) Y (by omega)
      have en1_m:=fun X Y=>Heap.upd_ne X (i:=n+1) (j:=m) Y (by omega)
      have en2_m:=fun X Y=>Heap.upd_ne X (i:=n+2) (j:=m) Y (by omega)
      have en3_m:=fun X Y=>Heap.upd_ne X (i:=n+3) (j:=m) Y (by omega)
      have eb_m:=fun X Y=>Heap.upd_ne X (i:=b) (j:=m) Y (by omega)
      have eq_m:=fun X Y=>Heap.upd_ne X (i:=q) (j:=m) Y (by omega)
      have en_q:=fun X Y=>Heap.upd_ne X (i:=n) (j:=q) Y (by omega)
      have en1_q:=fun X Y=>Heap.upd_ne X (i:=n+1) (j:=q) Y (by omega)
      have en2_q:=fun X Y=>Heap.upd_ne X (i:=n+2) (j:=q) Y (by omega)
      have en3_q:=fun X Y=>Heap.upd_ne X (i:=n+3) (j:=q) Y (by omega)
      have eb_q:=fun X Y=>Heap.upd_ne X (i:=b) (j:=q) Y (by omega)
      have em_q:=fun X Y=>Heap.upd_ne X (i:=m) (j:=q) Y (by omega)
      have eb_n:=fun X Y=>Heap.upd_ne X (i:=b) (j:=n) Y (by omega)
      have em_n:=fun X Y=>Heap.upd_ne X (i:=m) (j:=n) Y (by omega)
      have eq_n:=fun X Y=>Heap.upd_ne X (i:=q) (j:=n) Y (by omega)
      have en1_n:=fun X Y=>Heap.upd_ne X (i:=n+1) (j:=n) Y (by omega)
      have en2_n:=fun X Y=>Heap.upd_ne X (i:=n+2) (j:=n) Y (by omega)
      have en3_n:=fun X Y=>Heap.upd_ne X (i:=n+3) (j:=n) Y (by omega)
      have eb_n1:=fun X Y=>Heap.upd_ne X (i:=b) (j:=n+1) Y (by omega)
      have em_n1:=fun X Y=>Heap.upd_ne X (i:=m) (j:=n+1) Y (by omega)
      have eq_n1:=fun X Y=>Heap.upd_ne X (i:=q) (j:=n+1) Y (by omega)
      have en_n1:=fun X Y=>Heap.upd_ne X (i:=n) (j:=n+1) Y (by omega)
      have en2_n1:=fun X Y=>Heap.upd_ne X (i:=n+2) (j:=n+1) Y (by omega)
      have en3_n1:=fun X Y=>Heap.upd_ne X (i:=n+3) (j:=n+1) Y (by omega)
      have eb_n2:=fun X Y=>Heap.upd_ne X (i:=b) (j:=n+2) Y (by omega)
      have em_n2:=fun X Y=>Heap.upd_ne X (i:=m) (j:=n+2) Y (by omega)
      have eq_n2:=fun X Y=>Heap.upd_ne X (i:=q) (j:=n+2) Y (by omega)
      have en_n2:=fun X Y=>Heap.upd_ne X (i:=n) (j:=n+2) Y (by omega)
      have en1_n2:=fun X Y=>Heap.upd_ne X (i:=n+1) (j:=n+2) Y (by omega)
      have en3_n2:=fun X Y=>Heap.upd_ne X (i:=n+3) (j:=n+2) Y (by omega)
      have eb_n3:=fun X Y=>Heap.upd_ne X (i:=b) (j:=n+3) Y (by omega)
      have em_n3:=fun X Y=>Heap.upd_ne X (i:=m) (j:=n+3) Y (by omega)
      have eq_n3:=fun X Y=>Heap.upd_ne X (i:=q) (j:=n+3) Y (by omega)
      have en_n3:=fun X Y=>Heap.upd_ne X (i:=n) (j:=n+3) Y (by omega)
      have en1_n3:=fun X Y=>Heap.upd_ne X (i:=n+1) (j:=n+3) Y (by omega)
      have en2_n3:=fun X Y=>Heap.upd_ne X (i:=n+2) (j:=n+3) Y (by omega)
      refine awp_ev dr0 (by decide +kernel) ?_
      simp only[go_sem,Tryz.f144,hb,hm,hq,en_b,en1_b,en2_b,en3_b,em_b,eq_b,en_m,en1_m,en2_m,en3_m,eb_m,eq_m,en_q,en1_q,en2_q,en3_q,eb_q,em_q,eb_n,em_n,eq_n,en1_n,en2_n,en3_n,eb_n1,em_n1,eq_n1,en_n1,en2_n1,en3_n1,eb_n2,em_n2,eq_n2,en_n2,en1_n2,en3_n2,eb_n3,em_n3,eq_n3,en_n3,en1_n3,en2_n3,sp4]
      try rw[List.take_of_length_le (l:=s.log.map AV.i64) (by rw[List.length_map]; exact Nat.le_refl _)]
      subst hk0
      have hac0:ac=[]:=List.length_eq_zero_iff.1 (by omega)
      subst hac0
      refine⟨by first | omega | (rw[List.length_map]; omega) | (rw[List.length_map]; exact ha) | decide | (exact Nat.le_refl _) | simp,by first | omega | (rw[List.length_map]; omega) | (rw[List.length_map]; exact ha) | decide | (exact Nat.le_refl _) | simp,by first | omega | (rw[List.length_map]; omega) | (rw[List.length_map]; exact ha) | decide | (exact Nat.le_refl _) | simp,Fin.keep (h _ _ (fun i=>F i∨i=n+1∨i=n+3) ?_ (by omega) ⟨m,.su (n+1) 0 (s.log.length+1) 1,.su (n+3) 0 (0+1) 4,0+1,([]:List AV)++[.bo true,.u16 p,.u8 x,.i64 u],by first | exact hlen | (show _=_; exact hlen),by simp only[Heap.upd_same,en_b,en1_b,en2_b,en3_b,em_b,eq_b,en_m,en1_m,en2_m,en3_m,eb_m,eq_m,en_q,en1_q,en2_q,en3_q,eb_q,em_q,eb_n,em_n,eq_n,en1_n,en2_n,en3_n,eb_n1,em_n1,eq_n1,en_n1,en2_n1,en3_n1,eb_n2,em_n2,eq_n2,en_n2,en1_n2,en3_n2,eb_n3,em_n3,eq_n3,en_n3,en1_n3,en2_n3] <;> simp[bxO],by simp only[Heap.upd_same,en_b,en1_b,en2_b,en3_b,em_b,eq_b,en_m,en1_m,en2_m,en3_m,eb_m,eq_m,en_q,en1_q,en2_q,en3_q,eb_q,em_q,eb_n,em_n,eq_n,en1_n,en2_n,en3_n,eb_n1,em_n1,eq_n1,en_n1,en2_n1,en3_n1,eb_n2,em_n2,eq_n2,en_n2,en1_n2,en3_n2,eb_n3,em_n3,eq_n3,en_n3,en1_n3,en2_n3]; first | exact hm | (show _=some (⟨(s.mem.set _ _).map .u8,_,_⟩:Blk); rw[List.map_set]),.inr ⟨n+1,by simp[bxO],by simp only[Heap.upd_same,en_b,en1_b,en2_b,en3_b,em_b,eq_b,en_m,en1_m,en2_m,en3_m,eb_m,eq_m,en_q,en1_q,en2_q,en3_q,eb_q,em_q,eb_n,em_n,eq_n,en1_n,en2_n,en3_n,eb_n1,em_n1,eq_n1,en_n1,en2_n1,en3_n1,eb_n2,em_n2,eq_n2,en_n2,en1_n2,en3_n2,eb_n3,em_n3,eq_n3,en_n3,en1_n3,en2_n3] <;> simp[bxO],by omega,by omega,.inr (.inl rfl)⟩,by show 0+1≤(s.log++[_]).length; simp,rfl,by simp[AV.ok],.inr ⟨n+3,rfl,by simp only[Heap.upd_same,en_b,en1_b,en2_b,en3_b,em_b,eq_b,en_m,en1_m,en2_m,en3_m,eb_m,eq_m,en_q,en1_q,en2_q,en3_q,eb_q,em_q,eb_n,em_n,eq_n,en1_n,en2_n,en3_n,eb_n1,em_n1,eq_n1,en_n1,en2_n1,en3_n1,eb_n2,em_n2,eq_n2,en_n2,en1_n2,en3_n2,eb_n3,em_n3,eq_n3,en_n3,en1_n3,en2_n3]; rfl,by omega,by omega,.inr (.inr rfl)⟩,hbm,.inl hB.fb,.inl hB.fm,fun i hi=>?_⟩ (fun i hi=>?_) (fun i hi hF=>?_))⟩
      · repeat' first
          | exact wf
          | refine Heap.wf_upd ?_ ?_
          | refine Heap.wf_upd_none ?_
          | refine Heap.wf_set ?_ (by omega) ?_
        all_goals first | (simp[AV.ok]; done) | (simp[AV.ok]; omega) | exact oks_app (i64s_ok _ _) (by simp[AV.ok]) | exact oks_app (fun v hv=>hB.aok v hv _) (by simp[AV.ok]) | (rw[← List.map_set]; exact u8s_ok _ _) | (have q1:=AV.ok_mono (show n≤n+2 by omega) _ (hB.blkok wf).1; have q2:=AV.ok_mono (show n≤n+2 by omega) _ (hB.blkok wf).2; simp[AV.ok,q1,q2] <;> omega) | (have q1:=AV.ok_mono (show n≤n+4 by omega) _ (hB.blkok wf).1; have q2:=AV.ok_mono (show n≤n+4 by omega) _ (hB.blkok wf).2; simp[AV.ok,q1,q2] <;> omega)
      · rcases hi with h | h | h
        · have:=hB.low i h; omega
        · omega
        · omega
      · rcases hi with h | h | h
        · exact .inl h
        · exact .inr (by omega)
        · exact .inr (by omega)
      · have hib:i≠b:=fun e=>hF (e▸hB.fb)
        have him:i≠m:=fun e=>hF (e▸hB.fm)
        have hiq:i≠q:=fun e=>hF (e▸h5)
        repeat (rw[Heap.upd_ne _ _ (by omega)])
    · have lp:=hB.low p' g5
      have hqp:q≠p':=fun e=>by subst e; rw[hq] at hp; simp at hp
      have en_b:=fun X Y=>Heap.upd_ne X (i:=n) (j:=b) Y (by omega)
      have en1_b:=fun X Y=>Heap.upd_ne X (i:=n+1) (j:=b) Y (by omega)
      have en2_b:=fun X Y=>Heap.upd_ne X (i:=n+2) (j:=b) Y (by omega)
      have en3_b:=fun X Y=>Heap.upd_ne X (i:=n+3) (j:=b) Y (by omega)
      have em_b:=fun X Y=>Heap.upd_ne X (i:=m) (j:=b) Y (by omega)
      have eq_b:=fun X Y=>Heap.upd_ne X (i:=q) (j:=b) Y (by omega)
      have ep_b:=fun X Y=>Heap.upd_ne X (i:=p') (j:=b) Y (by omega)
      have en_m:=fun X Y=>Heap.upd_ne X (i:=n) (j:=m) Y (by omega)
      have en1_m:=fun X Y=>Heap.upd_ne X (i:=n+1) (j:=m) Y (by omega)
      have en2_m:=fun X Y=>Heap.upd_ne X (i:=n+2) (j:=m) Y (by omega)
      have en3_m:=fun X Y=>Heap.upd_ne X (i:=n+3) (j:=m) Y (by omega)
      have eb_m:=fun X Y=>Heap.upd_ne X (i:=b) (j:=m) Y (by omega)
      have eq_m:=fun X Y=>Heap.upd_ne X (i:=q) (j:=m) Y (by omega)
      have ep_m:=fun X Y=>Heap.upd_ne X (i:=p') (j:=m) Y (by omega)
      have en_q:=fun X Y=>Heap.upd_ne X (i:=n) (j:=q) Y (by omega)
      have en1_q:=fun X Y=>Heap.upd_ne X (i:=n+1) (j:=q) Y (by omega)
      have en2_q:=fun X Y=>Heap.upd_ne X (i:=n+2) (j:=q) Y (by omega)
      have en3_q:=fun X Y=>Heap.upd_ne X (i:=n+3) (j:=q) Y (by omega)
      have eb_q:=fun X Y=>Heap.upd_ne X (i:=b) (j:=q) Y (by omega)
      have em_q:=fun X Y=>Heap.upd_ne X (i:=m) (j:=q) Y (by omega)
      have ep_q:=fun X Y=>Heap.upd_ne X (i:=p') (j:=q) Y (by omega)
      have en_p':=fun X Y=>Heap.upd_ne X (i:=n) (j:=p') Y (by omega)
      have en1_p':=fun X Y=>Heap.upd_ne X (i:=n+1) (j:=p') Y (by omega)
      have en2_p':=fun X Y=>Heap.upd_ne X (i:=n+2) (j:=p') Y (by omega)
      have en3_p':=fun X Y=>Heap.upd_ne X (i:=n+3) (j:=p') Y (by omega)
      have eb_p':=fun X Y=>Heap.upd_ne X (i:=b) (j:=p') Y (by omega)
      have em_p':=fun X Y=>Heap.upd_ne X (i:=m) (j:=p') Y (by omega)
      have eq_p':=fun X Y=>Heap.upd_ne X (i:=q) (j:=p') Y (by omega)
      have eb_n:=fun X Y=>Heap.upd_ne X (i:=b) (j:=n) Y (by omega)
      have em_n:=fun X Y=>Heap.upd_ne X (i:=m) (j:=n) Y (by omega)
      have eq_n:=fun X Y=>Heap.upd_ne X (i:=q) (j:=n) Y (by omega)
      have ep_n:=fun X Y=>Heap.upd_ne X (i:=p') (j:=n) Y (by omega)
      have en1_n:=fun X Y=>Heap.upd_ne X (i:=n+1) (j:=n) Y (by omega)
      have en2_n:=fun X Y=>Heap.upd_ne X (i:=n+2) (j:=n) Y (by omega)
      have en3_n:=fun X Y=>Heap.upd_ne X (i:=n+3) (j:=n) Y (by omega)
      have eb_n1:=fun X Y=>Heap.upd_ne X (i:=b) (j:=n+1) Y (by omega)
      have em_n1:=fun X Y=>Heap.upd_ne X (i:=m) (j:=n+1) Y (by omega)
      have eq_n1:=fun X Y=>Heap.upd_ne X (i:=q) (j:=n+1) Y (by omega)
      have ep_n1:=fun X Y=>Heap.upd_ne X (i:=p') (j:=n+1) Y (by omega)
      have en_n1:=fun X Y=>Heap.upd_ne X (i:=n) (j:=n+1) Y (by omega)
      have en2_n1:=fun X Y=>Heap.upd_ne X (i:=n+2) (j:=n+1) Y (by omega)
      have en3_n1:=fun X Y=>Heap.upd_ne X (i:=n+3) (j:=n+1) Y (by omega)
      have eb_n2:=fun X Y=>Heap.upd_ne X (i:=b) (j:=n+2) Y (by omega)
      have em_n2:=fun X Y=>Heap.upd_ne X (i:=m) (j:=n+2) Y (by omega)
      have eq_n2:=fun X Y=>Heap.upd_ne X (i:=q) (j:=n+2) Y (by omega)
      have ep_n2:=fun X Y=>Heap.upd_ne X (i:=p') (j:=n+2) Y (by omega)
      have en_n2:=fun X Y=>Heap.upd_ne X (i:=n) (j:=n+2) Y (by omega)
      have en1_n2:=fun X Y=>Heap.upd_ne X (i:=n+1) (j:=n+2) Y (by omega)
      have en3_n2:=fun X Y=>Heap.upd_ne X (i:=n+3) (j:=n+2) Y (by omega)
      have eb_n3:=fun X Y=>Heap.upd_ne X (i:=b) (j:=n+3) Y (by omega)
      have em_n3:=fun X Y=>Heap.upd_ne X (i:=m) (j:=n+3) Y (by omega)
      have eq_n3:=fun X Y=>Heap.upd_ne X (i:=q) (j:=n+3) Y (by omega)
      have ep_n3:=fun X Y=>Heap.upd_ne X (i:=p') (j:=n+3) Y (by omega)
      have en_n3:=fun X Y=>Heap.upd_ne X (i:=n) (j:=n+3) Y (by omega)
      have en1_n3:=fun X Y=>Heap.upd_ne X (i:=n+1) (j:=n+3) Y (by omega)
      have en2_n3:=fun X Y=>Heap.upd_ne X (i:=n+2) (j:=n+3) Y (by omega)
      refine awp_ev dr0 (by decide +kernel) ?_
      simp only[go_sem,Tryz.f144,hb,hm,hq,hp,en_b,en1_b,en2_b,en3_b,em_b,eq_b,ep_b,en_m,en1_m,en2_m,en3_m,eb_m,eq_m,ep_m,en_q,en1_q,en2_q,en3_q,eb_q,em_q,ep_q,en_p',en1_p',en2_p',en3_p',eb_p',em_p',eq_p',eb_n,em_n,eq_n,ep_n,en1_n,en2_n,en3_n,eb_n1,em_n1,eq_n1,ep_n1,en_n1,en2_n1,en3_n1,eb_n2,em_n2,eq_n2,ep_n2,en_n2,en1_n2,en3_n2,eb_n3,em_n3,eq_n3,ep_n3,en_n3,en1_n3,en2_n3,sp4]
      try rw[List.take_of_length_le (l:=s.log.map AV.i64) (by rw[List.length_map]; exact Nat.le_refl _)]
      rw[List.take_of_length_le (l:=ac) (by omega)]
      refine⟨by first | omega | (rw[List.length_map]; omega) | (rw[List.length_map]; exact ha) | decide | (exact Nat.le_refl _) | simp,by first | omega | (rw[List.length_map]; omega) | (rw[List.length_map]; exact ha) | decide | (exact Nat.le_refl _) | simp,by first | omega | (rw[List.length_map]; omega) | (rw[List.length_map]; exact ha) | decide | (exact Nat.le_refl _) | simp,by first | omega | (rw[List.length_map]; omega) | (rw[List.length_map]; exact ha) | decide | (exact Nat.le_refl _) | simp,by first | omega | (rw[List.length_map]; omega) | (rw[List.length_map]; exact ha) | decide | (exact Nat.le_refl _) | simp,Fin.keep (h _ _ (fun i=>F i∨i=n+1∨i=n+3) ?_ (by omega) ⟨m,.su (n+1) 0 (s.log.length+1) 1,.su (n+3) 0 (k+1) 4,k+1,ac++[.bo true,.u16 p,.u8 x,.i64 u],by first | exact hlen | (show _=_; exact hlen),by simp only[Heap.upd_same,en_b,en1_b,en2_b,en3_b,em_b,eq_b,ep_b,en_m,en1_m,en2_m,en3_m,eb_m,eq_m,ep_m,en_q,en1_q,en2_q,en3_q,eb_q,em_q,ep_q,en_p',en1_p',en2_p',en3_p',eb_p',em_p',eq_p',eb_n,em_n,eq_n,ep_n,en1_n,en2_n,en3_n,eb_n1,em_n1,eq_n1,ep_n1,en_n1,en2_n1,en3_n1,eb_n2,em_n2,eq_n2,ep_n2,en_n2,en1_n2,en3_n2,eb_n3,em_n3,eq_n3,ep_n3,en_n3,en1_n3,en2_n3] <;> simp[bxO],by simp only[Heap.upd_same,en_b,en1_b,en2_b,en3_b,em_b,eq_b,ep_b,en_m,en1_m,en2_m,en3_m,eb_m,eq_m,ep_m,en_q,en1_q,en2_q,en3_q,eb_q,em_q,ep_q,en_p',en1_p',en2_p',en3_p',eb_p',em_p',eq_p',eb_n,em_n,eq_n,ep_n,en1_n,en2_n,en3_n,eb_n1,em_n1,eq_n1,ep_n1,en_n1,en2_n1,en3_n1,eb_n2,em_n2,eq_n2,ep_n2,en_n2,en1_n2,en3_n2,eb_n3,em_n3,eq_n3,ep_n3,en_n3,en1_n3,en2_n3]; first | exact hm | (show _=some (⟨(s.mem.set _ _).map .u8,_,_⟩:Blk); rw[List.map_set]),.inr ⟨n+1,by simp[bxO],by simp only[Heap.upd_same,en_b,en1_b,en2_b,en3_b,em_b,eq_b,ep_b,en_m,en1_m,en2_m,en3_m,eb_m,eq_m,ep_m,en_q,en1_q,en2_q,en3_q,eb_q,em_q,ep_q,en_p',en1_p',en2_p',en3_p',eb_p',em_p',eq_p',eb_n,em_n,eq_n,ep_n,en1_n,en2_n,en3_n,eb_n1,em_n1,eq_n1,ep_n1,en_n1,en2_n1,en3_n1,eb_n2,em_n2,eq_n2,ep_n2,en_n2,en1_n2,en3_n2,eb_n3,em_n3,eq_n3,ep_n3,en_n3,en1_n3,en2_n3] <;> simp[bxO],by omega,by omega,.inr (.inl rfl)⟩,by show k+1≤(s.log++[_]).length; rw[List.length_append]; simp; omega,by rw[List.length_append,hacl]; simp; omega,oks_app' hB.aok (by simp[AV.ok]),.inr ⟨n+3,rfl,by simp only[Heap.upd_same,en_b,en1_b,en2_b,en3_b,em_b,eq_b,ep_b,en_m,en1_m,en2_m,en3_m,eb_m,eq_m,ep_m,en_q,en1_q,en2_q,en3_q,eb_q,em_q,ep_q,en_p',en1_p',en2_p',en3_p',eb_p',em_p',eq_p',eb_n,em_n,eq_n,ep_n,en1_n,en2_n,en3_n,eb_n1,em_n1,eq_n1,ep_n1,en_n1,en2_n1,en3_n1,eb_n2,em_n2,eq_n2,ep_n2,en_n2,en1_n2,en3_n2,eb_n3,em_n3,eq_n3,ep_n3,en_n3,en1_n3,en2_n3],by omega,by omega,.inr (.inr rfl)⟩,hbm,.inl hB.fb,.inl hB.fm,fun i hi=>?_⟩ (fun i hi=>?_) (fun i hi hF=>?_))⟩
      · repeat' first
          | exact wf
          | refine Heap.wf_upd ?_ ?_
          | refine Heap.wf_upd_none ?_
          | refine Heap.wf_set ?_ (by omega) ?_
        all_goals first | (simp[AV.ok]; done) | (simp[AV.ok]; omega) | exact oks_app (i64s_ok _ _) (by simp[AV.ok]) | exact oks_app (fun v hv=>hB.aok v hv _) (by simp[AV.ok]) | (rw[← List.map_set]; exact u8s_ok _ _) | (have q1:=AV.ok_mono (show n≤n+2 by omega) _ (hB.blkok wf).1; have q2:=AV.ok_mono (show n≤n+2 by omega) _ (hB.blkok wf).2; simp[AV.ok,q1,q2] <;> omega) | (have q1:=AV.ok_mono (show n≤n+4 by omega) _ (hB.blkok wf).1; have q2:=AV.ok_mono (show n≤n+4 by omega) _ (hB.blkok wf).2; simp[AV.ok,q1,q2] <;> omega)
      · rcases hi with h | h | h
        · have:=hB.low i h; omega
        · omega
        · omega
      · rcases hi with h | h | h
        · exact .inl h
        · exact .inr (by omega)
        · exact .inr (by omega)
      · have hib:i≠b:=fun e=>hF (e▸hB.fb)
        have him:i≠m:=fun e=>hF (e▸hB.fm)
        have hiq:i≠q:=fun e=>hF (e▸h5)
        have hip:i≠p':=fun e=>hF (e▸g5)
        repeat (rw[Heap.upd_ne _ _ (by omega)])
end Go.Proofs.Joy
namespace Go.Proofs.Joy
open Go.Ab Go.Proofs
set_option maxHeartbeats 2000000
set_option maxRecDepth 20000
def flW (b:Nat):WC Tryz.prog Bx where
  O:=bxO
  v:=.pt b 0
  kr:=66
  kw:=89
  ki:=145
  ko:=144
  rep:=flRep b
  left:=bxLeft
  lrd:=bx_lrd
  lwr:=bx_lwr
  lin:=bx_lin
  lout:=bx_lout
  vok:=fun⟨_,_,_,_,_,h⟩=>by have:=h.low b h.fb; simp[AV.ok,this]
  low:=fun⟨_,_,_,_,_,h⟩ hi=>h.low _ hi
  stable:=fl_stable
  read:=fl_read
  write:=fl_write
  inp:=fl_inp
  out:=fl_out
theorem flM (b:Nat):MX (flW b):=⟨rfl,rfl,rfl,rfl⟩
def logIs (H:Heap) (L:AV) (l:List Int):Prop:=(l=[]∧L=.sn)∨∃q,L=.su q 0 l.length 1∧H q=some ⟨l.map .i64,3,false⟩
theorem logIs.ne {H:Heap} {L:AV} {l:List Int} (h:logIs H L l):L≠ .junk:=by rcases h with ⟨_,rfl⟩ | ⟨q,rfl,_⟩ <;> simp
theorem logIs.len {H:Heap} {L:AV} {l:List Int} (h:logIs H L l) (K:AV→Prop):lenB (some .slice) L K=K (.i64 l.length):=by
  rcases h with ⟨rfl,rfl⟩ | ⟨q,rfl,_⟩ <;> rfl
theorem logIs.ok {H:Heap} {n:Nat} {L:AV} {l:List Int} (h:logIs H L l) (wf:H.wf n):L.ok n=true:=by
  rcases h with ⟨_,rfl⟩ | ⟨q,rfl,h⟩
  · rfl
  · have:=(wf _ _ h).1; simp[AV.ok,this]
theorem c_same (l:List Int) (hl:l.length≤4294967296) (L1 L2:AV) {H:Heap} {n:Nat} {K:AV→Heap→Nat→Prop} (h1:logIs H L1 l) (h2:logIs H L2 l) (h:K (.bo true) H n):ACalls Tryz.prog 13 [L1,L2] H n K:=by
  refine ACalls.of_awp Tryz.func13 rfl (by decide +kernel) (show 2≤26 by decide) (by simp; exact⟨h1.ne,h2.ne⟩) fun wf=>?_
  refine awp_step dr13 (by decide +kernel) ?_
  simp only[go_sem,Tryz.f13]
  refine awp_step dr13 (by decide +kernel) ?_
  simp only[go_sem,h1.len,h2.len]
  refine awp_seq ?_
  refine awp_step dr13 (by decide +kernel) ?_
  simp only[go_sem,h1.len]
  refine awp_block ?_
  refine awp_loopF (S:=Nat) (fun j=>[(0,L1),(1,L2),(12,.i64 l.length),(13,.i64 j)]) (fun _=>H) (fun _=>n) (fun j=>j≤l.length) (fun j=>l.length-j)
    (fun _ _=>⟨wf,Env.okAt_of2 (by simp[AV.ok]; exact⟨h1.ok wf,h2.ok wf⟩)⟩) ?_ 0 (Nat.zero_le _) (by repeat (first | exact Env.le_nil _ | refine Env.le_cons rfl ?_)) (fun _ _=>rfl) rfl
  intro j hj
  refine awp_step dr0 (by decide +kernel) ?_
  simp only[go_sem]
  refine awp_step dr0 (by decide +kernel) ?_
  simp only[go_sem]
  refine⟨fun hlt=>?_,fun hlt=>?_⟩
  · have hlt':j<l.length:=by omega
    refine awp_ev dr13 (by decide +kernel) ?_
    rcases h1 with ⟨rfl,_⟩ | ⟨q1,rfl,g1⟩
    · simp at hlt'
    rcases h2 with ⟨rfl,_⟩ | ⟨q2,rfl,g2⟩
    · simp at hlt'
    have e1:(wrap64 ((j:Int)+1))=((j+1:Nat):Int):=by rw[wrap_id _ (by omega) (by omega)]; omega
    have e2:=getD_map_i64 hlt'
    have e3:j<(l.map AV.i64).length:=by rw[List.length_map]; exact hlt'
    simp only[go_sem,g1,g2,e1,e2]
    exact⟨by omega,e3,by omega,e3,Ends.mk (j+1) ⟨by omega,by omega⟩ (by repeat (first | exact Env.le_nil _ | refine Env.le_cons rfl ?_)) (fun _ _=>rfl) (Nat.le_refl _) (Nat.le_refl _)⟩
  · refine awp_ev dr13 (by decide +kernel) ?_
    simp only[go_sem]
    exact Fin.keep h
theorem c_flat (at_:BitVec 16) (code:List (BitVec 8)) (fill:BitVec 8) (cv:AV) (H:Heap) (n:Nat) (K:AV→Heap→Nat→Prop) (hc:bytesIn H cv code) (hok:cv.ok n=true) (hl:code.length≤1000)
    (h:∀b H' n' F',H'.wf n'→n≤n'→flRep b (boxS at_ code fill) H' n' F'→(∀i,F' i→n≤i)→(∀i,i<n→H' i=H i)→K (.pt b 0) H' n'):ACalls Tryz.prog 10 [.u16 at_,cv,.u8 fill] H n K:=by
  have hne:cv≠ .junk:=hc.ne
  refine ACalls.of_awp Tryz.func10 rfl (by decide +kernel) (show 3≤16 by decide) (by simp; exact hne) fun wf=>?_
  refine awp_ev dr0 (by decide +kernel) ?_
  simp only[go_sem,Tryz.f10,hne]
  refine c_box at_ code fill cv _ _ _ hc hok hl fun b H1 n1 F1 w1 l1 ⟨m,L,r1⟩ o1 f1=>?_
  have hb:=r1.blk
  simp only[go_sem,hb]
  have lm:=r1.low m r1.fm
  refine Fin.keep (h n1 _ (n1+1) (fun i=>i=n1∨i=m) ?_ (by omega) ⟨m,.sn,.sn,0,[],r1.len,Heap.upd_same _ _ _,by rw[Heap.upd_ne _ _ (by omega)]; exact r1.mem,.inl ⟨rfl,rfl⟩,Nat.zero_le _,rfl,by simp,.inl ⟨rfl,rfl⟩,by omega,.inl rfl,.inr rfl,fun i hi=>by rcases hi with h | h <;> omega⟩ (fun i hi=>?_) (fun i hi=>?_))
  · exact Heap.wf_upd w1 (by simp[AV.ok]; omega)
  · rcases hi with h | h
    · omega
    · subst h; exact o1 _ r1.fm
  · rw[Heap.upd_ne _ _ (by omega)]; exact f1 i hi
structure TW (b w nb:Nat) (G:Heap) (Q:Nat→Prop) (s t:Bx) (H:Heap) (m:Nat):Prop where
  wf:H.wf m
  le:nb≤m
  rep:∃F E,bxRep b s H m F∧flRep w t H m E∧(∀i,F i→nb≤i∧¬Q i∧¬E i)∧∀i,E i→nb≤i∧¬Q i
  own:∀i,Q i→nb≤i∧i<m
  fr:∀i,i<nb→H i=G i
section
variable {b w nb:Nat} {G:Heap} {Q:Nat→Prop} {s t:Bx} {H:Heap} {m:Nat} {K:AV→Heap→Nat→Prop}
theorem TW.bm (B:TW b w nb G Q s t H m):b<m∧w<m:=by
  obtain⟨F,E,⟨mm,L,h⟩,⟨_,_,_,_,_,g⟩,_⟩:=B.rep
  exact⟨h.low _ h.fb,g.low _ g.fb⟩
theorem TW.logs (B:TW b w nb G Q s t H m):∃m1 m2 L1 L2 A,H b=some ⟨[.sl m1 0 65536 65536,L1],39,false⟩∧H w=some ⟨[.sl m2 0 65536 65536,.pn,L2,.bo false,.u8 0#8,A],43,false⟩∧logIs H L1 s.log∧logIs H L2 t.log∧
    H m1=some ⟨s.mem.map .u8,5,false⟩∧H m2=some ⟨t.mem.map .u8,5,false⟩∧s.mem.length=65536∧t.mem.length=65536∧¬Q b∧¬Q w∧¬Q m1∧¬Q m2:=by
  obtain⟨F,E,⟨m1,L1,h⟩,⟨m2,L2,A,_,_,g⟩,q1,q2⟩:=B.rep
  refine⟨m1,m2,L1,L2,A,h.blk,g.blk,?_,?_,h.mem,g.mem,h.len,g.len,(q1 _ h.fb).2.1,(q2 _ g.fb).2,(q1 _ h.fm).2.1,(q2 _ g.fm).2⟩
  · rcases h.log with h1 | ⟨q,h1,h2,_⟩
    · exact .inl h1
    · exact .inr ⟨q,h1,h2⟩
  · rcases g.log with h1 | ⟨q,h1,h2,_⟩
    · exact .inl h1
    · exact .inr ⟨q,h1,h2⟩
theorem TW.alloc (B:TW b w nb G Q s t H m) (bl:Blk) (ok:∀v∈bl.cells,v.ok (m+1)=true):TW b w nb G (fun i=>Q i∨i=m) s t (H.upd m (some bl)) (m+1):=by
  obtain⟨F,E,h1,h2,h3,h4⟩:=B.rep
  have lF:∀i,F i→i<m:=fun i hi=>(boxW b).low h1 hi
  have lE:∀i,E i→i<m:=fun i hi=>(flW w).low h2 hi
  refine⟨Heap.wf_upd B.wf ok,by have:=B.le; omega,⟨F,E,bx_stable h1 (fun i hi=>Heap.upd_ne _ _ (by have:=lF i hi; omega)) (by omega),fl_stable h2 (fun i hi=>Heap.upd_ne _ _ (by have:=lE i hi; omega)) (by omega),fun i hi=>⟨(h3 i hi).1,fun h=>?_,(h3 i hi).2.2⟩,fun i hi=>⟨(h4 i hi).1,fun h=>?_⟩⟩,fun i hi=>?_,fun i hi=>by rw[Heap.upd_ne _ _ (by have:=B.le; omega)]; exact B.fr i hi⟩
  · rcases h with h | h
    · exact(h3 i hi).2.1 h
    · have:=lF i hi; omega
  · rcases h with h | h
    · exact(h4 i hi).2 h
    · have:=lE i hi; omega
  · rcases hi with h | h
    · have:=B.own i h; omega
    · have:=B.le; omega
theorem TW.less {Q':Nat→Prop} (B:TW b w nb G Q s t H m) (hq:∀i,Q' i→Q i):TW b w nb G Q' s t H m:=let⟨F,E,h1,h2,h3,h4⟩:=B.rep; ⟨B.wf,B.le,⟨F,E,h1,h2,fun i hi=>⟨(h3 i hi).1,fun h=>(h3 i hi).2.1 (hq i h),(h3 i hi).2.2⟩,fun i hi=>⟨(h4 i hi).1,fun h=>(h4 i hi).2 (hq i h)⟩⟩,fun i hi=>B.own i (hq i hi),B.fr⟩
theorem TW.junk (B:TW b w nb G Q s t H m) (bl:Blk) (ok:∀v∈bl.cells,v.ok (m+1)=true):TW b w nb G Q s t (H.upd m (some bl)) (m+1):=(B.alloc bl ok).less fun _ h=>.inl h
theorem TW.put (B:TW b w nb G Q s t H m) {k:Nat} (hk:Q k) (bl:Blk) (ok:∀v∈bl.cells,v.ok m=true):TW b w nb G Q s t (H.upd k (some bl)) m:=by
  obtain⟨F,E,h1,h2,h3,h4⟩:=B.rep
  have hkm:=B.own k hk
  exact⟨Heap.wf_set B.wf hkm.2 ok,B.le,⟨F,E,bx_stable h1 (fun i hi=>Heap.upd_ne _ _ (fun e=>(h3 i hi).2.1 (e▸hk))) (Nat.le_refl _),fl_stable h2 (fun i hi=>Heap.upd_ne _ _ (fun e=>(h4 i hi).2 (e▸hk))) (Nat.le_refl _),h3,h4⟩,B.own,fun i hi=>by rw[Heap.upd_ne _ _ (by omega)]; exact B.fr i hi⟩
theorem TW.turnA (B:TW b w nb G Q s t H m) {F E:Nat→Prop} (h2:flRep w t H m E) (h3:∀i,F i→nb≤i∧¬Q i∧¬E i) (h4:∀i,E i→nb≤i∧¬Q i) {s':Bx} {H':Heap} {m':Nat} {F':Nat→Prop} (wf:H'.wf m') (l:m≤m') (r:bxRep b s' H' m' F') (o:∀i,F' i→F i∨m≤i) (f:∀i,i<m→¬F i→H' i=H i):
    TW b w nb G Q s' t H' m'∧∀i,Q i→H' i=H i:=by
  have hle:=B.le
  have lE:∀i,E i→i<m:=fun i hi=>(flW w).low h2 hi
  refine⟨⟨wf,by omega,⟨F',E,r,fl_stable h2 (fun i hi=>f i (lE i hi) fun hF=>(h3 i hF).2.2 hi) l,fun i hi=>?_,h4⟩,fun i hi=>by have:=B.own i hi; omega,fun i hi=>?_⟩,fun i hi=>f i (B.own i hi).2 fun hF=>(h3 i hF).2.1 hi⟩
  · rcases o i hi with g | g
    · exact h3 i g
    · exact⟨by omega,fun hq=>by have:=B.own i hq; omega,fun hE=>by have:=lE i hE; omega⟩
  · rw[f i (by omega) (fun hF=>by have:=(h3 i hF).1; omega)]; exact B.fr i hi
theorem TW.turnB (B:TW b w nb G Q s t H m) {F E:Nat→Prop} (h1:bxRep b s H m F) (h3:∀i,F i→nb≤i∧¬Q i∧¬E i) (h4:∀i,E i→nb≤i∧¬Q i) {t':Bx} {H':Heap} {m':Nat} {E':Nat→Prop} (wf:H'.wf m') (l:m≤m') (r:flRep w t' H' m' E') (o:∀i,E' i→E i∨m≤i) (f:∀i,i<m→¬E i→H' i=H i):
    TW b w nb G Q s t' H' m'∧∀i,Q i→H' i=H i:=by
  have hle:=B.le
  have lF:∀i,F i→i<m:=fun i hi=>(boxW b).low h1 hi
  refine⟨⟨wf,by omega,⟨F,E',bx_stable h1 (fun i hi=>f i (lF i hi) fun hE=>(h3 i hi).2.2 hE) l,r,fun i hi=>⟨(h3 i hi).1,(h3 i hi).2.1,fun hE=>?_⟩,fun i hi=>?_⟩,fun i hi=>by have:=B.own i hi; omega,fun i hi=>?_⟩,fun i hi=>f i (B.own i hi).2 fun hE=>(h4 i hE).2 hi⟩
  · rcases o i hE with g | g
    · exact(h3 i hi).2.2 g
    · have:=lF i hi; omega
  · rcases o i hi with g | g
    · exact h4 i g
    · exact⟨by omega,fun hq=>by have:=B.own i hq; omega⟩
  · rw[f i (by omega) (fun hE=>by have:=(h4 i hE).1; omega)]; exact B.fr i hi
theorem TW.step (B:TW b w nb G Q s t H m) (r:Rg) (hl:6≤bxLeft s) (h:∀(r':Rg) (q:Nat) s' H' m',(stepE r).run bxO s=((r',q),s')→bxLeft s≤bxLeft s'+6→TW b w nb G Q s' t H' m'→m≤m'→(∀i,Q i→H' i=H i)→K (.tu [.ag r'.cells,.i64 q]) H' m'):
    ACalls Tryz.prog 11 [.ag r.cells,.ifc 29 (.pt b 0)] H m K:=by
  obtain⟨F,E,h1,h2,h3,h4⟩:=B.rep
  refine c_step (boxM b) r h1 hl fun r' q s' H' m' F' e lf wf l r2 o f=>?_
  obtain⟨B',k⟩:=B.turnA h2 h3 h4 wf l r2 o f
  exact h r' q s' H' m' e lf B' l k
theorem TW.inter (B:TW b w nb G Q s t H m) (r:Rg) (p line:Bool) (hl:6≤bxLeft s) (h:∀(r':Rg) (q:Nat) s' H' m',(interE r p line).run bxO s=((r',q),s')→bxLeft s≤bxLeft s'+6→TW b w nb G Q s' t H' m'→m≤m'→(∀i,Q i→H' i=H i)→K (.tu [.ag r'.cells,.i64 q]) H' m'):
    ACalls Tryz.prog 16 [.ag r.cells,.ifc 29 (.pt b 0),.bo p,.bo line] H m K:=by
  obtain⟨F,E,h1,h2,h3,h4⟩:=B.rep
  refine c_inter (boxM b) r p line h1 hl fun r' q s' H' m' F' e lf wf l r2 o f=>?_
  obtain⟨B',k⟩:=B.turnA h2 h3 h4 wf l r2 o f
  exact h r' q s' H' m' e lf B' l k
theorem TW.step2 (B:TW b w nb G Q s t H m) (r:Rg) (hr:r.right=true) (hl:8≤bxLeft t) (h:∀(r':Rg) (q:Nat) t' H' m',(stepE r).run bxO t=((r',q),t')→bxLeft t≤bxLeft t'+8→TW b w nb G Q s t' H' m'→m≤m'→(∀i,Q i→H' i=H i)→K (.tu [.ag r'.cells,.i64 q]) H' m'):
    ACalls Tryz.prog 12 [.ag r.cells,.pt w 0] H m K:=by
  obtain⟨F,E,h1,h2,h3,h4⟩:=B.rep
  refine x_Step (flM w) rfl r hr h2 hl fun r' q t' H' m' E' e lf wf l r2 o f=>?_
  rw[step_same r hr] at e
  obtain⟨B',k⟩:=B.turnB h1 h3 h4 wf l r2 o f
  exact h r' q t' H' m' e lf B' l k
theorem TW.inter2 (B:TW b w nb G Q s t H m) (r:Rg) (p line:Bool) (hr:r.right=true) (hl:8≤bxLeft t) (h:∀(r':Rg) (q:Nat) t' H' m',(interE r p line).run bxO t=((r',q),t')→bxLeft t≤bxLeft t'+8→TW b w nb G Q s t' H' m'→m≤m'→(∀i,Q i→H' i=H i)→K (.tu [.ag r'.cells,.i64 q]) H' m'):
    ACalls Tryz.prog 17 [.ag r.cells,.pt w 0,.bo p,.bo line] H m K:=by
  obtain⟨F,E,h1,h2,h3,h4⟩:=B.rep
  refine x_Inter (flM w) rfl r p line h2 hl fun r' q t' H' m' E' e lf wf l r2 o f=>?_
  rw[inter_same r hr] at e
  obtain⟨B',k⟩:=B.turnB h1 h3 h4 wf l r2 o f
  exact h r' q t' H' m' e lf B' l k
end
end Go.Proofs.Joy
namespace Go.Proofs.Joy
open Go.Ab Go.Proofs
set_option maxHeartbeats 4000000
set_option maxRecDepth 20000
theorem c_alive (H:Heap) (n:Nat) (K:AV→Heap→Nat→Prop) (h:K (.bo true) H n):ACalls Tryz.prog 7 [] H n K:=by
  refine ACalls.of_awp Tryz.func7 rfl (by decide +kernel) (show 0≤18 by decide) (by simp) fun wf=>?_
  refine awp_ev dr0 (by decide +kernel) ?_
  simp only[go_sem,Tryz.f7]
  refine c_box 100#16 [0x3E#8,5#8] 0#8 _ _ _ _ (bytesIn.whole (Heap.upd_same _ _ _) rfl (Nat.le_refl _)) (by simp[AV.ok]) (by decide) fun b H1 n1 F1 w1 l1 r1 o1 f1=>?_
  simp only[go_sem]
  refine c_step (boxM b) ({ rg0 with pc:=100#16}) r1 (box_left _ _ _) fun r' q s2 H2 n2 F2 e2 lf w2 l2 r2 o2 f2=>?_
  have kk:∀i,i<n→H2 i=H i:=fun i hi=>(f2 i (by omega) (fun hF=>absurd (o1 i hF) (by omega))).trans ((f1 i (by omega)).trans (Heap.upd_ne _ _ (by omega)))
  have hx:=(run_box e2).symm.trans alive_eq
  simp only[Prod.mk.injEq] at hx
  obtain⟨rfl,rfl⟩:=hx
  simp only[go_sem,Rg.cells,rg0]
  exact Fin.back wf h (fun i hi=>by rw[Heap.upd_ne _ _ (by omega)]; exact kk i hi) rfl
end Go.Proofs.Joy
namespace Go.Proofs.Joy
open Go.Ab Go.Proofs
set_option maxHeartbeats 4000000
set_option maxRecDepth 20000
theorem logIs.upd {H:Heap} {n:Nat} {L:AV} {l:List Int} (h:logIs H L l) (wf:H.wf n) (b:Option Blk):logIs (H.upd n b) L l:=by
  rcases h with h | ⟨q,h1,h2⟩
  · exact .inl h
  · exact .inr ⟨q,h1,by rw[Heap.upd_ne _ _ (by have:=(wf _ _ h2).1; omega)]; exact h2⟩
theorem TW.start {b w nb:Nat} {s t:Bx} {H1 H2:Heap} {m1 m2:Nat} {F E:Nat→Prop} (r1:bxRep b s H1 m1 F) (o1:∀i,F i→nb≤i) (l1:nb≤m1) (w2:H2.wf m2) (l2:m1≤m2) (r2:flRep w t H2 m2 E) (o2:∀i,E i→m1≤i) (f2:∀i,i<m1→H2 i=H1 i):TW b w nb H1 (fun _=>False) s t H2 m2:=
  have lF:∀i,F i→i<m1:=fun i hi=>(boxW b).low r1 hi
  ⟨w2,by omega,⟨F,E,bx_stable r1 (fun i hi=>f2 i (lF i hi)) l2,r2,fun i hi=>⟨o1 i hi,fun h=>h,fun hE=>by have:=lF i hi; have:=o2 i hE; omega⟩,fun i hi=>⟨by have:=o2 i hi; omega,fun h=>h⟩⟩,fun _ h=>h.elim,fun i hi=>f2 i (by omega)⟩
end Go.Proofs.Joy
namespace Go.Proofs.Joy
open Go.Ab
set_option maxHeartbeats 4000000
def Eff.Lv {α:Type} (P:Option Int→α→Prop):Option Int→Eff α→Prop
  | o,.ret x=>P o x
  | o,.rd _ k=>∀v,(k v).Lv P o
  | o,.wr _ _ k=>k.Lv P o
  | o,.inp _ t k=>o=none∧∀v,(k v).Lv P (some t)
  | o,.out _ _ t k=>o=none∧k.Lv P (some t)
theorem Eff.Lv.bind {α β:Type} {P:Option Int→β→Prop} {Q:Option Int→α→Prop} {f:α→Eff β} (hf:∀o x,Q o x→(f x).Lv P o):∀(o:Option Int) (m:Eff α),m.Lv Q o→(m.bind f).Lv P o
  | o,.ret x,h=>hf o x h
  | o,.rd _ k,h=>fun v=>Eff.Lv.bind hf o (k v) (h v)
  | o,.wr _ _ k,h=>Eff.Lv.bind hf o k h
  | o,.inp _ t k,h=>⟨h.1,fun v=>Eff.Lv.bind hf (some t) (k v) (h.2 v)⟩
  | o,.out _ _ t k,h=>⟨h.1,Eff.Lv.bind hf (some t) k h.2⟩
theorem Eff.Lv.run {α σ:Type} {P:Option Int→α→Prop} {O:Ops σ}:∀(o:Option Int) (m:Eff α) (s:σ),m.Lv P o→∃o',P o' (m.run O s).1
  | o,.ret _,_,h=>⟨o,h⟩
  | o,.rd a k,s,h=>Eff.Lv.run o (k _) _ (h (O.rd s a).1)
  | o,.wr _ _ k,_,h=>Eff.Lv.run o k _ h
  | _,.inp p t k,s,h=>Eff.Lv.run (some t) (k _) _ (h.2 (O.inp s p t).1)
  | _,.out _ _ t k,_,h=>Eff.Lv.run (some t) k _ h.2
def PostC (im pre:BitVec 8) (o:Option Int) (x:Nat×Core):Prop:=4≤x.1∧x.1≤21∧(∀t,o=some t→0<t∧t<x.1)∧(im≤2#8→x.2.r.im≤2#8)∧x.2.r.pre=pre
def CM.Ok (m:CM Nat):Prop:=∀c:Core,(m c).Lv (PostC c.r.im c.r.pre) none
theorem setPairR_im (r:Rg) (n:Nat) (v:BitVec 16):(setPairR r n v).im=r.im∧(setPairR r n v).pre=r.pre:=by
  unfold setPairR
  repeat' split
  all_goals exact⟨rfl,rfl⟩
theorem setOneR_im (r:Rg) (n:Nat) (p v:BitVec 8):(setOneR r n p v).im=r.im∧(setOneR r n p v).pre=r.pre:=by
  unfold setOneR
  repeat' split
  all_goals first | exact setPairR_im _ _ _ | exact⟨rfl,rfl⟩
theorem quickC_im (n:Nat) (c:Core):(quickC n c).r.im=c.r.im∧(quickC n c).r.pre=c.r.pre:=by
  unfold quickC
  repeat' split
  all_goals exact⟨rfl,rfl⟩
theorem post_mk {im pre:BitVec 8} {o:Option Int} {k:Nat} {c:Core} (h1:4≤k∧k≤21) (h2:∀t,o=some t→0<t∧t<k) (h3:c.r.im=im) (h4:c.r.pre=pre):PostC im pre o (k,c):=⟨h1.1,h1.2,h2,fun h=>by show c.r.im≤_; rw[h3]; exact h,h4⟩
theorem pointed_ok {α:Type} {P:Option Int→α→Prop} {c:Core} {f:BitVec 16×Core→Eff α} (h:∀a c',c'.r.im=c.r.im→c'.r.pre=c.r.pre→(f (a,c')).Lv P none):((pointedM c).bind f).Lv P none:=by
  unfold pointedM
  split
  · exact fun v=>h _ _ rfl rfl
  · exact h _ _ rfl rfl
theorem longer_ok (p:BitVec 8) (a b:Nat) (ha:4≤a∧a≤21) (hb:4≤b∧b≤21):4≤longerS p a b∧longerS p a b≤21:=by unfold longerS; split <;> assumption
theorem turned_ok:CM.Ok turnedM:=by
  intro c
  unfold turnedM
  split
  · unfold turnedFarM
    refine pointed_ok fun a c' h1 h2=>?_
    simp only[nextM,rdE,wrE,Eff.bind,Eff.Lv]
    intro v w
    split
    · exact post_mk (by omega) (fun _ h=>by cases h) h1 h2
    · refine post_mk (by omega) (fun _ h=>by cases h) ?_ ?_
      · split
        · exact h1
        · exact(setOneR_im _ _ _ _).1.trans h1
      · split
        · exact h2
        · exact(setOneR_im _ _ _ _).2.trans h2
  · simp only[fetchM,nextM,rdE,wrE,Eff.bind,Eff.Lv]
    intro op
    split
    · refine pointed_ok fun a c' h1 h2=>?_
      intro v
      dsimp only
      split
      · exact post_mk (by omega) (fun _ h=>by cases h) h1 h2
      · exact post_mk (by omega) (fun _ h=>by cases h) h1 h2
    · refine post_mk (by omega) (fun _ h=>by cases h) ?_ ?_
      · split
        · rfl
        · exact(setOneR_im _ _ _ _).1
      · split
        · rfl
        · exact(setOneR_im _ _ _ _).2
theorem many_ok (op:BitVec 8):CM.Ok (manyM op):=by
  intro c
  unfold manyM
  have fin:∀(o:Option Int) (c1:Core) (on:Bool) (by_ hl:BitVec 16),(∀t,o=some t→0<t∧t<16)→c1.r.im=c.r.im→c1.r.pre=c.r.pre→Eff.Lv (PostC c.r.im c.r.pre) o
      (let c2:Core:={ c1 with r:=setPairR c1.r 2 (hl+by_)}
       if yO op<6∨on=false then .ret (16,c2)
       else
        let c3:Core:={ c2 with r:={ c2.r with pc:=c2.r.pc-2#16}}
        .ret (21,if zO op<2 then c3.wz (c3.r.pc+1#16) else c3)):=by
    intro o c1 on by_ hl ho h1 h2
    dsimp only
    have e:=setPairR_im c1.r 2 (hl+by_)
    split
    · exact post_mk (by omega) ho (e.1.trans h1) (e.2.trans h2)
    · refine post_mk (by omega) (fun t h=>by have:=ho t h; omega) ?_ ?_
      · split <;> exact e.1.trans h1
      · split <;> exact e.2.trans h2
  dsimp only
  split
  · intro v
    exact fin none _ _ _ _ (fun _ h=>by cases h) (((setPairR_im _ _ _).1).trans (setPairR_im _ _ _).1) (((setPairR_im _ _ _).2).trans (setPairR_im _ _ _).2)
  split
  · intro v
    exact fin none _ _ _ _ (fun _ h=>by cases h) ((setPairR_im _ _ _).1) ((setPairR_im _ _ _).2)
  split
  · refine⟨rfl,fun v=>?_⟩
    exact fin (some 13) _ _ _ _ (fun t h=>by cases h; omega) rfl rfl
  · intro v
    refine⟨rfl,?_⟩
    exact fin (some 13) _ _ _ _ (fun t h=>by cases h; omega) rfl rfl
theorem im_le (y:Nat):imS y≤2#8:=by unfold imS; split; decide; split <;> decide
theorem special_ok (y:Nat):CM.Ok (specialM y):=by
  intro c
  unfold specialM
  repeat' split
  all_goals first
    | exact post_mk (by omega) (fun _ h=>by cases h) rfl rfl
    | exact fun v=>post_mk (by omega) (fun _ h=>by cases h) rfl rfl
theorem extended_ok (op:BitVec 8):CM.Ok (extendedM op):=by
  intro c
  unfold extendedM
  dsimp only
  split
  · exact many_ok op c
  split
  · exact post_mk (by omega) (fun _ h=>by cases h) rfl rfl
  split
  · exact⟨rfl,fun v=>post_mk (by omega) (fun t h=>by cases h; omega) (setOneR_im _ _ _ _).1 (setOneR_im _ _ _ _).2⟩
  split
  · exact⟨rfl,post_mk (by omega) (fun t h=>by cases h; omega) rfl rfl⟩
  split
  · exact post_mk (by omega) (fun _ h=>by cases h) (setPairR_im _ _ _).1 (setPairR_im _ _ _).2
  split
  · intro v w
    split
    · exact post_mk (by omega) (fun _ h=>by cases h) rfl rfl
    · exact fun _ _=>post_mk (by omega) (fun _ h=>by cases h) (setPairR_im _ _ _).1 (setPairR_im _ _ _).2
  split
  · exact post_mk (by omega) (fun _ h=>by cases h) rfl rfl
  split
  · exact fun _ _=>post_mk (by omega) (fun _ h=>by cases h) rfl rfl
  split
  · exact⟨show 4≤8 by decide,show 8≤21 by decide,fun _ h=>(by cases h),fun _=>im_le _,rfl⟩
  · exact special_ok _ c
theorem move_ok (op:BitVec 8):CM.Ok (moveM op):=by
  intro c
  unfold moveM
  split
  · exact pointed_ok fun a c' h1 h2=>post_mk (longer_ok _ _ _ (by omega) (by omega)) (fun _ h=>by cases h) h1 h2
  split
  · exact pointed_ok fun a c' h1 h2=>fun v=>post_mk (longer_ok _ _ _ (by omega) (by omega)) (fun _ h=>by cases h) ((setOneR_im _ _ _ _).1.trans h1) ((setOneR_im _ _ _ _).2.trans h2)
  · exact post_mk (by omega) (fun _ h=>by cases h) (setOneR_im _ _ _ _).1 (setOneR_im _ _ _ _).2
theorem sum_ok (op:BitVec 8):CM.Ok (sumM op):=by
  intro c
  unfold sumM
  split
  · exact pointed_ok fun a c' h1 h2=>fun v=>post_mk (longer_ok _ _ _ (by omega) (by omega)) (fun _ h=>by cases h) h1 h2
  · exact post_mk (by omega) (fun _ h=>by cases h) rfl rfl
theorem count_ok (op:BitVec 8):CM.Ok (countM op):=by
  intro c
  unfold countM
  dsimp only
  split
  · exact pointed_ok fun a c' h1 h2=>fun v=>post_mk (longer_ok _ _ _ (by omega) (by omega)) (fun _ h=>by cases h) h1 h2
  · exact post_mk (by omega) (fun _ h=>by cases h) (setOneR_im _ _ _ _).1 (setOneR_im _ _ _ _).2
theorem there_ok (op:BitVec 8):CM.Ok (thereM op):=by
  intro c
  unfold thereM
  dsimp only
  have fin:∀(a:BitVec 16) (k:Nat) (c1:Core),4≤k∧k≤21→c1.r.im=c.r.im→c1.r.pre=c.r.pre→Eff.Lv (PostC c.r.im c.r.pre) none
      (if yO op%2=1 then(rdE a).bind fun v=>.ret (k,{ c1.wz (a+1#16) with r:={ (c1.wz (a+1#16)).r with a:=v}})
       else(wrE a (c1.wz (a+1#16)).r.a).bind fun _=>.ret (k,(c1.wz (a+1#16)).wz (joinS (c1.wz (a+1#16)).r.a (loS (a+1#16))))):=by
    intro a k c1 hk h1 h2
    split
    · exact fun v=>post_mk hk (fun _ h=>by cases h) h1 h2
    · exact post_mk hk (fun _ h=>by cases h) h1 h2
  split
  · exact fin _ 7 _ (by omega) rfl rfl
  split
  · intro v w
    split
    · exact post_mk (by omega) (fun _ h=>by cases h) rfl rfl
    · exact fun _ _=>post_mk (by omega) (fun _ h=>by cases h) (setPairR_im _ _ _).1 (setPairR_im _ _ _).2
  · intro v w
    exact fin _ 13 _ (by omega) rfl rfl
theorem jump_ok (op:BitVec 8):CM.Ok (jumpM op):=by
  intro c
  unfold jumpM
  dsimp only
  split
  · exact post_mk (by omega) (fun _ h=>by cases h) rfl rfl
  split
  · exact post_mk (by omega) (fun _ h=>by cases h) rfl rfl
  · simp only[nextM,rdE,Eff.bind,Eff.Lv]
    intro v
    have hk:7≤(if yO op=2 then 8 else 7)∧(if yO op=2 then 8 else 7)≤8:=by split <;> omega
    generalize (if yO op=2 then 8 else 7)=k at hk ⊢
    have h1:(if yO op=2 then({ r:={ c.r with b:=c.r.b-1#8},pr:=c.pr}:Core) else c).r.im=c.r.im∧(if yO op=2 then({ r:={ c.r with b:=c.r.b-1#8},pr:=c.pr}:Core) else c).r.pre=c.r.pre:=by split <;> exact⟨rfl,rfl⟩
    generalize (if yO op=2 then({ r:={ c.r with b:=c.r.b-1#8},pr:=c.pr}:Core) else c)=c1 at h1 ⊢
    generalize (if yO op=2 then c1.r.b !=0#8 else if yO op=3 then true else metR c1.r.f (yO op-4))=met
    cases met
    · exact post_mk (by omega) (fun _ h=>by cases h) h1.1 h1.2
    · exact post_mk (by omega) (fun _ h=>by cases h) h1.1 h1.2
theorem low_ok (op:BitVec 8):CM.Ok (lowM op):=by
  intro c
  unfold lowM
  dsimp only
  split
  · exact jump_ok op c
  split
  · split
    · exact fun _ _=>post_mk (by omega) (fun _ h=>by cases h) (setPairR_im _ _ _).1 (setPairR_im _ _ _).2
    · exact post_mk (by omega) (fun _ h=>by cases h) (setPairR_im _ _ _).1 (setPairR_im _ _ _).2
  split
  · exact there_ok op c
  split
  · exact post_mk (by omega) (fun _ h=>by cases h) (setPairR_im _ _ _).1 (setPairR_im _ _ _).2
  split
  · exact count_ok op c
  split
  · split
    · exact pointed_ok fun a c' h1 h2=>fun v=>post_mk (longer_ok _ _ _ (by omega) (by omega)) (fun _ h=>by cases h) h1 h2
    · exact fun _=>post_mk (by omega) (fun _ h=>by cases h) (setOneR_im _ _ _ _).1 (setOneR_im _ _ _ _).2
  · exact post_mk (by omega) (fun _ h=>by cases h) (quickC_im _ _).1 (quickC_im _ _).2
theorem call_ok (met:Bool):CM.Ok (callM met):=by
  intro c
  unfold callM
  intro v w
  dsimp only
  split <;> exact post_mk (by omega) (fun _ h=>by cases h) rfl rfl
theorem backO_ok (op:BitVec 8):CM.Ok (backM op):=by
  intro c
  unfold backM
  dsimp only
  split
  · exact fun _ _=>post_mk (by omega) (fun _ h=>by cases h) (setPairR_im _ _ _).1 (setPairR_im _ _ _).2
  split
  · exact fun _ _=>post_mk (by omega) (fun _ h=>by cases h) rfl rfl
  repeat' split
  all_goals exact post_mk (by omega) (fun _ h=>by cases h) rfl rfl
theorem others_ok (op:BitVec 8):CM.Ok (othersM op):=by
  intro c
  unfold othersM
  dsimp only
  split
  · exact fun _ _=>post_mk (by omega) (fun _ h=>by cases h) rfl rfl
  split
  · exact fun _=>⟨rfl,post_mk (by omega) (fun t h=>by cases h; omega) rfl rfl⟩
  split
  · exact fun _=>⟨rfl,fun _=>post_mk (by omega) (fun t h=>by cases h; omega) rfl rfl⟩
  split
  · exact fun _ _=>post_mk (by omega) (fun _ h=>by cases h) (setPairR_im _ _ _).1 (setPairR_im _ _ _).2
  repeat' split
  all_goals exact post_mk (by omega) (fun _ h=>by cases h) rfl rfl
theorem high_ok (op:BitVec 8):CM.Ok (highM op):=by
  intro c
  unfold highM
  dsimp only
  split
  · split
    · exact post_mk (by omega) (fun _ h=>by cases h) rfl rfl
    · exact fun _ _=>post_mk (by omega) (fun _ h=>by cases h) rfl rfl
  split
  · exact backO_ok op c
  split
  · intro v w
    show PostC _ _ _ (10,if _ then _ else _)
    split <;> exact post_mk (by omega) (fun _ h=>by cases h) rfl rfl
  split
  · exact others_ok op c
  split
  · exact call_ok _ c
  split
  · split
    · exact call_ok _ c
    · exact post_mk (by omega) (fun _ h=>by cases h) rfl rfl
  split
  · exact fun _=>post_mk (by omega) (fun _ h=>by cases h) rfl rfl
  · exact post_mk (by omega) (fun _ h=>by cases h) rfl rfl
theorem plain_ok (op:BitVec 8):CM.Ok (plainM op):=by
  intro c
  unfold plainM
  split
  · exact low_ok op c
  split
  · exact post_mk (by omega) (fun _ h=>by cases h) rfl rfl
  split
  · exact move_ok op c
  split
  · exact sum_ok op c
  · exact high_ok op c
def PostR (o:Option Int) (x:Rg×Nat):Prop:=4≤x.2∧x.2≤21∧(∀t,o=some t→0<t∧t<x.2)∧x.1.right=true
theorem right_of {r:Rg} (h1:r.im≤2#8) (h2:r.pre=0#8∨r.pre=0xDD#8∨r.pre=0xFD#8):r.right=true:=by
  unfold Rg.right
  rw[decide_eq_true h1]
  rcases h2 with h | h | h <;> rw[h] <;> rfl
theorem right_im {r:Rg} (h:r.right=true):r.im≤2#8:=by
  unfold Rg.right at h
  simp only[Bool.and_eq_true,decide_eq_true_eq] at h
  exact h.1
theorem step_ok (r:Rg) (h:r.right=true):(stepE r).Lv PostR none:=by
  have him:=right_im h
  have done:∀(m:CM Nat),CM.Ok m→∀c:Core,c.r.im=r.im→c.r.pre=0#8→((m c).bind fun x=>.ret (x.2.r,x.1)).Lv PostR none:=by
    intro m hm c h1 h2
    refine Eff.Lv.bind (Q:=PostC c.r.im c.r.pre) ?_ none (m c) (hm c)
    rintro o ⟨k,c'⟩ ⟨g1,g2,g3,g4,g5⟩
    exact⟨g1,g2,g3,right_of (g4 (by rw[h1]; exact him)) (.inl (g5.trans h2))⟩
  unfold stepE
  split
  · exact⟨show 4≤4 by decide,show 4≤21 by decide,fun _ h=>(by cases h),h⟩
  simp only[fetchM,nextM,rdE,Eff.bind,Eff.Lv]
  intro v
  split
  · rename_i hv
    refine⟨show 4≤4 by decide,show 4≤21 by decide,fun _ h=>(by cases h),right_of him ?_⟩
    rw[Bool.or_eq_true] at hv
    rcases hv with hv | hv
    · exact .inr (.inl (eq_of_beq hv))
    · exact .inr (.inr (eq_of_beq hv))
  split
  · exact fun w=>done _ (extended_ok w) _ rfl rfl
  split
  · exact done _ turned_ok _ rfl rfl
  · exact done _ (plain_ok v) _ rfl rfl
theorem inter_ok (r:Rg) (h:r.right=true) (p l:Bool):(interE r p l).Lv (fun o x=>o=none∧x.1.right=true∧((x.2=0∧x.1=r)∨11≤x.2∧x.2≤19)) none:=by
  have him:=right_im h
  unfold interE
  split
  · exact⟨rfl,h,.inl ⟨rfl,rfl⟩⟩
  rename_i hp
  have hp0:r.pre=0#8:=by simpa using hp
  split
  · exact⟨rfl,right_of him (.inl hp0),.inr ⟨show 11≤11 by decide,show 11≤19 by decide⟩⟩
  split
  · exact⟨rfl,h,.inl ⟨rfl,rfl⟩⟩
  · show Eff.Lv _ none (if _ then _ else _)
    split
    · exact⟨rfl,right_of him (.inl hp0),.inr ⟨show 11≤13 by decide,show 13≤19 by decide⟩⟩
    · exact fun _ _=>⟨rfl,right_of him (.inl hp0),.inr ⟨show 11≤19 by decide,show 19≤19 by decide⟩⟩
end Go.Proofs.Joy
namespace Go.Proofs.Joy
open Go.Ab Go.Proofs
set_option maxHeartbeats 4000000
set_option maxRecDepth 20000
structure RnS where
  k:Nat
  x:Rg
  s:Bx
  H:Heap
  m:Nat
theorem runs_walk (r:Rg) (code:List (BitVec 8)) (m0 m1:BitVec 8) (cv:AV) (H:Heap) (n:Nat) (K:AV→Heap→Nat→Prop) (hc:bytesIn H cv code) (hok:cv.ok n=true) (h:K (.bo true) H n):ACalls Tryz.prog 5 [.ag r.cells,cv,.ag [.u8 m0,.u8 m1]] H n K:=by
  have hne:cv≠ .junk:=hc.ne
  refine ACalls.of_awp Tryz.func5 rfl (by decide +kernel) (show 3≤149 by decide) (by simp; exact hne) fun wf=>?_
  refine awp_step dr5 (by decide +kernel) ?_
  simp only[go_sem,Tryz.f5]
  refine awp_step dr5 (by decide +kernel) ?_
  simp only[go_sem]
  refine c_alive _ _ _ ?_
  simp only[go_sem,Rg.cells]
  refine awp_step dr5 (by decide +kernel) ?_
  simp only[go_sem]
  refine c_right r _ _ _ ?_
  simp only[go_sem,lenB_bytes hc,hne]
  refine⟨fun e=>⟨fun e2=>Fin.back wf h (fun i hi=>by repeat (rw[Heap.upd_ne _ _ (by omega)])) rfl,fun e2=>?_⟩,fun e=>Fin.back wf h (fun i hi=>by repeat (rw[Heap.upd_ne _ _ (by omega)])) rfl⟩
  have hr:r.right=true:=by simpa using e
  refine awp_step dr5 (by decide +kernel) ?_
  simp only[go_sem,hne]
  have hc0:bytesIn ((H.upd n (some ⟨r.cells,25,false⟩)).upd (n+1) (some ⟨[.u8 m0,.u8 m1],50,false⟩)) cv code:=hc.mono hok (fun i hi=>by rw[Heap.upd_ne _ _ (by omega),Heap.upd_ne _ _ (by omega)])
  refine c_box r.pc code m0 cv _ _ _ hc0 (AV.ok_mono (by omega) _ hok) (by omega) fun b H1 m1_ F1 w1 l1 r1 o1 f1=>?_
  have hr1:H1 n=some ⟨r.cells,25,false⟩:=by rw[f1 n (by omega),Heap.upd_ne _ _ (by omega),Heap.upd_same]; rfl
  have hm1:H1 (n+1)=some ⟨[.u8 m0,.u8 m1],50,false⟩:=by rw[f1 (n+1) (by omega),Heap.upd_same]
  have hr1':=hr1
  simp only[Rg.cells] at hr1'
  simp only[go_sem,hr1',hm1,hne]
  refine c_flat r.pc code m0 cv _ _ _ (hc0.mono (AV.ok_mono (by omega) _ hok) f1) (AV.ok_mono (by omega) _ hok) (by omega) fun w H2 m2 F2 w2 l2 r2 o2 f2=>?_
  have hr2:H2 n=some ⟨r.cells,25,false⟩:=by rw[f2 n (by omega)]; exact hr1
  have hm2:H2 (n+1)=some ⟨[.u8 m0,.u8 m1],50,false⟩:=by rw[f2 (n+1) (by omega)]; exact hm1
  have hr2':=hr2
  simp only[Rg.cells] at hr2'
  simp only[go_sem,hr2',hm2]
  have B0:=TW.start r1 o1 l1 w2 l2 r2 o2 f2
  have z0:=fun X Y=>Heap.upd_ne X (i:=m2) (j:=n) Y (by omega)
  have z1:=fun X Y=>Heap.upd_ne X (i:=m2+1) (j:=n) Y (by omega)
  refine awp_step dr5 (by decide +kernel) ?_
  simp only[go_sem,hr2',Rg.cells,z0,z1]
  have B2:=(((B0.alloc ⟨rgZ.cells,25,false⟩ (cells_ok ⟨rgZ,0#8⟩ _)).alloc ⟨rgZ.cells,25,false⟩ (cells_ok ⟨rgZ,0#8⟩ _)).put (k:=m2) (.inl (.inr rfl)) ⟨r.cells,25,false⟩ (cells_ok ⟨r,0#8⟩ _)).put (k:=m2+1) (.inr rfl) ⟨r.cells,25,false⟩ (cells_ok ⟨r,0#8⟩ _)
  generalize hQ:(fun i=>(False∨i=m2)∨i=m2+1)=Q at B2
  have hQ1:Q m2:=by rw[← hQ]; exact .inl (.inr rfl)
  have hQ2:Q (m2+1):=by rw[← hQ]; exact .inr rfl
  have e0:bxLeft (boxS r.pc code m0)=4294967296:=rfl
  refine awp_gen (fun X=>TW b w (n+2) H1 Q (boxS r.pc code m0) (boxS r.pc code m0) X (m2+1+1)∧X m2=some ⟨r.cells,25,false⟩∧X (m2+1)=some ⟨r.cells,25,false⟩) ⟨B2,by rw[Heap.upd_ne _ _ (by omega),Heap.upd_same]; rfl,Heap.upd_same _ _ _⟩ fun X0 ⟨B3,g1,g2⟩=>?_
  refine awp_seqF (S:=RnS) (fun s=>[(7,.pt b 0),(8,.pt w 0)]) (fun s=>s.H) (fun s=>s.m) (fun s=>TW b w (n+2) H1 Q s.s s.s s.H s.m∧s.s.log.length≤1000)
    (fun s ⟨B,_⟩=>⟨B.wf,Env.okAt_of2 (by have:=B.bm; simp[AV.ok]; omega)⟩) ?_ ?_
  · refine awp_step dr5 (by decide +kernel) ?_
    simp only[go_sem]
    refine awp_block ?_
    refine awp_loopF (S:=RnS) (fun s=>[(5,.pt (n+1) 0),(7,.pt b 0),(8,.pt w 0),(9,.pt m2 0),(10,.pt (m2+1) 0),(11,.i64 s.k)]) (fun s=>s.H) (fun s=>s.m)
      (fun s=>TW b w (n+2) H1 Q s.s s.s s.H s.m∧s.H m2=some ⟨s.x.cells,25,false⟩∧s.H (m2+1)=some ⟨s.x.cells,25,false⟩∧s.x.right=true∧4294967296≤bxLeft s.s+12*s.k∧s.k≤60) (fun s=>60-s.k)
      (fun s ⟨B,_⟩=>⟨B.wf,Env.okAt_of2 (by have:=B.own m2 hQ1; have:=B.own (m2+1) hQ2; have:=B.bm; have:=B.le; simp[AV.ok]; omega)⟩) ?_ ⟨0,r,boxS r.pc code m0,X0,m2+1+1⟩ ⟨B3,g1,g2,hr,by rw[e0]; omega,Nat.zero_le _⟩ (by repeat (first | exact Env.le_nil _ | refine Env.le_cons rfl ?_)) (fun _ _=>rfl) rfl
    rintro⟨k,x,s,X,m⟩ ⟨B,hx,hy,hxr,hl,hk⟩
    simp only at B hx hy hxr hl hk ⊢
    have hx':=hx
    have hy':=hy
    simp only[Rg.cells] at hx' hy'
    have hmo:X (n+1)=some ⟨[.u8 m0,.u8 m1],50,false⟩:=by rw[B.fr (n+1) (by omega)]; exact hm1
    refine awp_step dr5 (by decide +kernel) ?_
    simp only[go_sem]
    refine⟨fun hlt=>?_,fun hlt=>Ends.mk (⟨k,x,s,X,m⟩:RnS) ⟨B,by unfold bxLeft at hl; simp only; omega⟩ (by repeat (first | exact Env.le_nil _ | refine Env.le_cons rfl ?_)) (fun _ _=>rfl) (by have:=B.own (m2+1) hQ2; simp only; omega) (Nat.le_refl _)⟩
    refine awp_seq ?_
    refine awp_block ?_
    have hlen:s.log.length≤1000:=by unfold bxLeft at hl; omega
    refine awp_seqF (S:=Bool×Bool) (fun p=>[(5,.pt (n+1) 0),(7,.pt b 0),(8,.pt w 0),(9,.pt m2 0),(10,.pt (m2+1) 0),(11,.i64 k),(12,.bo p.1),(13,.bo p.2)]) (fun _=>X) (fun _=>m) (fun _=>True) (fun _ _=>⟨B.wf,Env.okAt_of2 (by have:=B.own m2 hQ1; have:=B.own (m2+1) hQ2; have:=B.bm; have:=B.le; simp[AV.ok]; omega)⟩) ?_ ?_
    · refine awp_ev dr5 (by decide +kernel) ?_
      simp only[go_sem,hmo]
      exact⟨fun _=>Ends.mk (_,_) trivial (by repeat (first | exact Env.le_nil _ | refine Env.le_cons rfl ?_)) (fun _ _=>rfl) (Nat.le_refl _) (Nat.le_refl _),fun _=>Ends.mk (_,_) trivial (by repeat (first | exact Env.le_nil _ | refine Env.le_cons rfl ?_)) (fun _ _=>rfl) (Nat.le_refl _) (Nat.le_refl _)⟩
    rintro⟨p,ln⟩-
    simp only
    refine awp_step dr5 (by decide +kernel) ?_
    simp only[go_sem,hx']
    refine B.inter x p ln (by omega) fun x1 q1 s1 X1 n1 r3 lf1 B1 l3 k1=>?_
    simp only[go_sem,Rg.cells]
    have B1:=B1.alloc ⟨x1.cells,25,false⟩ (cells_ok ⟨x1,0#8⟩ _)
    have hx1:(X1.upd n1 (some ⟨x1.cells,25,false⟩)) m2=some ⟨x.cells,25,false⟩:=by rw[Heap.upd_ne _ _ (by have:=B.own m2 hQ1; omega),k1 m2 hQ1]; exact hx
    have hy1:(X1.upd n1 (some ⟨x1.cells,25,false⟩)) (m2+1)=some ⟨x.cells,25,false⟩:=by rw[Heap.upd_ne _ _ (by have:=B.own (m2+1) hQ2; omega),k1 (m2+1) hQ2]; exact hy
    have hy1':=hy1
    simp only[Rg.cells] at hy1'
    refine awp_step dr5 (by decide +kernel) ?_
    simp only[go_sem,hy1',Rg.cells]
    refine B1.inter2 x p ln hxr (by omega) fun x2 q2 s2 X2 n2 r4 lf2 B2 l4 k2=>?_
    have he:=r3.symm.trans r4
    simp only[Prod.mk.injEq] at he
    obtain⟨⟨rfl,rfl⟩,rfl⟩:=he
    simp only[go_sem,Rg.cells]
    have B3:=B2.alloc ⟨x1.cells,25,false⟩ (cells_ok ⟨x1,0#8⟩ _)
    have hx2:X2 m2=some ⟨x.cells,25,false⟩:=by rw[k2 m2 (.inl hQ1)]; exact hx1
    have hy2:X2 (m2+1)=some ⟨x.cells,25,false⟩:=by rw[k2 (m2+1) (.inl hQ2)]; exact hy1
    have hn1:X2 n1=some ⟨x1.cells,25,false⟩:=by rw[k2 n1 (.inr rfl),Heap.upd_same]
    have on1:=B2.own n1 (.inr rfl)
    have om:=B2.own m2 (.inl hQ1)
    have om1:=B2.own (m2+1) (.inl hQ2)
    have hn1':=hn1
    simp only[Rg.cells] at hn1'
    have hNm:n1≠m2:=fun e=>by have:=B.own m2 hQ1; omega
    have hNm1:n1≠m2+1:=fun e=>by have:=B.own (m2+1) hQ2; omega
    have z3:=fun Y=>(Heap.upd_ne X2 (i:=n2) (j:=n1) Y (by omega)).trans hn1'
    have z4:=fun Y Z=>Heap.upd_ne Z (i:=m2) (j:=n2) Y (by omega)
    refine awp_step dr5 (by decide +kernel) ?_
    simp only[go_sem,z3]
    refine awp_gen (fun X=>TW b w (n+2) H1 (fun i=>(Q i∨i=n1)∨i=n2) s1 s1 X (n2+1)∧X n1=some ⟨x1.cells,25,false⟩∧X n2=some ⟨x1.cells,25,false⟩∧X m2=some ⟨x.cells,25,false⟩∧X (m2+1)=some ⟨x.cells,25,false⟩) ⟨B3,(Heap.upd_ne _ _ (by omega)).trans hn1,Heap.upd_same _ _ _,(Heap.upd_ne _ _ (by omega)).trans hx2,(Heap.upd_ne _ _ (by omega)).trans hy2⟩ fun X3 ⟨B4,v1,v2,v5,v6⟩=>?_
    simp only[Rg.cells] at v5 v6
    have hne2:n2≠m2:=by omega
    have hne3:n2≠m2+1:=by omega
    have v1':=v1
    have v2':=v2
    simp only[Rg.cells] at v1' v2'
    refine awp_step dr5 (by decide +kernel) ?_
    simp only[go_sem,v1',v5]
    refine awp_step dr5 (by decide +kernel) ?_
    have v3:=fun Y=>(Heap.upd_ne X3 (i:=m2) (j:=n2) Y hne2).trans v2'
    have v7:=fun Y=>(Heap.upd_ne X3 (i:=m2) (j:=m2+1) Y (by omega)).trans v6
    simp only[go_sem,v3,v7]
    have B5:=(B4.put (k:=m2) (.inl (.inl hQ1)) ⟨x1.cells,25,false⟩ (cells_ok ⟨x1,0#8⟩ _)).put (k:=m2+1) (.inl (.inl hQ2)) ⟨x1.cells,25,false⟩ (cells_ok ⟨x1,0#8⟩ _)
    refine awp_gen (fun X=>TW b w (n+2) H1 (fun i=>(Q i∨i=n1)∨i=n2) s1 s1 X (n2+1)∧X n1=some ⟨x1.cells,25,false⟩∧X n2=some ⟨x1.cells,25,false⟩∧X m2=some ⟨x1.cells,25,false⟩∧X (m2+1)=some ⟨x1.cells,25,false⟩) ⟨B5,by rw[Heap.upd_ne _ _ hNm1,Heap.upd_ne _ _ hNm]; exact v1,by rw[Heap.upd_ne _ _ hne3,Heap.upd_ne _ _ hne2]; exact v2,by rw[Heap.upd_ne _ _ (by omega),Heap.upd_same]; rfl,Heap.upd_same _ _ _⟩ fun X4 ⟨B6,u1,u2,u3,u4⟩=>?_
    have hin:=inter_ok x hxr p ln
    obtain⟨-,hx1r,hq1⟩:=(Eff.Lv.run (O:=bxO) none _ s hin).choose_spec
    rw[r3] at hx1r hq1
    simp only at hx1r hq1
    have u3':=u3
    have u4':=u4
    simp only[Rg.cells] at u3' u4'
    refine awp_step dr5 (by decide +kernel) ?_
    simp only[go_sem]
    have ek:wrap64 ((k:Int)+1)=((k+1:Nat):Int):=by rw[wrap_id _ (by omega) (by omega)]; omega
    refine⟨fun g=>?_,fun g=>?_⟩
    · refine awp_ev dr5 (by decide +kernel) ?_
      simp only[go_sem,ek]
      exact Ends.mk (⟨k+1,x1,s1,X4,n2+1⟩:RnS) ⟨by simp only; omega,B6.less fun i hi=>.inl (.inl hi),u3,u4,hx1r,by simp only; omega,by simp only; omega⟩ (by repeat (first | exact Env.le_nil _ | refine Env.le_cons rfl ?_)) (fun _ _=>rfl) (by simp only; omega) (Nat.le_refl _)
    refine awp_step dr5 (by decide +kernel) ?_
    simp only[go_sem,u3']
    refine B6.step x1 (by omega) fun x2 q2 s2 X5 n3 r5 lf3 B7 l5 k3=>?_
    have w1:=(k3 n1 (.inl (.inr rfl))).trans u1
    have w2:=(k3 n2 (.inr rfl)).trans u2
    have w3:=(k3 m2 (.inl (.inl hQ1))).trans u3
    have w4:=(k3 (m2+1) (.inl (.inl hQ2))).trans u4
    have w1':=w1
    simp only[Rg.cells] at w1'
    simp only[go_sem,w1',Rg.cells]
    have B8:=B7.put (k:=n1) (.inl (.inr rfl)) ⟨x2.cells,25,false⟩ (cells_ok ⟨x2,0#8⟩ _)
    refine awp_gen (fun X=>TW b w (n+2) H1 (fun i=>(Q i∨i=n1)∨i=n2) s2 s1 X n3∧X n1=some ⟨x2.cells,25,false⟩∧X n2=some ⟨x1.cells,25,false⟩∧X m2=some ⟨x1.cells,25,false⟩∧X (m2+1)=some ⟨x1.cells,25,false⟩) ⟨B8,Heap.upd_same _ _ _,(Heap.upd_ne _ _ (by omega)).trans w2,(Heap.upd_ne _ _ (Ne.symm hNm)).trans w3,(Heap.upd_ne _ _ (Ne.symm hNm1)).trans w4⟩ fun X6 ⟨B9,a1,a2,a3,a4⟩=>?_
    have a4':=a4
    simp only[Rg.cells] at a4'
    refine awp_step dr5 (by decide +kernel) ?_
    simp only[go_sem,a4']
    refine B9.step2 x1 hx1r (by omega) fun x3 q3 s3 X7 n4 r6 lf4 B10 l6 k4=>?_
    have he:=r5.symm.trans r6
    simp only[Prod.mk.injEq] at he
    obtain⟨⟨rfl,rfl⟩,rfl⟩:=he
    have b1:=(k4 n1 (.inl (.inr rfl))).trans a1
    have b2:=(k4 n2 (.inr rfl)).trans a2
    have b3:=(k4 m2 (.inl (.inl hQ1))).trans a3
    have b4:=(k4 (m2+1) (.inl (.inl hQ2))).trans a4
    have b2':=b2
    simp only[Rg.cells] at b2'
    simp only[go_sem,b2',Rg.cells]
    have B11:=B10.put (k:=n2) (.inr rfl) ⟨x2.cells,25,false⟩ (cells_ok ⟨x2,0#8⟩ _)
    refine awp_gen (fun X=>TW b w (n+2) H1 (fun i=>(Q i∨i=n1)∨i=n2) s2 s2 X n4∧X n1=some ⟨x2.cells,25,false⟩∧X n2=some ⟨x2.cells,25,false⟩∧X m2=some ⟨x1.cells,25,false⟩∧X (m2+1)=some ⟨x1.cells,25,false⟩) ⟨B11,(Heap.upd_ne _ _ (by omega)).trans b1,Heap.upd_same _ _ _,(Heap.upd_ne _ _ (Ne.symm hne2)).trans b3,(Heap.upd_ne _ _ (Ne.symm hne3)).trans b4⟩ fun X8 ⟨B12,c1,c2,c3,c4⟩=>?_
    have hst:=step_ok x1 hx1r
    obtain⟨d1,d2,-,d3⟩:=(Eff.Lv.run (O:=bxO) none _ s1 hst).choose_spec
    rw[r5] at d1 d2 d3
    simp only at d1 d2 d3
    simp only[Rg.cells] at c1 c2 c3 c4
    refine awp_step dr5 (by decide +kernel) ?_
    simp only[go_sem,c1,c2]
    refine⟨fun g1=>⟨fun g2=>?_,fun g2=>by exfalso; omega⟩,fun g1=>by exfalso; omega⟩
    refine c_right x2 _ _ _ ?_
    rw[d3]
    simp only[go_sem]
    have c5:=fun Y=>(Heap.upd_ne X8 (i:=m2) (j:=n2) Y hne2).trans c2
    have c6:=fun Y=>(Heap.upd_ne X8 (i:=m2) (j:=m2+1) Y (by omega)).trans c4
    refine awp_step dr5 (by decide +kernel) ?_
    simp only[go_sem,c1,c3]
    refine awp_ev dr5 (by decide +kernel) ?_
    simp only[go_sem,c5,c6,ek]
    have B13:=(B12.put (k:=m2) (.inl (.inl hQ1)) ⟨x2.cells,25,false⟩ (cells_ok ⟨x2,0#8⟩ _)).put (k:=m2+1) (.inl (.inl hQ2)) ⟨x2.cells,25,false⟩ (cells_ok ⟨x2,0#8⟩ _)
    refine awp_ev dr5 (by decide +kernel) ?_
    simp only[go_sem,ek]
    exact Ends.mk (⟨k+1,x2,s2,(X8.upd m2 (some ⟨x2.cells,25,false⟩)).upd (m2+1) (some ⟨x2.cells,25,false⟩),n4⟩:RnS) ⟨by simp only; omega,B13.less fun i hi=>.inl (.inl hi),(Heap.upd_ne _ _ (by omega)).trans (Heap.upd_same _ _ _),Heap.upd_same _ _ _,d3,by simp only; omega,by simp only; omega⟩ (by repeat (first | exact Env.le_nil _ | refine Env.le_cons rfl ?_)) (fun _ _=>rfl) (by simp only; omega) (Nat.le_refl _)
  rintro⟨k,x,s,X,m⟩ ⟨B,hlen⟩
  simp only at B hlen ⊢
  obtain⟨k1,k2,L1,L2,A,g1,g2,g3,g4,g5,g6,g7,g8,-⟩:=B.logs
  refine awp_seq ?_
  refine awp_tree td5_24 tr5_24 (by decide +kernel) (by decide +kernel) ?_
  simp only[go_sem,g1,g2]
  refine c_same s.log (by omega) L1 L2 g3 g4 ?_
  simp only[go_sem,g1,g2,g5,g6,g7,g8]
  have q0:65536≤(s.mem.map AV.u8).length:=by rw[List.length_map]; omega
  have fin:awp Tryz.prog 149 Code.ret (finK Tryz.prog [ResultVar.tmp 6] n K) [(6,AV.bo true)] X m:=by
    refine awp_ev dr5 (by decide +kernel) ?_
    simp only[go_sem]
    exact Fin.back wf h (fun i hi=>by rw[B.fr i (by omega),f1 i (by omega),Heap.upd_ne _ _ (by omega),Heap.upd_ne _ _ (by omega)]) rfl
  exact⟨⟨q0,q0,fin.weaken (by repeat (first | exact Env.le_nil _ | refine Env.le_cons rfl ?_)) (Heap.le.refl _)⟩,q0,q0,fin.weaken (by repeat (first | exact Env.le_nil _ | refine Env.le_cons rfl ?_)) (Heap.le.refl _)⟩
end Go.Proofs.Joy
namespace Go.Proofs.Joy
open Go.Ab
set_option maxHeartbeats 1000000
end Go.Proofs.Joy
namespace Go.Proofs.Joy
open Go.Ab
set_option maxHeartbeats 1000000
end Go.Proofs.Joy
namespace Go.Proofs.Joy
open Go.Ab
set_option maxHeartbeats 1000000
end Go.Proofs.Joy
namespace Go.Proofs.Joy
open Go.Ab
set_option maxHeartbeats 1000000
end Go.Proofs.Joy
namespace Go.Proofs.Joy
open Go.Ab
set_option maxHeartbeats 1000000
end Go.Proofs.Joy
namespace Go.Proofs.Joy
open Go.Ab
set_option maxHeartbeats 1000000
end Go.Proofs.Joy
namespace Go.Proofs.Joy
open Go.Ab
set_option maxHeartbeats 1000000
end Go.Proofs.Joy
namespace Go.Proofs.Joy
open Go.Ab Go
theorem fitsR_cons {k:EK} {ks:List EK} {l:List AV} (h:FitsR (k :: ks) l):∃x l',l=x :: l'∧x.fits k=true∧FitsR ks l':=by
  match l,h with
  | [],h=>simp[FitsR,fits] at h
  | x :: l',⟨h,hr⟩=>
    simp only[fits,Bool.and_eq_true] at h
    exact⟨x,l',rfl,h.1,h.2,fun y hy=>hr y (List.mem_cons_of_mem _ hy)⟩
theorem fits_u8 {x:AV} (h:x.fits (.int .u8)=true):∃v,x=.u8 v:=by cases x <;> simp[AV.fits] at h; exact⟨_,rfl⟩
theorem fits_u16 {x:AV} (h:x.fits (.int .u16)=true):∃v,x=.u16 v:=by cases x <;> simp[AV.fits] at h; exact⟨_,rfl⟩
theorem fits_bool {x:AV} (h:x.fits .bool=true):∃v,x=.bo v:=by cases x <;> simp[AV.fits] at h; exact⟨_,rfl⟩
theorem fitsR_u8 {ks:List EK} {l:List AV} (h:FitsR (.int .u8 :: ks) l):∃x l',l=.u8 x :: l'∧FitsR ks l':=by
  obtain⟨x,l',rfl,h1,h2⟩:=fitsR_cons h
  obtain⟨v,rfl⟩:=fits_u8 h1
  exact⟨v,l',rfl,h2⟩
theorem fitsR_u16 {ks:List EK} {l:List AV} (h:FitsR (.int .u16 :: ks) l):∃x l',l=.u16 x :: l'∧FitsR ks l':=by
  obtain⟨x,l',rfl,h1,h2⟩:=fitsR_cons h
  obtain⟨v,rfl⟩:=fits_u16 h1
  exact⟨v,l',rfl,h2⟩
theorem fitsR_bool {ks:List EK} {l:List AV} (h:FitsR (.bool :: ks) l):∃x l',l=.bo x :: l'∧FitsR ks l':=by
  obtain⟨x,l',rfl,h1,h2⟩:=fitsR_cons h
  obtain⟨v,rfl⟩:=fits_bool h1
  exact⟨v,l',rfl,h2⟩
theorem fitsR_nil {l:List AV} (h:FitsR [] l):l=[]:=by
  match l,h with
  | [],_=>rfl
  | _ :: _,h=>simp[FitsR,fits] at h
def kR:List EK:=[.int .u8,.int .u8,.int .u8,.int .u8,.int .u8,.int .u8,.int .u8,.int .u8,.int .u8,.int .u8,.int .u8,.int .u8,.int .u8,.int .u8,.int .u8,.int .u8,.int .u16,.int .u16,.int .u16,.int .u16,.int .u16,.int .u8,.int .u8,.int .u8,.int .u8,.bool,.bool,.bool,.bool]
def shR:AK:=.ag (kR.map .k)
theorem fitA_rg {H:Heap} {v:AV} (h00:fitA H shR v):∃r:Rg,v=.ag r.cells:=by
  obtain⟨l1,rfl,h1⟩:=fitA_flat h00
  obtain⟨a,l2,rfl,h2⟩:=fitsR_u8 h1
  obtain⟨f,l3,rfl,h3⟩:=fitsR_u8 h2
  obtain⟨b,l4,rfl,h4⟩:=fitsR_u8 h3
  obtain⟨c,l5,rfl,h5⟩:=fitsR_u8 h4
  obtain⟨d,l6,rfl,h6⟩:=fitsR_u8 h5
  obtain⟨e,l7,rfl,h7⟩:=fitsR_u8 h6
  obtain⟨hh_,l8,rfl,h8⟩:=fitsR_u8 h7
  obtain⟨ll_,l9,rfl,h9⟩:=fitsR_u8 h8
  obtain⟨a2,l10,rfl,h10⟩:=fitsR_u8 h9
  obtain⟨f2,l11,rfl,h11⟩:=fitsR_u8 h10
  obtain⟨b2,l12,rfl,h12⟩:=fitsR_u8 h11
  obtain⟨c2,l13,rfl,h13⟩:=fitsR_u8 h12
  obtain⟨d2,l14,rfl,h14⟩:=fitsR_u8 h13
  obtain⟨e2,l15,rfl,h15⟩:=fitsR_u8 h14
  obtain⟨h2_,l16,rfl,h16⟩:=fitsR_u8 h15
  obtain⟨l2_,l17,rfl,h17⟩:=fitsR_u8 h16
  obtain⟨ix,l18,rfl,h18⟩:=fitsR_u16 h17
  obtain⟨iy,l19,rfl,h19⟩:=fitsR_u16 h18
  obtain⟨sp,l20,rfl,h20⟩:=fitsR_u16 h19
  obtain⟨pc,l21,rfl,h21⟩:=fitsR_u16 h20
  obtain⟨wz,l22,rfl,h22⟩:=fitsR_u16 h21
  obtain⟨i,l23,rfl,h23⟩:=fitsR_u8 h22
  obtain⟨r,l24,rfl,h24⟩:=fitsR_u8 h23
  obtain⟨im,l25,rfl,h25⟩:=fitsR_u8 h24
  obtain⟨pre,l26,rfl,h26⟩:=fitsR_u8 h25
  obtain⟨x1,l27,rfl,h27⟩:=fitsR_bool h26
  obtain⟨x2,l28,rfl,h28⟩:=fitsR_bool h27
  obtain⟨x3,l29,rfl,h29⟩:=fitsR_bool h28
  obtain⟨x4,l30,rfl,h30⟩:=fitsR_bool h29
  obtain rfl:=fitsR_nil h30
  exact⟨⟨a,f,b,c,d,e,hh_,ll_,a2,f2,b2,c2,d2,e2,h2_,l2_,ix,iy,sp,pc,wz,i,r,im,pre,x1,x2,x3,x4⟩,rfl⟩
end Go.Proofs.Joy
namespace Go.Proofs.Joy
open Go.Ab Go.Proofs
def shBs:AK:=.one (.s 5 [.int .u8])
end Go.Proofs.Joy
namespace Go.Proofs.Joy
open Go.Ab Go.Proofs
def shB2:AK:=.ag ([.int .u8,.int .u8].map .k)
theorem runs_all (H:Heap) (n:Nat) (L:List AV) (_:RO H) (_:H.wf n) (hok:∀x∈L,x.ok n=true) (hf:fitAs H [shR,shBs,shB2] L):ACalls Tryz.prog 5 L H n fun v _ _=>v=.bo true:=by
  match L,hf with
  | [a,b,c],⟨h1,h2,h3,_⟩=>
    obtain⟨r,rfl⟩:=fitA_rg h1
    obtain⟨bs,hb⟩:=fitL_bytesIn (el:=5) h2
    obtain⟨l,rfl,hl⟩:=fitA_flat h3
    obtain⟨x,l2,rfl,hl2⟩:=fitsR_u8 hl
    obtain⟨y,l3,rfl,hl3⟩:=fitsR_u8 hl2
    obtain rfl:=fitsR_nil hl3
    exact runs_walk _ bs _ _ _ _ _ _ hb (hok b (by simp)) rfl
end Go.Proofs.Joy
