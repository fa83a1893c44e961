/- Parts of the proof: the evaluator and its soundness. -/
import Derived.Tactics
import Derived.LoopN
import Derived.Orders
import Derived.IntWalk
import Derived.Lib.Strings
import Derived.Laws.StructEq
import Derived.Laws.Small
import Derived.Laws.Pointers
import Derived.ChangeKeysEq
import Derived.Laws.BytesString
import Derived.OrdersHeld
set_option linter.unusedSimpArgs false
set_option linter.unusedVariables false
set_option linter.unnecessarySimpa false
namespace Go.Ab
inductive AV where
  | bo (x:Bool)
  | u8 (x:BitVec 8) | u16 (x:BitVec 16) | u32 (x:BitVec 32) | u64 (x:BitVec 64) | i8 (x:BitVec 8) | i32 (x:BitVec 32)
  | i64 (n:Int)
  | st (x:List (BitVec 8))
  | pt (blk off:Nat) | pn
  | sl (blk off len cap:Nat) | su (blk off len esz:Nat) | sn
  | ag (l:List AV) | tu (l:List AV)
  | ifc (t:Nat) (v:AV) | ifn
  | fn (f:Nat) (l:List AV) | fnn
  | junk
  deriving Inhabited
structure NM where
  ρ:Nat→Nat
  κ:Nat→Nat
  β:Nat→Nat:=fun _=>0
mutual
def AV.toV (m:NM):AV→Value
  | .bo x=>.bool x
  | .u8 x=>.int .u8 x.toNat
  | .u16 x=>.int .u16 x.toNat
  | .u32 x=>.int .u32 x.toNat
  | .u64 x=>.int .u64 x.toNat
  | .i8 x=>.int .i8 x.toInt
  | .i32 x=>.int .i32 x.toInt
  | .i64 n=>.int .i64 n
  | .st x=>.string ⟨(x.map UInt8.ofBitVec).toArray⟩
  | .pt b o=>.pointer (some ⟨m.ρ b,m.β b+o,none⟩)
  | .pn=>.pointer none
  | .sl b o l c=>.slice (some ⟨m.ρ b,m.β b+o,none⟩) l c
  | .su b o l e=>.slice (some ⟨m.ρ b,m.β b+o,none⟩) l ((m.κ b-o) / e)
  | .sn=>.slice none 0 0
  | .ag l=>.agg (AV.toVs m l).toArray
  | .tu l=>.tuple (AV.toVs m l).toArray
  | .ifc t v=>.iface t (AV.toV m v)
  | .ifn=>.nilIface
  | .fn f l=>.func (.func f) #[] (AV.toVs m l).toArray
  | .fnn=>.nilFunc
  | .junk=>undef
def AV.toVs (m:NM):List AV→List Value
  | []=>[]
  | v :: r=>AV.toV m v :: AV.toVs m r
end
def AV.one:AV→Bool
  | .ag _ | .tu _ | .junk=>false
  | _=>true
mutual
def AV.ok (n:Nat):AV→Bool
  | .pt b _=>decide (b<n)
  | .sl b _ _ _=>decide (b<n)
  | .su b _ _ e=>decide (b<n)&&decide (0<e)
  | .ag l=>AV.oks n l&&l.all AV.one
  | .tu l=>AV.oks n l
  | .ifc _ v=>AV.ok n v
  | .fn _ l=>AV.oks n l
  | _=>true
def AV.oks (n:Nat):List AV→Bool
  | []=>true
  | v :: r=>AV.ok n v&&AV.oks n r
end
theorem AV.toVs_eq (m:NM) (l:List AV):AV.toVs m l=l.map (AV.toV m):=by
  induction l with
  | nil=>simp[AV.toVs]
  | cons a r ih=>simp[AV.toVs,ih]
theorem AV.oks_eq (n:Nat) (l:List AV):AV.oks n l=l.all (AV.ok n):=by
  induction l with
  | nil=>simp[AV.oks]
  | cons a r ih=>simp[AV.oks,ih]
mutual
theorem AV.ok_mono {n n':Nat} (h:n≤n'):∀(v:AV),v.ok n=true→v.ok n'=true
  | .pt b _,hv=>by simp only[AV.ok,decide_eq_true_eq] at*; omega
  | .sl b _ _ _,hv=>by simp only[AV.ok,decide_eq_true_eq] at*; omega
  | .su b _ _ e,hv=>by simp only[AV.ok,Bool.and_eq_true,decide_eq_true_eq] at*; omega
  | .ag l,hv=>by simp only[AV.ok,Bool.and_eq_true] at*; exact⟨AV.oks_mono h l hv.1,hv.2⟩
  | .tu l,hv=>by simp only[AV.ok] at*; exact AV.oks_mono h l hv
  | .ifc _ v,hv=>by simp only[AV.ok] at*; exact AV.ok_mono h v hv
  | .fn _ l,hv=>by simp only[AV.ok] at*; exact AV.oks_mono h l hv
  | .bo _,_=>rfl | .u8 _,_=>rfl | .u16 _,_=>rfl | .u32 _,_=>rfl | .u64 _,_=>rfl | .i8 _,_=>rfl | .i32 _,_=>rfl | .i64 _,_=>rfl
  | .st _,_=>rfl | .pn,_=>rfl | .sn,_=>rfl | .ifn,_=>rfl | .fnn,_=>rfl | .junk,_=>rfl
theorem AV.oks_mono {n n':Nat} (h:n≤n'):∀(l:List AV),AV.oks n l=true→AV.oks n' l=true
  | [],_=>rfl
  | v :: r,hv=>by simp only[AV.oks,Bool.and_eq_true] at*; exact⟨AV.ok_mono h v hv.1,AV.oks_mono h r hv.2⟩
end
def NM.agree (n:Nat) (m m':NM):Prop:=∀i,i<n→m'.ρ i=m.ρ i∧m'.κ i=m.κ i∧m'.β i=m.β i
theorem NM.agree.refl (n:Nat) (m:NM):NM.agree n m m:=fun _ _=>⟨rfl,rfl,rfl⟩
theorem NM.agree.trans {n n':Nat} {m m' m'':NM} (h:NM.agree n m m') (h':NM.agree n' m' m'') (hn:n≤n'):NM.agree n m m'':=
  fun i hi=>⟨((h' i (by omega)).1).trans (h i hi).1,((h' i (by omega)).2.1).trans (h i hi).2.1,((h' i (by omega)).2.2).trans (h i hi).2.2⟩
theorem NM.agree.mono {n n':Nat} {m m':NM} (h:NM.agree n' m m') (hn:n≤n'):NM.agree n m m':=fun i hi=>h i (by omega)
mutual
theorem AV.toV_agree {n:Nat} {m m':NM} (h:NM.agree n m m'):∀(v:AV),v.ok n=true→AV.toV m' v=AV.toV m v
  | .pt b _,hv=>by simp only[AV.ok,decide_eq_true_eq] at hv; simp only[AV.toV,(h b hv).1,(h b hv).2.2]
  | .sl b _ _ _,hv=>by simp only[AV.ok,decide_eq_true_eq] at hv; simp only[AV.toV,(h b hv).1,(h b hv).2.2]
  | .su b _ _ e,hv=>by simp only[AV.ok,Bool.and_eq_true,decide_eq_true_eq] at hv; simp only[AV.toV,(h b hv.1).1,(h b hv.1).2.1,(h b hv.1).2.2]
  | .ag l,hv=>by simp only[AV.ok,Bool.and_eq_true] at hv; simp only[AV.toV,AV.toVs_agree h l hv.1]
  | .tu l,hv=>by simp only[AV.ok] at hv; simp only[AV.toV,AV.toVs_agree h l hv]
  | .ifc _ v,hv=>by simp only[AV.ok] at hv; simp only[AV.toV,AV.toV_agree h v hv]
  | .fn _ l,hv=>by simp only[AV.ok] at hv; simp only[AV.toV,AV.toVs_agree h l hv]
  | .bo _,_=>rfl | .u8 _,_=>rfl | .u16 _,_=>rfl | .u32 _,_=>rfl | .u64 _,_=>rfl | .i8 _,_=>rfl | .i32 _,_=>rfl | .i64 _,_=>rfl
  | .st _,_=>rfl | .pn,_=>rfl | .sn,_=>rfl | .ifn,_=>rfl | .fnn,_=>rfl | .junk,_=>rfl
theorem AV.toVs_agree {n:Nat} {m m':NM} (h:NM.agree n m m'):∀(l:List AV),AV.oks n l=true→AV.toVs m' l=AV.toVs m l
  | [],_=>rfl
  | v :: r,hv=>by simp only[AV.oks,Bool.and_eq_true] at hv; simp only[AV.toVs,AV.toV_agree h v hv.1,AV.toVs_agree h r hv.2]
end
structure Blk where
  cells:List AV
  elem:Nat
  ro:Bool:=false
abbrev Heap:=Nat→Option Blk
def Heap.upd (H:Heap) (i:Nat) (b:Option Blk):Heap:=fun j=>if j=i then b else H j
@[simp] theorem Heap.upd_same (H:Heap) (i:Nat) (b:Option Blk):H.upd i b i=b:=by simp[Heap.upd]
theorem Heap.upd_ne (H:Heap) {i j:Nat} (b:Option Blk) (h:j≠i):H.upd i b j=H j:=by simp[Heap.upd,h]
@[simp] theorem Heap.upd_upd (H:Heap) (i:Nat) (b c:Option Blk):(H.upd i b).upd i c=H.upd i c:=by
  funext j; simp only[Heap.upd]; split <;> rfl
def freeAt (fz:Nat×Nat) (k:Nat):Prop:=¬(fz.1≤k∧k<fz.2)
structure HRel (m:NM) (H:Heap) (n:Nat) (w:World):Prop where
  dom:∀i b,H i=some b→i<n
  blk:∀i b,H i=some b→∃(c:Array Value) (fz:Nat×Nat),w.heap[m.ρ i]?=some (.cells c b.elem fz)∧m.β i+m.κ i=c.size∧(b.ro=false→m.β i=0∧∀k,k<c.size→freeAt fz k)∧∀(j:Nat) (v:AV),b.cells[j]?=some v→c[m.β i+j]?=some (AV.toV m v)
  inj:∀i j bi bj,H i=some bi→H j=some bj→i≠j→bi.ro=false→m.ρ i≠m.ρ j
  ok:∀i b,H i=some b→∀v,v∈b.cells→v.ok n=true∧v.one=true
structure Fr (m:NM) (H:Heap) (w:World) (m':NM) (H':Heap) (w':World):Prop where
  os:w'.os=w.os
  tape:w'.tape=w.tape
  output:w'.output=w.output
  size:w.heap.size≤w'.heap.size
  keep:∀k,k<w.heap.size→(∀i b,H i=some b→b.ro=false→m.ρ i≠k)→w'.heap[k]?=w.heap[k]?
  own:∀i b,H' i=some b→(∃j bj,H j=some bj∧(b.ro=false→bj.ro=false)∧m.ρ j=m'.ρ i)∨w.heap.size≤m'.ρ i
theorem Fr.refl (m:NM) (H:Heap) (w:World):Fr m H w m H w:=
  ⟨rfl,rfl,rfl,Nat.le_refl _,fun _ _ _=>rfl,fun i b h=>.inl ⟨i,b,h,id,rfl⟩⟩
theorem Fr.trans {m m' m'':NM} {H H' H'':Heap} {w w' w'':World} (h:Fr m H w m' H' w') (h':Fr m' H' w' m'' H'' w''):Fr m H w m'' H'' w'' where
  os:=h'.os.trans h.os
  tape:=h'.tape.trans h.tape
  output:=h'.output.trans h.output
  size:=Nat.le_trans h.size h'.size
  keep:=fun k hk hn=>by
    rw[h'.keep k (by have:=h.size; omega) (fun i b hi hr he=>?_),h.keep k hk hn]
    rcases h.own i b hi with ⟨j,bj,hj,hjr,e⟩ | hge
    · exact hn j bj hj (hjr hr) (e.trans he)
    · omega
  own:=fun i b hi=>by
    rcases h'.own i b hi with ⟨j,bj,hj,hjr,e⟩ | hge
    · rcases h.own j bj hj with ⟨l,bl,hl,hlr,e'⟩ | hge'
      · exact .inl ⟨l,bl,hl,fun h0=>hlr (hjr h0),e'.trans e⟩
      · exact .inr (by omega)
    · exact .inr (Nat.le_trans h.size hge)
abbrev Env:=List (Nat×AV)
def Env.get:Env→Nat→AV
  | [],_=>.junk
  | (t,v) :: r,u=>if t=u then v else Env.get r u
structure ERel (m:NM) (N n:Nat) (env:Env) (a:Act):Prop where
  size:a.tmps.size=N
  defers:a.defers=[]
  get:∀t,env.get t≠ .junk→a.tmps.getD t undef=AV.toV m (env.get t)∧(env.get t).ok n=true
theorem ERel.put {m:NM} {N n:Nat} {env:Env} {a:Act} (h:ERel m N n env a) {d:Nat} (hd:d<N) {v:AV} {x:Value} (hv:v≠ .junk→x=AV.toV m v∧v.ok n=true):
    ERel m N n ((d,v) :: env) (a.put (some d) x) where
  size:=by simp[Act.put,h.size]
  defers:=by simp[Act.put,h.defers]
  get:=fun t ht=>by
    simp only[Env.get] at ht ⊢
    split at ht
    · rename_i e; subst e
      simp only[if_true]
      simp only[Act.put,Array.getD_eq_getD_getElem?,Array.getElem?_setIfInBounds,h.size,hd,if_true,Option.getD_some]
      exact hv ht
    · rename_i hne
      simp only[hne,if_false]
      have:=h.get t ht
      simp only[Act.put,Array.getD_eq_getD_getElem?,Array.getElem?_setIfInBounds,hne,if_false] at this ⊢
      exact this
theorem ERel.agree {m m':NM} {N n n':Nat} {env:Env} {a:Act} (h:ERel m N n env a) (ha:NM.agree n m m') (hn:n≤n'):ERel m' N n' env a where
  size:=h.size
  defers:=h.defers
  get:=fun t ht=>⟨by rw[(h.get t ht).1,AV.toV_agree ha _ (h.get t ht).2],AV.ok_mono hn _ (h.get t ht).2⟩
def Env.le (e e':Env):Prop:=∀t,e.get t≠ .junk→e.get t=e'.get t
theorem ERel.weaken {m:NM} {N n:Nat} {env env':Env} {a:Act} (h:ERel m N n env' a) (hl:env.le env'):ERel m N n env a where
  size:=h.size
  defers:=h.defers
  get:=fun t ht=>by have e:=hl t ht; rw[e] at ht ⊢; exact h.get t ht
def Blk.le (b b':Blk):Prop:=b.elem=b'.elem∧b.ro=b'.ro∧b.cells<+:b'.cells
def Heap.le (H H':Heap):Prop:=∀i b,H i=some b→∃b',H' i=some b'∧b.le b'
theorem Heap.le.refl (H:Heap):H.le H:=fun _ b h=>⟨b,h,rfl,rfl,List.prefix_refl _⟩
theorem getElem?_of_prefix {α:Type} {l l':List α} (h:l<+:l') {j:Nat} {v:α} (hv:l[j]?=some v):l'[j]?=some v:=by
  obtain⟨r,rfl⟩:=h
  have hj:j<l.length:=by
    rcases Nat.lt_or_ge j l.length with h | h
    · exact h
    · simp[List.getElem?_eq_none h] at hv
  rw[List.getElem?_append_left hj]; exact hv
theorem HRel.weaken {m:NM} {H H':Heap} {n:Nat} {w:World} (h:HRel m H' n w) (hl:H.le H'):HRel m H n w where
  dom:=fun i b hi=>let⟨b',hb',_⟩:=hl i b hi; h.dom i b' hb'
  blk:=fun i b hi=>by
    obtain⟨b',hb',he,hr,hp⟩:=hl i b hi
    obtain⟨c,fz,hc,hk,hf,hv⟩:=h.blk i b' hb'
    exact⟨c,fz,by rw[he]; exact hc,hk,fun h0=>hf (by rw[← hr]; exact h0),fun j v hj=>hv j v (getElem?_of_prefix hp hj)⟩
  inj:=fun i j bi bj hi hj hne hr=>by
    obtain⟨bi',hi',_,hr',_⟩:=hl i bi hi
    obtain⟨bj',hj',_⟩:=hl j bj hj
    exact h.inj i j bi' bj' hi' hj' hne (by rw[← hr']; exact hr)
  ok:=fun i b hi v hv=>by
    obtain⟨b',hb',_,_,hp⟩:=hl i b hi
    exact h.ok i b' hb' v (hp.subset hv)
theorem Fr.weaken {m m':NM} {H H' H'':Heap} {w w':World} (h:Fr m H w m' H' w') (hl:H''.le H'):Fr m H w m' H'' w' where
  os:=h.os
  tape:=h.tape
  output:=h.output
  size:=h.size
  keep:=h.keep
  own:=fun i b hi=>by
    obtain⟨b',hb',_,hr',_⟩:=hl i b hi
    rcases h.own i b' hb' with ⟨j,bj,hj,hjr,e⟩ | hge
    · exact .inl ⟨j,bj,hj,fun h0=>hjr (by rw[← hr']; exact h0),e⟩
    · exact .inr hge
def Heap.wf (n:Nat) (H:Heap):Prop:=∀i b,H i=some b→i<n∧∀v,v∈b.cells→v.ok n=true
theorem HRel.wf {m:NM} {H:Heap} {n:Nat} {w:World} (h:HRel m H n w):H.wf n:=fun i b hi=>⟨h.dom i b hi,fun v hv=>(h.ok i b hi v hv).1⟩
theorem HRel.cut {m:NM} {H:Heap} {n n':Nat} {w:World} (h:HRel m H n' w) (hw:H.wf n):HRel m H n w where
  dom:=fun i b hi=>(hw i b hi).1
  blk:=h.blk
  inj:=h.inj
  ok:=fun i b hi v hv=>⟨(hw i b hi).2 v hv,(h.ok i b hi v hv).2⟩
end Go.Ab
namespace Go.Ab
def ofV:Value→AV
  | .bool b=>.bo b
  | .int .u8 n=>if 0≤n∧n<256 then .u8 (BitVec.ofInt 8 n) else .junk
  | .int .u16 n=>if 0≤n∧n<65536 then .u16 (BitVec.ofInt 16 n) else .junk
  | .int .u32 n=>if 0≤n∧n<4294967296 then .u32 (BitVec.ofInt 32 n) else .junk
  | .int .u64 n=>if 0≤n∧n<18446744073709551616 then .u64 (BitVec.ofInt 64 n) else .junk
  | .int .i8 n=>if-128≤n∧n<128 then .i8 (BitVec.ofInt 8 n) else .junk
  | .int .i32 n=>if-2147483648≤n∧n<2147483648 then .i32 (BitVec.ofInt 32 n) else .junk
  | .int .i64 n=>.i64 n
  | .string s=>.st (s.data.toList.map UInt8.toBitVec)
  | .pointer none=>.pn
  | .slice none 0 0=>.sn
  | .nilIface=>.ifn
  | .nilFunc=>.fnn
  | _=>.junk
def opv (env:Env):Operand→AV
  | .tmp t=>env.get t
  | .const v=>ofV v
  | .func f=>.fn f []
  | .global _=>.junk
theorem toNat_ofInt (w:Nat) (n:Int) (h0:0≤n) (h:n<2 ^ w):((BitVec.ofInt w n).toNat:Int)=n:=by
  rw[BitVec.toNat_ofInt]
  have:(2:Int) ^ w=((2 ^ w:Nat):Int):=by simp
  rw[this] at h
  have e:n%((2 ^ w:Nat):Int)=n:=Int.emod_eq_of_lt h0 h
  rw[e]; omega
theorem toV_ofV (m:NM) (v:Value) (h:ofV v≠ .junk):AV.toV m (ofV v)=v:=by
  unfold ofV at*
  split at h <;> try (simp only[AV.toV]; done)
  · split at h
    · rename_i hc; simp only[hc,and_self,if_true,AV.toV]; rw[toNat_ofInt 8 _ hc.1 (by omega)]
    · exact absurd rfl h
  · split at h
    · rename_i hc; simp only[hc,and_self,if_true,AV.toV]; rw[toNat_ofInt 16 _ hc.1 (by omega)]
    · exact absurd rfl h
  · split at h
    · rename_i hc; simp only[hc,and_self,if_true,AV.toV]; rw[toNat_ofInt 32 _ hc.1 (by omega)]
    · exact absurd rfl h
  · split at h
    · rename_i hc; simp only[hc,and_self,if_true,AV.toV]; rw[toNat_ofInt 64 _ hc.1 (by omega)]
    · exact absurd rfl h
  · split at h
    · rename_i hc; simp only[hc,and_self,if_true,AV.toV,BitVec.toInt_ofInt]; congr 1; rw[Int.bmod_def]; omega
    · exact absurd rfl h
  · split at h
    · rename_i hc; simp only[hc,and_self,if_true,AV.toV,BitVec.toInt_ofInt]; congr 1; rw[Int.bmod_def]; omega
    · exact absurd rfl h
  · rename_i s; simp only[AV.toV,List.map_map]
    congr 1
    cases s with | mk d=>cases d with | mk l=>simp[Function.comp_def]
  · exact absurd rfl h
theorem ofV_ok (n:Nat) (v:Value):(ofV v).ok n=true:=by
  unfold ofV; split <;> try rfl
  all_goals (split <;> rfl)
theorem eval_opv {m:NM} {N n:Nat} {env:Env} {a:Act} (h:ERel m N n env a) (x:Operand) (hx:opv env x≠ .junk):
    a.eval x=AV.toV m (opv env x)∧(opv env x).ok n=true:=by
  cases x with
  | tmp t=>exact h.get t hx
  | const v=>exact⟨(toV_ofV m v hx).symm,ofV_ok n v⟩
  | func f=>simp[opv,Act.eval,AV.toV,AV.toVs,AV.ok,AV.oks]
  | global g=>exact absurd rfl hx
def idx:AV→Option Int
  | .u8 x=>some x.toNat
  | .u16 x=>some x.toNat
  | .u32 x=>some x.toNat
  | .u64 x=>some x.toNat
  | .i8 x=>some x.toInt
  | .i64 n=>some n
  | _=>none
def knd:AV→IntKind
  | .u8 _=>.u8 | .u16 _=>.u16 | .u32 _=>.u32 | .u64 _=>.u64 | .i8 _=>.i8 | _=>.i64
theorem toV_idx {m:NM} {v:AV} {i:Int} (h:idx v=some i):AV.toV m v=.int (knd v) i:=by
  cases v <;> simp only[idx,Option.some.injEq,reduceCtorEq] at h <;> subst h <;> rfl
def binU {w:Nat} (op:BinOp) (x y:BitVec w) (mk:BitVec w→AV) (K:AV→Prop):Prop:=
  match op with
  | .add=>K (mk (x+y))
  | .sub=>K (mk (x-y))
  | .mul=>K (mk (x*y))
  | .quo=>y≠0∧K (mk (x / y))
  | .rem=>y≠0∧K (mk (x%y))
  | .and=>K (mk (x&&&y))
  | .or=>K (mk (x|||y))
  | .xor=>K (mk (x^^^y))
  | .andNot=>K (mk (x&&& ~~~ y))
  | .eql=>K (.bo (x==y))
  | .neq=>K (.bo (x !=y))
  | .lss=>K (.bo (decide (x<y)))
  | .leq=>K (.bo (decide (x≤y)))
  | .gtr=>K (.bo (decide (y<x)))
  | .geq=>K (.bo (decide (y≤x)))
  | _=>False
def wrap64 (n:Int):Int:=IntKind.i64.wrap n
def and64 (x y:Int):Int:=wrap64 (BitVec.ofInt 64 x&&&BitVec.ofInt 64 y).toNat
def or64 (x y:Int):Int:=wrap64 (BitVec.ofInt 64 x|||BitVec.ofInt 64 y).toNat
def xor64 (x y:Int):Int:=wrap64 (BitVec.ofInt 64 x^^^BitVec.ofInt 64 y).toNat
def andNot64 (x y:Int):Int:=wrap64 (BitVec.ofInt 64 x&&& ~~~ BitVec.ofInt 64 y).toNat
def binI (op:BinOp) (x y:Int) (K:AV→Prop):Prop:=
  match op with
  | .add=>K (.i64 (wrap64 (x+y)))
  | .sub=>K (.i64 (wrap64 (x-y)))
  | .mul=>K (.i64 (wrap64 (x*y)))
  | .quo=>y≠0∧K (.i64 (wrap64 (x.tdiv y)))
  | .rem=>y≠0∧K (.i64 (x.tmod y))
  | .and=>K (.i64 (and64 x y))
  | .or=>K (.i64 (or64 x y))
  | .xor=>K (.i64 (xor64 x y))
  | .andNot=>K (.i64 (andNot64 x y))
  | .eql=>K (.bo (x==y))
  | .neq=>K (.bo (x !=y))
  | .lss=>K (.bo (decide (x<y)))
  | .leq=>K (.bo (decide (x≤y)))
  | .gtr=>K (.bo (decide (y<x)))
  | .geq=>K (.bo (decide (y≤x)))
  | _=>False
def shU {w:Nat} (op:BinOp) (x:BitVec w) (c:Int) (mk:BitVec w→AV) (K:AV→Prop):Prop:=
  match op with
  | .shl=>0≤c∧K (mk (x<<<c.toNat))
  | .shr=>0≤c∧K (mk (x>>>c.toNat))
  | _=>False
def shI (op:BinOp) (x:Int) (c:Int) (K:AV→Prop):Prop:=
  match op with
  | .shl=>0≤c∧K (.i64 (wrap64 (x*2 ^ min c.toNat 64)))
  | .shr=>0≤c∧K (.i64 (x / 2 ^ min c.toNat 64))
  | _=>False
def isShift:BinOp→Bool
  | .shl | .shr=>true
  | _=>false
def AV.beq:AV→AV→Bool
  | .bo x,.bo y=>x==y
  | .u8 x,.u8 y=>x==y
  | .u16 x,.u16 y=>x==y
  | .u32 x,.u32 y=>x==y
  | .u64 x,.u64 y=>x==y
  | .i8 x,.i8 y=>x==y
  | .i64 x,.i64 y=>x==y
  | .st x,.st y=>x==y
  | _,_=>false
def eqCells:List AV→List AV→Bool
  | [],[]=>true
  | a :: r,b :: s=>a.beq b&&eqCells r s
  | _,_=>false
def binScalar (op:BinOp) (x y:AV) (K:AV→Prop):Prop:=
  match x,y with
  | .u8 x,.u8 y=>binU op x y .u8 K
  | .u16 x,.u16 y=>binU op x y .u16 K
  | .u32 x,.u32 y=>binU op x y .u32 K
  | .u64 x,.u64 y=>binU op x y .u64 K
  | .i64 x,.i64 y=>binI op x y K
  | .st x,.st y=>match op with
    | .eql=>K (.bo (x==y))
    | .neq=>K (.bo (x !=y))
    | .add=>x.length+y.length≤9223372036854775807∧K (.st (x++y))
    | _=>False
  | _,_=>False
def binShift (op:BinOp) (x y:AV) (K:AV→Prop):Prop:=
  match idx y with
  | none=>False
  | some c=>match x with
    | .u8 x=>shU op x c .u8 K
    | .u16 x=>shU op x c .u16 K
    | .u32 x=>shU op x c .u32 K
    | .u64 x=>shU op x c .u64 K
    | .i64 x=>shI op x c K
    | _=>False
end Go.Ab
namespace Go.Ab
open Go (IntKind)
theorem wrap_unsigned {k:IntKind} (h:k.signed=false) (n:Int):k.wrap n=n%(2 ^ k.bits:Int):=by
  simp[IntKind.wrap,h]
theorem wrap_toNat {k:IntKind} (h:k.signed=false) (x:BitVec k.bits):k.wrap (x.toNat:Int)=x.toNat:=by
  rw[wrap_unsigned h]
  have:=x.isLt
  exact Int.emod_eq_of_lt (by omega) (by exact_mod_cast this)
theorem ofInt_toNat {w:Nat} (x:BitVec w):BitVec.ofInt w (x.toNat:Int)=x:=by
  apply BitVec.eq_of_toNat_eq
  rw[BitVec.toNat_ofInt]
  have:=x.isLt
  have e:((x.toNat:Int)%((2 ^ w:Nat):Int))=x.toNat:=Int.emod_eq_of_lt (by omega) (by exact_mod_cast this)
  rw[e]; omega
def Comes (P:Program) (s:NM→Sem Value) (v:AV):Prop:=(∀n,v.ok n=true)∧∀m w,(s m).run P w=.ok (AV.toV m v) w
theorem toNat_wrap_add {k:IntKind} (h:k.signed=false) (x y:BitVec k.bits):k.wrap ((x.toNat:Int)+y.toNat)=((x+y).toNat:Int):=by
  rw[wrap_unsigned h,BitVec.toNat_add]; simp
theorem toNat_wrap_sub {k:IntKind} (h:k.signed=false) (x y:BitVec k.bits):k.wrap ((x.toNat:Int)-y.toNat)=((x-y).toNat:Int):=by
  rw[wrap_unsigned h,BitVec.toNat_sub]
  have hy:=y.isLt
  have e:((2 ^ k.bits-y.toNat+x.toNat:Nat):Int)=(x.toNat:Int)-y.toNat+(2 ^ k.bits:Nat):=by omega
  rw[Int.natCast_emod,e]
  simp
theorem toNat_wrap_mul {k:IntKind} (h:k.signed=false) (x y:BitVec k.bits):k.wrap ((x.toNat:Int)*y.toNat)=((x*y).toNat:Int):=by
  rw[wrap_unsigned h,BitVec.toNat_mul]; simp
theorem binU_sound {k:IntKind} (hs:k.signed=false) {mk:BitVec k.bits→AV} (hmk:∀m z,AV.toV m (mk z)=.int k z.toNat) (hok:∀n z,(mk z).ok n=true)
    (op:BinOp) (P:Program) (t:TypeId) (x y:BitVec k.bits) (K:AV→Prop) (h:binU op x y mk K):
    ∃v,K v∧Comes P (fun _=>Go.binOp op t (.int k x.toNat) (.int k y.toNat)) v:=by
  have fin:∀(z:BitVec k.bits),K (mk z)→(∀w,(Go.binOp op t (.int k x.toNat) (.int k y.toNat)).run P w=.ok (.int k z.toNat) w)→
      ∃v,K v∧Comes P (fun _=>Go.binOp op t (.int k x.toNat) (.int k y.toNat)) v:=
    fun z hz hr=>⟨mk z,hz,fun n=>hok n z,fun m w=>by rw[hmk]; exact hr w⟩
  have finb:∀(b:Bool),K (.bo b)→(∀w,(Go.binOp op t (.int k x.toNat) (.int k y.toNat)).run P w=.ok (.bool b) w)→
      ∃v,K v∧Comes P (fun _=>Go.binOp op t (.int k x.toNat) (.int k y.toNat)) v:=
    fun b hz hr=>⟨.bo b,hz,fun n=>rfl,fun m w=>by rw[AV.toV]; exact hr w⟩
  have eqb:((x.toNat:Int)==(y.toNat:Int))=(x==y):=by
    rw[Bool.eq_iff_iff]; simp only[beq_iff_eq]
    exact⟨fun h=>BitVec.eq_of_toNat_eq (by exact_mod_cast h),fun h=>by rw[h]⟩
  have bits:∀z:BitVec k.bits,(Sem.run P (pure (Value.int k (k.wrap z.toNat))):World→Result Value)=fun w=>.ok (.int k z.toNat) w:=by
    intro z; funext w; simp only[Sem.run,pure,wrap_toNat hs]
  cases op <;> simp only[binU] at h
  case add=>exact fin _ h fun w=>by simp[Go.binOp,Op.intArith,Sem.run,pure,toNat_wrap_add hs]
  case sub=>exact fin _ h fun w=>by simp[Go.binOp,Op.intArith,Sem.run,pure,toNat_wrap_sub hs]
  case mul=>exact fin _ h fun w=>by simp[Go.binOp,Op.intArith,Sem.run,pure,toNat_wrap_mul hs]
  case quo=>
    obtain⟨h0,h⟩:=h
    have hy:(y.toNat:Int)≠0:=fun e=>h0 (BitVec.eq_of_toNat_eq (by simpa using e))
    exact fin _ h fun w=>by
      simp only[Go.binOp,Op.intDiv,Sem.run,pure,ne_eq,not_true_eq_false,if_false,hy]
      congr 2
      rw[Int.tdiv_eq_ediv_of_nonneg (by omega),← Int.natCast_ediv,← BitVec.toNat_udiv,wrap_toNat hs]
  case rem=>
    obtain⟨h0,h⟩:=h
    have hy:(y.toNat:Int)≠0:=fun e=>h0 (BitVec.eq_of_toNat_eq (by simpa using e))
    exact fin _ h fun w=>by
      simp only[Go.binOp,Op.intDiv,Sem.run,pure,ne_eq,not_true_eq_false,if_false,hy]
      congr 2
  case and=>exact fin _ h fun w=>by simp only[Go.binOp,Op.intBits,ne_eq,not_true_eq_false,if_false,ofInt_toNat]; rw[bits]
  case or=>exact fin _ h fun w=>by simp only[Go.binOp,Op.intBits,ne_eq,not_true_eq_false,if_false,ofInt_toNat]; rw[bits]
  case xor=>exact fin _ h fun w=>by simp only[Go.binOp,Op.intBits,ne_eq,not_true_eq_false,if_false,ofInt_toNat]; rw[bits]
  case andNot=>exact fin _ h fun w=>by simp only[Go.binOp,Op.intBits,ne_eq,not_true_eq_false,if_false,ofInt_toNat]; rw[bits]
  case eql=>exact finb _ h fun w=>by simp only[Go.binOp,Op.intCmp,Sem.run,pure,ne_eq,not_true_eq_false,if_false,eqb]
  case neq=>exact finb _ h fun w=>by simp only[Go.binOp,Op.intCmp,Sem.run,pure,ne_eq,not_true_eq_false,if_false,bne,eqb]
  case lss=>exact finb _ h fun w=>by simp[Go.binOp,Op.intCmp,Sem.run,pure,BitVec.lt_def]
  case leq=>exact finb _ h fun w=>by simp[Go.binOp,Op.intCmp,Sem.run,pure,BitVec.le_def]
  case gtr=>exact finb _ h fun w=>by simp[Go.binOp,Op.intCmp,Sem.run,pure,BitVec.lt_def]
  case geq=>exact finb _ h fun w=>by simp[Go.binOp,Op.intCmp,Sem.run,pure,BitVec.le_def]
theorem binI_sound (op:BinOp) (P:Program) (t:TypeId) (x y:Int) (K:AV→Prop) (h:binI op x y K):
    ∃v,K v∧Comes P (fun _=>Go.binOp op t (.int .i64 x) (.int .i64 y)) v:=by
  have fin:∀(z:Int),K (.i64 z)→(∀w,(Go.binOp op t (.int .i64 x) (.int .i64 y)).run P w=.ok (.int .i64 z) w)→
      ∃v,K v∧Comes P (fun _=>Go.binOp op t (.int .i64 x) (.int .i64 y)) v:=
    fun z hz hr=>⟨.i64 z,hz,fun n=>rfl,fun m w=>by rw[AV.toV]; exact hr w⟩
  have finb:∀(b:Bool),K (.bo b)→(∀w,(Go.binOp op t (.int .i64 x) (.int .i64 y)).run P w=.ok (.bool b) w)→
      ∃v,K v∧Comes P (fun _=>Go.binOp op t (.int .i64 x) (.int .i64 y)) v:=
    fun b hz hr=>⟨.bo b,hz,fun n=>rfl,fun m w=>by rw[AV.toV]; exact hr w⟩
  cases op <;> simp only[binI] at h
  case add=>exact fin _ h fun w=>by simp[Go.binOp,Op.intArith,Sem.run,pure,wrap64]
  case sub=>exact fin _ h fun w=>by simp[Go.binOp,Op.intArith,Sem.run,pure,wrap64]
  case mul=>exact fin _ h fun w=>by simp[Go.binOp,Op.intArith,Sem.run,pure,wrap64]
  case quo=>
    obtain⟨h0,h⟩:=h
    exact fin _ h fun w=>by simp[Go.binOp,Op.intDiv,Sem.run,pure,h0,wrap64]
  case rem=>
    obtain⟨h0,h⟩:=h
    exact fin _ h fun w=>by simp[Go.binOp,Op.intDiv,Sem.run,pure,h0]
  case and=>exact fin _ h fun w=>by simp only[Go.binOp,Op.intBits,Sem.run,pure,and64,wrap64,ne_eq,not_true_eq_false,if_false]; rfl
  case or=>exact fin _ h fun w=>by simp only[Go.binOp,Op.intBits,Sem.run,pure,or64,wrap64,ne_eq,not_true_eq_false,if_false]; rfl
  case xor=>exact fin _ h fun w=>by simp only[Go.binOp,Op.intBits,Sem.run,pure,xor64,wrap64,ne_eq,not_true_eq_false,if_false]; rfl
  case andNot=>exact fin _ h fun w=>by simp only[Go.binOp,Op.intBits,Sem.run,pure,andNot64,wrap64,ne_eq,not_true_eq_false,if_false]; rfl
  case eql=>exact finb _ h fun w=>by simp[Go.binOp,Op.intCmp,Sem.run,pure]
  case neq=>exact finb _ h fun w=>by simp[Go.binOp,Op.intCmp,Sem.run,pure]
  case lss=>exact finb _ h fun w=>by simp[Go.binOp,Op.intCmp,Sem.run,pure]
  case leq=>exact finb _ h fun w=>by simp[Go.binOp,Op.intCmp,Sem.run,pure]
  case gtr=>exact finb _ h fun w=>by simp[Go.binOp,Op.intCmp,Sem.run,pure]
  case geq=>exact finb _ h fun w=>by simp[Go.binOp,Op.intCmp,Sem.run,pure]
theorem shU_sound {k:IntKind} (hs:k.signed=false) {mk:BitVec k.bits→AV} (hmk:∀m z,AV.toV m (mk z)=.int k z.toNat) (hok:∀n z,(mk z).ok n=true)
    (op:BinOp) (P:Program) (t:TypeId) (x:BitVec k.bits) (yk:IntKind) (c:Int) (K:AV→Prop) (h:shU op x c mk K):
    ∃v,K v∧Comes P (fun _=>Go.binOp op t (.int k x.toNat) (.int yk c)) v:=by
  have fin:∀(z:BitVec k.bits),K (mk z)→(∀w,(Go.binOp op t (.int k x.toNat) (.int yk c)).run P w=.ok (.int k z.toNat) w)→
      ∃v,K v∧Comes P (fun _=>Go.binOp op t (.int k x.toNat) (.int yk c)) v:=
    fun z hz hr=>⟨mk z,hz,fun n=>hok n z,fun m w=>by rw[hmk]; exact hr w⟩
  cases op <;> simp only[shU] at h <;> try exact h.elim
  · obtain⟨hc,h⟩:=h
    refine fin _ h fun w=>?_
    have hn:¬c<0:=by omega
    simp only[Go.binOp,Op.shift,Sem.run,pure,hn,if_false]
    congr 2
    rw[wrap_unsigned hs,BitVec.toNat_shiftLeft,Nat.shiftLeft_eq]
    have hx:=x.isLt
    rcases Nat.le_total c.toNat k.bits with hle | hle
    · rw[Nat.min_eq_left hle]; simp
    · rw[Nat.min_eq_right hle]
      have h1:(x.toNat:Int)*2 ^ k.bits%2 ^ k.bits=0:=Int.mul_emod_left _ _
      have h2:x.toNat*2 ^ c.toNat%2 ^ k.bits=0:=by
        have:2 ^ c.toNat=2 ^ k.bits*2 ^ (c.toNat-k.bits):=by rw[← Nat.pow_add]; congr 1; omega
        rw[this,← Nat.mul_assoc,Nat.mul_comm x.toNat,Nat.mul_assoc]
        exact Nat.mul_mod_right _ _
      rw[h1,h2]; rfl
  · obtain⟨hc,h⟩:=h
    refine fin _ h fun w=>?_
    have hn:¬c<0:=by omega
    simp only[Go.binOp,Op.shift,Sem.run,pure,hn,if_false]
    congr 2
    rw[BitVec.toNat_ushiftRight,Nat.shiftRight_eq_div_pow]
    have hx:=x.isLt
    rw[Int.fdiv_eq_ediv_of_nonneg _ (Int.le_of_lt (Int.pow_pos (by omega)))]
    rcases Nat.le_total c.toNat k.bits with hle | hle
    · rw[Nat.min_eq_left hle]; simp
    · rw[Nat.min_eq_right hle]
      have h2:x.toNat / 2 ^ c.toNat=0:=Nat.div_eq_of_lt (Nat.lt_of_lt_of_le hx (Nat.pow_le_pow_right (by omega) hle))
      have h1:x.toNat / 2 ^ k.bits=0:=Nat.div_eq_of_lt hx
      rw[h2]
      have:((2:Int) ^ k.bits)=((2 ^ k.bits:Nat):Int):=by simp
      rw[this,← Int.natCast_ediv,h1]
theorem shI_sound (op:BinOp) (P:Program) (t:TypeId) (x:Int) (yk:IntKind) (c:Int) (K:AV→Prop) (h:shI op x c K):
    ∃v,K v∧Comes P (fun _=>Go.binOp op t (.int .i64 x) (.int yk c)) v:=by
  have fin:∀(z:Int),K (.i64 z)→(∀w,(Go.binOp op t (.int .i64 x) (.int yk c)).run P w=.ok (.int .i64 z) w)→
      ∃v,K v∧Comes P (fun _=>Go.binOp op t (.int .i64 x) (.int yk c)) v:=
    fun z hz hr=>⟨.i64 z,hz,fun n=>rfl,fun m w=>by rw[AV.toV]; exact hr w⟩
  cases op <;> simp only[shI] at h <;> try exact h.elim
  · obtain⟨hc,h⟩:=h
    have hn:¬c<0:=by omega
    exact fin _ h fun w=>by simp[Go.binOp,Op.shift,Sem.run,pure,hn,wrap64,IntKind.bits]
  · obtain⟨hc,h⟩:=h
    have hn:¬c<0:=by omega
    refine fin _ h fun w=>?_
    simp only[Go.binOp,Op.shift,Sem.run,pure,hn,if_false,IntKind.bits]
    rw[Int.fdiv_eq_ediv_of_nonneg _ (Int.le_of_lt (Int.pow_pos (by omega)))]
end Go.Ab
namespace Go.Ab
def tyA (P:Program) (t:TypeId):Option (Bool×Nat):=
  match P.underlying t,P.info? t with
  | some (.struct _),some i=>some (true,i.size)
  | some (.array _ _),some i=>some (true,i.size)
  | some _,some i=>some (false,i.size)
  | _,_=>none
def fldT (P:Program) (s:TypeId) (f:Nat):Option (Nat×Bool×Nat):=
  match P.underlying s with
  | some (.struct fs)=>match fs[f]? with
    | some fd=>match tyA P fd.type with
      | some (ag,sz)=>if sz=0 then none else some (fd.offset,ag,sz)
      | none=>none
    | none=>none
  | _=>none
def ixT (P:Program) (t:TypeId):Option (Option Nat×Bool×Nat):=
  match P.underlying t with
  | some (.array n e)=>match tyA P e with
    | some (a,s)=>some (some n,a,s)
    | none=>none
  | some (.slice e)=>match tyA P e with
    | some (a,s)=>some (none,a,s)
    | none=>none
  | _=>none
inductive CK where
  | int (k:IntKind) | str | b2s | s2b (e:TypeId)
def convT (P:Program) (s d:TypeId):Option CK:=
  match P.underlying s,P.underlying d with
  | some _,some (.int k)=>some (.int k)
  | some .string,some .string=>some .str
  | some .string,some (.slice e)=>match P.underlying e with
    | some (.int .u8)=>some (.s2b e)
    | _=>none
  | some (.slice e),some .string=>match P.underlying e with
    | some (.int .u8)=>some .b2s
    | _=>none
  | _,_=>none
def isStrT (P:Program) (t:TypeId):Bool:=match P.underlying t with
  | some .string=>true
  | _=>false
def notIface (P:Program) (t:TypeId):Bool:=match P.underlying t with
  | some (.interface _)=>false
  | some _=>true
  | none=>false
inductive TK where
  | bool | ptr | slice | func
def kindT (P:Program) (t:TypeId):Option TK:=match P.underlying t with
  | some .bool=>some .bool
  | some (.pointer _)=>some .ptr
  | some (.slice _)=>some .slice
  | some (.func _ _ _)=>some .func
  | _=>none
def eqPlain:TK→AV→AV→Option Bool
  | .bool,.bo x,.bo y=>some (x==y)
  | .ptr,.pn,.pn=>some true
  | .ptr,.pt _ _,.pn=>some false
  | .ptr,.pn,.pt _ _=>some false
  | .slice,.sn,.sn=>some true
  | .slice,.sn,.sl _ _ _ _=>some false
  | .slice,.sn,.su _ _ _ _=>some false
  | .slice,.sl _ _ _ _,.sn=>some false
  | .slice,.su _ _ _ _,.sn=>some false
  | .func,.fnn,.fnn=>some true
  | .func,.fn _ _,.fnn=>some false
  | .func,.fnn,.fn _ _=>some false
  | _,_,_=>none
def binPlain (P:Program) (op:BinOp) (t:TypeId) (x y:AV) (K:AV→Prop):Prop:=
  match kindT P t with
  | none=>False
  | some k=>match eqPlain k x y with
    | none=>False
    | some b=>match op with
      | .eql=>K (.bo b)
      | .neq=>K (.bo (!b))
      | _=>False
inductive EK where | bool | int (k:IntKind) | str
def AV.fits:EK→AV→Bool
  | .bool,.bo _=>true
  | .int .u8,.u8 _=>true
  | .int .u16,.u16 _=>true
  | .int .u32,.u32 _=>true
  | .int .u64,.u64 _=>true
  | .int .i8,.i8 _=>true
  | .int .i64,.i64 _=>true
  | .str,.st _=>true
  | _,_=>false
def fits:List EK→List AV→Bool
  | [],[]=>true
  | k :: ks,v :: vs=>v.fits k&&fits ks vs
  | _,_=>false
def leavesF (P:Program) (g:TypeId→Option (List EK)):List Field→Nat→Option (List EK)
  | [],_=>some []
  | f :: fs,off=>match g f.type,tyA P f.type with
    | some l,some (_,sz)=>if f.name≠ "_" ∧f.offset=off∧sz=l.length then(leavesF P g fs (off+sz)).map (l++·) else none
    | _,_=>none
def leaves (P:Program):Nat→TypeId→Option (List EK)
  | 0,_=>none
  | d+1,t=>match P.underlying t with
    | some .bool=>some [.bool]
    | some (.int k)=>some [.int k]
    | some .string=>some [.str]
    | some (.struct fs)=>if P.stoodInHeld t then none else leavesF P (leaves P d) fs.toList 0
    | some (.array n e)=>match leaves P d e,P.info? e with
      | some l,some i=>if i.size=l.length then some (List.replicate n l).flatten else none
      | _,_=>none
    | _=>none
def eqT (P:Program) (t:TypeId):Option (List EK):=if P.eqGuardType P.depth t then none else match leaves P 20 t,tyA P t with
  | some ks,some (true,sz)=>if sz=ks.length then some ks else none
  | _,_=>none
def EK.at (P:Program) (t:TypeId):EK→Prop
  | .bool=>P.underlying t=some .bool
  | .int k=>P.underlying t=some (.int k)
  | .str=>P.underlying t=some .string
def binAgg (P:Program) (op:BinOp) (t:TypeId) (x y:AV) (K:AV→Prop):Prop:=
  match eqT P t with
  | none=>False
  | some ks=>match x,y with
    | .ag l,.ag l'=>fits ks l=true∧fits ks l'=true∧match op with
      | .eql=>K (.bo (eqCells l l'))
      | .neq=>K (.bo (!eqCells l l'))
      | _=>False
    | _,_=>False
def isAg:AV→Bool
  | .ag _=>true
  | _=>false
def isScalar:AV→Bool
  | .u8 _ | .u16 _ | .u32 _ | .u64 _ | .i64 _ | .st _=>true
  | _=>false
def convI (k:IntKind) (v:AV) (K:AV→Prop):Prop:=
  match k,v with
  | .u8,.u8 x=>K (.u8 x)
  | .u8,.u16 x=>K (.u8 (x.setWidth 8))
  | .u8,.u32 x=>K (.u8 (x.setWidth 8))
  | .u8,.u64 x=>K (.u8 (x.setWidth 8))
  | .u8,.i64 n=>K (.u8 (BitVec.ofInt 8 n))
  | .u16,.u8 x=>K (.u16 (x.setWidth 16))
  | .u16,.u16 x=>K (.u16 x)
  | .u16,.u32 x=>K (.u16 (x.setWidth 16))
  | .u16,.u64 x=>K (.u16 (x.setWidth 16))
  | .u16,.i64 n=>K (.u16 (BitVec.ofInt 16 n))
  | .u16,.i8 x=>K (.u16 (x.signExtend 16))
  | .u32,.u8 x=>K (.u32 (x.setWidth 32))
  | .u32,.u16 x=>K (.u32 (x.setWidth 32))
  | .u32,.u32 x=>K (.u32 x)
  | .u32,.u64 x=>K (.u32 (x.setWidth 32))
  | .u32,.i64 n=>K (.u32 (BitVec.ofInt 32 n))
  | .u64,.u8 x=>K (.u64 (x.setWidth 64))
  | .u64,.u16 x=>K (.u64 (x.setWidth 64))
  | .u64,.u32 x=>K (.u64 (x.setWidth 64))
  | .u64,.u64 x=>K (.u64 x)
  | .u64,.i64 n=>K (.u64 (BitVec.ofInt 64 n))
  | .i8,.u8 x=>K (.i8 x)
  | .i64,.u8 x=>K (.i64 x.toNat)
  | .i64,.u16 x=>K (.i64 x.toNat)
  | .i64,.u32 x=>K (.i64 x.toNat)
  | .i64,.i8 x=>K (.i64 x.toInt)
  | .i64,.i64 n=>K (.i64 (wrap64 n))
  | _,_=>False
def unK (op:UnOp) (v:AV) (K:AV→Prop):Prop:=
  match op,v with
  | .not,.bo x=>K (.bo (!x))
  | .neg,.i64 n=>K (.i64 (wrap64 (0-n)))
  | .xor,.u8 x=>K (.u8 (~~~ x))
  | .xor,.u16 x=>K (.u16 (~~~ x))
  | .xor,.u32 x=>K (.u32 (~~~ x))
  | _,_=>False
def bnd (env:Env) (d:Nat):Option Operand→Option Int
  | none=>some d
  | some x=>idx (opv env x)
def sliceK (P:Program) (t:TypeId) (x:AV) (lo:Option Int) (hi:Nat→Option Int) (mx:Nat→Option Int) (full:Bool) (K:AV→Prop):Prop:=
  match x with
  | .st s=>isStrT P t=true∧full=false∧match lo,hi s.length with
    | some l,some h=>0≤l∧l≤h∧h≤s.length∧K (.st ((s.drop l.toNat).take (h.toNat-l.toNat)))
    | _,_=>False
  | .pt b o=>match ixT P t with
    | some (some n,_,e)=>match lo,hi n,mx n with
      | some l,some h,some m=>0≤l∧l≤h∧h≤m∧m≤n∧K (.sl b (if m=l then o else o+l.toNat*e) (h.toNat-l.toNat) (m.toNat-l.toNat))
      | _,_,_=>False
    | _=>False
  | .sl b o n c=>match ixT P t with
    | some (none,_,e)=>match lo,hi n,mx c with
      | some l,some h,some m=>0≤l∧l≤h∧h≤m∧m≤c∧K (.sl b (if m=l then o else o+l.toNat*e) (h.toNat-l.toNat) (m.toNat-l.toNat))
      | _,_,_=>False
    | _=>False
  | .sn=>match ixT P t with
    | some (none,_,_)=>match lo,hi 0,mx 0 with
      | some l,some h,some m=>l=0∧h=0∧m=0∧K .sn
      | _,_,_=>False
    | _=>False
  | _=>False
def indexAddrK (P:Program) (t:TypeId) (x i:AV) (K:AV→Prop):Prop:=
  match ixT P t,idx i with
  | some (some n,_,e),some i=>match x with
    | .pt b o=>0≤i∧i<n∧K (.pt b (o+i.toNat*e))
    | _=>False
  | some (none,_,e),some i=>match x with
    | .sl b o n _=>0≤i∧i<n∧K (.pt b (o+i.toNat*e))
    | .su b o n _=>0≤i∧i<n∧K (.pt b (o+i.toNat*e))
    | _=>False
  | _,_=>False
def indexK (P:Program) (t:TypeId) (x i:AV) (K:AV→Prop):Prop:=
  match idx i with
  | none=>False
  | some i=>match x with
    | .st s=>isStrT P t=true∧0≤i∧i<s.length∧K (.u8 (s.getD i.toNat 0))
    | .ag l=>match ixT P t with
      | some (some n,false,e)=>0≤i∧i<n∧i.toNat*e<l.length∧K (l.getD (i.toNat*e) .junk)
      | some (some n,true,e)=>0≤i∧i<n∧i.toNat*e+e≤l.length∧K (.ag ((l.drop (i.toNat*e)).take e))
      | _=>False
    | _=>False
def pureK (P:Program) (env:Env):Op→(AV→Prop)→Prop
  | .move x,K=>K (opv env x)
  | .assign x,K=>K (opv env x)
  | .pick c a b,K=>match opv env c with
    | .bo t=>(t=true→K (opv env a))∧(t=false→K (opv env b))
    | _=>False
  | .nilCheck x,K=>match opv env x with
    | .pt b o=>K (.pt b o)
    | .ifc t v=>K (.ifc t v)
    | _=>False
  | .binOp op t x y _,K=>
    if isShift op then binShift op (opv env x) (opv env y) K
    else if isScalar (opv env x) then binScalar op (opv env x) (opv env y) K
    else if isAg (opv env x) then binAgg P op t (opv env x) (opv env y) K
    else binPlain P op t (opv env x) (opv env y) K
  | .unOp op _ x,K=>unK op (opv env x) K
  | .convert s d x,K=>match convT P s d with
    | some (.int k)=>convI k (opv env x) K
    | some .str=>match opv env x with
      | .st s=>K (.st s)
      | _=>False
    | _=>False
  | .makeInterface t x,K=>notIface P t=true∧opv env x≠ .junk∧K (.ifc t (opv env x))
  | .makeFunc fn first captured,K=>match fn with
    | .func f=>first= #[]∧(captured.toList.all fun x=>match opv env x with | .junk=>false | _=>true)=true∧K (.fn f (captured.toList.map (opv env)))
    | _=>False
  | .slice t x lo hi mx,K=>(hi.isSome||mx.isNone)=true∧sliceK P t (opv env x) (bnd env 0 lo) (fun n=>bnd env n hi) (fun n=>bnd env n mx) mx.isSome K
  | .fieldAddr s x f,K=>match opv env x,fldT P s f with
    | .pt b o,some (off,_,_)=>K (.pt b (o+off))
    | _,_=>False
  | .field s x f,K=>match opv env x,fldT P s f with
    | .ag l,some (off,true,sz)=>off+sz≤l.length∧K (.ag ((l.drop off).take sz))
    | .ag l,some (off,false,_)=>off<l.length∧K (l.getD off .junk)
    | _,_=>False
  | .indexAddr t x i,K=>indexAddrK P t (opv env x) (opv env i) K
  | .index t x i,K=>indexK P t (opv env x) (opv env i) K
  | .extract x i,K=>match opv env x with
    | .tu l=>i<l.length∧K (l.getD i .junk)
    | _=>False
  | _,_=>False
def PureOk (P:Program) (env:Env) (o:Oper) (v:AV):Prop:=
  ∀(m:NM) (N n:Nat) (a:Act),ERel m N n env a→∃x,(∀w,(execOp a.eval o).run P w=.ok (.value x) w)∧(v≠ .junk→x=AV.toV m v∧v.ok n=true)
theorem run_bind {α β:Type} (P:Program) (s:Sem α) (f:α→Sem β) (w:World):
    (s>>=f).run P w=match s.run P w with | .ok a w'=>(f a).run P w' | .halt h w'=>.halt h w':=by
  show(Sem.bind s f).run P w=_
  induction s generalizing w with
  | pure a=>rfl
  | load m a k ih=>simp only[Sem.bind,Sem.run]; split <;> first | exact ih _ _ | (split <;> first | exact ih _ _ | rfl)
  | store m a v k ih=>
    cases v <;> simp only[Sem.bind,Sem.run] <;> first | rfl | (split <;> first | rfl | (split <;> first | rfl | exact ih _))
  | new o k ih=>simp only[Sem.bind,Sem.run]; exact ih _ _
  | shape r k ih=>simp only[Sem.bind,Sem.run]; exact ih _ _
  | freeze a n k ih=>simp only[Sem.bind,Sem.run]; exact ih _
  | frozen a k ih=>simp only[Sem.bind,Sem.run]; exact ih _ _
  | getObj r k ih=>simp only[Sem.bind,Sem.run]; split <;> first | exact ih _ _ | rfl
  | setObj r o k ih=>simp only[Sem.bind,Sem.run]; split <;> first | exact ih _ | rfl
  | choose q k ih=>simp only[Sem.bind,Sem.run]; split <;> exact ih _ _
  | sys c k ih=>simp only[Sem.bind,Sem.run]; exact ih _ _
  | program k ih=>simp only[Sem.bind,Sem.run]; exact ih _ _
  | mark m k ih=>simp only[Sem.bind,Sem.run]; exact ih _
  | halt h=>rfl
theorem run_pure {α:Type} (P:Program) (a:α) (w:World):(pure a:Sem α).run P w=.ok a w:=rfl
theorem run_underlying {P:Program} {t:TypeId} {d:TypeDesc} (h:P.underlying t=some d) (w:World):(underlying t).run P w=.ok d w:=by
  simp only[underlying,program,bind,Sem.bind,Sem.run,h,pure]
theorem run_typeInfo {P:Program} {t:TypeId} {i:TypeInfo} (h:P.info? t=some i) (w:World):(typeInfo t).run P w=.ok i w:=by
  simp only[typeInfo,program,bind,Sem.bind,Sem.run,h,pure]
theorem run_sizeOf {P:Program} {t:TypeId} {i:TypeInfo} (h:P.info? t=some i) (w:World):(sizeOf t).run P w=.ok i.size w:=by
  simp only[sizeOf]
  rw[run_bind,run_typeInfo h]; rfl
theorem tyA_spec {P:Program} {t:TypeId} {ag:Bool} {sz:Nat} (h:tyA P t=some (ag,sz)):
    (∀w,(isAgg t).run P w=.ok ag w)∧∀w,(sizeOf t).run P w=.ok sz w:=by
  unfold tyA at h
  cases hu:P.underlying t with
  | none=>simp[hu] at h
  | some d=>
    cases hi:P.info? t with
    | none=>rw[hu,hi] at h; cases d <;> simp at h
    | some i=>
      rw[hu,hi] at h
      cases d <;> simp only[Option.some.injEq,Prod.mk.injEq] at h <;> obtain⟨rfl,rfl⟩:=h <;>
        exact⟨fun w=>by simp only[isAgg]; rw[run_bind,run_underlying hu]; rfl,run_sizeOf hi⟩
end Go.Ab
namespace Go.Ab
theorem pureOk_of {P:Program} {env:Env} {o:Oper} {v:AV}
    (h:∀(m:NM) (N n:Nat) (a:Act),ERel m N n env a→(∀w,(execOp a.eval o).run P w=.ok (.value (AV.toV m v)) w)∧v.ok n=true):PureOk P env o v:=
  fun m N n a ha=>let⟨h1,h2⟩:=h m N n a ha; ⟨_,h1,fun _=>⟨rfl,h2⟩⟩
theorem run_value {P:Program} {s:Sem Value} {x:Value} {w w':World} (h:s.run P w=.ok x w'):
    (do pure (.value (← s)):Sem Next).run P w=.ok (.value x) w':=by
  rw[run_bind,h]; rfl
theorem move_sound {P:Program} {env:Env} {o:Oper} {x:Operand} (ho:o.op=.move x∨o.op=.assign x):PureOk P env o (opv env x):=by
  intro m N n a ha
  refine⟨a.eval x,fun w=>?_,fun hx=>eval_opv ha x hx⟩
  rcases ho with ho | ho <;> simp only[execOp,ho] <;> rfl
theorem pick_sound {P:Program} {env:Env} {o:Oper} {c a b:Operand} {t:Bool} (ho:o.op=.pick c a b) (hc:opv env c=.bo t):
    PureOk P env o (if t then opv env a else opv env b):=by
  intro m N n ac ha
  have e:=(eval_opv ha c (by rw[hc]; simp)).1
  rw[hc] at e
  refine⟨if t then ac.eval a else ac.eval b,fun w=>?_,fun hx=>?_⟩
  · simp only[execOp,ho]
    rw[run_bind,e]
    simp only[AV.toV,asBool,run_pure]
  · cases t
    · exact eval_opv ha b hx
    · exact eval_opv ha a hx
theorem eqGuard_run {P:Program} (op:BinOp) (t:TypeId) (x y:Operand) (a b:Value) (w:World) (h1:a≠ .nilIface) (h2:∀cs,a≠ .agg cs):
    (eqGuard op t x y a b).run P w=.ok () w:=by
  unfold eqGuard
  cases op <;> simp only[Bool.not_true,Bool.not_false,Bool.false_eq_true,if_true,if_false,pure_bind] <;> try rfl
  all_goals (cases a <;> first | exact absurd rfl h1 | exact absurd rfl (h2 _) | rfl | (cases b <;> rfl))
theorem binOp_run {P:Program} {o:Oper} {ρ:Operand→Value} {op:BinOp} {t yt:TypeId} {x y:Operand} {r:Value} {w:World} (ho:o.op=.binOp op t x y yt)
    (h1:ρ x≠ .nilIface) (h2:∀cs,ρ x≠ .agg cs) (h:(Go.binOp op t (ρ x) (ρ y)).run P w=.ok r w):
    (execOp ρ o).run P w=.ok (.value r) w:=by
  simp only[execOp,ho]
  refine run_value ?_
  rw[run_bind,eqGuard_run _ _ _ _ _ _ _ h1 h2]
  exact h
theorem ne_junk_of_idx {v:AV} {i:Int} (h:idx v=some i):v≠ .junk:=by rintro rfl; simp[idx] at h
theorem bin_of_comes {P:Program} {env:Env} {o:Oper} {op:BinOp} {t yt:TypeId} {x y:Operand} {vx vy v:AV} {ix:Value} {iy:Value}
    (ho:o.op=.binOp op t x y yt) (hx:opv env x=vx) (hy:opv env y=vy) (hxj:vx≠ .junk) (hyj:vy≠ .junk)
    (ex:∀m,AV.toV m vx=ix) (ey:∀m,AV.toV m vy=iy) (h1:ix≠ .nilIface) (h2:∀cs,ix≠ .agg cs)
    (h:Comes P (fun _=>Go.binOp op t ix iy) v):PureOk P env o v:=
  pureOk_of fun m N n a ha=>by
    have e1:=(eval_opv ha x (by rw[hx]; exact hxj)).1
    have e2:=(eval_opv ha y (by rw[hy]; exact hyj)).1
    rw[hx,ex] at e1
    rw[hy,ey] at e2
    refine⟨fun w=>binOp_run ho (by rw[e1]; exact h1) (by rw[e1]; exact h2) ?_,h.1 n⟩
    rw[e1,e2]; exact h.2 m w
theorem strings_eq {x y:List (BitVec 8)}:
    ((⟨(x.map UInt8.ofBitVec).toArray⟩:ByteArray).toList==(⟨(y.map UInt8.ofBitVec).toArray⟩:ByteArray).toList)=(x==y):=by
  rw[Lib.toList_data,Lib.toList_data,Bool.eq_iff_iff]
  simp only[beq_iff_eq]
  constructor
  · intro h
    have h':=congrArg (List.map UInt8.toBitVec) h
    simpa [List.map_map,Function.comp_def] using h'
  · intro h; rw[h]
theorem binScalar_sound {P:Program} {env:Env} {o:Oper} {op:BinOp} {t yt:TypeId} {x y:Operand} {K:AV→Prop}
    (ho:o.op=.binOp op t x y yt) (hs:isShift op=false) (h:binScalar op (opv env x) (opv env y) K):∃v,K v∧PureOk P env o v:=by
  generalize hx:opv env x=vx at h
  generalize hy:opv env y=vy at h
  unfold binScalar at h
  split at h
  · obtain⟨v,hv,hc⟩:=binU_sound (k:=.u8) rfl (fun _ _=>rfl) (fun _ _=>rfl) op P t _ _ K h
    exact⟨v,hv,bin_of_comes ho hx hy (by simp) (by simp) (fun _=>rfl) (fun _=>rfl) (by simp) (fun _=>by simp) hc⟩
  · obtain⟨v,hv,hc⟩:=binU_sound (k:=.u16) rfl (fun _ _=>rfl) (fun _ _=>rfl) op P t _ _ K h
    exact⟨v,hv,bin_of_comes ho hx hy (by simp) (by simp) (fun _=>rfl) (fun _=>rfl) (by simp) (fun _=>by simp) hc⟩
  · obtain⟨v,hv,hc⟩:=binU_sound (k:=.u32) rfl (fun _ _=>rfl) (fun _ _=>rfl) op P t _ _ K h
    exact⟨v,hv,bin_of_comes ho hx hy (by simp) (by simp) (fun _=>rfl) (fun _=>rfl) (by simp) (fun _=>by simp) hc⟩
  · obtain⟨v,hv,hc⟩:=binU_sound (k:=.u64) rfl (fun _ _=>rfl) (fun _ _=>rfl) op P t _ _ K h
    exact⟨v,hv,bin_of_comes ho hx hy (by simp) (by simp) (fun _=>rfl) (fun _=>rfl) (by simp) (fun _=>by simp) hc⟩
  · obtain⟨v,hv,hc⟩:=binI_sound op P t _ _ K h
    exact⟨v,hv,bin_of_comes ho hx hy (by simp) (by simp) (fun _=>rfl) (fun _=>rfl) (by simp) (fun _=>by simp) hc⟩
  · rename_i sx sy
    have fin:∀v,K v→Comes P (fun _=>Go.binOp op t (.string ⟨(sx.map UInt8.ofBitVec).toArray⟩) (.string ⟨(sy.map UInt8.ofBitVec).toArray⟩)) v→∃v,K v∧PureOk P env o v:=
      fun v hv hc=>⟨v,hv,bin_of_comes ho hx hy (by simp) (by simp) (fun _=>rfl) (fun _=>rfl) (by simp) (fun _=>by simp) hc⟩
    cases op <;> first | exact h.elim | skip
    · obtain⟨hl,h⟩:=h
      refine fin _ h ⟨fun _=>rfl,fun m w=>?_⟩
      have hn:¬(((⟨(sx.map UInt8.ofBitVec).toArray⟩:ByteArray).size+(⟨(sy.map UInt8.ofBitVec).toArray⟩:ByteArray).size:Nat):Int)>IntKind.i64.max:=by
        show ¬(((sx.map UInt8.ofBitVec).toArray.size+(sy.map UInt8.ofBitVec).toArray.size:Nat):Int)>9223372036854775807
        simp only[List.size_toArray,List.length_map]; omega
      simp only[Go.binOp,Op.stringOp,if_neg hn,Sem.run,pure,AV.toV]
      congr 2
      simp[ByteArray.ext_iff]
    · refine fin _ h ⟨fun _=>rfl,fun m w=>?_⟩
      simp only[Go.binOp,Op.stringOp,Sem.run,pure,AV.toV,strings_eq]
    · refine fin _ h ⟨fun _=>rfl,fun m w=>?_⟩
      simp only[Go.binOp,Op.stringOp,Sem.run,pure,AV.toV,bne,strings_eq]
  · exact h.elim
theorem binShift_sound {P:Program} {env:Env} {o:Oper} {op:BinOp} {t yt:TypeId} {x y:Operand} {K:AV→Prop}
    (ho:o.op=.binOp op t x y yt) (h:binShift op (opv env x) (opv env y) K):∃v,K v∧PureOk P env o v:=by
  generalize hx:opv env x=vx at h
  generalize hy:opv env y=vy at h
  unfold binShift at h
  cases hi:idx vy with
  | none=>rw[hi] at h; exact h.elim
  | some c=>
    rw[hi] at h
    have ey:∀m,AV.toV m vy=.int (knd vy) c:=fun m=>toV_idx hi
    have hyj:=ne_junk_of_idx hi
    cases vx <;> simp only at h <;> try exact h.elim
    · obtain⟨v,hv,hc⟩:=shU_sound (k:=.u8) rfl (fun _ _=>rfl) (fun _ _=>rfl) op P t _ (knd vy) _ K h
      exact⟨v,hv,bin_of_comes ho hx hy (by simp) hyj (fun _=>rfl) ey (by simp) (fun _=>by simp) hc⟩
    · obtain⟨v,hv,hc⟩:=shU_sound (k:=.u16) rfl (fun _ _=>rfl) (fun _ _=>rfl) op P t _ (knd vy) _ K h
      exact⟨v,hv,bin_of_comes ho hx hy (by simp) hyj (fun _=>rfl) ey (by simp) (fun _=>by simp) hc⟩
    · obtain⟨v,hv,hc⟩:=shU_sound (k:=.u32) rfl (fun _ _=>rfl) (fun _ _=>rfl) op P t _ (knd vy) _ K h
      exact⟨v,hv,bin_of_comes ho hx hy (by simp) hyj (fun _=>rfl) ey (by simp) (fun _=>by simp) hc⟩
    · obtain⟨v,hv,hc⟩:=shU_sound (k:=.u64) rfl (fun _ _=>rfl) (fun _ _=>rfl) op P t _ (knd vy) _ K h
      exact⟨v,hv,bin_of_comes ho hx hy (by simp) hyj (fun _=>rfl) ey (by simp) (fun _=>by simp) hc⟩
    · obtain⟨v,hv,hc⟩:=shI_sound op P t _ (knd vy) _ K h
      exact⟨v,hv,bin_of_comes ho hx hy (by simp) hyj (fun _=>rfl) ey (by simp) (fun _=>by simp) hc⟩
end Go.Ab
namespace Go.Ab
theorem eqIn_bool {P:Program} (w:World) (d:Nat) (t:TypeId) (a b:Bool) (h:P.underlying t=some .bool):(Op.equalIn (d+1) t (.bool a) (.bool b)).run P w=.ok (a==b) w:=by
  simp[Op.equalIn,Go.run_underlying h]
theorem eqIn_ptr1 {P:Program} (w:World) (d:Nat) (t e:TypeId) (a:Addr) (h:P.underlying t=some (.pointer e)):(Op.equalIn (d+1) t (.pointer (some a)) (.pointer none)).run P w=.ok false w:=by
  simp[Op.equalIn,Go.run_underlying h]
theorem eqIn_ptr2 {P:Program} (w:World) (d:Nat) (t e:TypeId) (a:Option Addr) (h:P.underlying t=some (.pointer e)):(Op.equalIn (d+1) t (.pointer none) (.pointer a)).run P w=.ok a.isNone w:=by
  cases a <;> simp[Op.equalIn,Go.run_underlying h]
theorem eqIn_sl1 {P:Program} (w:World) (d:Nat) (t e:TypeId) (a:Addr) (l c:Nat) (h:P.underlying t=some (.slice e)):(Op.equalIn (d+1) t (.slice (some a) l c) (.slice none 0 0)).run P w=.ok false w:=by
  simp[Op.equalIn,Go.run_underlying h]
theorem eqIn_sl2 {P:Program} (w:World) (d:Nat) (t e:TypeId) (a:Option Addr) (l c:Nat) (h:P.underlying t=some (.slice e)):(Op.equalIn (d+1) t (.slice none 0 0) (.slice a l c)).run P w=.ok a.isNone w:=by
  cases a <;> simp[Op.equalIn,Go.run_underlying h]
theorem eqIn_fn {P:Program} (w:World) (d:Nat) (t:TypeId) {a b c} (h:P.underlying t=some (.func a b c)):
   (Op.equalIn (d+1) t .nilFunc .nilFunc).run P w=.ok true w∧(∀f x y,(Op.equalIn (d+1) t (.func f x y) .nilFunc).run P w=.ok false w)∧(∀f x y,(Op.equalIn (d+1) t .nilFunc (.func f x y)).run P w=.ok false w):=by
  refine⟨?_,fun f x y=>?_,fun f x y=>?_⟩ <;> simp[Op.equalIn,Go.run_underlying h]
theorem run_ok_bind {α β:Type} {P:Program} {s:Sem α} {f:α→Sem β} {x:α} {w w':World} (h:s.run P w=.ok x w'):(s>>=f).run P w=(f x).run P w':=by
  rw[run_bind,h]
def TK.of:TK→TypeDesc→Prop
  | .bool,d=>d=.bool
  | .ptr,d=>∃e,d=.pointer e
  | .slice,d=>∃e,d=.slice e
  | .func,d=>∃a b c,d=.func a b c
theorem kindT_spec {P:Program} {t:TypeId} {k:TK} (h:kindT P t=some k):∃d,P.underlying t=some d∧k.of d:=by
  unfold kindT at h
  cases hu:P.underlying t with
  | none=>simp[hu] at h
  | some d=>
    refine⟨d,rfl,?_⟩
    rw[hu] at h
    cases d <;> simp only[Option.some.injEq,reduceCtorEq] at h <;> subst h <;> simp[TK.of]
theorem eqPlain_run {P:Program} {t:TypeId} {k:TK} {d:TypeDesc} (hd:P.underlying t=some d)
    (hkd:k.of d)
    {vx vy:AV} {b:Bool} (he:eqPlain k vx vy=some b) (m:NM) (w:World) (n:Nat):(Op.equalIn (n+1) t (AV.toV m vx) (AV.toV m vy)).run P w=.ok b w:=by
  cases k <;> simp only[TK.of] at hkd
  · subst hkd
    cases vx <;> cases vy <;> simp only[eqPlain,Option.some.injEq,reduceCtorEq] at he
    subst he; exact eqIn_bool w n t _ _ hd
  · obtain⟨e,rfl⟩:=hkd
    cases vx <;> cases vy <;> simp only[eqPlain,Option.some.injEq,reduceCtorEq] at he <;> subst he
    · exact eqIn_ptr1 w n t e _ hd
    · exact eqIn_ptr2 w n t e (some _) hd
    · exact eqIn_ptr2 w n t e none hd
  · obtain⟨e,rfl⟩:=hkd
    cases vx <;> cases vy <;> simp only[eqPlain,Option.some.injEq,reduceCtorEq] at he <;> subst he
    · exact eqIn_sl1 w n t e _ _ _ hd
    · exact eqIn_sl1 w n t e _ _ _ hd
    · exact eqIn_sl2 w n t e (some _) _ _ hd
    · exact eqIn_sl2 w n t e (some _) _ _ hd
    · exact eqIn_sl2 w n t e none _ _ hd
  · obtain⟨e1,e2,e3,rfl⟩:=hkd
    have h:=eqIn_fn w n t hd
    cases vx <;> cases vy <;> simp only[eqPlain,Option.some.injEq,reduceCtorEq] at he <;> subst he
    · exact h.2.1 _ _ _
    · exact h.2.2 _ _ _
    · exact h.1
theorem eqPlain_form {k:TK} {vx vy:AV} {b:Bool} (he:eqPlain k vx vy=some b):vx≠ .junk∧vy≠ .junk∧∀m:NM,(AV.toV m vx≠ .nilIface∧(∀cs,AV.toV m vx≠ .agg cs))∧
    ∀ (t:TypeId),Go.binOp .eql t (AV.toV m vx) (AV.toV m vy)=(Op.equal t (AV.toV m vx) (AV.toV m vy)>>=fun r=>pure (.bool r))∧
      Go.binOp .neq t (AV.toV m vx) (AV.toV m vy)=(Op.equal t (AV.toV m vx) (AV.toV m vy)>>=fun r=>pure (.bool (!r))):=by
  cases k <;> cases vx <;> cases vy <;> simp only[eqPlain,reduceCtorEq] at he <;>
    exact⟨by simp,by simp,fun m=>⟨⟨by simp[AV.toV],fun _=>by simp[AV.toV]⟩,fun t=>⟨rfl,rfl⟩⟩⟩
theorem binPlain_sound {P:Program} {env:Env} {o:Oper} {op:BinOp} {t yt:TypeId} {x y:Operand} {K:AV→Prop}
    (ho:o.op=.binOp op t x y yt) (h:binPlain P op t (opv env x) (opv env y) K):∃v,K v∧PureOk P env o v:=by
  generalize hx:opv env x=vx at h
  generalize hy:opv env y=vy at h
  unfold binPlain at h
  cases hk:kindT P t with
  | none=>rw[hk] at h; exact h.elim
  | some k=>
    rw[hk] at h
    dsimp only at h
    cases he:eqPlain k vx vy with
    | none=>rw[he] at h; exact h.elim
    | some b=>
      rw[he] at h
      dsimp only at h
      obtain⟨d,hd,hkd⟩:=kindT_spec hk
      obtain⟨k2,k3,kf⟩:=eqPlain_form he
      have fin:∀c:Bool,K (.bo c)→(∀(m:NM) w,(Go.binOp op t (AV.toV m vx) (AV.toV m vy)).run P w=.ok (.bool c) w)→∃v,K v∧PureOk P env o v:=fun c hc hr=>
        ⟨.bo c,hc,pureOk_of fun m N n a ha=>by
          have e1:=(eval_opv ha x (by rw[hx]; exact k2)).1
          have e2:=(eval_opv ha y (by rw[hy]; exact k3)).1
          rw[hx] at e1; rw[hy] at e2
          refine⟨fun w=>binOp_run ho (by rw[e1]; exact(kf m).1.1) (by rw[e1]; exact(kf m).1.2) ?_,rfl⟩
          rw[e1,e2]; exact hr m w⟩
      have hq:∀(m:NM) w,(Op.equal t (AV.toV m vx) (AV.toV m vy)).run P w=.ok b w:=fun m w=>eqPlain_run hd hkd he m w 9999
      cases op <;> simp only at h <;> first | exact h.elim | skip
      · refine fin _ h fun m w=>?_
        rw[((kf m).2 t).1,run_ok_bind (hq m w)]; rfl
      · refine fin _ h fun m w=>?_
        rw[((kf m).2 t).2,run_ok_bind (hq m w)]; rfl
theorem un_of {P:Program} {env:Env} {o:Oper} {op:UnOp} {t:TypeId} {x:Operand} {vx v:AV} (ho:o.op=.unOp op t x) (hx:opv env x=vx) (hxj:vx≠ .junk)
    (h:Comes P (fun m=>Op.unary op (AV.toV m vx)) v):PureOk P env o v:=
  pureOk_of fun m N n a ha=>by
    have e1:=(eval_opv ha x (by rw[hx]; exact hxj)).1
    rw[hx] at e1
    refine⟨fun w=>?_,h.1 n⟩
    simp only[execOp,ho]
    refine run_value ?_
    rw[e1]; exact h.2 m w
theorem not_wrap {k:IntKind} (hs:k.signed=false) (x:BitVec k.bits):Op.intBits .xor k k.max x.toNat=(pure (.int k (~~~ x).toNat):Sem Value):=by
  have hm:BitVec.ofInt k.bits k.max=BitVec.allOnes k.bits:=by
    apply BitVec.eq_of_toNat_eq
    rw[BitVec.toNat_ofInt,BitVec.toNat_allOnes]
    simp only[IntKind.max,hs,Bool.false_eq_true,if_false]
    have h1:((2 ^ k.bits:Nat):Int)=2 ^ k.bits:=by simp
    have h2:0<2 ^ k.bits:=Nat.two_pow_pos _
    rw[← h1,Int.emod_eq_of_lt (by omega) (by omega)]
    omega
  simp only[Op.intBits,ofInt_toNat,hm,BitVec.allOnes_xor]
  rw[wrap_toNat hs]
theorem un_sound {P:Program} {env:Env} {o:Oper} {op:UnOp} {t:TypeId} {x:Operand} {K:AV→Prop} (ho:o.op=.unOp op t x) (h:unK op (opv env x) K):
    ∃v,K v∧PureOk P env o v:=by
  generalize hx:opv env x=vx at h
  unfold unK at h
  split at h
  · exact⟨_,h,un_of ho hx (by simp) ⟨fun _=>rfl,fun m w=>rfl⟩⟩
  · exact⟨_,h,un_of ho hx (by simp) ⟨fun _=>rfl,fun m w=>rfl⟩⟩
  · rename_i z
    exact⟨_,h,un_of ho hx (by simp) ⟨fun _=>rfl,fun m w=>by
      exact congrArg (fun s=>Sem.run P s w) (not_wrap (k:=.u8) rfl z)⟩⟩
  · rename_i z
    exact⟨_,h,un_of ho hx (by simp) ⟨fun _=>rfl,fun m w=>by
      exact congrArg (fun s=>Sem.run P s w) (not_wrap (k:=.u16) rfl z)⟩⟩
  · rename_i z
    exact⟨_,h,un_of ho hx (by simp) ⟨fun _=>rfl,fun m w=>by
      exact congrArg (fun s=>Sem.run P s w) (not_wrap (k:=.u32) rfl z)⟩⟩
  · exact h.elim
theorem convT_int {P:Program} {s d:TypeId} {k:IntKind} (h:convT P s d=some (.int k)):(∃x,P.underlying s=some x)∧P.underlying d=some (.int k):=by
  unfold convT at h
  cases hs:P.underlying s with
  | none=>simp[hs] at h
  | some a=>
    cases hd:P.underlying d with
    | none=>rw[hs,hd] at h; cases a <;> simp at h
    | some b=>
      rw[hs,hd] at h
      refine⟨⟨a,rfl⟩,?_⟩
      cases b <;> first | (cases a <;> simp at h <;> done) | skip
      · simp only[Option.some.injEq,CK.int.injEq] at h; rw[h]
      · cases a <;> simp only[Option.some.injEq,reduceCtorEq] at h
        · split at h <;> simp at h
      · cases a <;> simp only[Option.some.injEq,reduceCtorEq] at h
        · split at h <;> simp at h
end Go.Ab
namespace Go.Ab
theorem conv_of {P:Program} {env:Env} {o:Oper} {s d:TypeId} {x:Operand} {vx v:AV} {i:Int} {k:IntKind} (ho:o.op=.convert s d x) (hx:opv env x=vx) (hi:idx vx=some i)
    (hc:convT P s d=some (.int k)) (hv:∀m,AV.toV m v=.int k (k.wrap i)) (hok:∀n,v.ok n=true):PureOk P env o v:=
  pureOk_of fun m N n a ha=>by
    obtain⟨⟨sd,hs⟩,hd⟩:=convT_int hc
    have e1:=(eval_opv ha x (by rw[hx]; exact ne_junk_of_idx hi)).1
    rw[hx,toV_idx hi] at e1
    refine⟨fun w=>?_,hok n⟩
    simp only[execOp,ho]
    refine run_value ?_
    rw[e1,hv]
    simp only[Go.convert]
    rw[run_ok_bind (run_underlying hs w),run_ok_bind (run_underlying hd w)]
    rfl
theorem setWidth_wrap {w:Nat} (k:IntKind) (hs:k.signed=false) (x:BitVec w):((x.setWidth k.bits).toNat:Int)=k.wrap x.toNat:=by
  rw[wrap_unsigned hs,BitVec.toNat_setWidth]; simp
theorem ofInt_wrap (k:IntKind) (hs:k.signed=false) (n:Int):((BitVec.ofInt k.bits n).toNat:Int)=k.wrap n:=by
  rw[wrap_unsigned hs,BitVec.toNat_ofInt]
  have h1:((2 ^ k.bits:Nat):Int)=2 ^ k.bits:=by simp
  rw[h1]
  have:0≤n%(2 ^ k.bits:Int):=Int.emod_nonneg _ (by have:=Int.pow_pos (n:=2) (m:=k.bits) (by omega); omega)
  omega
theorem wrap64_small (n:Int) (h0: -9223372036854775808≤n) (h:n≤9223372036854775807):IntKind.i64.wrap n=n:=by
  show(if(true&&decide (n%18446744073709551616≥9223372036854775808))=true then n%18446744073709551616-18446744073709551616 else n%18446744073709551616)=n
  rw[Bool.true_and]
  by_cases h:n%18446744073709551616≥9223372036854775808
  · rw[if_pos (by simpa using h)]; omega
  · rw[if_neg (by simpa using h)]; omega
theorem wrap_i8 (n:Int):IntKind.i8.wrap n=if n%256≥128 then n%256-256 else n%256:=by
  show(if(true&&decide (n%256≥128))=true then n%256-256 else n%256)=_
  rw[Bool.true_and]
  by_cases h:n%256≥128
  · rw[if_pos (by simpa using h),if_pos h]
  · rw[if_neg (by simpa using h),if_neg h]
theorem conv_sound {P:Program} {env:Env} {o:Oper} {s d:TypeId} {x:Operand} {k:IntKind} {K:AV→Prop} (ho:o.op=.convert s d x)
    (hc:convT P s d=some (.int k)) (h:convI k (opv env x) K):∃v,K v∧PureOk P env o v:=by
  generalize hx:opv env x=vx at h
  unfold convI at h
  split at h <;> try exact h.elim
  all_goals refine⟨_,h,conv_of ho hx rfl hc (fun m=>?_) (fun _=>rfl)⟩ <;> simp only[AV.toV,Value.int.injEq,true_and]
  · rename_i z; exact(wrap_toNat (k:=.u8) rfl z).symm
  · exact setWidth_wrap .u8 rfl _
  · exact setWidth_wrap .u8 rfl _
  · exact setWidth_wrap .u8 rfl _
  · exact ofInt_wrap .u8 rfl _
  · exact setWidth_wrap .u16 rfl _
  · rename_i z; exact(wrap_toNat (k:=.u16) rfl z).symm
  · exact setWidth_wrap .u16 rfl _
  · exact setWidth_wrap .u16 rfl _
  · exact ofInt_wrap .u16 rfl _
  · rename_i z
    rw[wrap_unsigned rfl]
    have hb:(2:Int) ^ IntKind.u16.bits=65536:=rfl
    rw[hb,BitVec.toNat_signExtend,BitVec.toNat_setWidth,BitVec.toInt_eq_toNat_cond,BitVec.msb_eq_decide]
    have hz:=z.isLt
    by_cases hm:2*z.toNat<2 ^ 8
    · have h2:¬2 ^ (8-1)≤z.toNat:=by omega
      simp only[if_pos hm,decide_eq_true_eq,if_neg h2]; omega
    · have h2:2 ^ (8-1)≤z.toNat:=by omega
      simp only[if_neg hm,decide_eq_true_eq,if_pos h2]; omega
  · exact setWidth_wrap .u32 rfl _
  · exact setWidth_wrap .u32 rfl _
  · rename_i z; exact(wrap_toNat (k:=.u32) rfl z).symm
  · exact setWidth_wrap .u32 rfl _
  · exact ofInt_wrap .u32 rfl _
  · exact setWidth_wrap .u64 rfl _
  · exact setWidth_wrap .u64 rfl _
  · exact setWidth_wrap .u64 rfl _
  · rename_i z; exact(wrap_toNat (k:=.u64) rfl z).symm
  · exact ofInt_wrap .u64 rfl _
  · rename_i z
    have hz:=z.isLt
    rw[BitVec.toInt_eq_toNat_cond,wrap_i8]
    split <;> split <;> omega
  · rename_i z; have hz:=z.isLt; exact(wrap64_small _ (by omega) (by omega)).symm
  · rename_i z; have hz:=z.isLt; exact(wrap64_small _ (by omega) (by omega)).symm
  · rename_i z; have hz:=z.isLt; exact(wrap64_small _ (by omega) (by omega)).symm
  · rename_i z
    have h1:=BitVec.toInt_lt (x:=z)
    have h2:=BitVec.le_toInt (x:=z)
    simp at h1 h2
    exact(wrap64_small _ (by omega) (by omega)).symm
  · rfl
theorem convStr_sound {P:Program} {env:Env} {o:Oper} {s d:TypeId} {x:Operand} {z:List (BitVec 8)} (ho:o.op=.convert s d x)
    (hc:convT P s d=some .str) (hx:opv env x=.st z):PureOk P env o (.st z):=
  pureOk_of fun m N n a ha=>by
    have hh:P.underlying s=some .string∧P.underlying d=some .string:=by
      unfold convT at hc
      cases hs:P.underlying s with
      | none=>simp[hs] at hc
      | some a=>
        cases hd:P.underlying d with
        | none=>rw[hs,hd] at hc; cases a <;> simp at hc
        | some b=>
          rw[hs,hd] at hc
          cases b <;> cases a <;> first | (simp at hc; done) | exact⟨rfl,rfl⟩ | (dsimp only at hc; split at hc <;> simp at hc)
    have e1:=(eval_opv ha x (by rw[hx]; simp)).1
    rw[hx] at e1
    refine⟨fun w=>?_,rfl⟩
    simp only[execOp,ho]
    refine run_value ?_
    rw[e1]
    simp only[Go.convert]
    rw[run_ok_bind (run_underlying hh.1 w),run_ok_bind (run_underlying hh.2 w)]
    rfl
theorem nilCheck_sound {P:Program} {env:Env} {o:Oper} {x:Operand} {b off:Nat} (ho:o.op=.nilCheck x) (hx:opv env x=.pt b off):PureOk P env o (.pt b off):=
  pureOk_of fun m N n a ha=>by
    have e:=eval_opv ha x (by rw[hx]; simp)
    rw[hx] at e
    refine⟨fun w=>?_,e.2⟩
    simp only[execOp,ho,e.1,AV.toV]; rfl
theorem nilCheckI_sound {P:Program} {env:Env} {o:Oper} {x:Operand} {t:Nat} {v:AV} (ho:o.op=.nilCheck x) (hx:opv env x=.ifc t v):PureOk P env o (.ifc t v):=
  pureOk_of fun m N n a ha=>by
    have e:=eval_opv ha x (by rw[hx]; simp)
    rw[hx] at e
    refine⟨fun w=>?_,e.2⟩
    simp only[execOp,ho,e.1,AV.toV]; rfl
theorem ne_junk_of_ok {v:AV} (h:v.one=true):v≠ .junk:=by rintro rfl; simp[AV.one] at h
theorem iface_sound {P:Program} {env:Env} {o:Oper} {t:TypeId} {x:Operand} (ho:o.op=.makeInterface t x) (ht:notIface P t=true) (hx:opv env x≠ .junk):
    PureOk P env o (.ifc t (opv env x)):=
  pureOk_of fun m N n a ha=>by
    have e:=eval_opv ha x hx
    refine⟨fun w=>?_,by simp only[AV.ok]; exact e.2⟩
    simp only[execOp,ho]
    refine run_value ?_
    simp only[Instr.makeInterface]
    unfold notIface at ht
    cases hu:P.underlying t with
    | none=>rw[hu] at ht; simp at ht
    | some d=>
      rw[hu] at ht
      rw[run_ok_bind (run_underlying hu w),e.1]
      cases d <;> first | (simp at ht; done) | rfl
theorem func_sound {P:Program} {env:Env} {o:Oper} {f:FuncId} {captured:Array Operand} (ho:o.op=.makeFunc (.func f) #[] captured)
    (hj:(captured.toList.all fun x=>match opv env x with | .junk=>false | _=>true)=true):PureOk P env o (.fn f (captured.toList.map (opv env))):=
  pureOk_of fun m N n a ha=>by
    have hall:∀x∈captured.toList,a.eval x=AV.toV m (opv env x)∧(opv env x).ok n=true:=fun x hx=>by
      have:=List.all_eq_true.1 hj x hx
      exact eval_opv ha x (by intro e; rw[e] at this; simp at this)
    refine⟨fun w=>?_,?_⟩
    · simp only[execOp,ho,Instr.makeFunc]
      refine run_value ?_
      simp only[run_pure,AV.toV,AV.toVs_eq,List.map_map]
      have hcap:captured.map a.eval=(captured.toList.map (AV.toV m∘opv env)).toArray:=by
        rw[← Array.toList_inj]
        simp only[Array.toList_map]
        exact List.map_congr_left fun x hx=>(hall x hx).1
      rw[hcap,Array.map_empty]
    · simp only[AV.ok,AV.oks_eq,List.all_map,List.all_eq_true]
      intro x hx; exact(hall x hx).2
theorem add_addr (b o n:Nat):(⟨b,o,none⟩:Addr).add n=⟨b,o+n,none⟩:=by
  unfold Addr.add; split
  · rename_i h; subst h; rfl
  · rfl
theorem fldT_spec {P:Program} {s:TypeId} {f:Nat} {off:Nat} {ag:Bool} {sz:Nat} (h:fldT P s f=some (off,ag,sz)):
    ∃fs fd,P.underlying s=some (.struct fs)∧fs[f]?=some fd∧tyA P fd.type=some (ag,sz)∧sz≠0∧fd.offset=off:=by
  unfold fldT at h
  split at h <;> try (simp at h; done)
  rename_i fs hu
  split at h <;> try (simp at h; done)
  rename_i fd hf
  split at h <;> try (simp at h; done)
  rename_i ag' sz' ht
  split at h <;> try (simp at h; done)
  simp only[Option.some.injEq,Prod.mk.injEq] at h
  obtain⟨rfl,rfl,rfl⟩:=h
  exact⟨fs,fd,hu,hf,ht,‹_›,rfl⟩
theorem fieldAddr_sound {P:Program} {env:Env} {o:Oper} {s:TypeId} {x:Operand} {f b ob off sz:Nat} {ag:Bool} (ho:o.op=.fieldAddr s x f)
    (hx:opv env x=.pt b ob) (hf:fldT P s f=some (off,ag,sz)):PureOk P env o (.pt b (ob+off)):=
  pureOk_of fun m N n a ha=>by
    obtain⟨fs,fd,hu,hfd,ht,hz,rfl⟩:=fldT_spec hf
    have e:=eval_opv ha x (by rw[hx]; simp)
    rw[hx] at e
    refine⟨fun w=>?_,e.2⟩
    simp only[execOp,ho]
    refine run_value ?_
    simp only[Instr.fieldAt]
    rw[run_ok_bind (run_underlying hu w)]
    simp only[hfd,e.1,AV.toV,Instr.sureAddr,pure_bind]
    rw[run_bind]
    simp only[fieldPlace]
    rw[run_ok_bind ((tyA_spec ht).2 w),if_neg hz,add_addr,Nat.add_assoc]
    rfl
theorem run_part {P:Program} {t:TypeId} {ag:Bool} {sz off:Nat} {cs:Array Value} (ht:tyA P t=some (ag,sz)) (w:World):
    (part t cs off).run P w=if ag then .ok (.agg (cs.extract off (off+sz))) w else(match cs[off]? with | some v=>.ok v w | none=>.halt (.stuck "part: no such cell") w):=by
  simp only[part]
  rw[run_ok_bind ((tyA_spec ht).1 w)]
  cases ag
  · simp only[Bool.false_eq_true,if_false]
    cases cs[off]? <;> rfl
  · simp only[if_true]
    rw[run_ok_bind ((tyA_spec ht).2 w)]; rfl
theorem toVs_part (m:NM) (l:List AV) (off sz:Nat):(AV.toVs m l).toArray.extract off (off+sz)=(AV.toVs m ((l.drop off).take sz)).toArray:=by
  simp only[AV.toVs_eq,List.extract_toArray,List.extract_eq_take_drop,List.map_take,List.map_drop]
  congr 2; omega
theorem toVs_get (m:NM) (l:List AV) (i:Nat) (h:i<l.length):(AV.toVs m l).toArray[i]?=some (AV.toV m (l.getD i .junk)):=by
  simp[AV.toVs_eq,List.getD_eq_getElem?_getD,List.getElem?_eq_getElem h]
theorem ok_getD {n:Nat} {l:List AV} (h:AV.oks n l=true) (i:Nat) (hi:i<l.length):(l.getD i .junk).ok n=true:=by
  rw[AV.oks_eq] at h
  rw[List.getD_eq_getElem?_getD,List.getElem?_eq_getElem hi]
  exact List.all_eq_true.1 h _ (List.getElem_mem hi)
theorem ok_part {n:Nat} {l:List AV} (h:(AV.ag l).ok n=true) (off sz:Nat):(AV.ag ((l.drop off).take sz)).ok n=true:=by
  simp only[AV.ok,Bool.and_eq_true,AV.oks_eq,List.all_eq_true] at*
  exact⟨fun v hv=>h.1 v (List.mem_of_mem_drop (List.mem_of_mem_take hv)),fun v hv=>h.2 v (List.mem_of_mem_drop (List.mem_of_mem_take hv))⟩
theorem field_sound {P:Program} {env:Env} {o:Oper} {s:TypeId} {x:Operand} {f off sz:Nat} {ag:Bool} {l:List AV} (ho:o.op=.field s x f)
    (hx:opv env x=.ag l) (hf:fldT P s f=some (off,ag,sz)) (hl:ag=false→off<l.length):PureOk P env o (if ag then .ag ((l.drop off).take sz) else l.getD off .junk):=
  pureOk_of fun m N n a ha=>by
    obtain⟨fs,fd,hu,hfd,ht,hz,rfl⟩:=fldT_spec hf
    have e:=eval_opv ha x (by rw[hx]; simp)
    rw[hx] at e
    refine⟨fun w=>?_,?_⟩
    · simp only[execOp,ho]
      refine run_value ?_
      simp only[Instr.field]
      rw[run_ok_bind (run_underlying hu w)]
      simp only[hfd,e.1,AV.toV,asAgg,pure_bind]
      rw[run_part ht]
      cases ag
      · simp only[Bool.false_eq_true,if_false,toVs_get m l _ (hl rfl)]
      · simp only[if_true,toVs_part,AV.toV]
    · cases ag
      · simp only[Bool.false_eq_true,if_false]
        have:=e.2
        simp only[AV.ok,Bool.and_eq_true] at this
        exact ok_getD this.1 _ (hl rfl)
      · simp only[if_true]; exact ok_part e.2 _ _
theorem extract_sound {P:Program} {env:Env} {o:Oper} {x:Operand} {i:Nat} {l:List AV} (ho:o.op=.extract x i) (hx:opv env x=.tu l) (hi:i<l.length):
    PureOk P env o (l.getD i .junk):=
  pureOk_of fun m N n a ha=>by
    have e:=eval_opv ha x (by rw[hx]; simp)
    rw[hx] at e
    refine⟨fun w=>?_,?_⟩
    · simp only[execOp,ho]
      refine run_value ?_
      simp only[Instr.extract,e.1,AV.toV,toVs_get m l i hi]; rfl
    · have:=e.2
      simp only[AV.ok] at this
      exact ok_getD this _ hi
end Go.Ab
namespace Go.Ab
theorem ixT_array {P:Program} {t:TypeId} {n e:Nat} {ag:Bool} (h:ixT P t=some (some n,ag,e)):∃el,P.underlying t=some (.array n el)∧tyA P el=some (ag,e):=by
  unfold ixT at h
  split at h <;> try (simp at h; done)
  · rename_i k el hu
    split at h <;> try (simp at h; done)
    rename_i a s ht
    simp only[Option.some.injEq,Prod.mk.injEq] at h
    obtain⟨rfl,rfl,rfl⟩:=h
    exact⟨el,hu,ht⟩
  · split at h <;> simp at h
theorem ixT_slice {P:Program} {t:TypeId} {e:Nat} {ag:Bool} (h:ixT P t=some (none,ag,e)):∃el,P.underlying t=some (.slice el)∧tyA P el=some (ag,e):=by
  unfold ixT at h
  split at h <;> try (simp at h; done)
  · split at h <;> simp at h
  · rename_i el hu
    split at h <;> try (simp at h; done)
    rename_i a s ht
    simp only[Option.some.injEq,Prod.mk.injEq] at h
    obtain⟨_,rfl,rfl⟩:=h
    exact⟨el,hu,ht⟩
theorem run_asIntOf {P:Program} {m:NM} {v:AV} {i:Int} (h:idx v=some i) (w:World):(asIntOf (AV.toV m v)).run P w=.ok (knd v,i) w:=by
  rw[toV_idx h]; rfl
theorem indexAt_array {P:Program} {t el:TypeId} {n e b ob:Nat} {ag:Bool} {m:NM} {vi:AV} {k:Int} (hu:P.underlying t=some (.array n el)) (ht:tyA P el=some (ag,e))
    (hk:idx vi=some k) (h0:0≤k) (hlt:k<n) (w:World):
    (Instr.indexAt t (.pointer (some ⟨m.ρ b,m.β b+ob,none⟩)) (AV.toV m vi)).run P w=.ok (.pointer (some ⟨m.ρ b,m.β b+(ob+k.toNat*e),none⟩)) w:=by
  simp only[Instr.indexAt]
  rw[run_ok_bind (run_asIntOf hk w)]
  dsimp only
  rw[run_ok_bind (run_underlying hu w)]
  dsimp only[Instr.sureAddr]
  simp only[pure_bind]
  rw[run_ok_bind (run_underlying hu w)]
  dsimp only
  rw[if_pos ⟨h0,hlt⟩,run_ok_bind ((tyA_spec ht).2 w),add_addr,Nat.add_assoc]
  rfl
theorem indexAt_slice {P:Program} {t el:TypeId} {n c e b ob:Nat} {ag:Bool} {m:NM} {vi:AV} {k:Int} (hu:P.underlying t=some (.slice el)) (ht:tyA P el=some (ag,e))
    (hk:idx vi=some k) (h0:0≤k) (hlt:k<n) (w:World):
    (Instr.indexAt t (.slice (some ⟨m.ρ b,m.β b+ob,none⟩) n c) (AV.toV m vi)).run P w=.ok (.pointer (some ⟨m.ρ b,m.β b+(ob+k.toNat*e),none⟩)) w:=by
  simp only[Instr.indexAt]
  rw[run_ok_bind (run_asIntOf hk w)]
  dsimp only
  rw[run_ok_bind (run_underlying hu w)]
  dsimp only
  simp only[pure_bind]
  rw[run_ok_bind (run_underlying hu w)]
  dsimp only
  rw[if_pos ⟨h0,hlt⟩,run_ok_bind ((tyA_spec ht).2 w),add_addr,Nat.add_assoc]
  rfl
theorem indexAddr_of {P:Program} {env:Env} {o:Oper} {t:TypeId} {x i:Operand} {vx vi:AV} {b off:Nat} (ho:o.op=.indexAddr t x i)
    (hx:opv env x=vx) (hi:opv env i=vi) (hxj:vx≠ .junk) (hij:vi≠ .junk) (hb:∀n,vx.ok n=true→b<n)
    (hr:∀(m:NM) w,(Instr.indexAt t (AV.toV m vx) (AV.toV m vi)).run P w=.ok (.pointer (some ⟨m.ρ b,m.β b+off,none⟩)) w):PureOk P env o (.pt b off):=
  pureOk_of fun m N n a ha=>by
    have e1:=eval_opv ha x (by rw[hx]; exact hxj)
    have e2:=eval_opv ha i (by rw[hi]; exact hij)
    rw[hx] at e1; rw[hi] at e2
    refine⟨fun w=>?_,by simp only[AV.ok,decide_eq_true_eq]; exact hb n e1.2⟩
    simp only[execOp,ho]
    refine run_value ?_
    rw[e1.1,e2.1]; exact hr m w
theorem indexAddr_sound {P:Program} {env:Env} {o:Oper} {t:TypeId} {x i:Operand} {K:AV→Prop} (ho:o.op=.indexAddr t x i)
    (h:indexAddrK P t (opv env x) (opv env i) K):∃v,K v∧PureOk P env o v:=by
  generalize hx:opv env x=vx at h
  generalize hi:opv env i=vi at h
  unfold indexAddrK at h
  split at h <;> try exact h.elim
  · rename_i n ag e k ht hk
    obtain⟨el,hu,hte⟩:=ixT_array ht
    cases vx <;> simp only at h <;> try exact h.elim
    obtain⟨h0,hlt,hK⟩:=h
    exact⟨_,hK,indexAddr_of ho hx hi (by simp) (ne_junk_of_idx hk) (fun n hn=>by simpa [AV.ok] using hn) fun m w=>indexAt_array hu hte hk h0 hlt w⟩
  · rename_i ag e k ht hk
    obtain⟨el,hu,hte⟩:=ixT_slice ht
    cases vx <;> simp only at h <;> try exact h.elim
    · obtain⟨h0,hlt,hK⟩:=h
      exact⟨_,hK,indexAddr_of ho hx hi (by simp) (ne_junk_of_idx hk) (fun n hn=>by simpa [AV.ok] using hn) fun m w=>indexAt_slice hu hte hk h0 hlt w⟩
    · obtain⟨h0,hlt,hK⟩:=h
      exact⟨_,hK,indexAddr_of ho hx hi (by simp) (ne_junk_of_idx hk) (fun n hn=>by simp[AV.ok] at hn; exact hn.1) fun m w=>indexAt_slice hu hte hk h0 hlt w⟩
theorem isStrT_spec {P:Program} {t:TypeId} (h:isStrT P t=true):P.underlying t=some .string:=by
  unfold isStrT at h
  split at h
  · assumption
  · simp at h
theorem st_get (s:List (BitVec 8)) (i:Nat) (h:i<s.length):(⟨(s.map UInt8.ofBitVec).toArray⟩:ByteArray)[i]?=some (UInt8.ofBitVec (s.getD i 0)):=by
  have hs:(⟨(s.map UInt8.ofBitVec).toArray⟩:ByteArray).size=s.length:=by simp[ByteArray.size]
  rw[getElem?_pos _ _ (by rw[hs]; exact h)]
  simp only[ByteArray.getElem_eq_getElem_data,List.getElem_toArray,List.getElem_map,List.getD_eq_getElem?_getD,List.getElem?_eq_getElem h,Option.getD_some]
theorem index_of {P:Program} {env:Env} {o:Oper} {t:TypeId} {x i:Operand} {vx vi v:AV} (ho:o.op=.index t x i)
    (hx:opv env x=vx) (hi:opv env i=vi) (hxj:vx≠ .junk) (hij:vi≠ .junk) (hok:∀n,vx.ok n=true→v.ok n=true)
    (hr:∀(m:NM) w,(Instr.index t (AV.toV m vx) (AV.toV m vi)).run P w=.ok (AV.toV m v) w):PureOk P env o v:=
  pureOk_of fun m N n a ha=>by
    have e1:=eval_opv ha x (by rw[hx]; exact hxj)
    have e2:=eval_opv ha i (by rw[hi]; exact hij)
    rw[hx] at e1; rw[hi] at e2
    refine⟨fun w=>?_,hok n e1.2⟩
    simp only[execOp,ho]
    refine run_value ?_
    rw[e1.1,e2.1]; exact hr m w
theorem index_sound {P:Program} {env:Env} {o:Oper} {t:TypeId} {x i:Operand} {K:AV→Prop} (ho:o.op=.index t x i)
    (h:indexK P t (opv env x) (opv env i) K):∃v,K v∧PureOk P env o v:=by
  generalize hx:opv env x=vx at h
  generalize hi:opv env i=vi at h
  unfold indexK at h
  cases hk:idx vi with
  | none=>rw[hk] at h; exact h.elim
  | some k=>
    rw[hk] at h
    have hij:=ne_junk_of_idx hk
    cases vx <;> simp only at h <;> try exact h.elim
    · rename_i s
      obtain⟨ht,h0,hlt,hK⟩:=h
      refine⟨_,hK,index_of ho hx hi (by simp) hij (fun _ _=>rfl) fun m w=>?_⟩
      simp only[Instr.index]
      rw[run_ok_bind (run_asIntOf hk w)]
      dsimp only
      rw[run_ok_bind (run_underlying (isStrT_spec ht) w)]
      simp only[AV.toV]
      rw[if_pos h0,st_get s k.toNat (by omega)]
      rfl
    · rename_i l
      split at h <;> try exact h.elim
      · rename_i n e ht
        obtain⟨h0,hlt,hl,hK⟩:=h
        obtain⟨el,hu,hte⟩:=ixT_array ht
        refine⟨_,hK,index_of ho hx hi (by simp) hij (fun n hn=>?_) fun m w=>?_⟩
        · simp only[AV.ok,Bool.and_eq_true] at hn
          exact ok_getD hn.1 _ hl
        · simp only[Instr.index]
          rw[run_ok_bind (run_asIntOf hk w)]
          dsimp only
          rw[run_ok_bind (run_underlying hu w)]
          simp only[AV.toV]
          rw[if_pos ⟨h0,hlt⟩,run_ok_bind ((tyA_spec hte).2 w),run_part hte]
          simp only[Bool.false_eq_true,if_false,toVs_get m l _ hl]
      · rename_i n e ht
        obtain⟨h0,hlt,hl,hK⟩:=h
        obtain⟨el,hu,hte⟩:=ixT_array ht
        refine⟨_,hK,index_of ho hx hi (by simp) hij (fun n hn=>ok_part hn _ _) fun m w=>?_⟩
        simp only[Instr.index]
        rw[run_ok_bind (run_asIntOf hk w)]
        dsimp only
        rw[run_ok_bind (run_underlying hu w)]
        simp only[AV.toV]
        rw[if_pos ⟨h0,hlt⟩,run_ok_bind ((tyA_spec hte).2 w),run_part hte]
        simp only[if_true,toVs_part]
end Go.Ab
namespace Go.Ab
theorem fits_length {ks:List EK}:∀ {l:List AV},fits ks l=true→l.length=ks.length:=by
  induction ks with
  | nil=>intro l h; cases l <;> simp_all [fits]
  | cons k ks ih=>intro l h; cases l with
    | nil=>simp[fits] at h
    | cons v r=>simp only[fits,Bool.and_eq_true] at h; simp[ih h.2]
theorem fits_take {a b:List EK}:∀ {l:List AV},fits (a++b) l=true→fits a (l.take a.length)=true∧fits b (l.drop a.length)=true:=by
  induction a with
  | nil=>intro l h; simpa [fits] using h
  | cons k ks ih=>intro l h; cases l with
    | nil=>simp[fits] at h
    | cons v r=>
      simp only[List.cons_append,fits,Bool.and_eq_true] at h
      simp only[List.length_cons,List.take_succ_cons,List.drop_succ_cons,fits,Bool.and_eq_true]
      exact⟨⟨h.1,(ih h.2).1⟩,(ih h.2).2⟩
theorem eqCells_split (n:Nat):∀(l l':List AV),n≤l.length→n≤l'.length→eqCells l l'=(eqCells (l.take n) (l'.take n)&&eqCells (l.drop n) (l'.drop n)):=by
  induction n with
  | zero=>intro l l' _ _; simp[eqCells]
  | succ n ih=>intro l l' h h'; cases l with
    | nil=>simp at h
    | cons a r=>cases l' with
      | nil=>simp at h'
      | cons b s=>
        simp only[List.take_succ_cons,List.drop_succ_cons,eqCells]
        rw[ih r s (by simpa using h) (by simpa using h'),Bool.and_assoc]
theorem leaf_eq {P:Program} {k:EK} {x y:AV} (hx:x.fits k=true) (hy:y.fits k=true) {d:Nat} {t:TypeId}
    (hu:k.at P t) (m:NM) (w:World):
    (Op.equalIn (d+1) t (AV.toV m x) (AV.toV m y)).run P w=.ok (x.beq y) w:=by
  have hb:∀ {n:Nat} (a b:BitVec n),((a.toNat:Int)==(b.toNat:Int))=(a==b):=by
    intro n a b
    rw[Bool.eq_iff_iff]; simp only[beq_iff_eq]
    exact⟨fun h=>BitVec.eq_of_toNat_eq (by exact_mod_cast h),fun h=>by rw[h]⟩
  cases k with
  | bool=>
    cases x <;> simp only[AV.fits,Bool.false_eq_true] at hx
    cases y <;> simp only[AV.fits,Bool.false_eq_true] at hy
    exact eqIn_bool w d t _ _ hu
  | str=>
    cases x <;> simp only[AV.fits,Bool.false_eq_true] at hx
    cases y <;> simp only[AV.fits,Bool.false_eq_true] at hy
    simp only[AV.toV]
    rw[Go.run_equalIn_string w d t _ _ hu]
    rename_i a b
    congr 1
    rw[Bool.eq_iff_iff,AV.beq]
    simp only[beq_iff_eq,ByteArray.toList_eq]
    have hinj:Function.Injective UInt8.ofBitVec:=fun a b h=>by simpa using congrArg UInt8.toBitVec h
    constructor
    · intro h; exact(List.map_inj_right (fun a b h=>hinj h)).1 (by simpa using h)
    · intro h; rw[h]
  | int k=>
    cases k <;> cases x <;> simp only[AV.fits,Bool.false_eq_true] at hx <;> cases y <;> simp only[AV.fits,Bool.false_eq_true] at hy <;>
      simp only[AV.toV,AV.beq] <;> rw[Go.run_equalIn_int w d t _ _ _ _ hu] <;> try (first | rw[hb] | skip)
    rename_i a b
    congr 1
    rw[Bool.eq_iff_iff]; simp only[beq_iff_eq]
    exact⟨fun h=>BitVec.eq_of_toInt_eq h,fun h=>by rw[h]⟩
def wrapV (ag:Bool) (m:NM) (l:List AV):Value:=if ag then .agg (AV.toVs m l).toArray else AV.toV m (l.getD 0 .junk)
theorem tyA_ag {P:Program} {t:TypeId} {ag:Bool} {sz:Nat} (h:tyA P t=some (ag,sz)):
    ag=true↔(∃fs,P.underlying t=some (.struct fs))∨∃n e,P.underlying t=some (.array n e):=by
  unfold tyA at h
  cases hu:P.underlying t with
  | none=>rw[hu] at h; simp at h
  | some d=>
    rw[hu] at h
    cases hi:P.info? t with
    | none=>rw[hi] at h; cases d <;> simp at h
    | some i=>rw[hi] at h; cases d <;> simp at h <;> simp[← h.1]
theorem part_run {P:Program} {t:TypeId} {ag:Bool} {sz off:Nat} (ht:tyA P t=some (ag,sz)) (h1:ag=false→sz=1) (m:NM) {l:List AV} (hl:off+sz≤l.length) (w:World):
    (part t (AV.toVs m l).toArray off).run P w=.ok (wrapV ag m ((l.drop off).take sz)) w:=by
  rw[run_part ht]
  cases ag
  · have e:=h1 rfl
    subst e
    simp only[Bool.false_eq_true,if_false,wrapV]
    rw[toVs_get m l _ (by omega)]
    simp[List.getD_eq_getElem?_getD,List.getElem?_take]
  · simp only[if_true,wrapV,toVs_part]
theorem leaves_one {P:Program} {d:Nat} {t:TypeId} {ks:List EK} {sz:Nat} (h:leaves P d t=some ks) (ht:tyA P t=some (false,sz)):ks.length=1:=by
  have hn:=mt (tyA_ag ht).2 (by simp)
  cases d with
  | zero=>simp[leaves] at h
  | succ d=>
    unfold leaves at h
    cases hu:P.underlying t with
    | none=>rw[hu] at h; simp at h
    | some dd=>
      rw[hu] at h hn
      cases dd <;> simp at h hn <;> subst h <;> rfl
theorem fields_run {P:Program} {d n:Nat} (ih:∀t ks,leaves P d t=some ks→∀ag,tyA P t=some (ag,ks.length)→∀l l',fits ks l=true→fits ks l'=true→∀m w,
      (Op.equalIn (d+n) t (wrapV ag m l) (wrapV ag m l')).run P w=.ok (eqCells l l') w) (m:NM) (w:World) (L L':List AV):
    ∀ (fs:List Field) (off:Nat) (ks:List EK),leavesF P (leaves P d) fs off=some ks→fits ks (L.drop off)=true→fits ks (L'.drop off)=true→
      (Op.eqFields (d+n) (AV.toVs m L).toArray (AV.toVs m L').toArray fs).run P w=.ok (eqCells (L.drop off) (L'.drop off)) w
  | [],off,ks,h,h1,h2=>by
    simp only[leavesF,Option.some.injEq] at h
    subst h
    have e1:L.drop off=[]:=by cases hl:L.drop off <;> simp_all [fits]
    have e2:L'.drop off=[]:=by cases hl:L'.drop off <;> simp_all [fits]
    rw[e1,e2]; rfl
  | f :: fs,off,ks,h,h1,h2=>by
    unfold leavesF at h
    cases hg:leaves P d f.type with
    | none=>rw[hg] at h; simp at h
    | some l=>
      cases ht:tyA P f.type with
      | none=>rw[hg,ht] at h; simp at h
      | some q=>
        obtain⟨ag,sz⟩:=q
        rw[hg,ht] at h
        simp only at h
        split at h
        · rename_i hc
          obtain⟨c1,c2,c3⟩:=hc
          subst c2 c3
          simp only[Option.map_eq_some_iff] at h
          obtain⟨ks',h3,rfl⟩:=h
          obtain⟨a1,a2⟩:=fits_take h1
          obtain⟨b1,b2⟩:=fits_take h2
          have l1:=fits_length h1
          have l2:=fits_length h2
          simp only[List.length_drop,List.length_append] at l1 l2
          have hne1:ag=false→l.length=1:=fun e=>leaves_one hg (by rw[ht,e])
          have r:=fields_run ih m w L L' fs (f.offset+l.length) ks' h3 (by simpa [List.drop_drop] using a2) (by simpa [List.drop_drop] using b2)
          simp only[Op.eqFields,if_pos c1]
          by_cases hz:l.length=0
          ·
            have hl:l=[]:=List.length_eq_zero_iff.1 hz
            subst hl
            cases ag with
            | false=>simp at hne1
            | true=>
              have p1:∀(Q:List AV),(part f.type (AV.toVs m Q).toArray f.offset).run P w=.ok (wrapV true m ((Q.drop f.offset).take 0)) w:=fun Q=>by
                rw[run_part ht]; simp only[if_true,wrapV,List.length_nil,toVs_part]
              rw[run_ok_bind (p1 L),run_ok_bind (p1 L'),run_ok_bind (ih _ _ hg true ht _ _ (by simpa using a1) (by simpa using b1) m w)]
              simpa [eqCells] using r
          · have p1:=part_run ht hne1 m (l:=L) (off:=f.offset) (by omega) w
            have p2:=part_run ht hne1 m (l:=L') (off:=f.offset) (by omega) w
            rw[run_ok_bind p1,run_ok_bind p2,run_ok_bind (ih _ _ hg ag ht _ _ a1 b1 m w)]
            rw[eqCells_split l.length (L.drop f.offset) (L'.drop f.offset) (by simp; omega) (by simp; omega)]
            simp only[List.drop_drop]
            cases eqCells (List.take l.length (List.drop f.offset L)) (List.take l.length (List.drop f.offset L'))
            · rfl
            · simpa using r
        · simp at h
theorem items_run {P:Program} {d n:Nat} {e:TypeId} {ks:List EK} {ag:Bool} (hk:leaves P d e=some ks) (ht:tyA P e=some (ag,ks.length))
    (ih:∀l l',fits ks l=true→fits ks l'=true→∀m w,(Op.equalIn (d+n) e (wrapV ag m l) (wrapV ag m l')).run P w=.ok (eqCells l l') w) (m:NM) (w:World) (L L':List AV):
    ∀ (len i:Nat),fits (List.replicate len ks).flatten (L.drop (i*ks.length))=true→fits (List.replicate len ks).flatten (L'.drop (i*ks.length))=true→
      (Op.eqItems (d+n) e ks.length (AV.toVs m L).toArray (AV.toVs m L').toArray (List.range' i len)).run P w=.ok (eqCells (L.drop (i*ks.length)) (L'.drop (i*ks.length))) w
  | 0,i,h1,h2=>by
    have e1:L.drop (i*ks.length)=[]:=by cases hl:L.drop (i*ks.length) <;> simp_all [fits]
    have e2:L'.drop (i*ks.length)=[]:=by cases hl:L'.drop (i*ks.length) <;> simp_all [fits]
    rw[e1,e2]; rfl
  | len+1,i,h1,h2=>by
    simp only[List.replicate_succ,List.flatten_cons] at h1 h2
    obtain⟨a1,a2⟩:=fits_take h1
    obtain⟨b1,b2⟩:=fits_take h2
    have l1:=fits_length h1
    have l2:=fits_length h2
    simp only[List.length_drop,List.length_append] at l1 l2
    have hne1:ag=false→ks.length=1:=fun e=>leaves_one hk (by rw[ht,e])
    have e3:i*ks.length+ks.length=(i+1)*ks.length:=by rw[Nat.add_mul,Nat.one_mul]
    have r:=items_run hk ht ih m w L L' len (i+1) (by rw[← e3,← List.drop_drop]; exact a2) (by rw[← e3,← List.drop_drop]; exact b2)
    simp only[List.range'_succ,Op.eqItems]
    by_cases hz:ks.length=0
    · have hl:ks=[]:=List.length_eq_zero_iff.1 hz
      subst hl
      cases ag with
      | false=>simp at hne1
      | true=>
        have p1:∀(Q:List AV),(part e (AV.toVs m Q).toArray (i*0)).run P w=.ok (wrapV true m ((Q.drop (i*0)).take 0)) w:=fun Q=>by
          rw[run_part ht]; simp only[if_true,wrapV,List.length_nil,toVs_part]
        simp only[List.length_nil] at*
        rw[run_ok_bind (p1 L),run_ok_bind (p1 L'),run_ok_bind (ih _ _ (by simpa using a1) (by simpa using b1) m w)]
        simpa [eqCells] using r
    · have p1:=part_run ht hne1 m (l:=L) (off:=i*ks.length) (by omega) w
      have p2:=part_run ht hne1 m (l:=L') (off:=i*ks.length) (by omega) w
      rw[run_ok_bind p1,run_ok_bind p2,run_ok_bind (ih _ _ a1 b1 m w)]
      rw[eqCells_split ks.length (L.drop (i*ks.length)) (L'.drop (i*ks.length)) (by simp; omega) (by simp; omega)]
      simp only[List.drop_drop,e3]
      cases eqCells (List.take ks.length (List.drop (i*ks.length) L)) (List.take ks.length (List.drop (i*ks.length) L'))
      · rfl
      · simpa using r
theorem fieldsOf_eq {P:Program} {t:TypeId} {fs:Array Field} (h:P.underlying t=some (.struct fs)):P.fieldsOf t=fs:=by
  simp[Program.fieldsOf,h]
theorem cellsOf_eq {P:Program} {t:TypeId} {i:TypeInfo} (h:P.info? t=some i):P.cellsOf t=i.size:=by
  simp[Program.cellsOf,h]
theorem tyA_info {P:Program} {t:TypeId} {i:TypeInfo} {d:TypeDesc} (h:P.info? t=some i) (hu:P.underlying t=some d):∃ag,tyA P t=some (ag,i.size):=by
  unfold tyA; rw[h,hu]; cases d <;> simp
theorem leaves_run {P:Program} (n:Nat):∀(d:Nat) (t:TypeId) (ks:List EK),leaves P d t=some ks→∀ag,tyA P t=some (ag,ks.length)→∀l l',fits ks l=true→fits ks l'=true→∀m w,
      (Op.equalIn (d+n) t (wrapV ag m l) (wrapV ag m l')).run P w=.ok (eqCells l l') w
  | 0,t,ks,h=>by simp[leaves] at h
  | d+1,t,ks,h=>by
    intro ag ht l l' h1 h2 m w
    have scal:∀k,ks=[k]→ag=false→k.at P t→
        (Op.equalIn (d+1+n) t (wrapV ag m l) (wrapV ag m l')).run P w=.ok (eqCells l l') w:=by
      intro k hk hag hu
      subst hk hag
      have e1:=fits_length h1
      have e2:=fits_length h2
      match l,l',e1,e2 with
      | [x],[y],_,_=>
        simp only[fits,Bool.and_true] at h1 h2
        simp only[wrapV,Bool.false_eq_true,if_false,List.getD_cons_zero,eqCells,Bool.and_true]
        rw[show d+1+n=d+n+1 by omega]
        exact leaf_eq h1 h2 hu m w
    have hag:=tyA_ag ht
    unfold leaves at h
    cases hu:P.underlying t with
    | none=>rw[hu] at h; simp at h
    | some dd=>
      rw[hu] at h hag
      cases dd <;> simp only[Option.some.injEq,reduceCtorEq] at h
      case bool=>exact scal _ h.symm (by simpa using hag) hu
      case int k=>exact scal _ h.symm (by simpa using hag) hu
      case string=>exact scal _ h.symm (by simpa using hag) hu
      case struct fs=>
        have:ag=true:=hag.2 (Or.inl ⟨fs,rfl⟩)
        subst this
        split at h
        · simp at h
        · rename_i hst
          simp only[wrapV,if_true]
          rw[show d+1+n=d+n+1 by omega,Go.run_equalIn_struct w (d+n) t _ _ (by rw[fieldsOf_eq hu]; exact hu) (by simpa using hst),fieldsOf_eq hu]
          simpa using fields_run (n:=n) (leaves_run n d) m w l l' fs.toList 0 ks h (by simpa using h1) (by simpa using h2)
      case array len e=>
        have:ag=true:=hag.2 (Or.inr ⟨len,e,rfl⟩)
        subst this
        cases hk:leaves P d e with
        | none=>rw[hk] at h; simp at h
        | some kl=>
          cases hi:P.info? e with
          | none=>rw[hk,hi] at h; simp at h
          | some i=>
            rw[hk,hi] at h
            simp only at h
            split at h
            · rename_i hs
              simp only[Option.some.injEq] at h
              subst h
              have hue:∃d',P.underlying e=some d':=by
                cases hx:P.underlying e with
                | none=>cases d with
                  | zero=>simp[leaves] at hk
                  | succ d=>unfold leaves at hk; rw[hx] at hk; simp at hk
                | some d'=>exact⟨d',rfl⟩
              obtain⟨d',hd'⟩:=hue
              obtain⟨ag',hte⟩:=tyA_info hi hd'
              rw[hs] at hte
              simp only[wrapV,if_true]
              rw[show d+1+n=d+n+1 by omega,Go.run_equalIn_array w (d+n) _ _ hu hi,cellsOf_eq hi,hs,List.range_eq_range']
              simpa using items_run (n:=n) hk hte (leaves_run n d e kl hk ag' hte) m w l l' len 0 (by simpa using h1) (by simpa using h2)
            · simp at h
theorem binAgg_sound {P:Program} {env:Env} {o:Oper} {op:BinOp} {t yt:TypeId} {x y:Operand} {K:AV→Prop}
    (ho:o.op=.binOp op t x y yt) (h:binAgg P op t (opv env x) (opv env y) K):∃v,K v∧PureOk P env o v:=by
  unfold binAgg at h
  split at h
  · exact h.elim
  · rename_i ks hq
    split at h
    · rename_i l l' hx hy
      obtain⟨h1,h2,h⟩:=h
      unfold eqT at hq
      split at hq
      · simp at hq
      · rename_i hg
        split at hq
        · rename_i ks' sz hk ht
          split at hq
          · rename_i hs
            simp only[Option.some.injEq] at hq
            subst hq hs
            have hrun:∀(m:NM) w,(Op.equalIn 10000 t (.agg (AV.toVs m l).toArray) (.agg (AV.toVs m l').toArray)).run P w=.ok (eqCells l l') w:=fun m w=>by
              have:=leaves_run 9980 20 t ks' hk true ht l l' h1 h2 m w
              simpa [wrapV] using this
            have fin:∀c:Bool,K (.bo c)→(∀(m:NM) w,(Go.binOp op t (.agg (AV.toVs m l).toArray) (.agg (AV.toVs m l').toArray)).run P w=.ok (.bool c) w)→∃v,K v∧PureOk P env o v:=fun c hc hr=>
              ⟨.bo c,hc,pureOk_of fun m N n a ha=>by
                have e1:=(eval_opv ha x (by rw[hx]; simp)).1
                have e2:=(eval_opv ha y (by rw[hy]; simp)).1
                rw[hx,AV.toV] at e1; rw[hy,AV.toV] at e2
                refine⟨fun w=>?_,rfl⟩
                simp only[execOp,ho]
                refine run_value ?_
                rw[e1,e2,run_bind,Go.run_eqGuard_agg w op t x y _ _ (by simpa using hg)]
                exact hr m w⟩
            cases op <;> simp only at h <;> first | exact h.elim | skip
            · refine fin _ h fun m w=>?_
              rw[Go.run_eql_struct,hrun m w]; rfl
            · refine fin _ h fun m w=>?_
              rw[Go.run_neq_struct,hrun m w]; rfl
          · simp at hq
        · simp at hq
    · exact h.elim
end Go.Ab
namespace Go.Ab
theorem run_sliceBound {P:Program} {m:NM} {v:AV} {i:Int} {y:Nat} {c:BoundsCode} (h:idx v=some i) (h0:0≤i) (h1:i≤y) (w:World):
    (Instr.sliceBound (AV.toV m v) y c).run P w=.ok i.toNat w:=by
  simp only[Instr.sliceBound]
  rw[run_ok_bind (run_asIntOf h w)]
  dsimp only
  rw[if_pos ⟨h0,h1⟩]; rfl
theorem run_sliceBounds {P:Program} {m:NM} {isSlice:Bool} {len cap:Nat} {lo hi mx:Option AV} {l h c:Int}
    (hl:(match lo with | none=>some 0 | some v=>idx v)=some l) (hh:(match hi with | none=>some (len:Int) | some v=>idx v)=some h)
    (hm:(match mx with | none=>some (cap:Int) | some v=>idx v)=some c) (hnone:hi=none→mx=none) (h0:0≤l) (h1:l≤h) (h2:h≤c) (h3:c≤cap) (w:World):
    (Instr.sliceBounds isSlice len cap (lo.map (AV.toV m)) (hi.map (AV.toV m)) (mx.map (AV.toV m))).run P w=.ok (l.toNat,h.toNat,c.toNat) w:=by
  simp only[Instr.sliceBounds]
  cases mx with
  | none=>
    simp only[Option.some.injEq] at hm; subst hm
    simp only[Option.map_none,pure_bind]
    cases hi with
    | none=>
      simp only[Option.some.injEq] at hh; subst hh
      simp only[Option.map_none,pure_bind]
      cases lo with
      | none=>simp only[Option.some.injEq] at hl; subst hl; simp only[Option.map_none,pure_bind]; rfl
      | some v=>simp only[Option.map_some]; rw[run_ok_bind (run_sliceBound hl h0 (by omega) w)]; rfl
    | some x=>
      simp only[Option.map_some]
      rw[run_ok_bind (run_sliceBound hh (by omega) (by omega) w)]
      cases lo with
      | none=>simp only[Option.some.injEq] at hl; subst hl; simp only[Option.map_none,pure_bind]; rfl
      | some v=>simp only[Option.map_some]; rw[run_ok_bind (run_sliceBound hl h0 (by omega) w)]; rfl
  | some z=>
    simp only[Option.map_some]
    rw[run_ok_bind (run_sliceBound hm (by omega) h3 w)]
    cases hi with
    | none=>exact absurd (hnone rfl) (by simp)
    | some x=>
      simp only[Option.map_some]
      rw[run_ok_bind (run_sliceBound hh (by omega) (by omega) w)]
      cases lo with
      | none=>simp only[Option.some.injEq] at hl; subst hl; simp only[Option.map_none,pure_bind]; rfl
      | some v=>simp only[Option.map_some]; rw[run_ok_bind (run_sliceBound hl h0 (by omega) w)]; rfl
theorem bnd_spec {env:Env} {d:Nat} {x:Option Operand} {i:Int} (h:bnd env d x=some i):(match x.map (opv env) with | none=>some (d:Int) | some v=>idx v)=some i:=by
  cases x <;> exact h
theorem eval_bnd {m:NM} {N n:Nat} {env:Env} {a:Act} (ha:ERel m N n env a) {d:Nat} {x:Option Operand} {i:Int} (h:bnd env d x=some i):
    x.map a.eval=(x.map (opv env)).map (AV.toV m):=by
  cases x with
  | none=>rfl
  | some y=>simp only[Option.map_some]; rw[(eval_opv ha y (ne_junk_of_idx (by exact h))).1]
theorem slice_of {P:Program} {env:Env} {o:Oper} {t:TypeId} {x:Operand} {lo hi mx:Option Operand} {vx v:AV} {dl dh dm:Nat} {l h c:Int} (ho:o.op=.slice t x lo hi mx)
    (hx:opv env x=vx) (hxj:vx≠ .junk) (hl:bnd env dl lo=some l) (hh:bnd env dh hi=some h) (hm:bnd env dm mx=some c) (hok:∀n,vx.ok n=true→v.ok n=true)
    (hr:∀(m:NM) w,(Instr.sliceAt t (AV.toV m vx) ((lo.map (opv env)).map (AV.toV m)) ((hi.map (opv env)).map (AV.toV m)) ((mx.map (opv env)).map (AV.toV m))).run P w=.ok (AV.toV m v) w):
    PureOk P env o v:=
  pureOk_of fun m N n a ha=>by
    have e1:=eval_opv ha x (by rw[hx]; exact hxj)
    rw[hx] at e1
    refine⟨fun w=>?_,hok n e1.2⟩
    simp only[execOp,ho]
    refine run_value ?_
    rw[e1.1,eval_bnd ha hl,eval_bnd ha hh,eval_bnd ha hm]; exact hr m w
theorem st_extract (s:List (BitVec 8)) (l h:Nat):
    (⟨(s.map UInt8.ofBitVec).toArray⟩:ByteArray).extract l h=⟨(((s.drop l).take (h-l)).map UInt8.ofBitVec).toArray⟩:=by
  apply ByteArray.ext
  simp only[ByteArray.data_extract,List.extract_toArray,List.extract_eq_take_drop,List.map_take,List.map_drop]
theorem slice_sound {P:Program} {env:Env} {o:Oper} {t:TypeId} {x:Operand} {lo hi mx:Option Operand} {K:AV→Prop} (ho:o.op=.slice t x lo hi mx)
    (hnone:hi=none→mx=none)
    (h:sliceK P t (opv env x) (bnd env 0 lo) (fun n=>bnd env n hi) (fun n=>bnd env n mx) mx.isSome K):∃v,K v∧PureOk P env o v:=by
  generalize hx:opv env x=vx at h
  have hnone':hi.map (opv env)=none→mx.map (opv env)=none:=fun e=>by
    cases hi with
    | none=>rw[hnone rfl]; rfl
    | some _=>simp at e
  unfold sliceK at h
  cases vx <;> simp only at h <;> try exact h.elim
  case st s=>
    obtain⟨ht,hf,h⟩:=h
    cases hlo:bnd env 0 lo with
    | none=>rw[hlo] at h; exact h.elim
    | some l=>
      cases hhi:bnd env s.length hi with
      | none=>rw[hlo,hhi] at h; exact h.elim
      | some hh=>
        rw[hlo,hhi] at h
        obtain⟨h0,h1,h2,hK⟩:=h
        have hmx:mx=none:=by cases mx <;> simp_all
        subst hmx
        refine⟨_,hK,slice_of (dm:=s.length) ho hx (by simp) hlo hhi rfl (fun _ _=>rfl) fun m w=>?_⟩
        have hu:=isStrT_spec ht
        have hsz:(⟨(s.map UInt8.ofBitVec).toArray⟩:ByteArray).size=s.length:=by simp[ByteArray.size]
        simp only[Instr.sliceAt]
        rw[run_ok_bind (run_underlying hu w)]
        simp only[Instr.slice,AV.toV]
        rw[run_ok_bind (run_underlying hu w)]
        simp only[Option.map_none,Option.isSome_none,Bool.false_eq_true,if_false,hsz]
        have hb:=run_sliceBounds (P:=P) (m:=m) (isSlice:=false) (len:=s.length) (cap:=s.length) (mx:=none) (bnd_spec hlo) (bnd_spec hhi) rfl (fun _=>rfl) h0 h1 h2 (Int.le_refl _) w
        simp only[Option.map_none] at hb
        rw[run_ok_bind hb]
        simp only[st_extract]
        rfl
  case pt b ob=>
    split at h <;> try exact h.elim
    rename_i n ag e ht
    split at h <;> try exact h.elim
    rename_i l hh c hlo hhi hmx
    obtain⟨h0,h1,h2,h3,hK⟩:=h
    obtain⟨el,hu,hte⟩:=ixT_array ht
    refine⟨_,hK,slice_of ho hx (by simp) hlo hhi hmx (fun n hn=>by simpa [AV.ok] using hn) fun m w=>?_⟩
    simp only[Instr.sliceAt]
    rw[run_ok_bind (run_underlying hu w)]
    simp only[AV.toV,Instr.sureAddr,pure_bind]
    rw[run_ok_bind (run_sliceBounds (m:=m) (bnd_spec hlo) (bnd_spec hhi) (bnd_spec hmx) hnone' h0 h1 h2 h3 w)]
    dsimp only
    rw[run_ok_bind ((tyA_spec hte).2 w),run_pure]
    congr 3
    split <;> rename_i hc
    · rw[if_pos (by omega)]
    · rw[if_neg (by omega),add_addr,Nat.add_assoc]
  case sl b ob n c=>
    split at h <;> try exact h.elim
    rename_i ag e ht
    split at h <;> try exact h.elim
    rename_i l hh c' hlo hhi hmx
    obtain⟨h0,h1,h2,h3,hK⟩:=h
    obtain⟨el,hu,hte⟩:=ixT_slice ht
    refine⟨_,hK,slice_of ho hx (by simp) hlo hhi hmx (fun n hn=>by simpa [AV.ok] using hn) fun m w=>?_⟩
    simp only[Instr.sliceAt]
    rw[run_ok_bind (run_underlying hu w)]
    simp only[AV.toV,Instr.slice]
    rw[run_ok_bind (run_underlying hu w)]
    dsimp only
    rw[run_ok_bind (run_sliceBounds (m:=m) (bnd_spec hlo) (bnd_spec hhi) (bnd_spec hmx) hnone' h0 h1 h2 h3 w)]
    dsimp only
    rw[run_ok_bind ((tyA_spec hte).2 w),run_pure]
    congr 3
    split <;> rename_i hc
    · rw[if_pos (by omega)]
    · rw[if_neg (by omega)]; simp only[Option.map_some,add_addr,Nat.add_assoc]
  case sn=>
    split at h <;> try exact h.elim
    rename_i ag e ht
    split at h <;> try exact h.elim
    rename_i l hh c' hlo hhi hmx
    obtain⟨rfl,rfl,rfl,hK⟩:=h
    obtain⟨el,hu,hte⟩:=ixT_slice ht
    refine⟨_,hK,slice_of ho hx (by simp) hlo hhi hmx (fun _ _=>rfl) fun m w=>?_⟩
    simp only[Instr.sliceAt]
    rw[run_ok_bind (run_underlying hu w)]
    simp only[AV.toV,Instr.slice]
    rw[run_ok_bind (run_underlying hu w)]
    dsimp only
    rw[run_ok_bind (run_sliceBounds (m:=m) (bnd_spec hlo) (bnd_spec hhi) (bnd_spec hmx) hnone' (Int.le_refl _) (Int.le_refl _) (Int.le_refl _) (Int.le_refl _) w)]
    dsimp only
    rw[run_ok_bind ((tyA_spec hte).2 w),run_pure]
    rfl
theorem pure_sound {P:Program} {env:Env} {o:Oper} {K:AV→Prop} (h:pureK P env o.op K):∃v,K v∧PureOk P env o v:=by
  cases ho:o.op <;> rw[ho] at h <;> simp only[pureK] at h <;> try exact h.elim
  case move x=>exact⟨_,h,move_sound (.inl ho)⟩
  case assign x=>exact⟨_,h,move_sound (.inr ho)⟩
  case pick c a b=>
    split at h <;> try exact h.elim
    rename_i t hc
    refine⟨_,?_,pick_sound ho hc⟩
    cases t
    · exact h.2 rfl
    · exact h.1 rfl
  case nilCheck x=>
    split at h <;> try exact h.elim
    · rename_i b off hx
      exact⟨_,h,nilCheck_sound ho hx⟩
    · rename_i t v hx
      exact⟨_,h,nilCheckI_sound ho hx⟩
  case binOp op t x y yt=>
    by_cases hs:isShift op=true
    · rw[if_pos hs] at h; exact binShift_sound ho h
    · rw[if_neg hs] at h
      by_cases hsc:isScalar (opv env x)=true
      · rw[if_pos hsc] at h; exact binScalar_sound ho (by simpa using hs) h
      · rw[if_neg hsc] at h
        by_cases hag:isAg (opv env x)=true
        · rw[if_pos hag] at h; exact binAgg_sound ho h
        · rw[if_neg hag] at h; exact binPlain_sound ho h
  case unOp op t x=>exact un_sound ho h
  case convert s d x=>
    split at h <;> try exact h.elim
    · rename_i k hc; exact conv_sound ho hc h
    · rename_i hc
      split at h <;> try exact h.elim
      rename_i z hx
      exact⟨_,h,convStr_sound ho hc hx⟩
  case makeInterface t x=>exact⟨_,h.2.2,iface_sound ho h.1 h.2.1⟩
  case makeFunc fn first captured=>
    cases fn <;> simp only at h <;> try exact h.elim
    rename_i f
    obtain⟨rfl,hj,hK⟩:=h
    exact⟨_,hK,func_sound ho hj⟩
  case slice t x lo hi mx=>
    refine slice_sound ho ?_ h.2
    intro e; have:=h.1; simp_all
  case fieldAddr s x f=>
    split at h <;> try exact h.elim
    rename_i b ob off ag sz hx hf
    exact⟨_,h,fieldAddr_sound ho hx hf⟩
  case field s x f=>
    split at h <;> try exact h.elim
    · rename_i l off sz hx hf
      exact⟨_,h.2,field_sound (ag:=true) ho hx hf (by simp)⟩
    · rename_i l off sz hx hf
      exact⟨_,h.2,field_sound (ag:=false) ho hx hf (fun _=>h.1)⟩
  case indexAddr t x i=>exact indexAddr_sound ho h
  case index t x i=>exact index_sound ho h
  case extract x i=>
    split at h <;> try exact h.elim
    rename_i l hx
    exact⟨_,h.2,extract_sound ho hx h.1⟩
end Go.Ab
namespace Go.Ab
def splice {α:Type} (l:List α) (off:Nat) (vs:List α):List α:=l.take off++vs++l.drop (off+vs.length)
theorem splice_length {α:Type} {l:List α} {off:Nat} {vs:List α} (h:off+vs.length≤l.length):(splice l off vs).length=l.length:=by
  simp[splice]; omega
theorem splice_get {α:Type} {l:List α} {off:Nat} {vs:List α} (h:off+vs.length≤l.length) (j:Nat):
    (splice l off vs)[j]?=if j<off then l[j]? else if j<off+vs.length then vs[j-off]? else l[j]?:=by
  unfold splice
  by_cases h1:j<off
  · rw[if_pos h1,List.append_assoc,List.getElem?_append_left (by simp; omega),List.getElem?_take,if_pos h1]
  · rw[if_neg h1]
    by_cases h2:j<off+vs.length
    · rw[if_pos h2,List.getElem?_append_left (by simp; omega),List.getElem?_append_right (by simp; omega)]
      congr 1; simp; omega
    · rw[if_neg h2,List.getElem?_append_right (by simp; omega),List.getElem?_drop]
      congr 1; simp; omega
theorem splice_nil {α:Type} (l:List α) (off:Nat):splice l off []=l:=by simp[splice]
theorem splice_cons {α:Type} {l:List α} {off:Nat} {v:α} {vs:List α} (h:off<l.length):splice l off (v :: vs)=splice (l.set off v) (off+1) vs:=by
  unfold splice
  have e1:(l.set off v).take (off+1)=l.take off++[v]:=by
    rw[List.take_set]
    have:l.take (off+1)=l.take off++[l[off]]:=by rw[List.take_add_one,List.getElem?_eq_getElem h]; rfl
    rw[this,List.set_append,if_neg (by simp; omega)]
    simp[Nat.min_eq_left (Nat.le_of_lt h)]
  have e2:(l.set off v).drop (off+1+vs.length)=l.drop (off+1+vs.length):=by
    rw[List.drop_set_of_lt (by omega)]
  rw[e1,e2]
  simp only[List.length_cons,List.append_assoc,List.singleton_append]
  congr 3; omega
theorem splice_map {α β:Type} (f:α→β) (l:List α) (off:Nat) (vs:List α):(splice l off vs).map f=splice (l.map f) off (vs.map f):=by
  simp[splice,List.map_take,List.map_drop]
def vOne:Value→Bool
  | .agg _ | .tuple _=>false
  | _=>true
def setRow (w:World) (b:Nat) (c:Array Value) (e:TypeId) (fz:Nat×Nat):World:={ w with heap:=w.heap.setIfInBounds b (.cells c e fz)}
theorem heap_setRow {w:World} {b:Nat} {c:Array Value} {e:TypeId} {fz:Nat×Nat} (hb:b<w.heap.size) (k:Nat):
    (setRow w b c e fz).heap[k]?=if b=k then some (.cells c e fz) else w.heap[k]?:=by
  simp only[setRow,Array.getElem?_setIfInBounds]
  split
  · rename_i h; subst h; simp[hb]
  · rfl
theorem lt_of_heap {w:World} {b:Nat} {o:Obj} (h:w.heap[b]?=some o):b<w.heap.size:=by
  rcases Nat.lt_or_ge b w.heap.size with h' | h'
  · exact h'
  · rw[Array.getElem?_eq_none h'] at h; simp at h
theorem setCell_setRow {w:World} {b off:Nat} {c:Array Value} {e:TypeId} {fz:Nat×Nat} (h:w.heap[b]?=some (.cells c e fz)) (v:Value):
    w.setCell ⟨b,off,none⟩ v=setRow w b (c.setIfInBounds off v) e fz:=by
  have hb:=lt_of_heap h
  unfold World.setCell setRow
  congr 1
  apply Array.ext_getElem?
  intro k
  simp only[Array.getElem?_modify,Array.getElem?_setIfInBounds]
  split
  · rename_i hk; subst hk; rw[h]; simp[hb]
  · rfl
theorem run_store {P:Program} {w:World} {b off:Nat} {c:Array Value} {e:TypeId} {fz:Nat×Nat} {v:Value} (h:w.heap[b]?=some (.cells c e fz)) (ho:off<c.size)
    (hf:freeAt fz off) (hv:vOne v=true):(store ⟨b,off,none⟩ v).run P w=.ok () (setRow w b (c.setIfInBounds off v) e fz):=by
  have hc:w.cell? ⟨b,off,none⟩=some c[off]:=by simp[World.cell?,h,ho]
  have hfr:w.frozen? ⟨b,off,none⟩=false:=by
    simp only[World.frozen?,h]
    unfold freeAt at hf
    simp only[Bool.and_eq_false_iff,decide_eq_false_iff_not]
    omega
  unfold store
  cases v <;> first | (simp[vOne] at hv; done) | skip
  all_goals
    simp only[Sem.run,hc,hfr,Bool.false_eq_true,if_false]
    rw[setCell_setRow h]
theorem setRow_setRow {w:World} {b:Nat} {c c':Array Value} {e:TypeId} {fz:Nat×Nat}:setRow (setRow w b c e fz) b c' e fz=setRow w b c' e fz:=by
  simp[setRow]
theorem run_storeCells {P:Program} {b off:Nat} {e:TypeId} {fz:Nat×Nat}:∀(vs:List Value) (i:Nat) (w:World) (c:Array Value),w.heap[b]?=some (.cells c e fz)→
    off+i+vs.length≤c.size→(∀k,k<c.size→freeAt fz k)→(∀v∈vs,vOne v=true)→
    (storeCells ⟨b,off,none⟩ vs i).run P w=.ok () (setRow w b (splice c.toList (off+i) vs).toArray e fz)
  | [],i,w,c,h,_,_,_=>by
    simp only[storeCells,splice_nil,run_pure]
    have hb:=lt_of_heap h
    have:setRow w b c.toList.toArray e fz=w:=by
      unfold setRow
      have:w.heap.setIfInBounds b (.cells c.toList.toArray e fz)=w.heap:=by
        apply Array.ext_getElem?
        intro k
        rw[Array.getElem?_setIfInBounds]
        split
        · rename_i hk; subst hk; rw[h]
        · rfl
      rw[this]
    rw[this]
  | v :: r,i,w,c,h,hl,hf,hv=>by
    simp only[List.length_cons] at hl
    simp only[storeCells,add_addr]
    rw[run_ok_bind (run_store h (by omega) (hf _ (by omega)) (hv v (by simp)))]
    have hb:=lt_of_heap h
    have h':(setRow w b (c.setIfInBounds (off+i) v) e fz).heap[b]?=some (.cells (c.setIfInBounds (off+i) v) e fz):=by rw[heap_setRow hb,if_pos rfl]
    rw[run_storeCells r (i+1) _ _ h' (by simp; omega) (fun k hk=>hf k (by simpa using hk)) (fun x hx=>hv x (by simp[hx])),setRow_setRow]
    congr 2
    rw[splice_cons (by simp; omega)]
    simp only[Array.toList_setIfInBounds,Nat.add_assoc]
theorem run_load {P:Program} {w:World} {b off:Nat} {c:Array Value} {e:TypeId} {fz:Nat×Nat} {v:Value} (h:w.heap[b]?=some (.cells c e fz)) (hv:c[off]?=some v):
    (load ⟨b,off,none⟩).run P w=.ok v w:=by
  have hc:w.cell? ⟨b,off,none⟩=some v:=by simp[World.cell?,h,hv]
  simp only[load,Sem.run,hc]
theorem run_loadCells {P:Program} {w:World} {b off:Nat} {c:Array Value} {e:TypeId} {fz:Nat×Nat} (h:w.heap[b]?=some (.cells c e fz)):∀(n i:Nat) (acc:Array Value) (vs:List Value),
    vs.length=n→(∀(k:Nat) (v:Value),vs[k]?=some v→c[off+i+k]?=some v)→(loadCellsFrom ⟨b,off,none⟩ i n acc).run P w=.ok (acc++vs.toArray) w
  | 0,i,acc,vs,hl,_=>by
    have:vs=[]:=List.length_eq_zero_iff.1 hl
    subst this; simp[loadCellsFrom,run_pure]
  | n+1,i,acc,vs,hl,hk=>by
    cases vs with
    | nil=>simp at hl
    | cons v r=>
      simp only[loadCellsFrom,add_addr]
      rw[run_ok_bind (run_load h (by simpa using hk 0 v rfl)),run_loadCells h n (i+1) _ r (by simpa using hl) (fun k x hx=>by
        have:=hk (k+1) x (by simpa using hx)
        rw[show off+(i+1)+k=off+i+(k+1) from by omega]; exact this)]
      simp
end Go.Ab
namespace Go.Ab
def NM.new (m:NM) (n:Nat) (id size:Nat):NM:=⟨fun i=>if i=n then id else m.ρ i,fun i=>if i=n then size else m.κ i,fun i=>if i=n then 0 else m.β i⟩
theorem NM.new_agree (m:NM) (n id size:Nat):NM.agree n m (m.new n id size):=fun i hi=>by
  simp only[NM.new]; rw[if_neg (by omega),if_neg (by omega),if_neg (by omega)]; exact⟨rfl,rfl,rfl⟩
theorem HRel.alloc {m:NM} {H:Heap} {n:Nat} {w:World} (h:HRel m H n w) {c:Array Value} {fz:Nat×Nat} {blk:Blk} (hf:∀k,k<c.size→freeAt fz k)
    (hc:∀(j:Nat) (v:AV),blk.cells[j]?=some v→c[j]?=some (AV.toV m v)) (hok:∀v∈blk.cells,v.ok n=true∧v.one=true):
    HRel (m.new n w.heap.size c.size) (H.upd n (some blk)) (n+1) { w with heap:=w.heap.push (.cells c blk.elem fz)}∧
      Fr m H w (m.new n w.heap.size c.size) (H.upd n (some blk)) { w with heap:=w.heap.push (.cells c blk.elem fz)}:=by
  have hag:=NM.new_agree m n w.heap.size c.size
  have hlt:∀i b,H i=some b→i<n∧m.ρ i<w.heap.size:=fun i b hi=>by
    obtain⟨c',fz',hc',_⟩:=h.blk i b hi
    exact⟨h.dom i b hi,lt_of_heap hc'⟩
  have hold:∀i b,(H.upd n (some blk)) i=some b→i≠n→H i=some b:=fun i b hi hne=>by rwa [Heap.upd_ne _ _ hne] at hi
  refine⟨⟨?_,?_,?_,?_⟩,⟨rfl,rfl,rfl,by simp,?_,?_⟩⟩
  · intro i b hi
    by_cases hn:i=n
    · omega
    · have:=(hlt i b (hold i b hi hn)).1; omega
  · intro i b hi
    by_cases hn:i=n
    · subst hn
      rw[Heap.upd_same] at hi
      simp only[Option.some.injEq] at hi; subst hi
      refine⟨c,fz,?_,?_,fun _=>⟨by simp[NM.new],hf⟩,?_⟩
      · simp[NM.new]
      · simp[NM.new]
      · intro j v hj; rw[show(m.new i w.heap.size c.size).β i+j=j by simp[NM.new],hc j v hj,AV.toV_agree hag v (hok v (List.mem_of_getElem? hj)).1]
    · have hi':=hold i b hi hn
      obtain⟨c',fz',hc',hk',hf',hv'⟩:=h.blk i b hi'
      have hl:=hlt i b hi'
      refine⟨c',fz',?_,?_,fun h0=>⟨by simp only[NM.new,if_neg hn]; exact(hf' h0).1,(hf' h0).2⟩,?_⟩
      · simp only[NM.new,if_neg hn]
        rw[Array.getElem?_push,if_neg (by omega)]; exact hc'
      · simp only[NM.new,if_neg hn]; exact hk'
      · intro j v hj; rw[show(m.new n w.heap.size c.size).β i=m.β i by simp only[NM.new,if_neg hn],hv' j v hj,AV.toV_agree hag v (h.ok i b hi' v (List.mem_of_getElem? hj)).1]
  · intro i j bi bj hi hj hne hro
    by_cases hni:i=n
    · subst hni
      have hj':=hold j bj hj (fun e=>hne e.symm)
      have:=(hlt j bj hj').2
      simp only[NM.new,if_true]; rw[if_neg (fun e=>hne e.symm)]; omega
    · have hi':=hold i bi hi hni
      have h1:=(hlt i bi hi').2
      by_cases hnj:j=n
      · subst hnj; simp only[NM.new,if_true]; rw[if_neg hni]; omega
      · simp only[NM.new]; rw[if_neg hni,if_neg hnj]; exact h.inj i j bi bj hi' (hold j bj hj hnj) hne hro
  · intro i b hi v hv
    by_cases hn:i=n
    · subst hn
      rw[Heap.upd_same] at hi
      simp only[Option.some.injEq] at hi; subst hi
      exact⟨AV.ok_mono (by omega) v (hok v hv).1,(hok v hv).2⟩
    · have:=h.ok i b (hold i b hi hn) v hv
      exact⟨AV.ok_mono (by omega) v this.1,this.2⟩
  · intro k hk _
    show(w.heap.push _)[k]?=_
    rw[Array.getElem?_push,if_neg (by omega)]
  · intro i b hi
    by_cases hn:i=n
    · subst hn; right; simp[NM.new]
    · left; exact⟨i,b,hold i b hi hn,id,by simp[NM.new,hn]⟩
theorem HRel.write {m:NM} {H:Heap} {n:Nat} {w:World} (h:HRel m H n w) {b:Nat} {blk:Blk} {c c':Array Value} {fz:Nat×Nat} {cells:List AV} (hb:H b=some blk) (hro:blk.ro=false)
    (hc:w.heap[m.ρ b]?=some (.cells c blk.elem fz)) (hk:m.β b+m.κ b=c.size) (hβ:m.β b=0) (hf:∀k,k<c.size→freeAt fz k) (hsz:c'.size=c.size)
    (hv:∀(j:Nat) (v:AV),cells[j]?=some v→c'[j]?=some (AV.toV m v)) (hok:∀v∈cells,v.ok n=true∧v.one=true):
    HRel m (H.upd b (some { blk with cells:=cells})) n (setRow w (m.ρ b) c' blk.elem fz)∧
      Fr m H w m (H.upd b (some { blk with cells:=cells})) (setRow w (m.ρ b) c' blk.elem fz):=by
  have hlt:=lt_of_heap hc
  have hold:∀i x,(H.upd b (some { blk with cells:=cells})) i=some x→i≠b→H i=some x:=fun i x hi hne=>by rwa [Heap.upd_ne _ _ hne] at hi
  refine⟨⟨?_,?_,?_,?_⟩,⟨rfl,rfl,rfl,by simp[setRow],?_,?_⟩⟩
  · intro i x hi
    by_cases hn:i=b
    · subst hn; exact h.dom i blk hb
    · exact h.dom i x (hold i x hi hn)
  · intro i x hi
    by_cases hn:i=b
    · subst hn
      rw[Heap.upd_same] at hi
      simp only[Option.some.injEq] at hi; subst hi
      exact⟨c',fz,by rw[heap_setRow hlt,if_pos rfl],by rw[hk,hsz],fun _=>⟨hβ,fun k hk'=>hf k (by omega)⟩,fun j v hj=>by rw[hβ,Nat.zero_add]; exact hv j v hj⟩
    · have hi':=hold i x hi hn
      obtain⟨ci,fi,hci,hki,hfi,hvi⟩:=h.blk i x hi'
      refine⟨ci,fi,?_,hki,hfi,hvi⟩
      rw[heap_setRow hlt,if_neg (fun e=>h.inj b i blk x hb hi' (fun e'=>hn e'.symm) hro e)]
      exact hci
  · intro i j bi bj hi hj hne hr
    have e:∀k x,(H.upd b (some { blk with cells:=cells})) k=some x→∃y,H k=some y∧y.ro=x.ro:=fun k x hx=>by
      by_cases hn:k=b
      · subst hn
        rw[Heap.upd_same] at hx
        simp only[Option.some.injEq] at hx; subst hx
        exact⟨blk,hb,rfl⟩
      · exact⟨x,hold k x hx hn,rfl⟩
    obtain⟨yi,hyi,hri⟩:=e i bi hi
    obtain⟨yj,hyj,_⟩:=e j bj hj
    exact h.inj i j yi yj hyi hyj hne (by rw[hri]; exact hr)
  · intro i x hi v hv'
    by_cases hn:i=b
    · subst hn
      rw[Heap.upd_same] at hi
      simp only[Option.some.injEq] at hi; subst hi
      exact hok v hv'
    · exact h.ok i x (hold i x hi hn) v hv'
  · intro k hk' hne
    rw[heap_setRow hlt,if_neg (hne b blk hb hro)]
  · intro i x hi
    by_cases hn:i=b
    · subst hn; exact .inl ⟨i,blk,hb,fun _=>hro,rfl⟩
    · exact .inl ⟨i,x,hold i x hi hn,id,rfl⟩
def cellsOf:AV→List AV
  | .ag l=>l
  | v=>[v]
theorem cellsOf_toV (m:NM) (v:AV) (h:v≠ .junk) (ht:∀l,v≠ .tu l):(AV.toV m v).cells.toList=(cellsOf v).map (AV.toV m):=by
  cases v <;> first | exact absurd rfl h | exact absurd rfl (ht _) | rfl | simp[AV.toV,Value.cells,cellsOf,AV.toVs_eq]
theorem vOne_toV (m:NM) {v:AV} (h:v.one=true):vOne (AV.toV m v)=true:=by
  cases v <;> first | rfl | simp[AV.one] at h
theorem cellsOf_ok {v:AV} {n:Nat} (h:v.ok n=true) (hj:v≠ .junk) (ht:∀l,v≠ .tu l):∀x∈cellsOf v,x.ok n=true∧x.one=true:=by
  cases v <;> first | exact absurd rfl hj | exact absurd rfl (ht _) | skip
  case ag l=>
    intro x hx
    simp only[AV.ok,Bool.and_eq_true,AV.oks_eq,List.all_eq_true] at h
    exact⟨h.1 x hx,h.2 x hx⟩
  all_goals
    intro x hx
    simp only[cellsOf,List.mem_singleton] at hx
    subst hx
    exact⟨h,rfl⟩
end Go.Ab
namespace Go.Ab
def OpRes (m:NM) (H:Heap) (n:Nat) (w:World) (v:AV) (H':Heap) (n':Nat) (r:Result Next):Prop:=
  ∃ (m':NM) (w':World),HRel m' H' n' w'∧n≤n'∧NM.agree n m m'∧Fr m H w m' H' w'∧
    ((∃x,r=.ok (.value x) w'∧(v≠ .junk→x=AV.toV m' v∧v.ok n'=true))∨(r=.ok .skip w'∧v=.junk))
theorem OpRes.same {m:NM} {H:Heap} {n:Nat} {w:World} {v:AV} {x:Value} (h:HRel m H n w) (hx:v≠ .junk→x=AV.toV m v∧v.ok n=true):
    OpRes m H n w v H n (.ok (.value x) w):=
  ⟨m,w,h,Nat.le_refl _,NM.agree.refl _ _,Fr.refl _ _ _,.inl ⟨x,rfl,hx⟩⟩
def zeroT (P:Program) (t:TypeId):Option (List AV):=
  match P.info? t with
  | some i=>match i.zero with
    | some z=>if(z.cells.toList.map ofV).all AV.one then some (z.cells.toList.map ofV) else none
    | none=>none
  | none=>none
theorem zeroT_spec {P:Program} {t:TypeId} {l:List AV} (h:zeroT P t=some l):
    ∃z,(∀w,(zeroValue t).run P w=.ok z w)∧(∀m:NM,z.cells.toList=l.map (AV.toV m))∧∀v∈l,(∀n,v.ok n=true)∧v.one=true:=by
  unfold zeroT at h
  split at h <;> try (simp at h; done)
  rename_i i hi
  split at h <;> try (simp at h; done)
  rename_i z hz
  split at h <;> try (simp at h; done)
  rename_i hall
  simp only[Option.some.injEq] at h; subst h
  rw[List.all_map,List.all_eq_true] at hall
  refine⟨z,fun w=>?_,fun m=>?_,fun v hv=>?_⟩
  · simp only[zeroValue]
    rw[run_ok_bind (run_typeInfo hi w)]
    simp only[hz]; rfl
  · rw[List.map_map]
    have:∀x∈z.cells.toList,(AV.toV m∘ofV) x=x:=fun x hx=>toV_ofV m x (ne_junk_of_ok (hall x hx))
    rw[List.map_congr_left this]; simp
  · obtain⟨x,hx,rfl⟩:=List.mem_map.1 hv
    exact⟨fun n=>ofV_ok n x,hall x hx⟩
def loadK (P:Program) (H:Heap) (t:TypeId) (a:AV) (K:AV→Prop):Prop:=
  match a with
  | .pt b off=>match H b with
    | some blk=>match tyA P t with
      | some (false,_)=>off<blk.cells.length∧K (blk.cells.getD off .junk)
      | some (true,sz)=>off+sz≤blk.cells.length∧K (.ag ((blk.cells.drop off).take sz))
      | none=>False
    | none=>False
  | _=>False
theorem HRel.row {m:NM} {H:Heap} {n:Nat} {w:World} (h:HRel m H n w) {b:Nat} {blk:Blk} (hb:H b=some blk):
    ∃ (c:Array Value) (fz:Nat×Nat),w.heap[m.ρ b]?=some (.cells c blk.elem fz)∧m.β b+m.κ b=c.size∧blk.cells.length≤m.κ b∧(blk.ro=false→m.β b=0∧∀k,k<c.size→freeAt fz k)∧
      ∀(j:Nat) (v:AV),blk.cells[j]?=some v→c[m.β b+j]?=some (AV.toV m v):=by
  obtain⟨c,fz,hc,hk,hf,hv⟩:=h.blk b blk hb
  refine⟨c,fz,hc,hk,?_,hf,hv⟩
  rcases Nat.lt_or_ge (m.κ b) blk.cells.length with hlt | hge
  · have:=hv (m.κ b) _ (List.getElem?_eq_getElem hlt)
    rw[hk] at this
    simp at this
  · exact hge
theorem HRel.rowW {m:NM} {H:Heap} {n:Nat} {w:World} (h:HRel m H n w) {b:Nat} {blk:Blk} (hb:H b=some blk) (hro:blk.ro=false):
    m.β b=0∧∃(c:Array Value) (fz:Nat×Nat),w.heap[m.ρ b]?=some (.cells c blk.elem fz)∧m.κ b=c.size∧blk.cells.length≤c.size∧(∀k,k<c.size→freeAt fz k)∧
      ∀(j:Nat) (v:AV),blk.cells[j]?=some v→c[j]?=some (AV.toV m v):=by
  obtain⟨c,fz,hc,hk,hl,hf,hv⟩:=h.row hb
  obtain⟨hβ,hf⟩:=hf hro
  rw[hβ,Nat.zero_add] at hk
  exact⟨hβ,c,fz,hc,hk,by omega,hf,fun j v hj=>by have:=hv j v hj; rwa [hβ,Nat.zero_add] at this⟩
theorem HRel.load_one {P:Program} {m:NM} {H:Heap} {n:Nat} {w:World} (h:HRel m H n w) {b off:Nat} {blk:Blk} (hb:H b=some blk) (ho:off<blk.cells.length):
    (Go.load ⟨m.ρ b,m.β b+off,none⟩).run P w=.ok (AV.toV m (blk.cells.getD off .junk)) w∧(blk.cells.getD off .junk).ok n=true∧(blk.cells.getD off .junk).one=true:=by
  obtain⟨c,fz,hc,_,_,_,hv⟩:=h.row hb
  have e:blk.cells[off]?=some (blk.cells.getD off .junk):=by rw[List.getD_eq_getElem?_getD,List.getElem?_eq_getElem ho]; rfl
  exact⟨run_load hc (hv off _ e),h.ok b blk hb _ (List.mem_of_getElem? e)⟩
theorem HRel.load_many {P:Program} {m:NM} {H:Heap} {n:Nat} {w:World} (h:HRel m H n w) {b off sz:Nat} {blk:Blk} (hb:H b=some blk) (ho:off+sz≤blk.cells.length):
    (loadCells ⟨m.ρ b,m.β b+off,none⟩ sz).run P w=.ok (((blk.cells.drop off).take sz).map (AV.toV m)).toArray w∧∀v∈(blk.cells.drop off).take sz,v.ok n=true∧v.one=true:=by
  obtain⟨c,fz,hc,_,_,_,hv⟩:=h.row hb
  refine⟨?_,fun v hm=>h.ok b blk hb v (List.mem_of_mem_drop (List.mem_of_mem_take hm))⟩
  simp only[loadCells]
  rw[run_loadCells hc sz 0 #[] (((blk.cells.drop off).take sz).map (AV.toV m)) (by simp; omega) (fun k x hx=>?_)]
  · simp
  · rw[List.getElem?_map,List.getElem?_take] at hx
    split at hx
    · rw[List.getElem?_drop] at hx
      cases hk:blk.cells[off+k]? with
      | none=>rw[hk] at hx; simp at hx
      | some y=>
        rw[hk] at hx
        simp only[Option.map_some,Option.some.injEq] at hx
        rw[← hx,Nat.add_zero,Nat.add_assoc]; exact hv _ y hk
    · simp at hx
theorem load_sound {P:Program} {env:Env} {H:Heap} {o:Oper} {t:TypeId} {a:Operand} {K:AV→Prop} (ho:o.op=.load t a) (h:loadK P H t (opv env a) K):
    ∃v,K v∧∀(m:NM) (N n:Nat) (ac:Act) (w:World),HRel m H n w→ERel m N n env ac→(execOp ac.eval o).run P w=.ok (.value (AV.toV m v)) w∧v.ok n=true:=by
  generalize hx:opv env a=va at h
  unfold loadK at h
  split at h <;> try exact h.elim
  rename_i b off
  split at h <;> try exact h.elim
  rename_i blk hb
  split at h <;> try exact h.elim
  · rename_i sz ht
    refine⟨_,h.2,fun m N n ac w hH hE=>?_⟩
    obtain⟨h1,h2,_⟩:=hH.load_one (P:=P) hb h.1
    refine⟨?_,h2⟩
    have e:=(eval_opv hE a (by rw[hx]; simp)).1
    rw[hx] at e
    simp only[execOp,ho]
    refine run_value ?_
    simp only[Instr.loadAt,e,AV.toV,Instr.sureAddr,pure_bind,loadVar]
    rw[run_ok_bind ((tyA_spec ht).1 w)]
    simp only[Bool.false_eq_true,if_false]
    exact h1
  · rename_i sz ht
    refine⟨_,h.2,fun m N n ac w hH hE=>?_⟩
    obtain⟨h1,h2⟩:=hH.load_many (P:=P) hb h.1
    refine⟨?_,?_⟩
    · have e:=(eval_opv hE a (by rw[hx]; simp)).1
      rw[hx] at e
      simp only[execOp,ho]
      refine run_value ?_
      simp only[Instr.loadAt,e,AV.toV,Instr.sureAddr,pure_bind,loadVar]
      rw[run_ok_bind ((tyA_spec ht).1 w)]
      simp only[if_true]
      rw[run_ok_bind ((tyA_spec ht).2 w),run_ok_bind h1]
      simp only[AV.toVs_eq]; rfl
    · simp only[AV.ok,AV.oks_eq,Bool.and_eq_true,List.all_eq_true]
      exact⟨fun v hv=>(h2 v hv).1,fun v hv=>(h2 v hv).2⟩
def putCells (l:List AV) (off:Nat) (v:AV):List AV:=
  match v with
  | .ag cs=>splice l off cs
  | v=>l.set off v
theorem putCells_eq (l:List AV) (off:Nat) (v:AV) (h:off+(cellsOf v).length≤l.length):putCells l off v=splice l off (cellsOf v):=by
  have one:∀v:AV,off+1≤l.length→l.set off v=splice l off [v]:=fun v h=>by rw[splice_cons (by omega),splice_nil]
  cases v <;> simp only[putCells,cellsOf] at* <;> first | rfl | exact one _ (by simpa using h)
def storeK (P:Program) (H:Heap) (t:TypeId) (a v:AV) (K:Heap→Prop):Prop:=
  match a with
  | .pt b off=>match H b with
    | some blk=>match tyA P t with
      | some (_,sz)=>blk.ro=false∧(match v with | .junk=>False | .tu _=>False | _=>True)∧(cellsOf v).length=sz∧off+sz≤blk.cells.length∧
          K (H.upd b (some { blk with cells:=putCells blk.cells off v}))
      | none=>False
    | none=>False
  | _=>False
theorem HRel.store {P:Program} {m:NM} {H:Heap} {n:Nat} {w:World} (h:HRel m H n w) {b off:Nat} {blk:Blk} (hb:H b=some blk) (hro:blk.ro=false) {vs:List AV}
    (ho:off+vs.length≤blk.cells.length) (hok:∀v∈vs,v.ok n=true∧v.one=true):
    ∃ w',(storeCells ⟨m.ρ b,m.β b+off,none⟩ (vs.map (AV.toV m))).run P w=.ok () w'∧HRel m (H.upd b (some { blk with cells:=splice blk.cells off vs})) n w'∧
      Fr m H w m (H.upd b (some { blk with cells:=splice blk.cells off vs})) w':=by
  obtain⟨hβ,c,fz,hc,hk,hl,hf,hv⟩:=h.rowW hb hro
  rw[hβ,Nat.zero_add]
  have hrun:=run_storeCells (P:=P) (off:=off) (vs.map (AV.toV m)) 0 w c hc (by simp; omega) hf (fun x hx=>by
    obtain⟨y,hy,rfl⟩:=List.mem_map.1 hx
    exact vOne_toV m (hok y hy).2)
  refine⟨_,hrun,?_⟩
  simp only[Nat.add_zero]
  refine h.write hb hro hc (by rw[hβ,Nat.zero_add]; exact hk) hβ hf (by simp; rw[splice_length (by simp; omega)]; simp) (fun j v hj=>?_) (fun v hm=>?_)
  · rw[splice_get ho] at hj
    rw[List.getElem?_toArray,splice_get (by simp; omega)]
    simp only[List.length_map]
    split at hj
    · rename_i h1; rw[if_pos h1,Array.getElem?_toList]; exact hv j v hj
    · rename_i h1; rw[if_neg h1]
      split at hj
      · rename_i h2; rw[if_pos h2,List.getElem?_map,hj]; rfl
      · rename_i h2; rw[if_neg h2,Array.getElem?_toList]; exact hv j v hj
  · unfold splice at hm
    rcases List.mem_append.1 hm with hm | hm
    · rcases List.mem_append.1 hm with hm | hm
      · exact h.ok b blk hb v (List.mem_of_mem_take hm)
      · exact hok v hm
    · exact h.ok b blk hb v (List.mem_of_mem_drop hm)
theorem store_sound {P:Program} {env:Env} {H:Heap} {o:Oper} {t:TypeId} {a x:Operand} {K:Heap→Prop} (ho:o.op=.store t a x) (h:storeK P H t (opv env a) (opv env x) K):
    ∃H',K H'∧∀(m:NM) (N n:Nat) (ac:Act) (w:World),HRel m H n w→ERel m N n env ac→OpRes m H n w .junk H' n ((execOp ac.eval o).run P w):=by
  generalize ha:opv env a=va at h
  generalize hx:opv env x=vx at h
  unfold storeK at h
  split at h <;> try exact h.elim
  rename_i b off
  split at h <;> try exact h.elim
  rename_i blk hb
  split at h <;> try exact h.elim
  rename_i ag sz ht
  obtain⟨hro,hj,hlen,hfit,hK⟩:=h
  have hvj:vx≠ .junk:=by rintro rfl; exact hj
  have hvt:∀l,vx≠ .tu l:=by rintro l rfl; exact hj
  refine⟨_,hK,fun m N n ac w hH hE=>?_⟩
  have ea:=(eval_opv hE a (by rw[ha]; simp)).1
  have ex:=eval_opv hE x (by rw[hx]; exact hvj)
  rw[ha] at ea; rw[hx] at ex
  rw[putCells_eq _ _ _ (by omega)]
  obtain⟨w',hrun,hH',hF⟩:=hH.store (P:=P) (off:=off) hb hro (vs:=cellsOf vx) (by omega) (cellsOf_ok ex.2 hvj hvt)
  refine⟨m,w',hH',Nat.le_refl _,NM.agree.refl _ _,hF,.inr ⟨?_,rfl⟩⟩
  have hcl:=cellsOf_toV m vx hvj hvt
  have hsz:(AV.toV m vx).cells.size=sz:=by rw[← Array.length_toList,hcl]; simpa using hlen
  simp only[execOp,ho]
  rw[run_bind]
  simp only[Instr.storeAt,ea,AV.toV,Instr.sureAddr,pure_bind,storeVar,ex.1]
  rw[run_ok_bind ((tyA_spec ht).2 w)]
  rw[if_neg (by rw[hsz]; simp),hcl,hrun]
  rfl
end Go.Ab
namespace Go.Ab
theorem newRow_res {P:Program} {m:NM} {H:Heap} {n:Nat} {w:World} (h:HRel m H n w) {t:TypeId} {cells:List AV} {c:Array Value} (hc:c.toList=cells.map (AV.toV m)) (hok:∀v∈cells,v.ok n=true∧v.one=true):
    ∃m' w',(newRow t c).run P w=.ok ⟨m'.ρ n,m'.β n+0,none⟩ w'∧HRel m' (H.upd n (some ⟨cells,t,false⟩)) (n+1) w'∧NM.agree n m m'∧Fr m H w m' (H.upd n (some ⟨cells,t,false⟩)) w'∧m'.κ n=c.size:=by
  have hA:=h.alloc (c:=c) (fz:=(0,0)) (blk:=⟨cells,t,false⟩) (fun k _=>by unfold freeAt; omega) (fun j v hj=>by
    rw[← Array.getElem?_toList,hc,List.getElem?_map]
    simp only at hj
    rw[hj]; rfl) hok
  refine⟨_,_,?_,hA.1,NM.new_agree _ _ _ _,hA.2,by simp[NM.new]⟩
  simp[newRow,newObj,NM.new,Sem.run,bind,Sem.bind,pure]
def plT (P:Program) (t:TypeId) (i:Nat):Option (Nat×Nat):=
  match P.underlying t with
  | some (.struct fs)=>match fs[i]? with
    | some f=>match P.info? f.type with
      | some ti=>some (f.offset,ti.size)
      | none=>none
    | none=>none
  | some (.array _ e)=>match P.info? e with
    | some ti=>some (i*ti.size,ti.size)
    | none=>none
  | _=>none
def bldT (P:Program) (t:TypeId):Bool:=
  match P.underlying t with
  | some (.struct fs)=>fs.toList.all fun f=>(P.info? f.type).isSome
  | some (.array _ e)=>(P.info? e).isSome
  | _=>false
def partOk:AV→Bool
  | .junk=>false
  | .tu _=>false
  | _=>true
def fillK (pl:Nat→Option (Nat×Nat)) (K:List AV→Prop):List (Nat×AV)→List AV→Prop
  | [],l=>K l
  | (i,v) :: r,l=>match pl i with
    | some (off,sz)=>partOk v=true∧(cellsOf v).length=sz∧off+sz≤l.length∧fillK pl K r (putCells l off v)
    | none=>False
theorem fold_set (vs:List Value):∀(cs:Array Value) (off i:Nat),off+i+vs.length≤cs.size→
    ((vs.zipIdx i).foldl (fun cs (x:Value×Nat)=>cs.setIfInBounds (off+x.2) x.1) cs)=(splice cs.toList (off+i) vs).toArray:=by
  induction vs with
  | nil=>intro cs off i h; simp[splice_nil]
  | cons v r ih=>
    intro cs off i h
    simp only[List.length_cons] at h
    simp only[List.zipIdx_cons,List.foldl_cons]
    rw[ih _ off (i+1) (by simp; omega),splice_cons (by simp; omega)]
    simp[Nat.add_assoc]
theorem fill_sound {m:NM} {n:Nat} {pl:Nat→Option (Nat×Nat)} {K:List AV→Prop}:∀(ps:List (Nat×AV)) (l:List AV),fillK pl K ps l→(∀p∈ps,p.2.ok n=true)→(∀v∈l,v.ok n=true∧v.one=true)→
    ∃ l',K l'∧l'.length=l.length∧(∀v∈l',v.ok n=true∧v.one=true)∧
      ∀(m:NM),Instr.fill pl (l.map (AV.toV m)).toArray (ps.map fun p=>(p.1,AV.toV m p.2))=some (l'.map (AV.toV m)).toArray
  | [],l,h,_,hl=>⟨l,h,rfl,hl,fun _=>rfl⟩
  | (i,v) :: r,l,h,hp,hl=>by
    unfold fillK at h
    split at h <;> try exact h.elim
    rename_i off sz hpl
    obtain⟨hpo,hlen,hfit,h⟩:=h
    have hj:v≠ .junk:=by rintro rfl; simp[partOk] at hpo
    have ht:∀l,v≠ .tu l:=by rintro l rfl; simp[partOk] at hpo
    have hv:=hp (i,v) (by simp)
    have hcok:=cellsOf_ok hv hj ht
    rw[putCells_eq _ _ _ (by omega)] at h
    obtain⟨l',hK,hl',hok',hrun⟩:=fill_sound (n:=n) (m:=m) r _ h (fun p hp'=>hp p (by simp[hp'])) (fun x hx=>by
      unfold splice at hx
      rcases List.mem_append.1 hx with hx | hx
      · rcases List.mem_append.1 hx with hx | hx
        · exact hl x (List.mem_of_mem_take hx)
        · exact hcok x hx
      · exact hl x (List.mem_of_mem_drop hx))
    refine⟨l',hK,by rw[hl',splice_length (by omega)],hok',fun m=>?_⟩
    have hcells:=cellsOf_toV m v hj ht
    have hsz:(AV.toV m v).cells.size=sz:=by rw[← Array.length_toList,hcells]; simpa using hlen
    simp only[List.map_cons,Instr.fill,hpl,hsz]
    rw[if_neg (by simp; omega)]
    rw[← hrun m]
    congr 1
    have:=fold_set (AV.toV m v).cells.toList (l.map (AV.toV m)).toArray off 0 (by rw[hcells]; simp; omega)
    rw[← Array.foldl_toList]
    simp only[Array.toList_zipIdx]
    rw[this,hcells,splice_map]
    rfl
def buildK (P:Program) (t:TypeId) (parts:List (Nat×AV)) (K:AV→Prop):Prop:=
  bldT P t=true∧match zeroT P t with
  | some z=>fillK (plT P t) (fun l=>K (.ag l)) parts z
  | none=>False
theorem ok_parts {m:NM} {N n:Nat} {env:Env} {a:Act} (hE:ERel m N n env a) (parts:List (Nat×Operand)) (hj:∀p∈parts,opv env p.2≠ .junk):
    (parts.map fun p=>(p.1,a.eval p.2))=((parts.map fun p=>(p.1,opv env p.2)).map fun p=>(p.1,AV.toV m p.2))∧∀p∈(parts.map fun p=>(p.1,opv env p.2)),p.2.ok n=true:=by
  constructor
  · rw[List.map_map]
    exact List.map_congr_left fun p hp=>by simp only[Function.comp]; rw[(eval_opv hE p.2 (hj p hp)).1]
  · intro p hp
    obtain⟨q,hq,rfl⟩:=List.mem_map.1 hp
    exact(eval_opv hE q.2 (hj q hq)).2
theorem fillK_junk {pl:Nat→Option (Nat×Nat)} {K:List AV→Prop}:∀(ps:List (Nat×AV)) (l:List AV),fillK pl K ps l→∀p∈ps,p.2≠ .junk
  | [],_,_,p,hp=>by simp at hp
  | (i,v) :: r,l,h,p,hp=>by
    unfold fillK at h
    split at h <;> try exact h.elim
    obtain⟨hpo,_,_,h⟩:=h
    rcases List.mem_cons.1 hp with rfl | hp
    · rintro e; simp only at e; rw[e] at hpo; simp[partOk] at hpo
    · exact fillK_junk r _ h p hp
theorem fillK_det {pl:Nat→Option (Nat×Nat)} {K:List AV→Prop}:∀(ps:List (Nat×AV)) (l:List AV),fillK pl K ps l→∃l',K l'∧fillK pl (fun x=>x=l') ps l
  | [],l,h=>⟨l,h,rfl⟩
  | (i,v) :: r,l,h=>by
    unfold fillK at h
    split at h <;> try exact h.elim
    rename_i off sz hpl
    obtain⟨h1,h2,h3,h⟩:=h
    obtain⟨l',hK,hd⟩:=fillK_det r _ h
    refine⟨l',hK,?_⟩
    unfold fillK
    rw[hpl]
    exact⟨h1,h2,h3,hd⟩
theorem fill_congr {pl pl':Nat→Option (Nat×Nat)} (h:∀i,pl i=pl' i):∀(ps:List (Nat×Value)) (cs:Array Value),Instr.fill pl cs ps=Instr.fill pl' cs ps
  | [],_=>rfl
  | (i,v) :: r,cs=>by
    simp only[Instr.fill,h i]
    cases pl' i with
    | none=>rfl
    | some p=>simp only; split <;> first | rfl | exact fill_congr h r _
theorem run_mapM {P:Program} {α β:Type} (f:α→Sem β) (g:α→β) (w:World):∀(l:List α),(∀x∈l,(f x).run P w=.ok (g x) w)→(l.mapM f).run P w=.ok (l.map g) w
  | [],_=>rfl
  | x :: r,h=>by
    rw[List.mapM_cons,run_ok_bind (h x (by simp)),run_ok_bind (run_mapM f g w r fun y hy=>h y (by simp[hy]))]
    rfl
theorem build_sound {P:Program} {env:Env} {o:Oper} {t:TypeId} {parts:Array (Nat×Operand)} {K:AV→Prop} (ho:o.op=.build t parts)
    (h:buildK P t (parts.toList.map fun p=>(p.1,opv env p.2)) K):∃v,K v∧PureOk P env o v:=by
  obtain⟨hb,h⟩:=h
  split at h <;> try exact h.elim
  rename_i z hz
  obtain⟨zv,hzr,hzm,hzok⟩:=zeroT_spec hz
  have hj:=fillK_junk _ _ h
  have hjo:∀p∈parts.toList,opv env p.2≠ .junk:=fun p hp=>hj (p.1,opv env p.2) (List.mem_map.2 ⟨p,hp,rfl⟩)
  obtain⟨l',hK,hdet⟩:=fillK_det _ _ h
  refine⟨.ag l',hK,pureOk_of fun m N n a hE=>?_⟩
  obtain⟨hpe,hpok⟩:=ok_parts (m:=m) hE parts.toList hjo
  obtain⟨l2,rfl,hlen,hok',hrun⟩:=fill_sound (n:=n) (m:=m) _ z hdet hpok (fun v hv=>⟨(hzok v hv).1 n,(hzok v hv).2⟩)
  refine⟨fun w=>?_,by simp only[AV.ok,AV.oks_eq,Bool.and_eq_true,List.all_eq_true]; exact⟨fun v hv=>(hok' v hv).1,fun v hv=>(hok' v hv).2⟩⟩
  have hz':zv.cells=(z.map (AV.toV m)).toArray:=by rw[← Array.toList_inj,hzm m]
  have hparts:(parts.map fun x=>(x.1,a.eval x.2)).toList=((parts.toList.map fun p=>(p.1,opv env p.2)).map fun p=>(p.1,AV.toV m p.2)):=by
    rw[Array.toList_map]; exact hpe
  simp only[execOp,ho]
  refine run_value ?_
  simp only[Instr.build]
  rw[run_ok_bind (hzr w),hz']
  unfold bldT at hb
  split at hb
  · rename_i fs hu
    rw[run_ok_bind (run_underlying hu w)]
    dsimp only
    rw[List.all_eq_true] at hb
    have hmap:(fs.mapM fun f=>do pure (f.offset,← sizeOf f.type):Sem (Array (Nat×Nat))).run P w=.ok (fs.map fun f=>(f.offset,((P.info? f.type).map (·.size)).getD 0)) w:=by
      rw[← Array.toArray_toList (xs:=fs),List.mapM_toArray]
      rw[show(fs.toList.toArray.map fun f:Field=>(f.offset,((P.info? f.type).map (·.size)).getD 0))=(fs.toList.map fun f:Field=>(f.offset,((P.info? f.type).map (·.size)).getD 0)).toArray from by rw[← Array.toList_inj,Array.toList_map]]
      show((List.toArray<$>fs.toList.mapM fun f:Field=>(do pure (f.offset,← sizeOf f.type):Sem (Nat×Nat))):Sem _).run P w=_
      have:=run_mapM (P:=P) (fun f:Field=>(do pure (f.offset,← sizeOf f.type):Sem (Nat×Nat))) (fun f=>(f.offset,((P.info? f.type).map (·.size)).getD 0)) w fs.toList (fun f hf=>by
        have:=hb f hf
        cases hi:P.info? f.type with
        | none=>rw[hi] at this; simp at this
        | some ti=>rw[run_ok_bind (run_sizeOf hi w)]; rfl)
      rw[map_eq_pure_bind,run_ok_bind this]; rfl
    rw[run_ok_bind hmap]
    have hpl:∀i,(fs.map fun f=>(f.offset,((P.info? f.type).map (·.size)).getD 0))[i]?=plT P t i:=fun i=>by
      simp only[plT,hu,Array.getElem?_map]
      cases hi:fs[i]? with
      | none=>rfl
      | some f=>
        have:=hb f (by rw[← Array.getElem?_toList] at hi; exact List.mem_of_getElem? hi)
        cases hi2:P.info? f.type with
        | none=>rw[hi2] at this; simp at this
        | some ti=>simp[hi2]
    rw[hparts,fill_congr hpl,hrun m]
    simp only[AV.toV,AV.toVs_eq]; rfl
  · rename_i k e hu
    rw[run_ok_bind (run_underlying hu w)]
    dsimp only
    cases hi:P.info? e with
    | none=>rw[hi] at hb; simp at hb
    | some ti=>
      rw[run_ok_bind (run_sizeOf hi w)]
      have hpl:∀i,(fun i=>some (i*ti.size,ti.size)) i=plT P t i:=fun i=>by simp only[plT,hu,hi]
      rw[hparts,fill_congr hpl,hrun m]
      simp only[AV.toV,AV.toVs_eq]; rfl
  · simp at hb
end Go.Ab
namespace Go.Ab
theorem OpRes.new {P:Program} {m:NM} {H:Heap} {n:Nat} {w:World} (h:HRel m H n w) {t:TypeId} {cells:List AV} {c:Array Value} (hc:c.toList=cells.map (AV.toV m)) (hok:∀v∈cells,v.ok n=true∧v.one=true)
    {v:AV} {s:Sem Value} (f:Addr→Value) (hs:s.run P w=(do pure (f (← newRow t c)):Sem Value).run P w) (hv:∀m':NM,m'.κ n=c.size→f ⟨m'.ρ n,m'.β n+0,none⟩=AV.toV m' v) (hvok:v.ok (n+1)=true):
    OpRes m H n w v (H.upd n (some ⟨cells,t,false⟩)) (n+1) ((do pure (.value (← s)):Sem Next).run P w):=by
  obtain⟨m',w',hr,hH,ha,hF,hk⟩:=newRow_res (P:=P) h (t:=t) hc hok
  refine⟨m',w',hH,by omega,ha,hF,.inl ⟨f ⟨m'.ρ n,m'.β n+0,none⟩,?_,fun _=>⟨hv m' hk,hvok⟩⟩⟩
  refine run_value ?_
  rw[hs,run_ok_bind hr]; rfl
theorem alloc_sound {P:Program} {H:Heap} {o:Oper} {t:TypeId} {z:List AV} (ho:o.op=.alloc t) (hz:zeroT P t=some z) (m:NM) (n:Nat) (ac:Act) (w:World) (hH:HRel m H n w):
    OpRes m H n w (.pt n 0) (H.upd n (some ⟨z,t,false⟩)) (n+1) ((execOp ac.eval o).run P w):=by
  obtain⟨zv,hzr,hzm,hzok⟩:=zeroT_spec hz
  simp only[execOp,ho]
  refine OpRes.new hH (c:=zv.cells) (hzm m) (fun v hv=>⟨(hzok v hv).1 n,(hzok v hv).2⟩) (fun a=>.pointer (some a)) ?_ (fun m' _=>rfl) (by simp[AV.ok])
  simp only[Instr.alloc]
  rw[run_ok_bind (hzr w)]
  rfl
theorem box_sound {P:Program} {env:Env} {H:Heap} {o:Oper} {t:TypeId} {x:Operand} (ho:o.op=.box t x) (hp:partOk (opv env x)=true) (m:NM) (N n:Nat) (ac:Act) (w:World) (hH:HRel m H n w)
    (hE:ERel m N n env ac):OpRes m H n w (.pt n 0) (H.upd n (some ⟨cellsOf (opv env x),t,false⟩)) (n+1) ((execOp ac.eval o).run P w):=by
  have hj:opv env x≠ .junk:=by intro e; rw[e] at hp; simp[partOk] at hp
  have ht:∀l,opv env x≠ .tu l:=by intro l e; rw[e] at hp; simp[partOk] at hp
  have e:=eval_opv hE x hj
  simp only[execOp,ho]
  refine OpRes.new hH (c:=(AV.toV m (opv env x)).cells) (cellsOf_toV m _ hj ht) (cellsOf_ok e.2 hj ht) (fun a=>.pointer (some a)) ?_ (fun m' _=>rfl) (by simp[AV.ok])
  simp only[Instr.box,newVar,e.1]
def elT (P:Program) (t:TypeId):Option (TypeId×Nat×Nat):=
  match P.underlying t with
  | some (.slice e)=>match P.info? e with
    | some ti=>some (e,ti.size,ti.bytes)
    | none=>none
  | _=>none
theorem elT_spec {P:Program} {t e:TypeId} {sz by_:Nat} (h:elT P t=some (e,sz,by_)):P.underlying t=some (.slice e)∧(∀w,(sizeOf e).run P w=.ok sz w)∧(∃ti,(∀w,(typeInfo e).run P w=.ok ti w)∧ti.bytes=by_):=by
  unfold elT at h
  split at h <;> try (simp at h; done)
  rename_i e' hu
  split at h <;> try (simp at h; done)
  rename_i ti hi
  simp only[Option.some.injEq,Prod.mk.injEq] at h
  obtain⟨rfl,rfl,rfl⟩:=h
  exact⟨hu,run_sizeOf hi,ti,run_typeInfo hi,rfl⟩
def repCells (k:Nat) (z:List AV):List AV:=(List.replicate k z).flatten
theorem rep_length (k:Nat) (z:List AV):(repCells k z).length=k*z.length:=by
  induction k with
  | zero=>simp[repCells]
  | succ k ih=>simp only[repCells,List.replicate_succ,List.flatten_cons,List.length_append] at*; rw[ih,Nat.succ_mul]; omega
theorem rep_get (k:Nat) (z:List AV) (i:Nat) (h:i<k*z.length):(repCells k z)[i]?=z[i%z.length]?:=by
  induction k generalizing i with
  | zero=>omega
  | succ k ih=>
    simp only[repCells,List.replicate_succ,List.flatten_cons] at*
    by_cases hi:i<z.length
    · rw[List.getElem?_append_left hi,Nat.mod_eq_of_lt hi]
    · rw[List.getElem?_append_right (by omega),ih _ (by rw[Nat.succ_mul] at h; omega)]
      rw[← Nat.mod_eq_sub_mod (by omega)]
theorem rep_mem {k:Nat} {z:List AV} {v:AV} (h:v∈repCells k z):v∈z:=by
  obtain⟨l,hl,hv⟩:=List.mem_flatten.1 h
  rw[List.eq_of_mem_replicate hl] at hv; exact hv
theorem rep_eq {m:NM} {zv:Array Value} {z:List AV} (hz:zv.toList=z.map (AV.toV m)) (k:Nat):
    ((Array.range (k*z.length)).map fun i=>zv[i%zv.size]!).toList=(repCells k z).map (AV.toV m):=by
  have hsz:zv.size=z.length:=by rw[← Array.length_toList,hz]; simp
  rw[Array.toList_map,Array.toList_range]
  apply List.ext_getElem?
  intro i
  rw[List.getElem?_map,List.getElem?_map]
  by_cases hi:i<k*z.length
  · rw[List.getElem?_range hi,rep_get k z i hi]
    have hz0:0<z.length:=by
      rcases Nat.eq_zero_or_pos z.length with h | h
      · rw[h] at hi; omega
      · exact h
    have hm:=Nat.mod_lt i hz0
    have hg:zv[i%z.length]?=z[i%z.length]?.map (AV.toV m):=by rw[← Array.getElem?_toList,hz,List.getElem?_map]
    rw[List.getElem?_eq_getElem hm] at hg ⊢
    simp only[Option.map_some]
    rw[hsz,getElem!_def,hg]
    rfl
  · rw[List.getElem?_eq_none (by simp; omega),List.getElem?_eq_none (by rw[rep_length]; omega)]
    rfl
theorem makeSlice_sound {P:Program} {env:Env} {H:Heap} {o:Oper} {t e:TypeId} {l c:Operand} {sz by_:Nat} {z:List AV} {ln cp:Int} (ho:o.op=.makeSlice t l c) (hel:elT P t=some (e,sz,by_))
    (hz:zeroT P e=some z) (hzl:z.length=sz) (hl:opv env l=.i64 ln) (hc:opv env c=.i64 cp) (h0:0≤ln) (h1:ln≤cp) (h2:by_*cp≤281474976710656) (h3:cp≤9223372036854775807)
    (m:NM) (N n:Nat) (ac:Act) (w:World) (hH:HRel m H n w) (hE:ERel m N n env ac):
    OpRes m H n w (.sl n 0 ln.toNat cp.toNat) (H.upd n (some ⟨repCells cp.toNat z,e,false⟩)) (n+1) ((execOp ac.eval o).run P w):=by
  obtain⟨hu,hs,ti,hti,hby⟩:=elT_spec hel
  obtain⟨zv,hzr,hzm,hzok⟩:=zeroT_spec hz
  have el:=(eval_opv hE l (by rw[hl]; simp)).1
  have ec:=(eval_opv hE c (by rw[hc]; simp)).1
  rw[hl] at el; rw[hc] at ec
  simp only[execOp,ho]
  refine OpRes.new hH (c:=((Array.range (cp.toNat*z.length)).map fun i=>zv.cells[i%zv.cells.size]!)) (rep_eq (hzm m) _) (fun v hv=>⟨(hzok v (rep_mem hv)).1 n,(hzok v (rep_mem hv)).2⟩)
    (fun a=>.slice (some a) ln.toNat cp.toNat) ?_ (fun m' _=>rfl) (by simp[AV.ok])
  simp only[Instr.makeSlice,el,ec,AV.toV]
  rw[run_ok_bind (run_underlying hu w)]
  have hln:(asInt (.int .i64 ln)).run P w=.ok ln w:=rfl
  have hcp:(asInt (.int .i64 cp)).run P w=.ok cp w:=rfl
  rw[run_ok_bind hln,run_ok_bind hcp,run_ok_bind (hti w)]
  have w1:IntKind.i64.wrap ln=ln:=wrap64_small _ (by omega) (by omega)
  have w2:IntKind.i64.wrap cp=cp:=wrap64_small _ (by omega) (by omega)
  rw[w1,w2,hby]
  have hbig:¬((by_:Int)*cp>2 ^ 48):=by
    have:(2:Int) ^ 48=281474976710656:=rfl
    rw[this]; omega
  have hif:(((decide (cp<0)||decide ((by_:Int)*cp>2 ^ 48))||decide (ln<0))||decide (ln>cp))=false:=by
    simp only[Bool.or_eq_false_iff,decide_eq_false_iff_not]
    exact⟨⟨⟨by omega,hbig⟩,by omega⟩,by omega⟩
  rw[hif]
  simp only[Bool.false_eq_true,if_false]
  have hroom:∀k,(askRoom k).run P w=.ok () w:=fun k=>by unfold askRoom; split <;> rfl
  rw[run_ok_bind (hroom _),run_ok_bind (hs w)]
  rw[← hzl]
  by_cases h0:cp.toNat*z.length=0
  · rw[if_pos h0,h0]
    simp only[pure_bind]
    have e1:∀f:Nat→Value,(Array.range 0).map f= #[]:=fun f=>by rw[← Array.toList_inj]; simp
    rw[e1,e1]
  · rw[if_neg h0]
    rw[run_ok_bind (hzr w)]
    rfl
end Go.Ab
namespace Go.Ab
def elPl (sz:Nat) (i:Nat):Option (Nat×Nat):=some (i*sz,sz)
theorem buildSlice_sound {P:Program} {env:Env} {H:Heap} {o:Oper} {t e:TypeId} {len sz by_:Nat} {parts:Array (Nat×Operand)} {z l':List AV} (ho:o.op=.buildSlice t len parts)
    (hel:elT P t=some (e,sz,by_)) (hz:zeroT P e=some z) (hzl:z.length=sz) (hsm:len*sz≤16777216)
    (h:fillK (elPl sz) (fun x=>x=l') (parts.toList.map fun p=>(p.1,opv env p.2)) (repCells len z))
    (m:NM) (N n:Nat) (ac:Act) (w:World) (hH:HRel m H n w) (hE:ERel m N n env ac):
    OpRes m H n w (.sl n 0 len len) (H.upd n (some ⟨l',e,false⟩)) (n+1) ((execOp ac.eval o).run P w):=by
  obtain⟨hu,hs,ti,hti,hby⟩:=elT_spec hel
  obtain⟨zv,hzr,hzm,hzok⟩:=zeroT_spec hz
  have hj:=fillK_junk _ _ h
  have hjo:∀p∈parts.toList,opv env p.2≠ .junk:=fun p hp=>hj (p.1,opv env p.2) (List.mem_map.2 ⟨p,hp,rfl⟩)
  obtain⟨hpe,hpok⟩:=ok_parts (m:=m) hE parts.toList hjo
  obtain⟨l2,rfl,hlen,hok',hrun⟩:=fill_sound (n:=n) (m:=m) _ _ h hpok (fun v hv=>⟨(hzok v (rep_mem hv)).1 n,(hzok v (rep_mem hv)).2⟩)
  simp only[execOp,ho]
  refine OpRes.new hH (c:=(l2.map (AV.toV m)).toArray) rfl hok' (fun a=>.slice (some a) len len) ?_ (fun m' _=>rfl) (by simp[AV.ok])
  have hparts:(parts.map fun x=>(x.1,ac.eval x.2)).toList=((parts.toList.map fun p=>(p.1,opv env p.2)).map fun p=>(p.1,AV.toV m p.2)):=by
    rw[Array.toList_map]; exact hpe
  simp only[Instr.buildSlice]
  rw[run_ok_bind (run_underlying hu w)]
  dsimp only
  rw[run_ok_bind (hs w)]
  have hbig:¬(len*sz>2 ^ 24):=by
    have:2 ^ 24=16777216:=rfl
    omega
  rw[if_neg hbig]
  simp only[pure_bind]
  have hrep:=rep_eq (hzm m) len
  rw[hzl] at hrep
  have key:∀zc:Array Value,((Array.range (len*sz)).map fun i=>zc[i%zc.size]!).toList=(repCells len z).map (AV.toV m)→
      Instr.fill (fun i=>some (i*sz,sz)) ((Array.range (len*sz)).map fun i=>zc[i%zc.size]!) (parts.map fun x=>(x.1,ac.eval x.2)).toList=some (l2.map (AV.toV m)).toArray:=by
    intro zc hzc
    have hzc':((Array.range (len*sz)).map fun i=>zc[i%zc.size]!)=((repCells len z).map (AV.toV m)).toArray:=by rw[← Array.toList_inj,hzc]
    rw[hzc',hparts]
    exact hrun m
  by_cases h0:len*sz=0
  · rw[if_pos h0]
    rw[key #[] (by rw[← hrep,h0,Array.toList_map,Array.toList_map,Array.toList_range]; rfl)]
  · rw[if_neg h0]
    rw[run_ok_bind (hzr w)]
    rw[key zv.cells hrep]
def isU8:AV→Bool
  | .u8 _=>true
  | _=>false
def u8Of:AV→BitVec 8
  | .u8 x=>x
  | _=>0
def strOf (l:List AV):List (BitVec 8):=l.map u8Of
def slicePl (e:Nat):AV→Option (Nat×Nat×Nat)
  | .sl b o l _=>some (b,o,l)
  | .su b o l e'=>if e'=e then some (b,o,l) else none
  | _=>none
def readK (H:Heap) (e:Nat) (x:AV) (K:Nat→List AV→Prop):Prop:=
  match x with
  | .sn=>K 0 []
  | x=>match slicePl e x with
    | some (b,o,l)=>match H b with
      | some blk=>o+l*e≤blk.cells.length∧K l ((blk.cells.drop o).take (l*e))
      | none=>False
    | none=>False
theorem foldl_push (l:List AV) (h:l.all isU8=true):∀s:ByteArray,
    ((l.map fun v=>((u8Of v).toNat:Int)).foldl (fun r n=>r.push (UInt8.ofNat n.toNat)) s)=⟨s.data++((strOf l).map UInt8.ofBitVec).toArray⟩:=by
  induction l with
  | nil=>intro s; simp[strOf]
  | cons v r ih=>
    intro s
    simp only[List.all_cons,Bool.and_eq_true] at h
    simp only[List.map_cons,List.foldl_cons]
    rw[ih h.2]
    apply ByteArray.ext
    simp only[ByteArray.data_push,strOf,List.map_cons,← Array.toList_inj]
    simp
theorem toV_u8s (m:NM) (l:List AV) (h:l.all isU8=true):l.map (AV.toV m)=(l.map fun v=>((u8Of v).toNat:Int)).map (Value.int .u8):=by
  rw[List.map_map]
  refine List.map_congr_left fun v hv=>?_
  have:=List.all_eq_true.1 h v hv
  cases v <;> first | (simp[isU8] at this; done) | rfl
theorem convT_b2s {P:Program} {s d:TypeId} (h:convT P s d=some .b2s):∃e,P.underlying s=some (.slice e)∧P.underlying e=some (.int .u8)∧P.underlying d=some .string:=by
  unfold convT at h
  cases hs:P.underlying s with
  | none=>simp[hs] at h
  | some a=>
    cases hd:P.underlying d with
    | none=>rw[hs,hd] at h; cases a <;> simp at h
    | some b=>
      rw[hs,hd] at h
      cases b <;> cases a <;> first | (simp at h; done) | skip
      all_goals
        dsimp only at h
        split at h
        · first | (rename_i he; exact⟨_,rfl,he,rfl⟩) | (simp at h; done)
        · simp at h
theorem b2s_sound {P:Program} {env:Env} {H:Heap} {o:Oper} {s d:TypeId} {x:Operand} {K:AV→Prop} (ho:o.op=.convert s d x) (hc:convT P s d=some .b2s)
    (h:readK H 1 (opv env x) (fun _ cells=>cells.all isU8=true∧K (.st (strOf cells)))):
    ∃v,K v∧∀(m:NM) (N n:Nat) (ac:Act) (w:World),HRel m H n w→ERel m N n env ac→(execOp ac.eval o).run P w=.ok (.value (AV.toV m v)) w∧v.ok n=true:=by
  generalize hx:opv env x=vx at h
  obtain⟨e,hs,he,hd⟩:=convT_b2s hc
  unfold readK at h
  split at h
  · refine⟨_,h.2,fun m N n ac w hH hE=>⟨?_,rfl⟩⟩
    have ex:=(eval_opv hE x (by rw[hx]; simp)).1
    rw[hx] at ex
    simp only[execOp,ho]
    refine run_value ?_
    rw[ex]
    simp only[AV.toV]
    rw[run_convert_bytes_string w s d e none 0 0 hs he hd]
    rfl
  · split at h <;> try exact h.elim
    rename_i b off l hpl
    split at h <;> try exact h.elim
    rename_i blk hb
    obtain⟨hfit,hall,hK⟩:=h
    refine⟨_,hK,fun m N n ac w hH hE=>⟨?_,rfl⟩⟩
    have hxj:vx≠ .junk:=by rintro rfl; simp[slicePl] at hpl
    have ex:=(eval_opv hE x (by rw[hx]; exact hxj)).1
    rw[hx] at ex
    have hform:∃c,AV.toV m vx=.slice (some ⟨m.ρ b,m.β b+off,none⟩) l c:=by
      cases vx <;> simp only[slicePl,Option.some.injEq,reduceCtorEq,Prod.mk.injEq] at hpl
      · obtain⟨rfl,rfl,rfl⟩:=hpl; exact⟨_,rfl⟩
      · split at hpl
        · simp only[Option.some.injEq,Prod.mk.injEq] at hpl; obtain⟨rfl,rfl,rfl⟩:=hpl; exact⟨_,rfl⟩
        · simp at hpl
    obtain⟨c,hform⟩:=hform
    simp only[execOp,ho]
    refine run_value ?_
    rw[ex,hform,run_convert_bytes_string w s d e _ l c hs he hd]
    have hl:=(hH.load_many (P:=P) hb hfit).1
    rw[Nat.mul_one] at hl hall
    rw[toV_u8s m _ hall] at hl
    rw[run_bytesToString w _ l c _ hl,foldl_push _ hall]
    simp only[AV.toV,Nat.mul_one]
    congr 2
    simp[ByteArray.ext_iff]
end Go.Ab
namespace Go.Ab
def sliceSu (P:Program) (H:Heap) (t:TypeId) (b o l e:Nat) (lo:Option Int) (hi:Option Int) (K:AV→Prop):Prop:=
  match ixT P t,H b,lo,hi with
  | some (none,_,e'),some blk,some l',some h=>e'=e∧0≤l'∧l'≤h∧o+h.toNat*e≤blk.cells.length∧
      (if l'=0 then K (.su b o h.toNat e) else if l'<h then K (.su b (o+l'.toNat*e) (h.toNat-l'.toNat) e) else K (.sl b o 0 0)∧K (.su b (o+l'.toNat*e) 0 e))
  | _,_,_,_=>False
theorem sliceSu_sound {P:Program} {env:Env} {H:Heap} {o:Oper} {t:TypeId} {x:Operand} {lo hi:Option Operand} {b off l e:Nat} {K:AV→Prop} (ho:o.op=.slice t x lo hi none)
    (hx:opv env x=.su b off l e) (h:sliceSu P H t b off l e (bnd env 0 lo) (bnd env l hi) K):
    ∀(m:NM) (N n:Nat) (ac:Act) (w:World),HRel m H n w→ERel m N n env ac→∃v,K v∧(execOp ac.eval o).run P w=.ok (.value (AV.toV m v)) w∧v.ok n=true:=by
  intro m N n ac w hH hE
  unfold sliceSu at h
  split at h <;> try exact h.elim
  rename_i ag e' blk l' hh ht hb hlo hhi
  obtain⟨rfl,h0,h1,h2,hK⟩:=h
  obtain⟨el,hu,hte⟩:=ixT_slice ht
  have ex:=eval_opv hE x (by rw[hx]; simp)
  rw[hx] at ex
  have hok:=ex.2
  simp only[AV.ok,Bool.and_eq_true,decide_eq_true_eq] at hok
  obtain⟨c,fz,hc,hk,hle,_,_⟩:=hH.row hb
  have hcap:hh.toNat≤(m.κ b-off) / e':=by
    rw[Nat.le_div_iff_mul_le hok.2]; omega
  have hrun:(execOp ac.eval o).run P w=.ok (.value (.slice (some (if(m.κ b-off) / e'=l'.toNat then⟨m.ρ b,m.β b+off,none⟩ else⟨m.ρ b,m.β b+(off+l'.toNat*e'),none⟩)) (hh.toNat-l'.toNat) ((m.κ b-off) / e'-l'.toNat))) w:=by
    simp only[execOp,ho]
    refine run_value ?_
    rw[ex.1,eval_bnd hE hlo,eval_bnd hE hhi]
    simp only[Option.map_none,Instr.sliceAt]
    rw[run_ok_bind (run_underlying hu w)]
    simp only[AV.toV,Instr.slice]
    rw[run_ok_bind (run_underlying hu w)]
    dsimp only
    have hb2:=run_sliceBounds (P:=P) (m:=m) (isSlice:=true) (len:=l) (cap:=(m.κ b-off) / e') (mx:=none) (bnd_spec hlo) (bnd_spec hhi) rfl (fun _=>rfl) h0 h1 (by omega) (Int.le_refl _) w
    simp only[Option.map_none] at hb2
    rw[run_ok_bind hb2]
    dsimp only
    rw[run_ok_bind ((tyA_spec hte).2 w),run_pure]
    simp only[Int.toNat_natCast]
    split
    · rfl
    · simp only[Option.map_some,add_addr,Nat.add_assoc]
  have hdiv:(m.κ b-(off+l'.toNat*e')) / e'=(m.κ b-off) / e'-l'.toNat:=by
    rw[← Nat.sub_sub,Nat.mul_comm,Nat.sub_mul_div]
  rw[hrun]
  split at hK
  · rename_i hz
    refine⟨_,hK,?_,by simp[AV.ok,hok]⟩
    subst hz
    simp only[AV.toV,Int.toNat_zero,Nat.zero_mul,Nat.add_zero,Nat.sub_zero,ite_self]
  · rename_i hz
    split at hK
    · rename_i hlt
      refine⟨_,hK,?_,by simp[AV.ok,hok]⟩
      rw[if_neg (by omega)]
      simp only[AV.toV,hdiv]
    · rename_i hge
      have he:hh=l':=by omega
      subst he
      by_cases hcl:(m.κ b-off) / e'=hh.toNat
      · refine⟨_,hK.1,?_,by simp[AV.ok,hok]⟩
        rw[if_pos hcl]
        simp only[AV.toV,Nat.sub_self,hcl]
      · refine⟨_,hK.2,?_,by simp[AV.ok,hok]⟩
        rw[if_neg hcl]
        simp only[AV.toV,hdiv,Nat.sub_self]
inductive LenK where | str | arr (n:Nat) | slice
def lenT (P:Program) (t:TypeId):Option LenK:=
  match P.underlying t with
  | some .string=>some .str
  | some (.slice _)=>some .slice
  | some (.array n _)=>some (.arr n)
  | some (.pointer a)=>match P.underlying a with
    | some (.array n _)=>some (.arr n)
    | _=>none
  | _=>none
def lenK (P:Program) (t:TypeId) (x:AV) (K:AV→Prop):Prop:=
  match lenT P t with
  | some (.arr n)=>K (.i64 n)
  | some .str=>match x with
    | .st s=>K (.i64 s.length)
    | _=>False
  | some .slice=>match x with
    | .sl _ _ l _=>K (.i64 l)
    | .su _ _ l _=>K (.i64 l)
    | .sn=>K (.i64 0)
    | _=>False
  | none=>False
def capK (P:Program) (t:TypeId) (x:AV) (K:AV→Prop):Prop:=
  match lenT P t with
  | some .slice=>match x with
    | .sl _ _ _ c=>K (.i64 c)
    | .sn=>K (.i64 0)
    | _=>False
  | _=>False
theorem call_append {P:Program} {ρ:Operand→Value} {o:Oper} {args:Array Operand} {ts:Array TypeId} {w w':World} {x:Value} (ho:o.op=.call ⟨.builtin .append,args,ts⟩)
    (h:(Builtin.append_ ts o.type (args.map ρ)).run P w=.ok x w'):(execOp ρ o).run P w=.ok (.value x) w':=by
  simp only[execOp,ho,resolve,pure_bind,invoke]
  exact run_value h
theorem call_cap {P:Program} {ρ:Operand→Value} {o:Oper} {args:Array Operand} {ts:Array TypeId} {w w':World} {x:Value} (ho:o.op=.call ⟨.builtin .cap,args,ts⟩)
    (h:(Builtin.cap_ ts o.type (args.map ρ)).run P w=.ok x w'):(execOp ρ o).run P w=.ok (.value x) w':=by
  simp only[execOp,ho,resolve,pure_bind,invoke]
  exact run_value h
theorem call_copy {P:Program} {ρ:Operand→Value} {o:Oper} {args:Array Operand} {ts:Array TypeId} {w w':World} {x:Value} (ho:o.op=.call ⟨.builtin .copy,args,ts⟩)
    (h:(Builtin.copy_ ts o.type (args.map ρ)).run P w=.ok x w'):(execOp ρ o).run P w=.ok (.value x) w':=by
  simp only[execOp,ho,resolve,pure_bind,invoke]
  exact run_value h
theorem call_len {P:Program} {ρ:Operand→Value} {o:Oper} {args:Array Operand} {ts:Array TypeId} {w w':World} {x:Value} (ho:o.op=.call ⟨.builtin .len,args,ts⟩)
    (h:(Builtin.len_ ts o.type (args.map ρ)).run P w=.ok x w'):(execOp ρ o).run P w=.ok (.value x) w':=by
  simp only[execOp,ho,resolve,pure_bind,invoke]
  exact run_value h
theorem call_max {P:Program} {ρ:Operand→Value} {o:Oper} {args:Array Operand} {ts:Array TypeId} {w w':World} {x:Value} (ho:o.op=.call ⟨.builtin .max,args,ts⟩)
    (h:(Builtin.max_ ts o.type (args.map ρ)).run P w=.ok x w'):(execOp ρ o).run P w=.ok (.value x) w':=by
  simp only[execOp,ho,resolve,pure_bind,invoke]
  exact run_value h
theorem call_min {P:Program} {ρ:Operand→Value} {o:Oper} {args:Array Operand} {ts:Array TypeId} {w w':World} {x:Value} (ho:o.op=.call ⟨.builtin .min,args,ts⟩)
    (h:(Builtin.min_ ts o.type (args.map ρ)).run P w=.ok x w'):(execOp ρ o).run P w=.ok (.value x) w':=by
  simp only[execOp,ho,resolve,pure_bind,invoke]
  exact run_value h
theorem len_sound {P:Program} {env:Env} {o:Oper} {x:Operand} {t:TypeId} {K:AV→Prop} (ho:o.op=.call ⟨.builtin .len,#[x],#[t]⟩) (h:lenK P t (opv env x) K):∃v,K v∧PureOk P env o v:=by
  generalize hx:opv env x=vx at h
  have fin:∀(k:Nat),K (.i64 k)→(∀(m:NM) (ac:Act) w,(vx≠ .junk→ac.eval x=AV.toV m vx)→(Builtin.len_ #[t] o.type #[ac.eval x]).run P w=.ok (goInt k) w)→∃v,K v∧PureOk P env o v:=fun k hk hr=>
    ⟨_,hk,pureOk_of fun m N n a hE=>⟨fun w=>call_len ho (by
      have e1:(#[x].map a.eval)= #[a.eval x]:=by simp
      rw[e1]
      exact hr m a w fun hj=>by have:=(eval_opv hE x (by rw[hx]; exact hj)).1; rw[hx] at this; exact this),rfl⟩⟩
  unfold lenK at h
  split at h
  · rename_i n hl
    refine fin _ h fun m ac w _=>?_
    unfold lenT at hl
    split at hl <;> try (simp at hl; done)
    · rename_i k e hu
      simp only[Option.some.injEq,LenK.arr.injEq] at hl; subst hl
      simp only[Builtin.len_,List.getElem?_toArray,List.getElem?_cons_zero]
      rw[run_ok_bind (run_underlying hu w)]
      rfl
    · rename_i a hu
      split at hl <;> try (simp at hl; done)
      rename_i k e hu2
      simp only[Option.some.injEq,LenK.arr.injEq] at hl; subst hl
      simp only[Builtin.len_,List.getElem?_toArray,List.getElem?_cons_zero]
      rw[run_ok_bind (run_underlying hu w)]
      dsimp only
      rw[run_ok_bind (run_underlying hu2 w)]
      rfl
  · rename_i hl
    have hu:P.underlying t=some .string:=by
      unfold lenT at hl
      split at hl <;> first | assumption | (simp at hl; done) | (split at hl <;> simp at hl)
    split at h <;> try exact h.elim
    rename_i s
    refine fin _ h fun m ac w he=>?_
    rw[he (by simp)]
    simp only[Builtin.len_,AV.toV,List.getElem?_toArray,List.getElem?_cons_zero]
    rw[run_ok_bind (run_underlying hu w)]
    simp[ByteArray.size,run_pure]
  · rename_i hl
    obtain⟨e,hu⟩:∃e,P.underlying t=some (.slice e):=by
      unfold lenT at hl
      split at hl <;> first | exact⟨_,by assumption⟩ | (simp at hl; done) | (split at hl <;> simp at hl)
    split at h <;> try exact h.elim
    all_goals
      refine fin _ h fun m ac w he=>?_
      rw[he (by simp)]
      simp only[Builtin.len_,AV.toV,List.getElem?_toArray,List.getElem?_cons_zero]
      rw[run_ok_bind (run_underlying hu w)]
      rfl
  · exact h.elim
end Go.Ab
namespace Go.Ab
theorem cap_sound {P:Program} {env:Env} {o:Oper} {x:Operand} {t:TypeId} {K:AV→Prop} (ho:o.op=.call ⟨.builtin .cap,#[x],#[t]⟩) (h:capK P t (opv env x) K):∃v,K v∧PureOk P env o v:=by
  generalize hx:opv env x=vx at h
  have fin:∀(k:Nat),K (.i64 k)→(∀(m:NM) (ac:Act) w,(vx≠ .junk→ac.eval x=AV.toV m vx)→(Builtin.cap_ #[t] o.type #[ac.eval x]).run P w=.ok (goInt k) w)→∃v,K v∧PureOk P env o v:=fun k hk hr=>
    ⟨_,hk,pureOk_of fun m N n a hE=>⟨fun w=>call_cap ho (by
      have e1:(#[x].map a.eval)= #[a.eval x]:=by simp
      rw[e1]
      exact hr m a w fun hj=>by have:=(eval_opv hE x (by rw[hx]; exact hj)).1; rw[hx] at this; exact this),rfl⟩⟩
  unfold capK at h
  split at h <;> try exact h.elim
  rename_i hl
  obtain⟨e,hu⟩:∃e,P.underlying t=some (.slice e):=by
    unfold lenT at hl
    split at hl <;> first | exact⟨_,by assumption⟩ | (simp at hl; done) | (split at hl <;> simp at hl)
  split at h <;> try exact h.elim
  all_goals
    refine fin _ h fun m ac w he=>?_
    rw[he (by simp)]
    simp only[Builtin.cap_,AV.toV,List.getElem?_toArray,List.getElem?_cons_zero]
    rw[run_ok_bind (run_underlying hu w)]
    rfl
def mmK (f:Int→Int→Int) (x y:AV) (K:AV→Prop):Prop:=
  match x,y with
  | .i64 a,.i64 b=>K (.i64 (f a b))
  | _,_=>False
theorem max_sound {P:Program} {env:Env} {o:Oper} {x y:Operand} {ts:Array TypeId} {K:AV→Prop} (ho:o.op=.call ⟨.builtin .max,#[x,y],ts⟩) (h:mmK max (opv env x) (opv env y) K):∃v,K v∧PureOk P env o v:=by
  generalize hx:opv env x=vx at h
  generalize hy:opv env y=vy at h
  unfold mmK at h
  split at h <;> try exact h.elim
  rename_i a b
  refine⟨_,h,pureOk_of fun m N n ac hE=>⟨fun w=>call_max ho ?_,rfl⟩⟩
  have e1:=(eval_opv hE x (by rw[hx]; simp)).1
  have e2:=(eval_opv hE y (by rw[hy]; simp)).1
  rw[hx] at e1; rw[hy] at e2
  have e3:(#[x,y].map ac.eval)= #[ac.eval x,ac.eval y]:=by simp
  rw[e3,e1,e2]
  simp only[Builtin.max_,AV.toV,List.foldlM_cons,List.foldlM_nil,Builtin.max2,pure_bind,bind_pure,run_pure]
  congr 2
  by_cases hab:b>a
  · rw[if_pos hab]; omega
  · rw[if_neg hab]; omega
theorem min_sound {P:Program} {env:Env} {o:Oper} {x y:Operand} {ts:Array TypeId} {K:AV→Prop} (ho:o.op=.call ⟨.builtin .min,#[x,y],ts⟩) (h:mmK min (opv env x) (opv env y) K):∃v,K v∧PureOk P env o v:=by
  generalize hx:opv env x=vx at h
  generalize hy:opv env y=vy at h
  unfold mmK at h
  split at h <;> try exact h.elim
  rename_i a b
  refine⟨_,h,pureOk_of fun m N n ac hE=>⟨fun w=>call_min ho ?_,rfl⟩⟩
  have e1:=(eval_opv hE x (by rw[hx]; simp)).1
  have e2:=(eval_opv hE y (by rw[hy]; simp)).1
  rw[hx] at e1; rw[hy] at e2
  have e3:(#[x,y].map ac.eval)= #[ac.eval x,ac.eval y]:=by simp
  rw[e3,e1,e2]
  simp only[Builtin.min_,AV.toV,List.foldlM_cons,List.foldlM_nil,Builtin.min2,pure_bind,bind_pure,run_pure]
  congr 2
  by_cases hab:b<a
  · rw[if_pos hab]; omega
  · rw[if_neg hab]; omega
def srcK (H:Heap) (e:Nat) (x:AV) (K:Nat→List AV→Prop):Prop:=
  match x with
  | .st s=>K s.length (s.map .u8)
  | x=>readK H e x K
theorem srcK_spec {P:Program} {H:Heap} {e:Nat} {x:AV} {K:Nat→List AV→Prop} (h:srcK H e x K) (he:∀s,x=.st s→e=1):
    ∃ l cells,K l cells∧cells.length=l*e∧x≠ .junk∧(∀w,∀m:NM,(Builtin.lenOf (AV.toV m x)).run P w=.ok l w)∧
      ∀ (m:NM) (n:Nat) (w:World),HRel m H n w→(∀v∈cells,v.ok n=true∧v.one=true)∧
        ∀k,k≤l→(Builtin.firstCells e k (AV.toV m x)).run P w=.ok ((cells.take (k*e)).map (AV.toV m)).toArray w:=by
  unfold srcK at h
  split at h
  · rename_i s
    refine⟨_,_,h,by rw[he s rfl]; simp,by simp,fun w m=>?_,fun m n w hH=>⟨?_,fun k hk=>?_⟩⟩
    · simp[AV.toV,Builtin.lenOf,ByteArray.size,run_pure]
    · intro v hv
      obtain⟨b,_,rfl⟩:=List.mem_map.1 hv
      exact⟨rfl,rfl⟩
    · simp only[AV.toV,Builtin.firstCells,run_pure]
      congr 1
      rw[he s rfl,← Array.toList_inj]
      simp only[ByteArray.data_extract,Array.toList_map,List.extract_toArray,List.extract_eq_take_drop,Nat.mul_one,Nat.sub_zero,List.drop_zero,List.map_take,List.map_map]
      congr 1
  · unfold readK at h
    split at h
    · refine⟨_,_,h,by simp,by simp,fun w m=>rfl,fun m n w hH=>⟨by simp,fun k hk=>?_⟩⟩
      simp[AV.toV,Builtin.firstCells,run_pure]
    · split at h <;> try exact h.elim
      rename_i b off l hpl
      split at h <;> try exact h.elim
      rename_i blk hb
      obtain⟨hfit,hK⟩:=h
      have hxj:x≠ .junk:=by rintro rfl; simp[slicePl] at hpl
      have hform:∀m:NM,∃c,AV.toV m x=.slice (some ⟨m.ρ b,m.β b+off,none⟩) l c:=by
        intro m
        cases x <;> simp only[slicePl,Option.some.injEq,reduceCtorEq,Prod.mk.injEq] at hpl
        · obtain⟨rfl,rfl,rfl⟩:=hpl; exact⟨_,rfl⟩
        · split at hpl
          · simp only[Option.some.injEq,Prod.mk.injEq] at hpl; obtain⟨rfl,rfl,rfl⟩:=hpl; exact⟨_,rfl⟩
          · simp at hpl
      refine⟨_,_,hK,by simp; omega,hxj,fun w m=>?_,fun m n w hH=>⟨(hH.load_many (P:=P) hb hfit).2,fun k hk=>?_⟩⟩
      · obtain⟨c,hc⟩:=hform m
        rw[hc]; rfl
      · obtain⟨c,hc⟩:=hform m
        rw[hc]
        simp only[Builtin.firstCells]
        have hke:k*e≤l*e:=Nat.mul_le_mul_right e hk
        rw[(hH.load_many (P:=P) hb (show off+k*e≤blk.cells.length by omega)).1]
        rw[List.take_take,Nat.min_eq_left hke]
def copyK (P:Program) (H:Heap) (t:TypeId) (dst src:AV) (K:AV→Heap→Prop):Prop:=
  match elT P t with
  | none=>False
  | some (_,e,_)=>(match src with | .st _=>e=1 | _=>True)∧srcK H e src fun l cells=>
    match slicePl e dst with
    | some (b,off,dl)=>match H b with
      | some blk=>blk.ro=false∧off+min l dl*e≤blk.cells.length∧
          K (.i64 (min l dl:Nat)) (H.upd b (some { blk with cells:=splice blk.cells off (cells.take (min l dl*e))}))
      | none=>False
    | none=>False
theorem copy_sound {P:Program} {env:Env} {H:Heap} {o:Oper} {x y:Operand} {t t':TypeId} {K:AV→Heap→Prop} (ho:o.op=.call ⟨.builtin .copy,#[x,y],#[t,t']⟩)
    (h:copyK P H t (opv env x) (opv env y) K):
    ∃v H',K v H'∧∀(m:NM) (N n:Nat) (ac:Act) (w:World),HRel m H n w→ERel m N n env ac→OpRes m H n w v H' n ((execOp ac.eval o).run P w):=by
  generalize hx:opv env x=vx at h
  generalize hy:opv env y=vy at h
  unfold copyK at h
  split at h <;> try exact h.elim
  rename_i el e by_ hel
  obtain⟨hst,h⟩:=h
  obtain⟨hu,hs,_⟩:=elT_spec hel
  obtain⟨l,cells,h,hlen,hyj,hlenOf,hsrc⟩:=srcK_spec (P:=P) h (fun s hs=>by rw[hs] at hst; exact hst)
  split at h <;> try exact h.elim
  rename_i b off dl hpl
  split at h <;> try exact h.elim
  rename_i blk hb
  obtain⟨hro,hfit,hK⟩:=h
  refine⟨_,_,hK,fun m N n ac w hH hE=>?_⟩
  have hxj:vx≠ .junk:=by rintro rfl; simp[slicePl] at hpl
  have ex:=(eval_opv hE x (by rw[hx]; exact hxj)).1
  have ey:=(eval_opv hE y (by rw[hy]; exact hyj)).1
  rw[hx] at ex; rw[hy] at ey
  obtain⟨hcok,hfirst⟩:=hsrc m n w hH
  have hform:∃c,AV.toV m vx=.slice (some ⟨m.ρ b,m.β b+off,none⟩) dl c:=by
    cases vx <;> simp only[slicePl,Option.some.injEq,reduceCtorEq,Prod.mk.injEq] at hpl
    · obtain⟨rfl,rfl,rfl⟩:=hpl; exact⟨_,rfl⟩
    · split at hpl
      · simp only[Option.some.injEq,Prod.mk.injEq] at hpl; obtain⟨rfl,rfl,rfl⟩:=hpl; exact⟨_,rfl⟩
      · simp at hpl
  obtain⟨c,hform⟩:=hform
  have hml:(cells.take (min l dl*e)).length=min l dl*e:=by
    rw[List.length_take,hlen]
    have:min l dl*e≤l*e:=Nat.mul_le_mul_right e (Nat.min_le_left _ _)
    omega
  obtain⟨w',hrun,hH',hF⟩:=hH.store (P:=P) (off:=off) hb hro (vs:=cells.take (min l dl*e)) (by omega) (fun v hv=>hcok v (List.mem_of_mem_take hv))
  refine⟨m,w',hH',Nat.le_refl _,NM.agree.refl _ _,hF,.inl ⟨goInt (min l dl:Nat),?_,fun _=>⟨rfl,rfl⟩⟩⟩
  refine call_copy ho ?_
  have e3:(#[x,y].map ac.eval)= #[ac.eval x,ac.eval y]:=by simp
  rw[e3,ex,ey,hform]
  simp only[Builtin.copy_,List.getElem?_toArray,List.getElem?_cons_zero,List.getElem?_cons_succ]
  rw[run_ok_bind (run_underlying hu w)]
  dsimp only
  rw[run_ok_bind (hlenOf w m),run_ok_bind (hs w)]
  have hmin:Nat.min l dl=min l dl:=rfl
  rw[hmin,run_ok_bind (hfirst (min l dl) (Nat.min_le_left _ _))]
  rw[run_ok_bind hrun]
  rfl
end Go.Ab
namespace Go.Ab
theorem growBy_le (nl:Nat):∀(r c:Nat),c≤2*nl+1000→Builtin.growBy nl r c≤2*nl+1000
  | 0,c,h=>h
  | r+1,c,h=>by
    simp only[Builtin.growBy]
    split
    · exact h
    · exact growBy_le nl r _ (by omega)
theorem nextslicecap_le {need cap:Nat} (h:cap<need):Builtin.nextslicecap need cap≤2*need+1000:=by
  unfold Builtin.nextslicecap
  split
  · omega
  · split
    · omega
    · exact growBy_le _ _ _ (by omega)
def notIntT (P:Program) (t:TypeId):Bool:=match P.underlying t with
  | some (.int _)=>false
  | some _=>true
  | none=>false
def isIntD:TypeDesc→Bool
  | .int _=>true
  | _=>false
theorem notIntT_spec {P:Program} {t:TypeId} (h:notIntT P t=true):∃d,P.underlying t=some d∧isIntD d=false:=by
  unfold notIntT at h
  cases hu:P.underlying t with
  | none=>rw[hu] at h; simp at h
  | some d=>
    rw[hu] at h
    exact⟨d,rfl,by cases d <;> first | rfl | simp at h⟩
structure AppT where
  el:TypeId
  e:Nat
  by_:Nat
  z:List AV
def appT (P:Program) (t:TypeId):Option AppT:=
  match elT P t with
  | some (el,e,by_)=>match zeroT P el with
    | some z=>if z.length=e∧0<e∧by_≤1024 then some ⟨el,e,by_,z⟩ else none
    | none=>none
  | none=>none
theorem appT_spec {P:Program} {t:TypeId} {a:AppT} (h:appT P t=some a):elT P t=some (a.el,a.e,a.by_)∧zeroT P a.el=some a.z∧a.z.length=a.e∧0<a.e∧a.by_≤1024:=by
  unfold appT at h
  split at h <;> try (simp at h; done)
  rename_i el e by_ hel
  split at h <;> try (simp at h; done)
  rename_i z hz
  split at h <;> try (simp at h; done)
  rename_i hc
  simp only[Option.some.injEq] at h; subst h
  exact⟨hel,hz,hc⟩
theorem append_grow {P:Program} {t t' ty:TypeId} {a:AppT} {base:Option Addr} {sl sc l:Nat} {X:Value} {old new:List Value} {w:World} (ha:appT P t=some a) (hni:notIntT P t'=true)
    (hgrow:sc<sl+l) (hsmall:sl+l≤4294967296)
    (hlen:∀w,(Builtin.lenOf X).run P w=.ok l w) (hold:∀d,(Builtin.firstCells a.e sl (.slice base sl sc)).run P { w with drawn:=d}=.ok old.toArray { w with drawn:=d})
    (hnew:∀d,(Builtin.firstCells a.e l X).run P { w with drawn:=d}=.ok new.toArray { w with drawn:=d}) (ho:old.length=sl*a.e) (hn:new.length=l*a.e):
    ∃ (cap:Nat) (rest:List Value) (d:Nat),sl+l≤cap∧(old++new++rest).length=cap*a.e∧
      (Builtin.append_ #[t,t'] ty #[.slice base sl sc,X]).run P w=(do pure (.slice (some (← newRow a.el (old++new++rest).toArray)) (sl+l) cap):Sem Value).run P { w with drawn:=d}:=by
  obtain⟨hel,hz,hzl,he0,hby⟩:=appT_spec ha
  obtain⟨hu,hs,ti,hti,hbt⟩:=elT_spec hel
  obtain⟨zv,hzr,hzm,hzok⟩:=zeroT_spec hz
  obtain⟨d',hd0,hdi⟩:=notIntT_spec hni
  have hzsz:zv.cells.size=a.e:=by rw[← Array.length_toList,hzm ⟨fun _=>0,fun _=>0,fun _=>0⟩]; simpa using hzl
  refine⟨sl+l+(w.tape w.drawn (.appendCap (sl+l) sc a.el))%(2 ^ 63-(sl+l)),(Builtin.zeroCells zv.cells ((w.tape w.drawn (.appendCap (sl+l) sc a.el))%(2 ^ 63-(sl+l)))).toList,w.drawn+1,by omega,?_,?_⟩
  · simp only[List.length_append,ho,hn,Builtin.zeroCells,Array.length_toList,Array.size_map,Array.size_range,hzsz]
    rw[← Nat.add_mul,← Nat.add_mul]
  · simp only[Builtin.append_,List.getElem?_toArray,List.getElem?_cons_zero,List.getElem?_cons_succ]
    rw[run_ok_bind (run_underlying hu w)]
    dsimp only
    rw[run_ok_bind (hs w),run_ok_bind (run_underlying hd0 w)]
    have hcap:¬(Builtin.nextslicecap (sl+l) sc*ti.bytes>2 ^ 48):=by
      have h1:=nextslicecap_le hgrow
      rw[hbt]
      have h2:Builtin.nextslicecap (sl+l) sc*a.by_≤(2*(sl+l)+1000)*1024:=Nat.mul_le_mul h1 hby
      have h3:(2:Nat) ^ 48=281474976710656:=rfl
      omega
    have hroom:∀k w,(askRoom k).run P w=.ok () w:=fun k w=>by unfold askRoom; split <;> rfl
    have hmax:¬(((sl+l:Nat):Int)>IntKind.i64.max):=by
      have:IntKind.i64.max=9223372036854775807:=rfl
      rw[this]; omega
    have hch:∀w:World,(choose (.appendCap (sl+l) sc a.el)).run P w=.ok (sl+l+(w.tape w.drawn (.appendCap (sl+l) sc a.el))%(2 ^ 63-(sl+l))) { w with drawn:=w.drawn+1}:=fun w=>rfl
    cases d' <;> first | (simp[isIntD] at hdi; done) | skip
    all_goals
      simp only[pure_bind,Bool.false_eq_true,if_false,Bool.not_false,if_true]
      rw[run_ok_bind (hlen w),if_neg (by omega),run_ok_bind (hti w),if_neg (fun h=>hmax h.1),run_ok_bind (hti w),if_neg hcap,run_ok_bind (hch w),run_ok_bind (hti _),run_ok_bind (hroom _ _),
        run_ok_bind (hold _),run_ok_bind (hnew _),run_ok_bind (hzr _)]
      simp only[Nat.add_sub_cancel_left,← List.append_toArray,Array.toArray_toList]
def appendC (P:Program) (H:Heap) (n:Nat) (t t':TypeId) (s x:AV) (K:AV→Heap→Nat→Prop):Prop:=
  notIntT P t'=true∧match appT P t with
  | none=>False
  | some a=>(match x with | .st _=>a.e=1 | _=>True)∧srcK H a.e x fun l new=>
    match s with
    | .sn=>(l=0→K .sn H n)∧(0<l→l≤4294967296∧K (.su n 0 l a.e) (H.upd n (some ⟨new,a.el,false⟩)) (n+1))
    | .sl b o sl c=>match H b with
      | some blk=>o+sl*a.e≤blk.cells.length∧
          (sl+l≤c→blk.ro=false∧o+(sl+l)*a.e≤blk.cells.length∧K (.sl b o (sl+l) c) (H.upd b (some { blk with cells:=splice blk.cells (o+sl*a.e) new})) n)∧
          (c<sl+l→sl+l≤4294967296∧K (.su n 0 (sl+l) a.e) (H.upd n (some ⟨(blk.cells.drop o).take (sl*a.e)++new,a.el,false⟩)) (n+1))
      | none=>False
    | .su b o sl e=>match H b with
      | some blk=>e=a.e∧o=0∧blk.ro=false∧blk.elem=a.el∧sl*a.e≤blk.cells.length∧sl+l≤4294967296∧
          K (.su n 0 (sl+l) a.e) ((H.upd b none).upd n (some ⟨blk.cells.take (sl*a.e)++new,a.el,false⟩)) (n+1)
      | none=>False
    | _=>False
def intT (P:Program) (t:TypeId):Bool:=match P.underlying t with
  | some (.int _)=>true
  | _=>false
def appendZ (P:Program) (H:Heap) (n:Nat) (t t':TypeId) (s x:AV) (K:AV→Heap→Nat→Prop):Prop:=
  intT P t'=true∧match appT P t,s,x with
  | some a,.sn,.i64 l=>0<l∧l≤4294967296∧K (.su n 0 l.toNat a.e) (H.upd n (some ⟨repCells l.toNat a.z,a.el,false⟩)) (n+1)
  | _,_,_=>False
def appendK (P:Program) (H:Heap) (n:Nat) (t t':TypeId) (s x:AV) (K:AV→Heap→Nat→Prop):Prop:=
  if notIntT P t'=true then appendC P H n t t' s x K else appendZ P H n t t' s x K
theorem append_zero {P:Program} {t t' ty:TypeId} {a:AppT} {l:Nat} {w:World} {new:List Value} (ha:appT P t=some a) (hni:intT P t'=true) (hl:0<l) (hsmall:l≤4294967296)
    (hnew:∀zv:Value,(∀w,(zeroValue a.el).run P w=.ok zv w)→(∀m:NM,zv.cells.toList=a.z.map (AV.toV m))→(Builtin.zeroCells zv.cells l).toList=new) (hn:new.length=l*a.e):
    ∃ (cap:Nat) (rest:List Value) (d:Nat),l≤cap∧(new++rest).length=cap*a.e∧
      (Builtin.append_ #[t,t'] ty #[.slice none 0 0,.int .i64 l]).run P w=(do pure (.slice (some (← newRow a.el (new++rest).toArray)) l cap):Sem Value).run P { w with drawn:=d}:=by
  obtain⟨hel,hz,hzl,he0,hby⟩:=appT_spec ha
  obtain⟨hu,hs,ti,hti,hbt⟩:=elT_spec hel
  obtain⟨zv,hzr,hzm,hzok⟩:=zeroT_spec hz
  have hsp:∃k,P.underlying t'=some (.int k):=by
    unfold intT at hni
    split at hni
    · rename_i k h; exact⟨k,h⟩
    · simp at hni
  obtain⟨kd,hkd⟩:=hsp
  have hzsz:zv.cells.size=a.e:=by rw[← Array.length_toList,hzm ⟨fun _=>0,fun _=>0,fun _=>0⟩]; simpa using hzl
  refine⟨l+(w.tape w.drawn (.appendCap l 0 a.el))%(2 ^ 63-l),(Builtin.zeroCells zv.cells ((w.tape w.drawn (.appendCap l 0 a.el))%(2 ^ 63-l))).toList,w.drawn+1,by omega,?_,?_⟩
  · simp only[List.length_append,hn,Builtin.zeroCells,Array.length_toList,Array.size_map,Array.size_range,hzsz]
    rw[← Nat.add_mul]
  · simp only[Builtin.append_,List.getElem?_toArray,List.getElem?_cons_zero,List.getElem?_cons_succ]
    rw[run_ok_bind (run_underlying hu w)]
    dsimp only
    rw[run_ok_bind (hs w),run_ok_bind (run_underlying hkd w)]
    have hcap:¬(Builtin.nextslicecap (0+l) 0*ti.bytes>2 ^ 48):=by
      have h1:=nextslicecap_le (need:=0+l) (cap:=0) (by omega)
      rw[hbt]
      have h2:Builtin.nextslicecap (0+l) 0*a.by_≤(2*(0+l)+1000)*1024:=Nat.mul_le_mul h1 hby
      have h3:(2:Nat) ^ 48=281474976710656:=rfl
      omega
    have hroom:∀k w,(askRoom k).run P w=.ok () w:=fun k w=>by unfold askRoom; split <;> rfl
    have hmax:¬(((0+l:Nat):Int)>IntKind.i64.max):=by
      have:IntKind.i64.max=9223372036854775807:=rfl
      rw[this]; omega
    have hch:∀w:World,(choose (.appendCap (0+l) 0 a.el)).run P w=.ok (l+(w.tape w.drawn (.appendCap l 0 a.el))%(2 ^ 63-l)) { w with drawn:=w.drawn+1}:=fun w=>by rw[Nat.zero_add]; rfl
    have hwr:IntKind.i64.wrap (l:Int)=l:=wrap64_small _ (by omega) (by omega)
    have hint:∀w,(asInt (.int .i64 l)).run P w=.ok (l:Int) w:=fun w=>rfl
    have hbig:¬((l:Int)*ti.bytes>2 ^ 48):=by
      rw[hbt]
      have h2:l*a.by_≤4294967296*1024:=Nat.mul_le_mul hsmall hby
      have h3:(2:Int) ^ 48=281474976710656:=rfl
      rw[h3]
      have:((l*a.by_:Nat):Int)=(l:Int)*a.by_:=by simp
      omega
    have hsz0:¬(l*a.e=0):=by
      intro h
      rcases Nat.mul_eq_zero.1 h with h | h <;> omega
    have hfc:∀w,(Builtin.firstCells a.e 0 (.slice none 0 0)).run P w=.ok #[] w:=fun w=>by simp[Builtin.firstCells,run_pure]
    simp only[pure_bind,if_true]
    rw[run_ok_bind (hint w)]
    simp only[hwr]
    rw[if_neg (by omega),run_ok_bind (hti w),if_neg hbig]
    simp only[Int.toNat_natCast]
    rw[if_neg (by omega),run_ok_bind (hti w),if_neg (fun h=>hmax h.1),run_ok_bind (hti w),if_neg hcap,
      run_ok_bind (hch w),run_ok_bind (hti _),run_ok_bind (hroom _ _),run_ok_bind (hfc _)]
    simp only[Bool.not_true,Bool.false_eq_true,if_false,if_neg hsz0]
    have hz2:∀w,(do pure (Builtin.zeroCells (← zeroValue a.el).cells l):Sem (Array Value)).run P w=.ok (Builtin.zeroCells zv.cells l) w:=fun w=>by rw[run_ok_bind (hzr w)]; rfl
    rw[run_ok_bind (hz2 _),run_ok_bind (hzr _)]
    have hnw:=hnew zv hzr hzm
    simp only[Nat.zero_add,Nat.add_sub_cancel_left,← hnw,← List.append_toArray,Array.toArray_toList,Array.empty_append]
theorem append_new {P:Program} {m:NM} {H:Heap} {n:Nat} {w:World} (hH:HRel m H n w) {t t' ty:TypeId} {a:AppT} {base:Option Addr} {sl sc l:Nat} {X:Value} {old new:List AV} (ha:appT P t=some a) (hni:notIntT P t'=true)
    (hgrow:sc<sl+l) (hsmall:sl+l≤4294967296)
    (hlen:∀w,(Builtin.lenOf X).run P w=.ok l w) (hold:∀w,HRel m H n w→(Builtin.firstCells a.e sl (.slice base sl sc)).run P w=.ok (old.map (AV.toV m)).toArray w)
    (hnew:∀w,HRel m H n w→(Builtin.firstCells a.e l X).run P w=.ok (new.map (AV.toV m)).toArray w) (ho:old.length=sl*a.e) (hn:new.length=l*a.e)
    (hok:∀v∈old++new,v.ok n=true∧v.one=true):
    ∃ m' w' x,(Builtin.append_ #[t,t'] ty #[.slice base sl sc,X]).run P w=.ok x w'∧HRel m' (H.upd n (some ⟨old++new,a.el,false⟩)) (n+1) w'∧NM.agree n m m'∧
      Fr m H w m' (H.upd n (some ⟨old++new,a.el,false⟩)) w'∧x=AV.toV m' (.su n 0 (sl+l) a.e):=by
  obtain⟨_,_,_,he0,_⟩:=appT_spec ha
  have hd:∀d,HRel m H n { w with drawn:=d}:=fun d=>⟨hH.dom,hH.blk,hH.inj,hH.ok⟩
  obtain⟨cap,rest,d,hcap,hclen,hrun⟩:=append_grow (P:=P) (t:=t) (t':=t') (ty:=ty) (base:=base) (X:=X) (old:=old.map (AV.toV m)) (new:=new.map (AV.toV m)) (w:=w) ha hni hgrow hsmall hlen
    (fun d=>hold _ (hd d)) (fun d=>hnew _ (hd d)) (by simpa using ho) (by simpa using hn)
  have hA:=(hd d).alloc (c:=(old.map (AV.toV m)++new.map (AV.toV m)++rest).toArray) (fz:=(0,0)) (blk:=⟨old++new,a.el,false⟩) (fun k _=>by unfold freeAt; omega) (fun j v hj=>by
    rw[List.getElem?_toArray,List.getElem?_append_left,← List.map_append,List.getElem?_map]
    · simp only at hj; rw[hj]; rfl
    · have:j<(old++new).length:=by
        rcases Nat.lt_or_ge j (old++new).length with h | h
        · exact h
        · simp only at hj; rw[List.getElem?_eq_none h] at hj; simp at hj
      simpa using this) hok
  refine⟨_,_,_,?_,hA.1,NM.new_agree _ _ _ _,⟨hA.2.os,hA.2.tape,hA.2.output,hA.2.size,hA.2.keep,hA.2.own⟩,rfl⟩
  rw[hrun]
  have hdiv:cap*a.e / a.e=cap:=Nat.mul_div_cancel _ he0
  simp only[newRow,newObj,AV.toV,NM.new,if_true,Nat.sub_zero,List.size_toArray,hclen,hdiv]
  rfl
theorem append_newZ {P:Program} {m:NM} {H:Heap} {n:Nat} {w:World} (hH:HRel m H n w) {t t' ty:TypeId} {a:AppT} {l:Nat} (ha:appT P t=some a) (hni:intT P t'=true)
    (hl:0<l) (hsmall:l≤4294967296):
    ∃ m' w' x,(Builtin.append_ #[t,t'] ty #[.slice none 0 0,.int .i64 l]).run P w=.ok x w'∧HRel m' (H.upd n (some ⟨repCells l a.z,a.el,false⟩)) (n+1) w'∧NM.agree n m m'∧
      Fr m H w m' (H.upd n (some ⟨repCells l a.z,a.el,false⟩)) w'∧x=AV.toV m' (.su n 0 l a.e):=by
  obtain⟨hel,hz,hzl,he0,_⟩:=appT_spec ha
  obtain⟨_,_,_,hzok⟩:=zeroT_spec hz
  have hd:∀d,HRel m H n { w with drawn:=d}:=fun d=>⟨hH.dom,hH.blk,hH.inj,hH.ok⟩
  obtain⟨cap,rest,d,hcap,hclen,hrun⟩:=append_zero (P:=P) (t:=t) (t':=t') (ty:=ty) (w:=w) (new:=(repCells l a.z).map (AV.toV m)) ha hni hl hsmall
    (fun zv _ hm=>by
      have:=rep_eq (m:=m) (zv:=zv.cells) (hm m) l
      rw[← this,Builtin.zeroCells]
      have hsz:zv.cells.size=a.z.length:=by rw[← Array.length_toList,hm m]; simp
      rw[hsz]) (by simp[rep_length,hzl])
  have hA:=(hd d).alloc (c:=((repCells l a.z).map (AV.toV m)++rest).toArray) (fz:=(0,0)) (blk:=⟨repCells l a.z,a.el,false⟩) (fun k _=>by unfold freeAt; omega) (fun j v hj=>by
    rw[List.getElem?_toArray,List.getElem?_append_left,List.getElem?_map]
    · simp only at hj; rw[hj]; rfl
    · have:j<(repCells l a.z).length:=by
        rcases Nat.lt_or_ge j (repCells l a.z).length with h | h
        · exact h
        · simp only at hj; rw[List.getElem?_eq_none h] at hj; simp at hj
      simpa using this) (fun v hv=>⟨(hzok v (rep_mem hv)).1 _,(hzok v (rep_mem hv)).2⟩)
  refine⟨_,_,_,?_,hA.1,NM.new_agree _ _ _ _,⟨hA.2.os,hA.2.tape,hA.2.output,hA.2.size,hA.2.keep,hA.2.own⟩,rfl⟩
  rw[hrun]
  have hdiv:cap*a.e / a.e=cap:=Nat.mul_div_cancel _ he0
  simp only[newRow,newObj,AV.toV,NM.new,if_true,Nat.sub_zero,List.size_toArray,hclen,hdiv]
  rfl
end Go.Ab
namespace Go.Ab
theorem append_fits {P:Program} {t t' ty:TypeId} {a:AppT} {B off sl sc l:Nat} {X:Value} {new:List Value} {w:World} {c:Array Value} {el:TypeId} {fz:Nat×Nat} (ha:appT P t=some a) (hni:notIntT P t'=true)
    (hfit:sl+l≤sc) (hlen:∀w,(Builtin.lenOf X).run P w=.ok l w) (hnew:(Builtin.firstCells a.e l X).run P w=.ok new.toArray w) (hn:new.length=l*a.e)
    (hc:w.heap[B]?=some (.cells c el fz)) (hsz:off+(sl+l)*a.e≤c.size) (hf:∀k,k<c.size→freeAt fz k) (hone:∀v∈new,vOne v=true):
    (Builtin.append_ #[t,t'] ty #[.slice (some ⟨B,off,none⟩) sl sc,X]).run P w=.ok (.slice (some ⟨B,off,none⟩) (sl+l) sc) (setRow w B (splice c.toList (off+sl*a.e) new).toArray el fz):=by
  obtain⟨hel,hz,hzl,he0,hby⟩:=appT_spec ha
  obtain⟨hu,hs,ti,hti,hbt⟩:=elT_spec hel
  obtain⟨d',hd0,hdi⟩:=notIntT_spec hni
  have hst:=run_storeCells (P:=P) (off:=off+sl*a.e) new 0 w c hc (by rw[hn]; rw[Nat.add_mul] at hsz; omega) hf hone
  simp only[Nat.add_zero] at hst
  simp only[Builtin.append_,List.getElem?_toArray,List.getElem?_cons_zero,List.getElem?_cons_succ]
  rw[run_ok_bind (run_underlying hu w)]
  dsimp only
  rw[run_ok_bind (hs w),run_ok_bind (run_underlying hd0 w)]
  cases d' <;> first | (simp[isIntD] at hdi; done) | skip
  all_goals
    simp only[pure_bind,Bool.false_eq_true,if_false,Bool.not_false,if_true]
    rw[run_ok_bind (hlen w),if_pos hfit,run_ok_bind hnew,add_addr,run_ok_bind hst]
    rfl
theorem HRel.regrow {m:NM} {H:Heap} {n:Nat} {w:World} (h:HRel m H n w) {b:Nat} {blk:Blk} (hb:H b=some blk) (hro:blk.ro=false) {c c':Array Value} {fz:Nat×Nat} {cells:List AV}
    (hc:w.heap[m.ρ b]?=some (.cells c blk.elem fz)) (hk:m.κ b=c.size) (hf:∀k,k<c.size→freeAt fz k) (hsz:c'.size=c.size)
    (hv:∀(j:Nat) (v:AV),cells[j]?=some v→c'[j]?=some (AV.toV m v)) (hok:∀v∈cells,v.ok n=true∧v.one=true):
    HRel (m.new n (m.ρ b) (m.κ b)) ((H.upd b none).upd n (some ⟨cells,blk.elem,false⟩)) (n+1) (setRow w (m.ρ b) c' blk.elem fz)∧
      Fr m H w (m.new n (m.ρ b) (m.κ b)) ((H.upd b none).upd n (some ⟨cells,blk.elem,false⟩)) (setRow w (m.ρ b) c' blk.elem fz):=by
  have hlt:=lt_of_heap hc
  have hag:=NM.new_agree m n (m.ρ b) (m.κ b)
  have hold:∀i x,((H.upd b none).upd n (some ⟨cells,blk.elem,false⟩)) i=some x→i≠n→i≠b∧H i=some x:=fun i x hi hne=>by
    rw[Heap.upd_ne _ _ hne] at hi
    by_cases hib:i=b
    · subst hib; rw[Heap.upd_same] at hi; simp at hi
    · rw[Heap.upd_ne _ _ hib] at hi; exact⟨hib,hi⟩
  refine⟨⟨?_,?_,?_,?_⟩,⟨rfl,rfl,rfl,by simp[setRow],?_,?_⟩⟩
  · intro i x hi
    by_cases hn:i=n
    · omega
    · have:=h.dom i x (hold i x hi hn).2; omega
  · intro i x hi
    by_cases hn:i=n
    · subst hn
      rw[Heap.upd_same] at hi
      simp only[Option.some.injEq] at hi; subst hi
      refine⟨c',fz,?_,?_,fun _=>⟨by simp[NM.new],fun k hk'=>hf k (by omega)⟩,?_⟩
      · simp only[NM.new,if_true]; rw[heap_setRow hlt,if_pos rfl]
      · simp only[NM.new,if_true]; omega
      · intro j v hj; rw[show(m.new i (m.ρ b) (m.κ b)).β i+j=j by simp[NM.new],hv j v hj,AV.toV_agree hag v (hok v (List.mem_of_getElem? hj)).1]
    · obtain⟨hib,hi'⟩:=hold i x hi hn
      obtain⟨ci,fi,hci,hki,hfi,hvi⟩:=h.blk i x hi'
      refine⟨ci,fi,?_,?_,fun h0=>⟨by simp only[NM.new,if_neg hn]; exact(hfi h0).1,(hfi h0).2⟩,?_⟩
      · simp only[NM.new,if_neg hn]
        rw[heap_setRow hlt,if_neg (fun e=>h.inj b i blk x hb hi' (fun e'=>hib e'.symm) hro e)]
        exact hci
      · simp only[NM.new,if_neg hn]; exact hki
      · intro j v hj; rw[show(m.new n (m.ρ b) (m.κ b)).β i=m.β i by simp only[NM.new,if_neg hn],hvi j v hj,AV.toV_agree hag v (h.ok i x hi' v (List.mem_of_getElem? hj)).1]
  · intro i j bi bj hi hj hne hr
    by_cases hni:i=n
    · subst hni
      obtain⟨hjb,hj'⟩:=hold j bj hj (fun e=>hne e.symm)
      simp only[NM.new,if_true]; rw[if_neg (fun e=>hne e.symm)]
      exact h.inj b j blk bj hb hj' (fun e=>hjb e.symm) hro
    · obtain⟨hib,hi'⟩:=hold i bi hi hni
      by_cases hnj:j=n
      · subst hnj; simp only[NM.new,if_true]; rw[if_neg hni]
        exact fun e=>h.inj b i blk bi hb hi' (fun e=>hib e.symm) hro e.symm
      · simp only[NM.new]; rw[if_neg hni,if_neg hnj]; exact h.inj i j bi bj hi' (hold j bj hj hnj).2 hne hr
  · intro i x hi v hv'
    by_cases hn:i=n
    · subst hn
      rw[Heap.upd_same] at hi
      simp only[Option.some.injEq] at hi; subst hi
      exact⟨AV.ok_mono (by omega) v (hok v hv').1,(hok v hv').2⟩
    · have:=h.ok i x (hold i x hi hn).2 v hv'
      exact⟨AV.ok_mono (by omega) v this.1,this.2⟩
  · intro k hk' hne
    rw[heap_setRow hlt,if_neg (hne b blk hb hro)]
  · intro i x hi
    by_cases hn:i=n
    · subst hn; exact .inl ⟨b,blk,hb,fun _=>hro,by simp[NM.new]⟩
    · exact .inl ⟨i,x,(hold i x hi hn).2,id,by simp[NM.new,hn]⟩
theorem append_sound {P:Program} {env:Env} {H:Heap} {o:Oper} {s x:Operand} {t t':TypeId} {n:Nat} {K:AV→Heap→Nat→Prop} (ho:o.op=.call ⟨.builtin .append,#[s,x],#[t,t']⟩)
    (h:appendK P H n t t' (opv env s) (opv env x) K):
    ∀(m:NM) (N:Nat) (ac:Act) (w:World),HRel m H n w→ERel m N n env ac→∃v H' n',K v H' n'∧OpRes m H n w v H' n' ((execOp ac.eval o).run P w):=by
  intro m N ac w hH hE
  generalize hs:opv env s=vs at h
  generalize hx:opv env x=vx at h
  unfold appendK at h
  split at h
  rotate_left
  · obtain⟨hni,h⟩:=h
    split at h <;> try exact h.elim
    rename_i a l ha
    obtain⟨h0,hsm,hK⟩:=h
    obtain⟨k,rfl⟩:=Int.eq_ofNat_of_zero_le (Int.le_of_lt h0)
    have es:=(eval_opv hE s (by rw[hs]; simp)).1
    have ex:=(eval_opv hE x (by rw[hx]; simp)).1
    rw[hs] at es; rw[hx] at ex
    obtain⟨m',w',r,hrun,hH',hag,hF,hr⟩:=append_newZ (ty:=o.type) hH ha hni (l:=k) (by omega) (by omega)
    have he0:=(appT_spec ha).2.2.2.1
    refine⟨_,_,_,hK,m',w',hH',Nat.le_succ _,hag,hF,.inl ⟨r,?_,fun _=>⟨hr,by simp[AV.ok,he0]⟩⟩⟩
    refine call_append ho ?_
    have e3:(#[s,x].map ac.eval)= #[ac.eval s,ac.eval x]:=by simp
    rw[e3,es,ex]
    exact hrun
  unfold appendC at h
  obtain⟨hni,h⟩:=h
  split at h <;> try exact h.elim
  rename_i a ha
  obtain⟨hst,h⟩:=h
  obtain⟨hel,hz,hzl,he0,hby⟩:=appT_spec ha
  obtain⟨l,new,h1,hlen,hxj,hlenOf,hsrc⟩:=srcK_spec (P:=P) h (fun q hq=>by rw[hq] at hst; exact hst)
  clear h
  have h:=h1
  clear h1
  have ex:=(eval_opv hE x (by rw[hx]; exact hxj)).1
  rw[hx] at ex
  have hsj:vs≠ .junk:=by rintro rfl; exact h
  have es:=eval_opv hE s (by rw[hs]; exact hsj)
  rw[hs] at es
  have e3:(#[s,x].map ac.eval)= #[ac.eval s,ac.eval x]:=by simp
  have hnewok:=(hsrc m n w hH).1
  have hnew:∀w,HRel m H n w→(Builtin.firstCells a.e l (AV.toV m vx)).run P w=.ok (new.map (AV.toV m)).toArray w:=fun w hw=>by
    have:=(hsrc m n w hw).2 l (Nat.le_refl _)
    rwa [List.take_of_length_le (by omega)] at this
  have fin:∀ {v:AV} {H':Heap} {n':Nat} {m':NM} {w':World} {r:Value},K v H' n'→HRel m' H' n' w'→n≤n'→NM.agree n m m'→Fr m H w m' H' w'→
      (Builtin.append_ #[t,t'] o.type #[AV.toV m vs,AV.toV m vx]).run P w=.ok r w'→r=AV.toV m' v→v.ok n'=true→∃v H' n',K v H' n'∧OpRes m H n w v H' n' ((execOp ac.eval o).run P w):=by
    intro v H' n' m' w' r hK h1 h2 h3 h4 h5 h6 h7
    refine⟨v,H',n',hK,m',w',h1,h2,h3,h4,.inl ⟨r,call_append ho ?_,fun _=>⟨h6,h7⟩⟩⟩
    rw[e3,es.1,ex]; exact h5
  cases vs <;> simp only at h <;> try exact h.elim
  case sn=>
    rcases Nat.eq_zero_or_pos l with h0 | hpos
    · have hK:=h.1 h0
      subst h0
      refine fin hK hH (Nat.le_refl _) (NM.agree.refl _ _) (Fr.refl _ _ _) (r:=.slice none 0 0) ?_ rfl rfl
      obtain⟨hu,hsz,_⟩:=elT_spec hel
      obtain⟨d',hd0,hdi⟩:=notIntT_spec hni
      have hn0:new=[]:=List.length_eq_zero_iff.1 (by omega)
      have hnw:=hnew w hH
      rw[hn0] at hnw
      simp only[Builtin.append_,AV.toV,List.getElem?_toArray,List.getElem?_cons_zero,List.getElem?_cons_succ]
      rw[run_ok_bind (run_underlying hu w)]
      dsimp only
      rw[run_ok_bind (hsz w),run_ok_bind (run_underlying hd0 w)]
      cases d' <;> first | (simp[isIntD] at hdi; done) | skip
      all_goals
        simp only[pure_bind,Bool.false_eq_true,if_false,Bool.not_false,if_true]
        rw[run_ok_bind (hlenOf w m),if_pos (by omega),run_ok_bind hnw]
        rfl
    · obtain⟨hsm,hK⟩:=h.2 hpos
      obtain⟨m',w',r,hrun,hH',hag,hF,hr⟩:=append_new (ty:=o.type) (base:=none) (sl:=0) (sc:=0) (old:=[]) hH ha hni (by omega) (by omega) (fun w=>hlenOf w m)
        (fun w _=>by simp[Builtin.firstCells,run_pure]) hnew (by simp) hlen (by simpa using hnewok)
      simp only[List.nil_append] at hH' hF
      refine fin hK hH' (by omega) hag hF hrun (by rw[hr,Nat.zero_add]) (by simp[AV.ok,he0])
  case sl b off sl c=>
    split at h <;> try exact h.elim
    rename_i blk hb
    obtain⟨hfit,hin,hout⟩:=h
    have hold:∀w,HRel m H n w→(Builtin.firstCells a.e sl (.slice (some ⟨m.ρ b,m.β b+off,none⟩) sl c)).run P w=.ok (((blk.cells.drop off).take (sl*a.e)).map (AV.toV m)).toArray w:=fun w hw=>by
      simp only[Builtin.firstCells]
      exact(hw.load_many (P:=P) hb hfit).1
    have holdok:=(hH.load_many (P:=P) hb hfit).2
    rcases Nat.lt_or_ge c (sl+l) with hlt | hge
    · obtain⟨hsm,hK⟩:=hout hlt
      obtain⟨m',w',r,hrun,hH',hag,hF,hr⟩:=append_new (ty:=o.type) (base:=some ⟨m.ρ b,m.β b+off,none⟩) (sl:=sl) (sc:=c) (old:=(blk.cells.drop off).take (sl*a.e)) hH ha hni hlt hsm (fun w=>hlenOf w m)
        hold hnew (by simp; omega) hlen (fun v hv=>by
          rcases List.mem_append.1 hv with hv | hv
          · exact holdok v hv
          · exact hnewok v hv)
      exact fin hK hH' (by omega) hag hF hrun hr (by simp[AV.ok,he0])
    · obtain⟨hro,hsz,hK⟩:=hin hge
      obtain⟨hβ,cc,fz,hc,hk,hle,hf,hv⟩:=hH.rowW hb hro
      have hrun:=append_fits (P:=P) (t:=t) (t':=t') (ty:=o.type) (B:=m.ρ b) (off:=m.β b+off) (sl:=sl) (sc:=c) (X:=AV.toV m vx) (new:=new.map (AV.toV m)) ha hni hge (fun w=>hlenOf w m) (hnew w hH) (by simpa using hlen) hc (by rw[hβ]; omega) hf
        (fun y hy=>by obtain⟨z,hz,rfl⟩:=List.mem_map.1 hy; exact vOne_toV m (hnewok z hz).2)
      have hst:=hH.store (P:=P) (off:=off+sl*a.e) hb hro (vs:=new) (by rw[hlen]; rw[Nat.add_mul] at hsz; omega) hnewok
      obtain⟨w',hr',hH',hF⟩:=hst
      have hsame:=run_storeCells (P:=P) (off:=m.β b+(off+sl*a.e)) (new.map (AV.toV m)) 0 w cc hc (by rw[hβ]; simp[hlen]; rw[Nat.add_mul] at hsz; omega) hf (fun y hy=>by obtain⟨z,hz,rfl⟩:=List.mem_map.1 hy; exact vOne_toV m (hnewok z hz).2)
      rw[hr'] at hsame
      simp only[Result.ok.injEq,true_and,Nat.add_zero] at hsame
      rw[Nat.add_assoc (m.β b),← hsame] at hrun
      exact fin hK hH' (Nat.le_refl _) (NM.agree.refl _ _) hF hrun rfl (by have:=es.2; simpa [AV.ok] using this)
  case su b off sl e=>
    split at h <;> try exact h.elim
    rename_i blk hb
    obtain⟨rfl,rfl,hro,hel',hfit,hsm,hK⟩:=h
    obtain⟨hβ,cc,fz,hc,hk,hle,hf,hv⟩:=hH.rowW hb hro
    have hfit':0+sl*a.e≤blk.cells.length:=by omega
    have hold:∀w,HRel m H n w→(Builtin.firstCells a.e sl (.slice (some ⟨m.ρ b,m.β b+0,none⟩) sl ((m.κ b-0) / a.e))).run P w=.ok ((blk.cells.take (sl*a.e)).map (AV.toV m)).toArray w:=fun w hw=>by
      simp only[Builtin.firstCells]
      have:=(hw.load_many (P:=P) hb hfit').1
      rwa [List.drop_zero] at this
    have holdok:=(hH.load_many (P:=P) hb hfit').2
    rw[List.drop_zero] at holdok
    have hallok:∀v∈blk.cells.take (sl*a.e)++new,v.ok n=true∧v.one=true:=fun v hv=>by
      rcases List.mem_append.1 hv with hv | hv
      · exact holdok v hv
      · exact hnewok v hv
    rcases Nat.lt_or_ge ((m.κ b-0) / a.e) (sl+l) with hlt | hge
    · obtain⟨m',w',r,hrun,hH',hag,hF,hr⟩:=append_new (ty:=o.type) (base:=some ⟨m.ρ b,m.β b+0,none⟩) (sl:=sl) (sc:=(m.κ b-0) / a.e) (old:=blk.cells.take (sl*a.e)) hH ha hni hlt hsm (fun w=>hlenOf w m)
        hold hnew (by simp; omega) hlen hallok
      have hle2:((H.upd b none).upd n (some ⟨blk.cells.take (sl*a.e)++new,a.el,false⟩)).le (H.upd n (some ⟨blk.cells.take (sl*a.e)++new,a.el,false⟩)):=fun i y hi=>by
        by_cases hn:i=n
        · subst hn; rw[Heap.upd_same] at hi ⊢; exact⟨y,hi,rfl,rfl,List.prefix_refl _⟩
        · rw[Heap.upd_ne _ _ hn] at hi ⊢
          by_cases hib:i=b
          · subst hib; rw[Heap.upd_same] at hi; simp at hi
          · rw[Heap.upd_ne _ _ hib] at hi; exact⟨y,hi,rfl,rfl,List.prefix_refl _⟩
      exact fin hK (hH'.weaken hle2) (by omega) hag (hF.weaken hle2) hrun hr (by simp[AV.ok,he0])
    · have hcap:(sl+l)*a.e≤cc.size:=by
        have:=(Nat.le_div_iff_mul_le he0).1 hge
        omega
      have hone:∀y∈new.map (AV.toV m),vOne y=true:=fun y hy=>by obtain⟨z,hz,rfl⟩:=List.mem_map.1 hy; exact vOne_toV m (hnewok z hz).2
      have hrun:=append_fits (P:=P) (t:=t) (t':=t') (ty:=o.type) (B:=m.ρ b) (off:=0) (sl:=sl) (sc:=(m.κ b-0) / a.e) (X:=AV.toV m vx) (new:=new.map (AV.toV m)) ha hni hge (fun w=>hlenOf w m) (hnew w hH) (by simpa using hlen) hc (by omega) hf hone
      have hmul:(sl+l)*a.e=sl*a.e+l*a.e:=Nat.add_mul _ _ _
      have hspl:0+sl*a.e+(new.map (AV.toV m)).length≤cc.toList.length:=by simp[hlen]; omega
      have hG:=hH.regrow hb hro (c':=(splice cc.toList (0+sl*a.e) (new.map (AV.toV m))).toArray) (cells:=blk.cells.take (sl*a.e)++new) hc hk hf (by simp only[List.size_toArray]; rw[splice_length hspl]; simp) (fun j v hj=>by
        rw[List.getElem?_toArray,splice_get hspl]
        simp only[Nat.zero_add,List.length_map]
        by_cases h1:j<sl*a.e
        · rw[if_pos h1,Array.getElem?_toList]
          rw[List.getElem?_append_left (by simp; omega),List.getElem?_take,if_pos h1] at hj
          exact hv j v hj
        · rw[if_neg h1]
          rw[List.getElem?_append_right (by simp; omega)] at hj
          have hlt2:(blk.cells.take (sl*a.e)).length=sl*a.e:=by simp; omega
          rw[hlt2] at hj
          have hj2:j-sl*a.e<new.length:=by
            rcases Nat.lt_or_ge (j-sl*a.e) new.length with h | h
            · exact h
            · rw[List.getElem?_eq_none h] at hj; simp at hj
          rw[if_pos (by omega),List.getElem?_map,hj]; rfl) hallok
      rw[hel'] at hG
      rw[hel'] at hrun
      have e0:(⟨m.ρ b,0,none⟩:Addr)=⟨m.ρ b,m.β b+0,none⟩:=by rw[hβ]
      rw[e0] at hrun
      refine fin hK hG.1 (by omega) (NM.new_agree _ _ _ _) hG.2 hrun ?_ (by simp[AV.ok,he0])
      simp[AV.toV,NM.new,hβ]
end Go.Ab
namespace Go.Ab
def atK (K:AV→Heap→Nat→Prop) (H:Heap) (n:Nat) (v:AV):Prop:=K v H n
def atHK (K:AV→Heap→Nat→Prop) (n:Nat) (H:Heap):Prop:=K .junk H n
def atVHK (K:AV→Heap→Nat→Prop) (n:Nat) (v:AV) (H:Heap):Prop:=K v H n
def atStK (K:AV→Heap→Nat→Prop) (H:Heap) (n:Nat) (_:Nat) (cells:List AV):Prop:=cells.all isU8=true∧K (.st (strOf cells)) H n
def atRowK (K:AV→Heap→Nat→Prop) (H:Heap) (n len:Nat) (e:TypeId) (l:List AV):Prop:=K (.sl n 0 len len) (H.upd n (some ⟨l,e,false⟩)) (n+1)
def CallRes (P:Program) (r:Result Next) (R:Value→World→Prop):Prop:=
  match r with
  | .ok (.enter f args) w=>Calls P f args w fun e w'=>∃x,e=.returned x∧R x w'
  | .ok (.value x) w=>R x w
  | _=>False
def ACalls (P:Program) (f:FuncId) (args:List AV) (H:Heap) (n:Nat) (K:AV→Heap→Nat→Prop):Prop:=
  (∀v∈args,v≠ .junk)∧∀(m:NM) (w:World),HRel m H n w→(∀v∈args,v.ok n=true)→
    CallRes P ((callFunc f (args.map (AV.toV m)).toArray).run P w) fun x w'=>
      ∃(m':NM) (v:AV) (H':Heap) (n':Nat),(v≠ .junk→x=AV.toV m' v∧v.ok n'=true)∧HRel m' H' n' w'∧n≤n'∧NM.agree n m m'∧Fr m H w m' H' w'∧K v H' n'
theorem CallRes.mono {P:Program} {r:Result Next} {R R':Value→World→Prop} (h:CallRes P r R) (hr:∀x w,R x w→R' x w):CallRes P r R':=by
  unfold CallRes at*
  split at h <;> first | exact h.mono (fun e w' ⟨x,he,hx⟩=>⟨x,he,hr _ _ hx⟩) | exact hr _ _ h | exact h.elim
theorem ACalls.mono {P:Program} {f:FuncId} {args:List AV} {H:Heap} {n:Nat} {K K':AV→Heap→Nat→Prop} (h:ACalls P f args H n K) (hk:∀v H n,K v H n→K' v H n):ACalls P f args H n K':=
  ⟨h.1,fun m w hH ha=>(h.2 m w hH ha).mono fun _ _ ⟨m',v,H',n',h1,h2,h3,h4,h5,h6⟩=>⟨m',v,H',n',h1,h2,h3,h4,h5,hk _ _ _ h6⟩⟩
def mthT (P:Program) (t:TypeId) (name:String):Option FuncId:=
  match P.info? t with
  | some i=>match i.methods.find? (·.name==name) with
    | some m=>if m.path.isEmpty then(match m.func,P.underlying t with
      | some (f,true),some (.pointer _)=>some f
      | some (_,false),some (.pointer _)=>none
      | some (f,false),some _=>some f
      | _,_=>none) else none
    | none=>none
  | none=>none
def evCall (P:Program) (env:Env) (H:Heap) (n:Nat) (c:Call) (K:AV→Heap→Nat→Prop):Prop:=
  match c.callee with
  | .value f=>match opv env f with
    | .fn k caps=>ACalls P k (c.args.toList.map (opv env)++caps) H n K
    | _=>False
  | .invoke r name=>match opv env r with
    | .ifc t v=>match mthT P t name with
      | some k=>ACalls P k (v :: c.args.toList.map (opv env)) H n K
      | none=>False
    | _=>False
  | .builtin b=>match b,c.args.toList,c.argTypes.toList with
    | .len,[x],[t]=>lenK P t (opv env x) (atK K H n)
    | .cap,[x],[t]=>capK P t (opv env x) (atK K H n)
    | .max,[x,y],_=>mmK max (opv env x) (opv env y) (atK K H n)
    | .min,[x,y],_=>mmK min (opv env x) (opv env y) (atK K H n)
    | .copy,[x,y],[t,_]=>copyK P H t (opv env x) (opv env y) (atVHK K n)
    | .append,[x,y],[t,t']=>appendK P H n t t' (opv env x) (opv env y) K
    | _,_,_=>False
def evOp (P:Program) (env:Env) (H:Heap) (n:Nat):Op→(AV→Heap→Nat→Prop)→Prop
  | .load t a,K=>loadK P H t (opv env a) (atK K H n)
  | .store t a x,K=>storeK P H t (opv env a) (opv env x) (atHK K n)
  | .alloc t,K=>match zeroT P t with
    | some z=>K (.pt n 0) (H.upd n (some ⟨z,t,false⟩)) (n+1)
    | none=>False
  | .box t x,K=>partOk (opv env x)=true∧K (.pt n 0) (H.upd n (some ⟨cellsOf (opv env x),t,false⟩)) (n+1)
  | .build t parts,K=>buildK P t (parts.toList.map fun p=>(p.1,opv env p.2)) (atK K H n)
  | .buildSlice t len parts,K=>match elT P t with
    | some (e,sz,_)=>match zeroT P e with
      | some z=>z.length=sz∧len*sz≤16777216∧fillK (elPl sz) (atRowK K H n len e) (parts.toList.map fun p=>(p.1,opv env p.2)) (repCells len z)
      | none=>False
    | none=>False
  | .makeSlice t l c,K=>match elT P t,opv env l,opv env c with
    | some (e,sz,by_),.i64 ln,.i64 cp=>match zeroT P e with
      | some z=>z.length=sz∧0≤ln∧ln≤cp∧by_*cp≤281474976710656∧cp≤9223372036854775807∧K (.sl n 0 ln.toNat cp.toNat) (H.upd n (some ⟨repCells cp.toNat z,e,false⟩)) (n+1)
      | none=>False
    | _,_,_=>False
  | .convert s d x,K=>match convT P s d with
    | some .b2s=>readK H 1 (opv env x) (atStK K H n)
    | _=>pureK P env (.convert s d x) (atK K H n)
  | .slice t x lo hi mx,K=>match opv env x with
    | .su b o l e=>mx=none∧sliceSu P H t b o l e (bnd env 0 lo) (bnd env l hi) (atK K H n)
    | _=>pureK P env (.slice t x lo hi mx) (atK K H n)
  | .call c,K=>evCall P env H n c K
  | op,K=>pureK P env op (atK K H n)
theorem pure_res {P:Program} {env:Env} {H:Heap} {n:Nat} {o:Oper} {K:AV→Heap→Nat→Prop} (h:pureK P env o.op (atK K H n)) (m:NM) (N:Nat) (a:Act) (w:World) (hH:HRel m H n w) (hE:ERel m N n env a):
    ∃v H' n',K v H' n'∧OpRes m H n w v H' n' ((execOp a.eval o).run P w):=by
  obtain⟨v,hv,hp⟩:=pure_sound h
  obtain⟨x,hx,hxv⟩:=hp m N n a hE
  exact⟨v,H,n,hv,by rw[hx]; exact OpRes.same hH hxv⟩
theorem pureOk_res {P:Program} {env:Env} {H:Heap} {n:Nat} {o:Oper} {K:AV→Heap→Nat→Prop} (h:∃v,atK K H n v∧PureOk P env o v) (m:NM) (N:Nat) (a:Act) (w:World) (hH:HRel m H n w) (hE:ERel m N n env a):
    ∃v H' n',K v H' n'∧OpRes m H n w v H' n' ((execOp a.eval o).run P w):=by
  obtain⟨v,hv,hp⟩:=h
  obtain⟨x,hx,hxv⟩:=hp m N n a hE
  exact⟨v,H,n,hv,by rw[hx]; exact OpRes.same hH hxv⟩
def isGoCall:Op→Bool
  | .call ⟨.builtin _,_,_⟩=>false
  | .call _=>true
  | _=>false
theorem array_one {α:Type} {a:Array α} {x:α} (h:a.toList=[x]):a= #[x]:=by rw[← Array.toList_inj,h]
theorem array_two {α:Type} {a:Array α} {x y:α} (h:a.toList=[x,y]):a= #[x,y]:=by rw[← Array.toList_inj,h]
theorem op_res {P:Program} {env:Env} {H:Heap} {n:Nat} {o:Oper} {K:AV→Heap→Nat→Prop} (h:evOp P env H n o.op K) (hg:isGoCall o.op=false) (m:NM) (N:Nat) (a:Act) (w:World) (hH:HRel m H n w) (hE:ERel m N n env a):
    ∃v H' n',K v H' n'∧OpRes m H n w v H' n' ((execOp a.eval o).run P w):=by
  cases ho:o.op <;> rw[ho] at h hg <;> simp only[evOp] at h <;> try exact pure_res (by rw[ho]; exact h) m N a w hH hE
  case load t x=>
    obtain⟨v,hv,hr⟩:=load_sound ho h
    obtain⟨h1,h2⟩:=hr m N n a w hH hE
    exact⟨v,H,n,hv,by rw[h1]; exact OpRes.same hH fun _=>⟨rfl,h2⟩⟩
  case store t x y=>
    obtain⟨H',hK,hr⟩:=store_sound ho h
    exact⟨.junk,H',n,hK,hr m N n a w hH hE⟩
  case alloc t=>
    split at h <;> try exact h.elim
    rename_i z hz
    exact⟨_,_,_,h,alloc_sound ho hz m n a w hH⟩
  case box t x=>exact⟨_,_,_,h.2,box_sound ho h.1 m N n a w hH hE⟩
  case build t parts=>exact pureOk_res (build_sound ho h) m N a w hH hE
  case buildSlice t len parts=>
    split at h <;> try exact h.elim
    rename_i e sz by_ hel
    split at h <;> try exact h.elim
    rename_i z hz
    obtain⟨hzl,hsm,hf⟩:=h
    obtain⟨l',hK,hd⟩:=fillK_det _ _ hf
    exact⟨_,_,_,hK,buildSlice_sound ho hel hz hzl hsm hd m N n a w hH hE⟩
  case makeSlice t l c=>
    split at h <;> try exact h.elim
    rename_i e sz by_ ln cp hel hl hc
    split at h <;> try exact h.elim
    rename_i z hz
    obtain⟨hzl,h0,h1,h2,h3,hK⟩:=h
    exact⟨_,_,_,hK,makeSlice_sound ho hel hz hzl hl hc h0 h1 h2 h3 m N n a w hH hE⟩
  case convert s d x=>
    split at h
    · rename_i hc
      obtain⟨v,hv,hr⟩:=b2s_sound (K:=atK K H n) ho hc h
      obtain⟨h1,h2⟩:=hr m N n a w hH hE
      exact⟨v,H,n,hv,by rw[h1]; exact OpRes.same hH fun _=>⟨rfl,h2⟩⟩
    · exact pure_res (by rw[ho]; exact h) m N a w hH hE
  case slice t x lo hi mx=>
    split at h
    · rename_i b off l e hx
      obtain⟨rfl,h⟩:=h
      obtain⟨v,hv,h1,h2⟩:=sliceSu_sound ho hx h m N n a w hH hE
      exact⟨v,H,n,hv,by rw[h1]; exact OpRes.same hH fun _=>⟨rfl,h2⟩⟩
    · exact pure_res (by rw[ho]; exact h) m N a w hH hE
  case call c=>
    obtain⟨callee,args,ts⟩:=c
    cases callee <;> first | (simp[isGoCall] at hg; done) | skip
    rename_i b
    simp only[evCall] at h
    split at h <;> try exact h.elim
    all_goals rename_i hargs hts
    · rw[array_one hargs,array_one hts] at ho; exact pureOk_res (len_sound ho h) m N a w hH hE
    · rw[array_one hargs,array_one hts] at ho; exact pureOk_res (cap_sound ho h) m N a w hH hE
    · rw[array_two hts] at ho; exact pureOk_res (max_sound ho h) m N a w hH hE
    · rw[array_two hts] at ho; exact pureOk_res (min_sound ho h) m N a w hH hE
    · rw[array_two hargs,array_two hts] at ho
      obtain⟨v,H',hK,hr⟩:=copy_sound ho h
      exact⟨v,H',n,hK,hr m N n a w hH hE⟩
    · rw[array_two hargs,array_two hts] at ho
      exact append_sound ho h m N a w hH hE
end Go.Ab
namespace Go.Ab
theorem run_callFunc {P:Program} {f:FuncId} {fn:Func} (hf:P.funcs[f]?=some fn) (hn:(fn.name== "runtime.NumGoroutine")=false) (hb:fn.body.isNone=false) (args:Array Value) (w:World):
    (callFunc f args).run P w=.ok (.enter f args) w:=by
  simp only[callFunc,program,bind,Sem.bind,Sem.run,hf,hn,hb,Bool.false_eq_true,if_false,pure]
theorem upon_of_callRes {P:Program} {o:Oper} {a:Act} {next:Act→World→Prop} {Q:Exit→Act→World→Prop} {r:Result Next} {R:Value→World→Prop} (h:CallRes P r R)
    (hn:∀x w,R x w→next (a.put o.dst x) w):o.upon P a next Q r:=by
  unfold CallRes at h
  split at h <;> try exact h.elim
  · simp only[Oper.upon]
    exact h.mono fun e w' ⟨x,he,hx⟩=>by subst he; exact hn _ _ hx
  · exact hn _ _ h
def putE (dst:Option Tmp) (v:AV) (env:Env):Env:=match dst with
  | some d=>(d,v) :: env
  | none=>env
theorem ERel.putE {m:NM} {N n:Nat} {env:Env} {a:Act} (h:ERel m N n env a) {dst:Option Tmp} (hd:∀d,dst=some d→d<N) {v:AV} {x:Value} (hv:v≠ .junk→x=AV.toV m v∧v.ok n=true):
    ERel m N n (putE dst v env) (a.put dst x):=by
  cases dst with
  | none=>exact h
  | some d=>exact h.put (hd d rfl) hv
structure Inv (m0:NM) (H0:Heap) (n0:Nat) (w0:World) (m:NM) (H:Heap) (n:Nat) (w:World):Prop where
  rel:HRel m H n w
  le:n0≤n
  ag:NM.agree n0 m0 m
  fr:Fr m0 H0 w0 m H w
theorem Inv.step {m0 m m':NM} {H0 H H':Heap} {n0 n n':Nat} {w0 w w':World} (h:Inv m0 H0 n0 w0 m H n w) (hr:HRel m' H' n' w') (hle:n≤n') (hag:NM.agree n m m') (hf:Fr m H w m' H' w'):
    Inv m0 H0 n0 w0 m' H' n' w':=
  ⟨hr,Nat.le_trans h.le hle,h.ag.trans hag h.le,h.fr.trans hf⟩
def evOpsK (P:Program) (ops:List Oper) (dst:Option Tmp) (evR:Env→Heap→Nat→Prop) (env:Env) (v:AV) (H:Heap) (n:Nat):Prop:=evR (putE dst v env) H n
def evOps (P:Program) (all:List Oper):List Oper→(Env→Heap→Nat→Prop)→Env→Heap→Nat→Prop
  | [],k,env,H,n=>k env H n
  | o :: r,k,env,H,n=>
    match o.guard with
    | none=>evOp P env H n o.op (evOpsK P all o.dst (evOps P all r k) env)
    | some (j,want)=>
      match (all[j]?).bind (·.dst) with
      | none=>False
      | some t=>match env.get t with
        | .bo c=>(c=want→evOp P ((t,.bo want) :: env) H n o.op (evOpsK P all o.dst (evOps P all r k) ((t,.bo want) :: env)))∧
            (c=(!want)→evOps P all r k (putE o.dst (.tu []) ((t,.bo (!want)) :: env)) H n)
        | .tu []=>evOps P all r k (putE o.dst (.tu []) env) H n
        | _=>False
def dstsOk (N:Nat) (ops:List Oper):Bool:=ops.all fun o=>match o.dst with | some d=>decide (d<N) | none=>true
theorem call_wp {P:Program} {env:Env} {H:Heap} {n:Nat} {o:Oper} {K:AV→Heap→Nat→Prop} (hg:isGoCall o.op=true) (h:evOp P env H n o.op K) {m:NM} {N:Nat} {a:Act} {w:World} (hH:HRel m H n w) (hE:ERel m N n env a)
    {next:Act→World→Prop} {Q:Exit→Act→World→Prop}
    (hn:∀(m':NM) (v:AV) (H':Heap) (n':Nat) (w':World) (x:Value),K v H' n'→(v≠ .junk→x=AV.toV m' v∧v.ok n'=true)→HRel m' H' n' w'→n≤n'→NM.agree n m m'→Fr m H w m' H' w'→next (a.put o.dst x) w'):
    o.wp P a w next Q:=by
  cases ho:o.op <;> rw[ho] at hg h <;> first | (simp[isGoCall] at hg; done) | skip
  rename_i c
  obtain⟨callee,args,ts⟩:=c
  simp only[evOp,evCall] at h
  have hargs:∀(l:List Operand),(∀v∈l.map (opv env),v≠ .junk)→l.map a.eval=(l.map (opv env)).map (AV.toV m)∧∀v∈l.map (opv env),v.ok n=true:=fun l hl=>by
    have hj:∀x∈l,opv env x≠ .junk:=fun x hx=>hl _ (List.mem_map.2 ⟨x,hx,rfl⟩)
    refine⟨?_,fun v hv=>?_⟩
    · rw[List.map_map]; exact List.map_congr_left fun x hx=>(eval_opv hE x (hj x hx)).1
    · obtain⟨x,hx,rfl⟩:=List.mem_map.1 hv; exact(eval_opv hE x (hj x hx)).2
  unfold Oper.wp
  cases callee with
  | builtin b=>simp[isGoCall] at hg
  | value f=>
    simp only at h
    split at h <;> try exact h.elim
    rename_i k caps hf
    obtain⟨hj,hc⟩:=h
    have ef:=eval_opv hE f (by rw[hf]; simp)
    rw[hf] at ef
    have hA:=hargs args.toList (fun v hv=>hj v (List.mem_append_left _ hv))
    have hok2:∀v∈caps,v.ok n=true:=by
      have:=ef.2
      simp only[AV.ok,AV.oks_eq,List.all_eq_true] at this
      exact this
    have hrun:(execOp a.eval o).run P w=(callFunc k ((args.toList.map (opv env)++caps).map (AV.toV m)).toArray).run P w:=by
      simp only[execOp,ho,resolve,ef.1,AV.toV,Deferred.ofValue,pure_bind,invoke]
      congr 2
      rw[← Array.toList_inj]
      simp only[Array.toList_append,Array.toList_map,List.map_append,hA.1,AV.toVs_eq]
      simp
    rw[hrun]
    refine upon_of_callRes (hc m w hH fun v hv=>?_) fun x w' ⟨m',v,H',n',h1,h2,h3,h4,h5,h6⟩=>hn m' v H' n' w' x h6 h1 h2 h3 h4 h5
    rcases List.mem_append.1 hv with hv | hv
    · exact hA.2 v hv
    · exact hok2 v hv
  | invoke r name=>
    simp only at h
    split at h <;> try exact h.elim
    rename_i t v hr
    split at h <;> try exact h.elim
    rename_i k hk
    obtain⟨hj,hc⟩:=h
    have er:=eval_opv hE r (by rw[hr]; simp)
    rw[hr] at er
    have hA:=hargs args.toList (fun v hv=>hj v (List.mem_cons_of_mem _ hv))
    have hvok:v.ok n=true:=by have:=er.2; simpa [AV.ok] using this
    have hm:(method (P.types.size+Made.depth) t (AV.toV m v) name).run P w=.ok (k,AV.toV m v) w:=by
      unfold mthT at hk
      split at hk <;> try (simp at hk; done)
      rename_i i hi
      split at hk <;> try (simp at hk; done)
      rename_i mt hmt
      split at hk <;> try (simp at hk; done)
      rename_i hpath
      have hp0:mt.path.toList=[]:=by simpa using hpath
      have hfuel:P.types.size+Made.depth=(P.types.size+(Made.depth-1))+1:=by
        have:Made.depth≥1:=by decide
        omega
      rw[hfuel]
      simp only[method]
      rw[run_ok_bind (run_typeInfo hi w)]
      simp only[hmt,hp0,follow,pure_bind]
      split at hk <;> try (simp at hk; done)
      · rename_i f e hfn hu
        simp only[Option.some.injEq] at hk; subst hk
        simp only[hfn,receiverAt]
        rw[run_bind,run_ok_bind (run_underlying hu w)]
        rfl
      · rename_i f d hns hfn hu
        simp only[Option.some.injEq] at hk; subst hk
        simp only[hfn,receiverAt]
        rw[run_bind,run_ok_bind (run_underlying hu w)]
        cases d <;> first | rfl | (exfalso; simp_all; done)
    have hrun:(execOp a.eval o).run P w=(callFunc k ((v :: args.toList.map (opv env)).map (AV.toV m)).toArray).run P w:=by
      simp only[execOp,ho,resolve,er.1,AV.toV,pure_bind,invoke]
      have e0:∀(z:Value) (l:Array Value),(#[z]++l)[0]?=some z:=fun z l=>by
        rw[Array.getElem?_append_left (by simp)]; rfl
      have e1:∀(z:Value) (l:Array Value),(#[z]++l).extract 1 (#[z]++l).size=l:=fun z l=>by
        rw[← Array.toList_inj]; simp
      rw[e0]
      simp only[callMethod,program,e1]
      show Sem.run P (do
        let r ← method (P.types.size+Made.depth) t (AV.toV m v) name
        callFunc r.1 (#[r.2]++args.map a.eval)) w=_
      rw[run_ok_bind hm]
      congr 2
      rw[← Array.toList_inj]
      simp only[Array.toList_append,Array.toList_map,List.map_cons,hA.1]
      rfl
    rw[hrun]
    refine upon_of_callRes (hc m w hH fun v' hv=>?_) fun x w' ⟨m',v,H',n',h1,h2,h3,h4,h5,h6⟩=>hn m' v H' n' w' x h6 h1 h2 h3 h4 h5
    rcases List.mem_cons.1 hv with rfl | hv
    · exact hvok
    · exact hA.2 v' hv
end Go.Ab
namespace Go.Ab
theorem evOp_wp {P:Program} {env:Env} {H:Heap} {n:Nat} {o:Oper} {K:AV→Heap→Nat→Prop} (h:evOp P env H n o.op K) {m:NM} {N:Nat} {a:Act} {w:World} (hH:HRel m H n w) (hE:ERel m N n env a)
    {next:Act→World→Prop} {Q:Exit→Act→World→Prop}
    (hn:∀(m':NM) (v:AV) (H':Heap) (n':Nat) (w':World) (x:Value),K v H' n'→(v≠ .junk→x=AV.toV m' v∧v.ok n'=true)→HRel m' H' n' w'→n≤n'→NM.agree n m m'→Fr m H w m' H' w'→next (a.put o.dst x) w'):
    o.wp P a w next Q:=by
  by_cases hg:isGoCall o.op=true
  · exact call_wp hg h hH hE hn
  · obtain⟨v,H',n',hK,m',w',h1,h2,h3,h4,h5⟩:=op_res h (by simpa using hg) m N a w hH hE
    unfold Oper.wp
    rcases h5 with ⟨x,hr,hx⟩ | ⟨hr,hv⟩
    · rw[hr]; exact hn m' v H' n' w' x hK hx h1 h2 h3 h4
    · rw[hr]; exact hn m' v H' n' w' undef hK (fun hj=>absurd hv hj) h1 h2 h3 h4
theorem yielded_of {m:NM} {N n:Nat} {env:Env} {a:Act} {ops:List Oper} {j:Nat} {t:Tmp} {c:Bool} (hE:ERel m N n env a) (ht:(ops[j]?).bind (·.dst)=some t) (hc:env.get t=.bo c):
    yielded ops.toArray a.tmps j=some c:=by
  have h1:=(hE.get t (by rw[hc]; simp)).1
  rw[hc,AV.toV] at h1
  have h2:a.tmps[t]?=some (.bool c):=by
    rw[Array.getD_eq_getD_getElem?] at h1
    cases hq:a.tmps[t]? with
    | none=>rw[hq] at h1; simp[undef] at h1
    | some y=>rw[hq] at h1; simp at h1; rw[h1]
  simp only[yielded,List.getElem?_toArray,ht,Option.bind_some,h2]
theorem yielded_none {m:NM} {N n:Nat} {env:Env} {a:Act} {ops:List Oper} {j:Nat} {t:Tmp} (hE:ERel m N n env a) (ht:(ops[j]?).bind (·.dst)=some t) (hc:env.get t=.tu []):
    yielded ops.toArray a.tmps j=none:=by
  have h1:=(hE.get t (by rw[hc]; simp)).1
  rw[hc,AV.toV] at h1
  simp only[yielded,List.getElem?_toArray,ht,Option.bind_some]
  rw[Array.getD_eq_getD_getElem?] at h1
  cases hq:a.tmps[t]? with
  | none=>rfl
  | some y=>rw[hq] at h1; simp only[Option.getD_some] at h1; rw[h1]
theorem undef_tu (m:NM) (n:Nat):undef=AV.toV m (.tu [])∧AV.ok n (.tu [])=true:=⟨rfl,rfl⟩
theorem get_cons_same {m:NM} {N n:Nat} {env:Env} {a:Act} (hE:ERel m N n env a) {t:Tmp} {v:AV} (hv:env.get t=v):ERel m N n ((t,v) :: env) a where
  size:=hE.size
  defers:=hE.defers
  get:=fun u hu=>by
    simp only[Env.get] at hu ⊢
    split at hu
    · rename_i e; subst e; simp only[if_true]; rw[← hv] at hu ⊢; exact hE.get t hu
    · rename_i e; simp only[if_neg e]; exact hE.get u hu
theorem evOps_sound {P:Program} {all:List Oper} {N:Nat} {m0:NM} {H0:Heap} {n0:Nat} {w0:World} {k:Env→Heap→Nat→Prop} {Q:Exit→Act→World→Prop}
    (hQ:∀m env H n a w,k env H n→Inv m0 H0 n0 w0 m H n w→ERel m N n env a→Q .normal a w):
    ∀(l:List Oper) (env:Env) (H:Heap) (n:Nat) (m:NM) (a:Act) (w:World),evOps P all l k env H n→dstsOk N l=true→Inv m0 H0 n0 w0 m H n w→ERel m N n env a→wpList P all.toArray Q l a w
  | [],env,H,n,m,a,w,h,_,hI,hE=>hQ m env H n a w h hI hE
  | o :: r,env,H,n,m,a,w,h,hd,hI,hE=>by
    simp only[dstsOk,List.all_cons,Bool.and_eq_true] at hd
    have hdo:∀d,o.dst=some d→d<N:=fun d e=>by have:=hd.1; rw[e] at this; simpa using this
    have hr:dstsOk N r=true:=hd.2
    have go:∀(env':Env),ERel m N n env' a→evOp P env' H n o.op (evOpsK P all o.dst (evOps P all r k) env')→o.wp P a w (wpList P all.toArray Q r) Q:=fun env' hE' he=>
      evOp_wp he hI.rel hE' fun m' v H' n' w' x hK hx h1 h2 h3 h4=>
        evOps_sound hQ r _ H' n' m' _ w' hK hr (hI.step h1 h2 h3 h4) ((hE'.agree h3 h2).putE hdo hx)
    unfold evOps at h
    unfold wpList
    split at h
    · rename_i hg
      have hw:Region.wanted o (yielded all.toArray a.tmps)=true:=by simp[Region.wanted,hg]
      rw[if_pos hw]
      exact .inl (go env hE h)
    · rename_i j want hg
      split at h <;> try exact h.elim
      rename_i t ht
      split at h <;> try exact h.elim
      · rename_i c hc
        have hy:=yielded_of (ops:=all) hE ht hc
        by_cases hcw:c=want
        · have hw:Region.wanted o (yielded all.toArray a.tmps)=true:=by simp[Region.wanted,hg,hy,hcw]
          rw[if_pos hw]
          exact .inl (go _ (get_cons_same hE (by rw[hc,hcw])) (h.1 hcw))
        · have hw:¬Region.wanted o (yielded all.toArray a.tmps)=true:=by simp[Region.wanted,hg,hy,hcw]
          rw[if_neg hw]
          have hcn:c=!want:=by cases c <;> cases want <;> simp_all
          exact evOps_sound hQ r _ H n m _ w (h.2 hcn) hr hI ((get_cons_same hE (by rw[hc,hcn])).putE hdo (fun _=>undef_tu m n))
      · rename_i hc
        have hy:=yielded_none (ops:=all) hE ht hc
        have hw:¬Region.wanted o (yielded all.toArray a.tmps)=true:=by simp[Region.wanted,hg,hy]
        rw[if_neg hw]
        exact evOps_sound hQ r _ H n m _ w h hr hI (hE.putE hdo (fun _=>undef_tu m n))
def seqK (k:Env→Heap→Nat→Prop) (K:Exit→Env→Heap→Nat→Prop):Exit→Env→Heap→Nat→Prop
  | .normal,env,H,n=>k env H n
  | e,env,H,n=>K e env H n
def blkK (id:Nat) (K:Exit→Env→Heap→Nat→Prop):Exit→Env→Heap→Nat→Prop
  | .exit i,env,H,n=>if i=id then K .normal env H n else K (.exit i) env H n
  | e,env,H,n=>K e env H n
def awp (P:Program) (N:Nat) (c:Code) (K:Exit→Env→Heap→Nat→Prop) (env:Env) (H:Heap) (n:Nat):Prop:=
  ∀ (m0:NM) (H0:Heap) (n0:Nat) (w0:World) (m:NM) (a:Act) (w:World),Inv m0 H0 n0 w0 m H n w→ERel m N n env a→
    c.wp P (fun e a' w'=>∃m' env' H' n',Inv m0 H0 n0 w0 m' H' n' w'∧ERel m' N n' env' a'∧K e env' H' n') a w
theorem awp.mono {P:Program} {N:Nat} {c:Code} {K K':Exit→Env→Heap→Nat→Prop} {env:Env} {H:Heap} {n:Nat} (h:awp P N c K env H n) (hk:∀e env H n,K e env H n→K' e env H n):awp P N c K' env H n:=
  fun m0 H0 n0 w0 m a w hI hE=>wp_mono (h m0 H0 n0 w0 m a w hI hE) fun e a' w' ⟨m',env',H',n',h1,h2,h3⟩=>⟨m',env',H',n',h1,h2,hk _ _ _ _ h3⟩
theorem awp.weaken {P:Program} {N:Nat} {c:Code} {K:Exit→Env→Heap→Nat→Prop} {env env':Env} {H H':Heap} {n:Nat} (h:awp P N c K env H n) (he:env.le env') (hh:H.le H'):awp P N c K env' H' n:=
  fun m0 H0 n0 w0 m a w hI hE=>h m0 H0 n0 w0 m a w ⟨hI.rel.weaken hh,hI.le,hI.ag,hI.fr.weaken hh⟩ (hE.weaken he)
theorem awp_skip {P:Program} {N:Nat} {K:Exit→Env→Heap→Nat→Prop} {env:Env} {H:Heap} {n:Nat} (h:K .normal env H n):awp P N .skip K env H n:=
  fun _ _ _ _ m _ _ hI hE=>wp_skip ⟨m,env,H,n,hI,hE,h⟩
theorem awp_label {P:Program} {N l:Nat} {K:Exit→Env→Heap→Nat→Prop} {env:Env} {H:Heap} {n:Nat} (h:K .normal env H n):awp P N (.label l) K env H n:=
  fun _ _ _ _ m _ _ hI hE=>wp_label ⟨m,env,H,n,hI,hE,h⟩
theorem awp_ret {P:Program} {N:Nat} {K:Exit→Env→Heap→Nat→Prop} {env:Env} {H:Heap} {n:Nat} (h:K .ret env H n):awp P N .ret K env H n:=
  fun _ _ _ _ m _ _ hI hE=>wp_ret ⟨m,env,H,n,hI,hE,h⟩
theorem awp_exit {P:Program} {N id:Nat} {K:Exit→Env→Heap→Nat→Prop} {env:Env} {H:Heap} {n:Nat} (h:K (.exit id) env H n):awp P N (.exit id) K env H n:=
  fun _ _ _ _ m _ _ hI hE=>wp_exit ⟨m,env,H,n,hI,hE,h⟩
theorem awp_seq {P:Program} {N:Nat} {x y:Code} {K:Exit→Env→Heap→Nat→Prop} {env:Env} {H:Heap} {n:Nat} (h:awp P N x (seqK (awp P N y K) K) env H n):awp P N (.seq x y) K env H n:=
  fun m0 H0 n0 w0 m a w hI hE=>wp_seq (wp_mono (h m0 H0 n0 w0 m a w hI hE) fun e a' w' ⟨m',env',H',n',h1,h2,h3⟩=>by
    cases e <;> first | exact h3 m0 H0 n0 w0 m' a' w' h1 h2 | exact⟨m',env',H',n',h1,h2,h3⟩)
theorem awp_block {P:Program} {N id:Nat} {x:Code} {K:Exit→Env→Heap→Nat→Prop} {env:Env} {H:Heap} {n:Nat} (h:awp P N x (blkK id K) env H n):awp P N (.block id x) K env H n:=
  fun m0 H0 n0 w0 m a w hI hE=>wp_block (wp_mono (h m0 H0 n0 w0 m a w hI hE) fun e a' w' ⟨m',env',H',n',h1,h2,h3⟩=>by
    cases e <;> first | exact⟨m',env',H',n',h1,h2,h3⟩ | skip
    rename_i i
    simp only[blkK] at h3
    simp only[Exit.inBlock]
    split at h3
    · rename_i hi; rw[if_pos hi]; exact⟨m',env',H',n',h1,h2,h3⟩
    · rename_i hi; rw[if_neg hi]; exact⟨m',env',H',n',h1,h2,h3⟩)
theorem awp_cond {P:Program} {N:Nat} {c:Operand} {x y:Code} {K:Exit→Env→Heap→Nat→Prop} {env:Env} {H:Heap} {n:Nat} {t:Bool} (hc:opv env c=.bo t)
    (h1:t=true→awp P N x K env H n) (h2:t=false→awp P N y K env H n):awp P N (.cond c x y) K env H n:=
  fun m0 H0 n0 w0 m a w hI hE=>by
    have e:=(eval_opv hE c (by rw[hc]; simp)).1
    rw[hc,AV.toV] at e
    exact wp_cond_split e (fun ht=>h1 ht m0 H0 n0 w0 m a w hI hE) (fun ht=>h2 ht m0 H0 n0 w0 m a w hI hE)
theorem awp_region {P:Program} {N id:Nat} {l:List Oper} {K:Exit→Env→Heap→Nat→Prop} {env:Env} {H:Heap} {n:Nat} (hd:dstsOk N l=true) (h:evOps P l l (K .normal) env H n):
    awp P N (.region id l.toArray false) K env H n:=
  fun m0 H0 n0 w0 m a w hI hE=>wp_region_lit (evOps_sound (all:=l) (fun m env H n a w hk hI hE=>⟨m,env,H,n,hI,hE,hk⟩) l env H n m a w h hd hI hE)
end Go.Ab
namespace Go.Ab
section
variable {P:Program} {ops:Array Oper} {Q:Exit→Act→World→Prop} {md:Region.Mode} {anc:Nat→Nat→Bool}
def wpAnyL (P:Program) (md:Region.Mode) (ops:Array Oper) (Q:Exit→Act→World→Prop) (anc:Nat→Nat→Bool):Nat→Array Bool→List (Nat×(World→Prop))→Act→World→Prop
  | 0,listed,_,a,w=>Region.ready md ops listed=[]∧Q .normal a w
  | fuel+1,listed,cs,a,w=>
    (Region.ready md ops listed=[]→Q .normal a w)∧
    ∀i∈Region.ready md ops listed,wpOp P ops Q i (fun a' w'=>(∀c∈cs,anc c.1 i=false→c.2 w')∧wpAnyL P md ops Q anc fuel (listed.setIfInBounds i true) (cs.filter fun c=>!anc c.1 i) a' w') a w
theorem wpAny_of_L:∀(fuel:Nat) (listed:Array Bool) (cs:List (Nat×(World→Prop))) (a:Act) (w:World),wpAnyL P md ops Q anc fuel listed cs a w→wpAny P md ops Q fuel listed a w
  | 0,_,_,_,_,h=>h
  | fuel+1,_,_,_,_,h=>⟨h.1,fun i hi=>wpOp_mono (fun a' w' h'=>wpAny_of_L fuel _ _ a' w' h'.2) (h.2 i hi)⟩
theorem wpAnyL_sub:∀(fuel:Nat) (listed:Array Bool) (cs cs':List (Nat×(World→Prop))) (a:Act) (w:World),(∀c∈cs',c∈cs)→wpAnyL P md ops Q anc fuel listed cs a w→wpAnyL P md ops Q anc fuel listed cs' a w
  | 0,_,_,_,_,_,_,h=>h
  | fuel+1,_,cs,cs',_,_,hs,h=>⟨h.1,fun i hi=>wpOp_mono (fun a' w' h'=>⟨fun c hc=>h'.1 c (hs c hc),wpAnyL_sub fuel _ _ _ a' w' (fun c hc=>by
      simp only[List.mem_filter] at hc ⊢
      exact⟨hs c hc.1,hc.2⟩) h'.2⟩) (h.2 i hi)⟩
def Closed (anc:Nat→Nat→Bool) (listed:Array Bool):Prop:=∀j,listed.getD j false=true→∀x,anc x j=true→listed.getD x false=true
def AncOk (md:Region.Mode) (ops:Array Oper) (anc:Nat→Nat→Bool):Prop:=∀j x o,ops[j]?=some o→anc x j=true→∃e∈o.after,Region.binds md e=true∧(x=e.on∨anc x e.on=true)
theorem ready_anc (ha:AncOk md ops anc) {listed:Array Bool} (hc:Closed anc listed) {j:Nat} (hj:j∈Region.ready md ops listed) {x:Nat} (hx:anc x j=true):listed.getD x false=true:=by
  obtain⟨_,o,ho,hall⟩:=mem_ready.1 hj
  obtain⟨e,he,hb,hx⟩:=ha j x o ho hx
  have h1:=hall e he hb
  rcases hx with rfl | hx
  · exact h1
  · exact hc _ h1 _ hx
theorem Closed.set (ha:AncOk md ops anc) {listed:Array Bool} (hc:Closed anc listed) {j:Nat} (hj:j∈Region.ready md ops listed):Closed anc (listed.setIfInBounds j true):=by
  intro i hi x hx
  by_cases e:i=j
  · subst e; exact getD_set_true (ready_anc ha hc hj hx)
  · rw[getD_set_ne false (Ne.symm e)] at hi
    exact getD_set_true (hc i hi x hx)
theorem unlisted_of {listed:Array Bool} {i:Nat} (h:listed.getD i true=false):listed.getD i false=false:=by
  rcases Nat.lt_or_ge i listed.size with h' | h'
  · simpa [h'] using h
  · simp[Array.getElem?_eq_none h'] at h
theorem wpAnyL_first (ha:AncOk md ops anc) {i:Nat} {oi:Oper} {v:Value} {C:World→Prop} (hi:ops[i]?=some oi) (hsel:∀(j:Nat) (o:Oper) cs b,ops[j]?=some o→o.op≠ .select cs b)
    (hQ:∀c a w,Q (.panic c) (a.put oi.dst v) w→Q (.panic c) a w):
    ∀ (fuel:Nat) (listed:Array Bool) (cs:List (Nat×(World→Prop))) (a:Act) (w:World),Closed anc listed→
      (∀j oj,ops[j]?=some oj→j≠i→listed.getD j true=false→anc i j=false→oi.apart ops oj=true)→
      i∈Region.ready md ops listed→YieldsIf P ops C oi v a→C w→(∀c∈cs,c.2 w)→
      wpAnyL P md ops Q anc fuel (listed.setIfInBounds i true) ((i,C) :: cs) (a.put oi.dst v) w→wpAnyL P md ops Q anc (fuel+1) listed cs a w:=by
  intro fuel
  induction fuel with
  | zero=>
    intro listed cs a w hcl _ hr hy hS hcs H
    refine⟨fun h=>(by rw[h] at hr; cases hr),fun j hj=>?_⟩
    by_cases hji:j=i
    · subst hji; exact hy.wpOp hi hS ⟨fun c hc _=>hcs c hc,H⟩
    · have:=ready_mono hj hji
      rw[H.1] at this
      cases this
  | succ fuel ih=>
    intro listed cs a w hcl hfree hr hy hS hcs H
    refine⟨fun h=>(by rw[h] at hr; cases hr),fun j hj=>?_⟩
    by_cases hji:j=i
    · subst hji
      refine hy.wpOp hi hS ⟨fun c hc _=>hcs c hc,wpAnyL_sub _ _ _ _ _ _ (fun c hc=>?_) H⟩
      exact List.mem_cons_of_mem _ (List.mem_filter.1 hc).1
    · have h1:=H.2 j (ready_mono hj hji)
      obtain⟨hjun,oj,hoj,hall⟩:=mem_ready.1 hj
      have hiun:=unlisted_of (mem_ready.1 hr).1
      have hnot:anc i j=false:=by
        cases hx:anc i j
        · rfl
        · rw[ready_anc ha hcl hj hx] at hiun; cases hiun
      have h2:=wpOp_putIf hoj (hfree j oj hoj hji hjun hnot) (fun cs b=>hsel i oi cs b hi) (fun cs b=>hsel j oj cs b hoj) hQ hy h1
      have hfree':∀k ok,ops[k]?=some ok→k≠i→(listed.setIfInBounds j true).getD k true=false→
          anc i k=false→oi.apart ops ok=true:=fun k ok hk hki hun hno=>by
        refine hfree k ok hk hki ?_ hno
        by_cases hjk:j=k
        · subst hjk; exact hjun
        · rw[getD_set_ne true hjk] at hun; exact hun
      refine wpOp_mono (fun a' w' h3=>⟨fun c hc hx=>h3.2.1 c (List.mem_cons_of_mem _ hc) hx,ih (listed.setIfInBounds j true) (cs.filter fun c=>!anc c.1 j) a' w' (hcl.set ha hj) hfree' (ready_mono hr (Ne.symm hji)) h3.1
        (h3.2.1 (i,C) (List.mem_cons_self) hnot) (fun c hc=>?_) ?_⟩) h2
      · simp only[List.mem_filter] at hc
        exact h3.2.1 c (List.mem_cons_of_mem _ hc.1) (by simpa using hc.2)
      · rw[Array.setIfInBounds_comm _ _ hji]
        have:=h3.2.2
        rw[List.filter_cons_of_pos (by simp[hnot])] at this
        exact this
end
end Go.Ab
namespace Go.Ab
def nilH:Heap:=fun _=>none
theorem nilH_rel (m:NM) (n:Nat) (w:World):HRel m nilH n w:=⟨fun _ _ h=>by simp[nilH] at h,fun _ _ h=>by simp[nilH] at h,fun _ _ _ _ h=>by simp[nilH] at h,fun _ _ h=>by simp[nilH] at h⟩
def lightOp:Op→Bool
  | .move _ | .assign _ | .pick _ _ _ | .nilCheck _ | .binOp _ _ _ _ _ | .unOp _ _ _ | .convert _ _ _ | .makeInterface _ _ | .makeFunc _ _ _ | .slice _ _ _ _ _ | .fieldAddr _ _ _ | .field _ _ _
  | .indexAddr _ _ _ | .index _ _ _ | .extract _ _ | .build _ _=>true
  | .call ⟨.builtin .len,_,_⟩ | .call ⟨.builtin .cap,_,_⟩ | .call ⟨.builtin .max,_,_⟩ | .call ⟨.builtin .min,_,_⟩=>true
  | _=>false
def isLoad:Op→Bool
  | .load _ _=>true
  | _=>false
theorem light_sound {P:Program} {env:Env} {n:Nat} {o:Oper} (hc:lightOp o.op=true) {K:AV→Prop} (h:evOp P env nilH n o.op (fun v _ _=>K v)):∃v,K v∧PureOk P env o v:=by
  have pure:pureK P env o.op (atK (fun v _ _=>K v) nilH n)→∃v,K v∧PureOk P env o v:=fun h=>pure_sound h
  cases ho:o.op <;> rw[ho] at h hc pure <;> simp only[lightOp,Bool.false_eq_true] at hc <;> simp only[evOp] at h <;> try exact pure h
  case build t parts=>exact build_sound ho h
  case convert s d x=>
    split at h
    · rename_i hc
      obtain⟨v,hv,hr⟩:=b2s_sound (K:=K) ho hc h
      exact⟨v,hv,pureOk_of fun m N n a ha=>⟨fun w=>(hr m N n a w (nilH_rel m n w) ha).1,(hr m N n a (default:World) (nilH_rel m n _) ha).2⟩⟩
    · exact pure h
  case slice t x lo hi mx=>
    split at h
    · exfalso
      obtain⟨_,h⟩:=h
      unfold sliceSu at h
      split at h
      · rename_i hb _ _; simp[nilH] at hb
      · exact h
    · exact pure h
  case call c=>
    obtain⟨callee,args,ts⟩:=c
    cases callee <;> first | (simp only[lightOp,Bool.false_eq_true] at hc; done) | skip
    rename_i b
    simp only[evCall] at h
    split at h <;> try exact h.elim
    all_goals rename_i hargs hts
    · rw[array_one hargs,array_one hts] at ho; exact len_sound ho h
    · rw[array_one hargs,array_one hts] at ho; exact cap_sound ho h
    · rw[array_two hts] at ho; exact max_sound ho h
    · rw[array_two hts] at ho; exact min_sound ho h
    · simp only[lightOp,Bool.false_eq_true] at hc
    · simp only[lightOp,Bool.false_eq_true] at hc
def earlyT (P:Program):Op→Option (List AV×TypeId×(Nat→AV))
  | .alloc t=>match zeroT P t with
    | some z=>some (z,t,fun n=>.pt n 0)
    | none=>none
  | .makeSlice t (.const (.int .i64 ln)) (.const (.int .i64 cp))=>match elT P t with
    | some (e,sz,by_)=>match zeroT P e with
      | some z=>if z.length=sz∧0≤ln∧ln≤cp∧by_*cp≤281474976710656∧cp≤9223372036854775807 then some (repCells cp.toNat z,e,fun n=>.sl n 0 ln.toNat cp.toNat) else none
      | none=>none
    | none=>none
  | _=>none
theorem repCells_mem {k:Nat} {z:List AV} {v:AV} (h:v∈repCells k z):v∈z:=by
  simp only[repCells] at h
  simp only[List.mem_flatten,List.mem_replicate] at h
  obtain⟨l,⟨_,rfl⟩,hv⟩:=h
  exact hv
theorem early_val {P:Program} {op:Op} {z:List AV} {t:TypeId} {f:Nat→AV} (h:earlyT P op=some (z,t,f)):
    (∀(m m':NM) (i j:Nat),m.ρ i=m'.ρ j→m.β i=m'.β j→AV.toV m (f i)=AV.toV m' (f j))∧(∀n,(f n).ok (n+1)=true)∧(∀n,f n≠ .junk)∧∀v∈z,(∀n,v.ok n=true)∧v.one=true:=by
  unfold earlyT at h
  split at h
  · split at h <;> simp only[Option.some.injEq,Prod.mk.injEq,reduceCtorEq] at h
    rename_i z' hz
    obtain⟨rfl,rfl,rfl⟩:=h
    obtain⟨zv,hzr,hzm,hzok⟩:=zeroT_spec hz
    exact⟨fun m m' i j e e'=>by simp[AV.toV,e,e'],fun n=>by simp[AV.ok],fun n=>by simp,hzok⟩
  · split at h
    · split at h
      · split at h <;> simp only[Option.some.injEq,Prod.mk.injEq,reduceCtorEq] at h
        rename_i z' hz _
        obtain⟨rfl,rfl,rfl⟩:=h
        obtain⟨zv,hzr,hzm,hzok⟩:=zeroT_spec hz
        exact⟨fun m m' i j e e'=>by simp[AV.toV,e,e'],fun n=>by simp[AV.ok],fun n=>by simp,fun v hv=>hzok v (repCells_mem hv)⟩
      · simp at h
    · simp at h
  · simp at h
theorem early_run {P:Program} {o:Oper} {z:List AV} {t:TypeId} {f:Nat→AV} (h:earlyT P o.op=some (z,t,f)) {m:NM} {N n:Nat} {H:Heap} {env:Env} {a:Act} {w:World} (hH:HRel m H n w) (hE:ERel m N n env a):
    OpRes m H n w (f n) (H.upd n (some ⟨z,t,false⟩)) (n+1) ((execOp a.eval o).run P w):=by
  unfold earlyT at h
  split at h
  · rename_i t' ho
    split at h <;> simp only[Option.some.injEq,Prod.mk.injEq,reduceCtorEq] at h
    rename_i z' hz
    obtain⟨rfl,rfl,rfl⟩:=h
    exact alloc_sound ho hz m n a w hH
  · rename_i t' ln cp ho
    split at h
    · rename_i e sz by_ hel
      split at h
      · rename_i z' hz
        split at h <;> simp only[Option.some.injEq,Prod.mk.injEq,reduceCtorEq] at h
        rename_i hc
        obtain⟨h0,h1,h2,h3,h4⟩:=hc
        obtain⟨rfl,rfl,rfl⟩:=h
        exact makeSlice_sound (env:=env) ho hel hz h0 rfl rfl h1 h2 h3 h4 m N n a w hH hE
      · simp at h
    · simp at h
  · simp at h
theorem early_ev {P:Program} {op:Op} {z:List AV} {t:TypeId} {f:Nat→AV} (h:earlyT P op=some (z,t,f)) {n:Nat} {H:Heap} {env:Env} {K:AV→Heap→Nat→Prop} (he:evOp P env H n op K):
    K (f n) (H.upd n (some ⟨z,t,false⟩)) (n+1):=by
  unfold earlyT at h
  split at h
  · split at h <;> simp only[Option.some.injEq,Prod.mk.injEq,reduceCtorEq] at h
    rename_i z' hz
    obtain⟨rfl,rfl,rfl⟩:=h
    simp only[evOp,hz] at he
    exact he
  · split at h
    · rename_i e sz by_ hel
      split at h
      · rename_i z' hz
        split at h <;> simp only[Option.some.injEq,Prod.mk.injEq,reduceCtorEq] at h
        obtain⟨rfl,rfl,rfl⟩:=h
        simp only[evOp,hel,hz,opv,ofV] at he
        exact he.2.2.2.2.2
      · simp at h
    · simp at h
  · simp at h
abbrev RD:=List (Nat×TypeId×AV×AV)
def litK (k:Env→Heap→Nat→Prop) (dst:Option Tmp) (env:Env) (H:Heap) (n:Nat) (v:AV) (_:Heap) (_:Nat):Prop:=k (putE dst v env) H n
def chk (P:Program) (H:Heap) (ws:List Nat):RD→Prop
  | []=>True
  | (i,t,a,v) :: r=>(ws.contains i=true→loadK P H t a (· =v))∧chk P H ws r
def stopK (P:Program) (ws:List Nat) (rd:RD) (k:RD→Env→Heap→Nat→Prop) (dst:Option Tmp) (env:Env) (v:AV) (H:Heap) (n:Nat):Prop:=chk P H ws rd∧k rd (putE dst v env) H n
def ldK (k:RD→Env→Heap→Nat→Prop) (i:Nat) (t:TypeId) (a:AV) (rd:RD) (dst:Option Tmp) (env:Env) (H:Heap) (n:Nat) (v:AV):Prop:=k ((i,t,a,v) :: rd) (putE dst v env) H n
def drawOp (P:Program) (o:Oper) (i:Nat) (ws:List Nat) (k:RD→Env→Heap→Nat→Prop) (rd:RD) (env:Env) (H:Heap) (n:Nat):Prop:=
  match o.op with
  | .load t a=>loadK P H t (opv env a) (ldK k i t (opv env a) rd o.dst env H n)
  | op=>if lightOp op then evOp P env nilH n op (litK (k rd) o.dst env H n) else evOp P env H n op (stopK P ws rd k o.dst env)
def drawK (P:Program) (all:List Oper) (k:Env→Heap→Nat→Prop):List (Nat×List Nat)→RD→Env→Heap→Nat→Prop
  | [],_,env,H,n=>k env H n
  | (i,ws) :: r,rd,env,H,n=>match all[i]? with
    | none=>False
    | some o=>match o.guard with
      | none=>drawOp P o i ws (drawK P all k r) rd env H n
      | some (j,want)=>match (all[j]?).bind (·.dst) with
        | none=>False
        | some t=>match env.get t with
          | .bo c=>(c=want→drawOp P o i ws (drawK P all k r) rd ((t,.bo want) :: env) H n)∧(c=(!want)→drawK P all k r rd (putE o.dst (.tu []) ((t,.bo (!want)) :: env)) H n)
          | .tu []=>drawK P all k r rd (putE o.dst (.tu []) env) H n
          | _=>False
structure Draw where
  anc:List Nat:=[]
  ord:List (Nat×List Nat):=[]
  es:List (Nat×Nat):=[]
def Draw.before (D:Draw) (x j:Nat):Bool:=(D.anc.getD j 0).testBit x
def edgesOf (o:Oper):List Nat:=(o.after.toList.filter fun e=>Region.binds .any e).map (·.on)
def maskOf (A:List Nat) (l:List Nat):Nat:=l.foldl (fun acc e=>acc|||(1<<<e|||A.getD e 0)) 0
def pairOk (l:List Oper) (D:Draw) (p q:Nat×List Nat):Bool:=
  p.1 !=q.1&&!D.before q.1 p.1&&
  match l[p.1]?,l[q.1]? with
  | some oi,some oj=>
    (D.before p.1 q.1||oi.apart l.toArray oj)&&
    (lightOp oi.op||isLoad oi.op||D.before p.1 q.1||D.es.any (·.1==q.1))&&
    (!isLoad oi.op||lightOp oj.op||isLoad oj.op||D.before p.1 q.1||q.2.contains p.1)
  | _,_=>false
def pairsOk (l:List Oper) (D:Draw):List (Nat×List Nat)→Bool
  | []=>true
  | p :: r=>r.all (pairOk l D p)&&pairsOk l D r
def ancsOk (l:List Oper) (D:Draw):Bool:=(List.range l.length).all fun i=>match l[i]? with
  | some o=>D.anc.getD i 0==maskOf D.anc (edgesOf o)&&(edgesOf o).all (fun e=>decide (e<l.length))&&!D.before i i
  | none=>false
def earlyOk (P:Program) (l:List Oper) (D:Draw):Bool:=D.es.all fun p=>(match l[p.1]? with
  | some o=>o.dst==some p.2&&o.guard.isNone&&(earlyT P o.op).isSome
  | none=>false)&&(List.range l.length).all fun i=>i==p.1||match l[i]? with
    | some o=>o.dst !=some p.2
    | none=>false
def drawOk (P:Program) (N:Nat) (l:List Oper) (D:Draw):Bool:=
  dstsOk N l&&Region.noSelect l.toArray&&ancsOk l D&&pairsOk l D D.ord&&earlyOk P l D&&
  (List.range l.length).all (fun i=>D.ord.any (·.1==i))&&D.ord.all (fun p=>decide (p.1<l.length))
theorem testBit_maskOf (A l:List Nat) (x:Nat):(maskOf A l).testBit x=l.any fun e=>e==x||(A.getD e 0).testBit x:=by
  have key:∀(l:List Nat) (acc:Nat),(l.foldl (fun acc e=>acc|||(1<<<e|||A.getD e 0)) acc).testBit x=(acc.testBit x||l.any fun e=>e==x||(A.getD e 0).testBit x):=by
    intro l
    induction l with
    | nil=>intro acc; simp
    | cons e r ih=>
      intro acc
      simp only[List.foldl_cons,List.any_cons]
      rw[ih,Nat.testBit_or,Nat.testBit_or,Nat.one_shiftLeft,Nat.testBit_two_pow]
      have:decide (e=x)=(e==x):=rfl
      rw[this]
      simp only[Bool.or_assoc]
  rw[maskOf,key]
  simp only[Nat.zero_testBit,Bool.false_or]
structure DrawSpec (P:Program) (N:Nat) (l:List Oper) (D:Draw):Prop where
  mem:∀x,x<l.length→∃p∈D.ord,p.1=x
  lt:∀p∈D.ord,p.1<l.length
  pairs:D.ord.Pairwise (fun p q=>pairOk l D p q=true)
  edges:∀(i:Nat) (o:Oper),l[i]?=some o→∀e∈o.after,Region.binds .any e=true→D.before e.on i=true∧e.on<l.length
  self:∀i,i<l.length→D.before i i=false
  anc:AncOk .any l.toArray D.before
  dsts:∀(i:Nat) (o:Oper),l[i]?=some o→∀d,o.dst=some d→d<N
  nosel:Region.noSelect l.toArray=true
  es:∀p∈D.es,∃o:Oper,l[p.1]?=some o∧o.dst=some p.2∧o.guard=none∧(∃q,earlyT P o.op=some q)∧∀(i:Nat) (oi:Oper),l[i]?=some oi→i≠p.1→oi.dst≠some p.2
theorem pairsOk_spec {l:List Oper} {D:Draw}:∀ {r:List (Nat×List Nat)},pairsOk l D r=true→r.Pairwise (fun p q=>pairOk l D p q=true)
  | [],_=>.nil
  | p :: r,h=>by
    simp only[pairsOk,Bool.and_eq_true,List.all_eq_true] at h
    exact .cons h.1 (pairsOk_spec h.2)
theorem drawOk_spec {P:Program} {N:Nat} {l:List Oper} {D:Draw} (h:drawOk P N l D=true):DrawSpec P N l D:=by
  simp only[drawOk,Bool.and_eq_true] at h
  obtain⟨⟨⟨⟨⟨⟨h1,h2⟩,h3⟩,h4⟩,h5⟩,h6⟩,h7⟩:=h
  have hanc:∀i o,l[i]?=some o→D.anc.getD i 0=maskOf D.anc (edgesOf o)∧(∀e∈edgesOf o,e<l.length)∧D.before i i=false:=fun i o ho=>by
    simp only[ancsOk,List.all_eq_true,List.mem_range] at h3
    have:=h3 i (List.getElem?_eq_some_iff.1 ho).1
    rw[ho] at this
    simp only[Bool.and_eq_true,beq_iff_eq,List.all_eq_true,decide_eq_true_eq,Bool.not_eq_true'] at this
    exact⟨this.1.1,this.1.2,this.2⟩
  have hmem:∀(o:Oper) (e:Edge),e∈o.after→Region.binds .any e=true→e.on∈edgesOf o:=fun o e he hb=>by
    simp only[edgesOf,List.mem_map,List.mem_filter]
    exact⟨e,⟨by simpa using he,hb⟩,rfl⟩
  refine⟨fun x hx=>?_,fun p hp=>?_,pairsOk_spec h4,fun i o ho e he hb=>?_,fun i hi=>?_,fun j x o ho hx=>?_,fun i o ho d hd=>?_,h2,fun p hp=>?_⟩
  · simp only[List.all_eq_true,List.mem_range,List.any_eq_true,beq_iff_eq] at h6
    exact h6 x hx
  · simp only[List.all_eq_true,decide_eq_true_eq] at h7
    exact h7 p hp
  · obtain⟨a1,a2,_⟩:=hanc i o ho
    refine⟨?_,a2 _ (hmem o e he hb)⟩
    simp only[Draw.before,a1,testBit_maskOf,List.any_eq_true]
    exact⟨e.on,hmem o e he hb,by simp⟩
  · exact(hanc i _ (List.getElem?_eq_getElem hi)).2.2
  · rw[List.getElem?_toArray] at ho
    obtain⟨a1,_,_⟩:=hanc j o ho
    simp only[Draw.before,a1,testBit_maskOf,List.any_eq_true] at hx
    obtain⟨e,he,hx⟩:=hx
    simp only[edgesOf,List.mem_map,List.mem_filter] at he
    obtain⟨e',⟨he',hb⟩,rfl⟩:=he
    refine⟨e',by simpa using he',hb,?_⟩
    simp only[Bool.or_eq_true,beq_iff_eq] at hx
    exact hx.imp Eq.symm id
  · have:=List.all_eq_true.1 h1 o (List.mem_of_getElem? ho)
    rw[hd] at this
    simpa using this
  · have:=List.all_eq_true.1 h5 p hp
    simp only[Bool.and_eq_true] at this
    obtain⟨t1,t2⟩:=this
    cases ho:l[p.1]? with
    | none=>rw[ho] at t1; simp at t1
    | some o=>
      rw[ho] at t1
      simp only[Bool.and_eq_true,beq_iff_eq,Option.isNone_iff_eq_none,Option.isSome_iff_exists] at t1
      refine⟨o,rfl,t1.1.1,t1.1.2,t1.2,fun i oi hi hne=>?_⟩
      have:=List.all_eq_true.1 t2 i (List.mem_range.2 (List.getElem?_eq_some_iff.1 hi).1)
      rw[hi] at this
      simpa [hne] using this
end Go.Ab
