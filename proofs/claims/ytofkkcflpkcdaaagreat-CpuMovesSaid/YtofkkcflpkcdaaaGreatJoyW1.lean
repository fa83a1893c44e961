/- Parts of the proof: the evaluator and its soundness. -/
import Derived.Test.YtofkkcflpkcdaaaGreatJoyW0
import Derived.Scope
import Derived.Below
import Derived.Carry
import Derived.ChangeOld
set_option linter.unusedSimpArgs false
set_option linter.unusedVariables false
set_option linter.unnecessarySimpa false
namespace Go.Ab
theorem filter_lt {α:Type} {p q:α→Bool} (h:∀x,p x=true→q x=true):∀ {l:List α} {x:α},x∈l→q x=true→p x=false→(l.filter p).length<(l.filter q).length:=by
  have le:∀l:List α,(l.filter p).length≤(l.filter q).length:=fun l=>by
    induction l with
    | nil=>simp
    | cons a r ih=>
      simp only[List.filter_cons]
      cases hp:p a
      · cases q a <;> simp <;> omega
      · rw[h a hp]; simp; omega
  intro l
  induction l with
  | nil=>intro x hx; simp at hx
  | cons a r ih=>
    intro x hx hq hp
    simp only[List.filter_cons]
    rcases List.mem_cons.1 hx with rfl | hx
    · rw[hq,hp]; simp; exact Nat.lt_succ_of_le (le r)
    · have:=ih hx hq hp
      cases hpa:p a
      · cases q a <;> simp <;> omega
      · rw[h a hpa]; simp; omega
theorem loadK_upd {P:Program} {H:Heap} {t:TypeId} {a:AV} {K:AV→Prop} {n:Nat} {x:Option Blk} (hn:H n=none) (h:loadK P H t a K):loadK P (H.upd n x) t a K:=by
  unfold loadK at*
  split at h <;> try exact h.elim
  rename_i b off
  have hb:H b≠none:=fun e=>by rw[e] at h; exact h
  have hne:b≠n:=fun e=>hb (e▸hn)
  simp only[Heap.upd_ne _ _ hne]
  exact h
theorem getD_put_ne {a:Act} {dst:Option Tmp} {x:Value} {d:Nat} (h:dst≠some d):(a.put dst x).tmps.getD d undef=a.tmps.getD d undef:=by
  cases dst with
  | none=>rfl
  | some e=>
    have hne:e≠d:=fun h'=>h (h'▸rfl)
    simp[Act.put,Array.getD_eq_getD_getElem?,Array.getElem?_setIfInBounds_ne hne]
theorem ERel.put_junk {m:NM} {N n:Nat} {env:Env} {a:Act} (h:ERel m N n env a) {d:Nat} (hj:env.get d=.junk) (x:Value):ERel m N n env (a.put (some d) x) where
  size:=by simp[Act.put,h.size]
  defers:=by simp[Act.put,h.defers]
  get:=fun t ht=>by
    rw[getD_put_ne (fun e=>ht (by simp only[Option.some.injEq] at e; rw[← e]; exact hj))]
    exact h.get t ht
def LC (P:Program) (m:NM) (n:Nat) (t:TypeId) (adr v:AV) (w:World):Prop:=∃m' H' n',HRel m' H' n' w∧n≤n'∧NM.agree n m m'∧loadK P H' t adr (· =v)
structure Early (P:Program) (l:List Oper) (D:Draw) (w0:World) (m:NM) (H:Heap) (a:Act) (w:World) (j:Nat) (mE:NM) (nE:Nat) (o:Oper) (z:List AV) (t:TypeId) (f:Nat→AV) (d:Nat):Prop where
  es:(j,d)∈D.es
  op:l[j]?=some o
  dst:o.dst=some d
  guard:o.guard=none
  early:earlyT P o.op=some (z,t,f)
  blk:HRel mE (nilH.upd nE (some ⟨z,t,false⟩)) (nE+1) w
  tmp:a.tmps.getD d undef=AV.toV mE (f nE)
  base:w0.heap.size≤mE.ρ nE
  lt:mE.ρ nE<w.heap.size
  free:∀i b,H i=some b→m.ρ i≠mE.ρ nE
theorem HRel.single {mE:NM} {nE:Nat} {b:Blk} {w w':World} (h:HRel mE (nilH.upd nE (some b)) (nE+1) w) (hk:w'.heap[mE.ρ nE]?=w.heap[mE.ρ nE]?):HRel mE (nilH.upd nE (some b)) (nE+1) w' where
  dom:=h.dom
  blk:=fun i x hi=>by
    have e:i=nE:=by
      by_cases hn:i=nE
      · exact hn
      · rw[Heap.upd_ne _ _ hn] at hi; simp[nilH] at hi
    subst e
    obtain⟨c,fz,hc,r⟩:=h.blk i x hi
    exact⟨c,fz,by rw[hk]; exact hc,r⟩
  inj:=h.inj
  ok:=h.ok
section
variable {P:Program} {l:List Oper} {D:Draw} {w0:World} {m:NM} {H:Heap} {a:Act} {w:World} {j:Nat} {mE:NM} {nE:Nat} {o:Oper} {z:List AV} {t:TypeId} {f:Nat→AV} {d:Nat}
theorem Early.put (h:Early P l D w0 m H a w j mE nE o z t f d) {dst:Option Tmp} (hne:dst≠some d) (x:Value):Early P l D w0 m H (a.put dst x) w j mE nE o z t f d:=
  { h with tmp:=by rw[getD_put_ne hne]; exact h.tmp}
theorem Early.step (h:Early P l D w0 m H a w j mE nE o z t f d) {m':NM} {H':Heap} {w':World} (hf:Fr m H w m' H' w'):Early P l D w0 m' H' a w' j mE nE o z t f d:=
  { h with
    blk:=h.blk.single (hf.keep _ h.lt fun i b hi _=>h.free i b hi)
    lt:=by have:=hf.size; have:=h.lt; omega
    free:=fun i b hi=>by
      rcases hf.own i b hi with ⟨j,bj,hj,_,e⟩ | hge
      · rw[← e]; exact h.free j bj hj
      · have:=h.lt; omega}
theorem Early.adopt (h:Early P l D w0 m H a w j mE nE o z t f d) {m0:NM} {H0:Heap} {n0 n:Nat} (hI:Inv m0 H0 n0 w0 m H n w) {N:Nat} {env:Env} (hE:ERel m N n env a):
    ∃m',(∀i,i≠n→m'.ρ i=m.ρ i)∧m'.ρ n=mE.ρ nE∧NM.agree n m m'∧Inv m0 H0 n0 w0 m' (H.upd n (some ⟨z,t,false⟩)) (n+1) w∧ERel m' N (n+1) (putE o.dst (f n) env) a:=by
  obtain⟨c,fz,hc,hk,hfz,hv⟩:=h.blk.blk nE ⟨z,t,false⟩ (Heap.upd_same _ _ _)
  obtain⟨hβ,hfz⟩:=hfz rfl
  rw[hβ,Nat.zero_add] at hk
  obtain⟨hval,hok,hj,hz⟩:=early_val h.early
  have hag:=NM.new_agree m n (mE.ρ nE) (mE.κ nE)
  have hold:∀i b,(H.upd n (some ⟨z,t,false⟩)) i=some b→i≠n→H i=some b:=fun i b hi hne=>by rwa [Heap.upd_ne _ _ hne] at hi
  refine⟨m.new n (mE.ρ nE) (mE.κ nE),fun i hi=>by simp[NM.new,hi],by simp[NM.new],hag,⟨⟨?_,?_,?_,?_⟩,by have:=hI.le; omega,hI.ag.trans hag hI.le,?_⟩,?_⟩
  · intro i b hi
    by_cases hn:i=n
    · omega
    · have:=hI.rel.dom i b (hold i b hi hn); omega
  · intro i b hi
    by_cases hn:i=n
    · subst hn
      rw[Heap.upd_same] at hi
      simp only[Option.some.injEq] at hi; subst hi
      refine⟨c,fz,by simpa [NM.new] using hc,by simpa [NM.new] using hk,fun _=>⟨by simp[NM.new],hfz⟩,fun q v hq=>?_⟩
      have hv':=hv q v hq
      rw[hβ] at hv'
      rw[show(m.new i (mE.ρ nE) (mE.κ nE)).β i=0 by simp[NM.new],hv',AV.toV_agree (n:=0) (m:=mE) (m':=m.new i (mE.ρ nE) (mE.κ nE)) (fun i hi=>absurd hi (Nat.not_lt_zero _)) v ((hz v (List.mem_of_getElem? hq)).1 0)]
    · have hi':=hold i b hi hn
      obtain⟨c',fz',hc',hk',hf',hv'⟩:=hI.rel.blk i b hi'
      refine⟨c',fz',by simp only[NM.new,if_neg hn]; exact hc',by simp only[NM.new,if_neg hn]; exact hk',fun h0=>⟨by simp only[NM.new,if_neg hn]; exact(hf' h0).1,(hf' h0).2⟩,fun q v hq=>?_⟩
      rw[show(m.new n (mE.ρ nE) (mE.κ nE)).β i=m.β i by simp only[NM.new,if_neg hn],hv' q v hq,AV.toV_agree hag v (hI.rel.ok i b hi' v (List.mem_of_getElem? hq)).1]
  · intro i q bi bq hi hq hne hro
    by_cases hni:i=n
    · subst hni
      have:=h.free q bq (hold q bq hq (fun e=>hne e.symm))
      simp only[NM.new,if_true]; rw[if_neg (fun e=>hne e.symm)]; exact fun e=>this e.symm
    · by_cases hnq:q=n
      · subst hnq
        have:=h.free i bi (hold i bi hi hni)
        simp only[NM.new,if_true]; rw[if_neg hni]; exact this
      · simp only[NM.new]; rw[if_neg hni,if_neg hnq]; exact hI.rel.inj i q bi bq (hold i bi hi hni) (hold q bq hq hnq) hne hro
  · intro i b hi v hv
    by_cases hn:i=n
    · subst hn
      rw[Heap.upd_same] at hi
      simp only[Option.some.injEq] at hi; subst hi
      exact⟨(hz v hv).1 _,(hz v hv).2⟩
    · have:=hI.rel.ok i b (hold i b hi hn) v hv
      exact⟨AV.ok_mono (by omega) v this.1,this.2⟩
  · refine⟨hI.fr.os,hI.fr.tape,hI.fr.output,hI.fr.size,hI.fr.keep,fun i b hi=>?_⟩
    by_cases hn:i=n
    · subst hn; right; simpa [NM.new] using h.base
    · rcases hI.fr.own i b (hold i b hi hn) with ⟨q,bq,hq,hr,e⟩ | hge
      · exact .inl ⟨q,bq,hq,hr,by simpa [NM.new,hn] using e⟩
      · exact .inr (by simpa [NM.new,hn] using hge)
  · have hE':=hE.agree hag (Nat.le_succ n)
    rw[h.dst]
    exact⟨hE'.size,hE'.defers,fun u hu=>by
      simp only[putE,Env.get] at hu ⊢
      split at hu
      · rename_i e; subst e
        rw[if_pos rfl]
        refine⟨?_,hok n⟩
        rw[h.tmp]
        exact hval _ _ _ _ (by simp[NM.new]) (by simp[NM.new,hβ])
      · rename_i e; rw[if_neg e]; exact hE'.get u hu⟩
end
end Go.Ab
namespace Go.Ab
def drawQ (N:Nat) (k:Env→Heap→Nat→Prop) (m0:NM) (H0:Heap) (n0:Nat) (w0:World) (e:Exit) (a:Act) (w:World):Prop:=
  e=.normal∧∃m env H n,k env H n∧Inv m0 H0 n0 w0 m H n w∧ERel m N n env a
abbrev ER:=Nat×NM×Nat
structure St (P:Program) (N:Nat) (l:List Oper) (D:Draw) (m0:NM) (H0:Heap) (n0:Nat) (w0:World)
    (pre rest:List (Nat×List Nat)) (rd:RD) (ers:List ER) (fuel:Nat) (listed:Array Bool) (cs:List (Nat×(World→Prop))) (env:Env) (H:Heap) (n:Nat) (m:NM) (a:Act) (w:World):Prop where
  ord:D.ord=pre++rest
  inv:Inv m0 H0 n0 w0 m H n w
  erel:ERel m N n env a
  lst:∀x,listed.getD x false=true↔(x∈pre.map (·.1)∨x∈ers.map (·.1))
  siz:listed.size=l.length
  closed:Closed D.before listed
  cnt:(rest.filter fun p=>!(ers.map (·.1)).contains p.1).length≤fuel
  ersIn:∀r∈ers,r.1∈rest.map (·.1)
  ersOk:∀r∈ers,∃o z t f d,Early P l D w0 m H a w r.1 r.2.1 r.2.2 o z t f d
  ersNe:∀r∈ers,∀s∈ers,r.1≠s.1→r.2.1.ρ r.2.2≠s.2.1.ρ s.2.2
  msk:∀p∈D.es,p.1∈rest.map (·.1)→env.get p.2=.junk
  conds:∀c∈cs,(∀w,c.2 w)∨((∃o,l[c.1]?=some o∧isLoad o.op=true)∧c.1∈pre.map (·.1)∧∃t adr v mc nc,(c.1,t,adr,v)∈rd∧c.2=LC P mc nc t adr v∧nc≤n∧NM.agree nc mc m∧loadK P H t adr (· =v))
section
variable {P:Program} {N:Nat} {l:List Oper} {D:Draw} {k:Env→Heap→Nat→Prop} {m0:NM} {H0:Heap} {n0:Nat} {w0:World}
variable {pre rest r:List (Nat×List Nat)} {rd:RD} {ers:List ER} {fuel:Nat} {listed:Array Bool} {cs:List (Nat×(World→Prop))} {env:Env} {H:Heap} {n:Nat} {m:NM} {a:Act} {w:World}
variable {i:Nat} {ws:List Nat} {o:Oper}
theorem getD_listed {x:Nat} (hs:listed.size=l.length) (hx:x<l.length):listed.getD x true=listed.getD x false:=by
  simp[hs,hx]
theorem St.pairL (hs:DrawSpec P N l D) (h:St P N l D m0 H0 n0 w0 pre ((i,ws) :: r) rd ers fuel listed cs env H n m a w):
    (∀q∈r,pairOk l D (i,ws) q=true)∧(∀p∈pre,pairOk l D p (i,ws)=true)∧(∀p∈pre,∀q∈r,pairOk l D p q=true):=by
  have:=hs.pairs
  rw[h.ord,List.pairwise_append] at this
  obtain⟨_,h2,h3⟩:=this
  rw[List.pairwise_cons] at h2
  exact⟨h2.1,fun p hp=>h3 p hp _ List.mem_cons_self,fun p hp q hq=>h3 p hp q (List.mem_cons_of_mem _ hq)⟩
theorem pairOk_ne {p q:Nat×List Nat} (h:pairOk l D p q=true):p.1≠q.1∧D.before q.1 p.1=false:=by
  simp only[pairOk,Bool.and_eq_true,bne_iff_ne,Bool.not_eq_true'] at h
  exact h.1
theorem pairOk_spec {p q:Nat×List Nat} {oi oj:Oper} (h:pairOk l D p q=true) (hi:l[p.1]?=some oi) (hj:l[q.1]?=some oj) (hb:D.before p.1 q.1=false):
    oi.apart l.toArray oj=true∧(lightOp oi.op=false→isLoad oi.op=false→D.es.any (·.1==q.1)=true)∧(isLoad oi.op=true→lightOp oj.op=false→isLoad oj.op=false→q.2.contains p.1=true):=by
  simp only[pairOk,hi,hj,hb,Bool.false_or,Bool.or_false,Bool.and_eq_true,Bool.or_eq_true,Bool.not_eq_true'] at h
  obtain⟨_,⟨h1,h2⟩,h3⟩:=h
  refine⟨h1,fun a b=>?_,fun a b c=>?_⟩
  · rcases h2 with (h2 | h2) | h2
    · rw[a] at h2; cases h2
    · rw[b] at h2; cases h2
    · exact h2
  · rcases h3 with ((h3 | h3) | h3) | h3
    · rw[a] at h3; cases h3
    · rw[b] at h3; cases h3
    · rw[c] at h3; cases h3
    · exact h3
theorem St.head_lt (hs:DrawSpec P N l D) (h:St P N l D m0 H0 n0 w0 pre ((i,ws) :: r) rd ers fuel listed cs env H n m a w):i<l.length:=
  hs.lt (i,ws) (by rw[h.ord]; simp)
theorem St.head_not_pre (hs:DrawSpec P N l D) (h:St P N l D m0 H0 n0 w0 pre ((i,ws) :: r) rd ers fuel listed cs env H n m a w):i∉pre.map (·.1):=by
  intro hm
  obtain⟨p,hp,e⟩:=List.mem_map.1 hm
  exact(pairOk_ne ((h.pairL hs).2.1 p hp)).1 e
theorem St.head_not_r (hs:DrawSpec P N l D) (h:St P N l D m0 H0 n0 w0 pre ((i,ws) :: r) rd ers fuel listed cs env H n m a w):i∉r.map (·.1):=by
  intro hm
  obtain⟨p,hp,e⟩:=List.mem_map.1 hm
  exact(pairOk_ne ((h.pairL hs).1 p hp)).1 e.symm
theorem St.head_ready (hs:DrawSpec P N l D) (h:St P N l D m0 H0 n0 w0 pre ((i,ws) :: r) rd ers fuel listed cs env H n m a w) (ho:l[i]?=some o) (hne:i∉ers.map (·.1)):
    i∈Region.ready .any l.toArray listed:=by
  rw[mem_ready]
  refine⟨?_,o,by simpa using ho,fun e he hb=>?_⟩
  · rw[getD_listed h.siz (h.head_lt hs)]
    cases hx:listed.getD i false
    · rfl
    · rcases (h.lst i).1 hx with h1 | h1
      · exact absurd h1 (h.head_not_pre hs)
      · exact absurd h1 hne
  · obtain⟨hb',hlt⟩:=hs.edges i o ho e he hb
    obtain⟨p,hp,hpe⟩:=hs.mem _ hlt
    rw[h.ord] at hp
    refine(h.lst _).2 (.inl ?_)
    rcases List.mem_append.1 hp with hp | hp
    · exact List.mem_map.2 ⟨p,hp,hpe⟩
    · exfalso
      rcases List.mem_cons.1 hp with rfl | hp
      · simp only at hpe
        rw[← hpe,hs.self i (h.head_lt hs)] at hb'; cases hb'
      · have:=(pairOk_ne ((h.pairL hs).1 p hp)).2
        rw[hpe] at this; simp only at this; rw[hb'] at this; cases this
theorem St.ready_rest (hs:DrawSpec P N l D) (h:St P N l D m0 H0 n0 w0 pre rest rd ers fuel listed cs env H n m a w) {j:Nat} (hj:j∈Region.ready .any l.toArray listed):
    j<l.length∧j∉ers.map (·.1)∧∃q∈rest,q.1=j:=by
  obtain⟨hun,oj,hoj,_⟩:=mem_ready.1 hj
  have hlt:j<l.length:=(List.getElem?_eq_some_iff.1 (by simpa using hoj)).1
  rw[getD_listed h.siz hlt] at hun
  have hno:¬(j∈pre.map (·.1)∨j∈ers.map (·.1)):=fun e=>by rw[(h.lst j).2 e] at hun; cases hun
  refine⟨hlt,fun e=>hno (.inr e),?_⟩
  obtain⟨p,hp,hpe⟩:=hs.mem j hlt
  rw[h.ord] at hp
  rcases List.mem_append.1 hp with hp | hp
  · exact absurd (.inl (List.mem_map.2 ⟨p,hp,hpe⟩)) hno
  · exact⟨p,hp,hpe⟩
theorem St.cnt_head (h:St P N l D m0 H0 n0 w0 pre ((i,ws) :: r) rd ers fuel listed cs env H n m a w) (hne:i∉ers.map (·.1)):
    ∃f,fuel=f+1∧(r.filter fun p=>!(ers.map (·.1)).contains p.1).length≤f:=by
  have:=h.cnt
  rw[List.filter_cons_of_pos (by simpa using hne)] at this
  simp only[List.length_cons] at this
  exact⟨fuel-1,by omega,by omega⟩
theorem St.lst_set (h:St P N l D m0 H0 n0 w0 pre rest rd ers fuel listed cs env H n m a w) {j:Nat} (hj:j<l.length) (x:Nat):
    (listed.setIfInBounds j true).getD x false=true↔(x=j∨listed.getD x false=true):=by
  by_cases e:j=x
  · subst e; simp[h.siz,hj]
  · rw[getD_set_ne false e]; simp[Ne.symm e]
theorem ersIn_r (hs:DrawSpec P N l D) (h:St P N l D m0 H0 n0 w0 pre ((i,ws) :: r) rd ers fuel listed cs env H n m a w) (hne:i∉ers.map (·.1)):∀s∈ers,s.1∈r.map (·.1):=fun s hsm=>by
  have:=h.ersIn s hsm
  simp only[List.map_cons,List.mem_cons] at this
  rcases this with e | e
  · exact absurd (List.mem_map.2 ⟨s,hsm,e⟩) hne
  · exact e
theorem dst_ne (hs:DrawSpec P N l D) (ho:l[i]?=some o) {p:Nat×Nat} (hp:p∈D.es) (hne:i≠p.1):o.dst≠some p.2:=by
  obtain⟨_,_,_,_,_,h⟩:=hs.es p hp
  exact h i o ho hne
theorem get_putE_ne {dst:Option Tmp} {v:AV} {d:Nat} (h:dst≠some d):(putE dst v env).get d=env.get d:=by
  cases dst with
  | none=>rfl
  | some e=>
    have:e≠d:=fun h'=>h (h'▸rfl)
    simp[putE,Env.get,this]
theorem light_step (hs:DrawSpec P N l D) {C:World→Prop} {x:Value} {v:AV} {rd':RD} (h:St P N l D m0 H0 n0 w0 pre ((i,ws) :: r) rd ers fuel listed cs env H n m a w) (ho:l[i]?=some o) (hne:i∉ers.map (·.1))
    (hy:YieldsIf P l.toArray C o x a) (hC:C w) (hv:v≠ .junk→x=AV.toV m v∧v.ok n=true)
    (hrd:∀y∈rd,y∈rd') (hnew:(∀w,C w)∨((∃o,l[i]?=some o∧isLoad o.op=true)∧∃t adr v mc nc,(i,t,adr,v)∈rd'∧C=LC P mc nc t adr v∧nc≤n∧NM.agree nc mc m∧loadK P H t adr (· =v)))
    (next:∀ {f listed' cs'},St P N l D m0 H0 n0 w0 (pre++[(i,ws)]) r rd' ers f listed' cs' (putE o.dst v env) H n m (a.put o.dst x) w→f<fuel→
      wpAnyL P .any l.toArray (drawQ N k m0 H0 n0 w0) D.before f listed' cs' (a.put o.dst x) w):
    wpAnyL P .any l.toArray (drawQ N k m0 H0 n0 w0) D.before fuel listed cs a w:=by
  obtain⟨f,rfl,hcnt⟩:=h.cnt_head hne
  have hoA:l.toArray[i]?=some o:=by simpa using ho
  have hr:=h.head_ready hs ho hne
  have hlt:=h.head_lt hs
  refine wpAnyL_first hs.anc hoA (Region.noSelect_spec hs.nosel) (fun c a w hq=>by cases hq.1) f listed cs a w h.closed ?_ hr hy hC ?_ (next ⟨by rw[h.ord]; simp,h.inv,h.erel.putE (hs.dsts i o ho) hv,?_,by simpa using h.siz,h.closed.set hs.anc hr,hcnt,ersIn_r hs h hne,?_,h.ersNe,?_,?_⟩ (Nat.lt_succ_self f))
  · intro j oj hoj hji hun hanc
    rw[List.getElem?_toArray] at hoj
    have hjlt:=(List.getElem?_eq_some_iff.1 hoj).1
    rw[getD_listed h.siz hjlt] at hun
    obtain⟨p,hp,hpe⟩:=hs.mem j hjlt
    rw[h.ord] at hp
    rcases List.mem_append.1 hp with hp | hp
    · rw[(h.lst j).2 (.inl (List.mem_map.2 ⟨p,hp,hpe⟩))] at hun; cases hun
    · rcases List.mem_cons.1 hp with rfl | hp
      · exact absurd hpe (Ne.symm hji)
      · subst hpe
        exact(pairOk_spec ((h.pairL hs).1 p hp) ho hoj hanc).1
  · intro c hc
    rcases h.conds c hc with h1 | ⟨_,_,t,adr,v,mc,nc,_,e,h2,h3,h4⟩
    · exact h1 w
    · rw[e]; exact⟨m,H,n,h.inv.rel,h2,h3,h4⟩
  · intro y
    rw[h.lst_set hlt y,h.lst y]
    simp only[List.map_append,List.map_cons,List.map_nil,List.mem_append,List.mem_singleton]
    constructor
    · rintro(e | e | e)
      · exact .inl (.inr e)
      · exact .inl (.inl e)
      · exact .inr e
    · rintro((e | e) | e)
      · exact .inr (.inl e)
      · exact .inl e
      · exact .inr (.inr e)
  · intro s hsm
    obtain⟨o',z,t,f,d,he⟩:=h.ersOk s hsm
    refine⟨o',z,t,f,d,he.put ?_ _⟩
    exact dst_ne hs ho he.es (fun e=>hne (List.mem_map.2 ⟨s,hsm,e.symm⟩))
  · intro p hp hpr
    have hip:i≠p.1:=fun e=>(h.head_not_r hs) (e▸hpr)
    rw[get_putE_ne (dst_ne hs ho hp hip)]
    exact h.msk p hp (by simp only[List.map_cons]; exact List.mem_cons_of_mem _ hpr)
  · intro c hc
    rcases List.mem_cons.1 hc with rfl | hc
    · exact hnew.imp id fun⟨h1,h2⟩=>⟨h1,by simp,h2⟩
    · refine(h.conds c hc).imp id fun⟨h1,h2,t,adr,v,mc,nc,h3,h4⟩=>⟨h1,by simp only[List.map_append,List.mem_append]; exact .inl h2,t,adr,v,mc,nc,hrd _ h3,h4⟩
theorem chk_mem {ws:List Nat}:∀ {rd:RD} {i t adr v},chk P H ws rd→(i,t,adr,v)∈rd→ws.contains i=true→loadK P H t adr (· =v)
  | (i',t',a',v') :: r,i,t,adr,v,h,hm,hw=>by
    simp only[chk] at h
    rcases List.mem_cons.1 hm with e | hm
    · cases e; exact h.1 hw
    · exact chk_mem h.2 hm hw
end
end Go.Ab
namespace Go.Ab
section
variable {P:Program} {N:Nat} {l:List Oper} {D:Draw} {k:Env→Heap→Nat→Prop} {m0:NM} {H0:Heap} {n0:Nat} {w0:World}
variable {pre rest r:List (Nat×List Nat)} {rd:RD} {ers:List ER} {fuel:Nat} {listed:Array Bool} {cs:List (Nat×(World→Prop))} {env:Env} {H:Heap} {n:Nat} {m:NM} {a:Act} {w:World}
variable {i:Nat} {ws:List Nat} {o:Oper}
theorem rel_none (h:HRel m H n w):H n=none:=by
  cases hx:H n with
  | none=>rfl
  | some b=>exact absurd (h.dom n b hx) (Nat.lt_irrefl n)
theorem early_stop {op:Op} {q} (h:earlyT P op=some q):lightOp op=false∧isLoad op=false:=by
  unfold earlyT at h
  split at h <;> first | exact⟨rfl,rfl⟩ | simp at h
theorem drawOp_stop (hl:lightOp o.op=false) (hld:isLoad o.op=false) {kk:RD→Env→Heap→Nat→Prop} (h:drawOp P o i ws kk rd env H n):evOp P env H n o.op (stopK P ws rd kk o.dst env):=by
  unfold drawOp at h
  split at h
  · rename_i ho; rw[ho] at hld; simp[isLoad] at hld
  · rw[if_neg (by simp[hl])] at h; exact h
theorem adopt_step (hs:DrawSpec P N l D) (h:St P N l D m0 H0 n0 w0 pre ((i,ws) :: r) rd ers fuel listed cs env H n m a w) (hin:i∈ers.map (·.1)) (hk:drawK P l k ((i,ws) :: r) rd env H n):
    ∃(env':Env) (H':Heap) (n':Nat) (m':NM),drawK P l k r rd env' H' n'∧St P N l D m0 H0 n0 w0 (pre++[(i,ws)]) r rd (ers.filter fun s=>s.1 !=i) fuel listed cs env' H' n' m' a w:=by
  obtain⟨s,hsm,rfl⟩:=List.mem_map.1 hin
  obtain⟨o,z,t,f,d,he⟩:=h.ersOk s hsm
  obtain⟨hl,hld⟩:=early_stop he.early
  unfold drawK at hk
  simp only[he.op,he.guard] at hk
  have hev:=early_ev he.early (drawOp_stop hl hld hk)
  obtain⟨m',hm1,hm2,hag,hI',hE'⟩:=he.adopt h.inv h.erel
  have hmem:∀y,y∈(ers.filter fun q=>q.1 !=s.1).map (·.1)↔y∈ers.map (·.1)∧y≠s.1:=fun y=>by
    simp only[List.mem_map,List.mem_filter,bne_iff_ne,ne_eq]
    constructor
    · rintro⟨q,⟨h1,h2⟩,rfl⟩; exact⟨⟨q,h1,rfl⟩,h2⟩
    · rintro⟨⟨q,h1,rfl⟩,h2⟩; exact⟨q,⟨h1,h2⟩,rfl⟩
  refine⟨_,_,_,m',hev.2,by rw[h.ord]; simp,hI',hE',?_,h.siz,h.closed,?_,?_,?_,?_,?_,?_⟩
  · intro x
    rw[h.lst x,hmem]
    simp only[List.map_append,List.map_cons,List.map_nil,List.mem_append,List.mem_singleton]
    constructor
    · rintro(e | e)
      · exact .inl (.inl e)
      · by_cases hx:x=s.1
        · exact .inl (.inr hx)
        · exact .inr ⟨e,hx⟩
    · rintro((e | e) | e)
      · exact .inl e
      · exact .inr (e▸hin)
      · exact .inr e.1
  · have h1:=h.cnt
    rw[List.filter_cons_of_neg (by simpa using hin)] at h1
    refine Nat.le_trans (Nat.le_of_eq ?_) h1
    congr 1
    refine List.filter_congr fun p hp=>?_
    have hne:p.1≠s.1:=fun e=>h.head_not_r hs (List.mem_map.2 ⟨p,hp,e⟩)
    rw[Bool.eq_iff_iff]
    simp only[Bool.not_eq_true',List.contains_eq_mem,decide_eq_false_iff_not,hmem]
    exact⟨fun h2 h3=>h2 ⟨h3,hne⟩,fun h2 h3=>h2 h3.1⟩
  · intro q hq
    simp only[List.mem_filter,bne_iff_ne,ne_eq] at hq
    have:=h.ersIn q hq.1
    simp only[List.map_cons,List.mem_cons] at this
    exact this.resolve_left hq.2
  · intro q hq
    simp only[List.mem_filter,bne_iff_ne,ne_eq] at hq
    obtain⟨o',z',t',f',d',hq'⟩:=h.ersOk q hq.1
    refine⟨o',z',t',f',d',{ hq' with free:=fun j b hj=>?_}⟩
    by_cases hn:j=n
    · subst hn; rw[hm2]; exact h.ersNe s hsm q hq.1 (fun e=>hq.2 e.symm)
    · rw[hm1 j hn]; exact hq'.free j b (by rwa [Heap.upd_ne _ _ hn] at hj)
  · intro q hq q' hq' hne
    simp only[List.mem_filter] at hq hq'
    exact h.ersNe q hq.1 q' hq'.1 hne
  · intro p hp hpr
    have hip:s.1≠p.1:=fun e=>(h.head_not_r hs) (e▸hpr)
    rw[get_putE_ne (dst_ne hs he.op hp hip)]
    exact h.msk p hp (by simp only[List.map_cons]; exact List.mem_cons_of_mem _ hpr)
  · intro c hc
    refine(h.conds c hc).imp id fun⟨h1,h2,t',adr,v,mc,nc,h3,h4,h5,h6,h7⟩=>⟨h1,by simp only[List.map_append,List.mem_append]; exact .inl h2,t',adr,v,mc,nc,h3,h4,by omega,h6.trans hag h5,?_⟩
    exact loadK_upd (rel_none h.inv.rel) h7
theorem wanted_none (hg:o.guard=none) (y:Nat→Option Bool):Region.wanted o y=true:=by simp[Region.wanted,hg]
theorem stop_step (hs:DrawSpec P N l D) (h:St P N l D m0 H0 n0 w0 pre ((i,ws) :: r) rd ers fuel listed cs env H n m a w) (ho:l[i]?=some o) (hne:i∉ers.map (·.1)) (hl:lightOp o.op=false) (hld:isLoad o.op=false)
    (hw:Region.wanted o (yielded l.toArray a.tmps)=true) (hk:drawOp P o i ws (drawK P l k r) rd env H n)
    (next:∀ {f listed' cs' env' H' n' m' a' w'},St P N l D m0 H0 n0 w0 (pre++[(i,ws)]) r rd ers f listed' cs' env' H' n' m' a' w'→f<fuel→drawK P l k r rd env' H' n'→
      wpAnyL P .any l.toArray (drawQ N k m0 H0 n0 w0) D.before f listed' cs' a' w')
    (again:∀ {f listed' cs' ers' m' a' w'},St P N l D m0 H0 n0 w0 pre ((i,ws) :: r) rd ers' f listed' cs' env H n m' a' w'→f<fuel→
      wpAnyL P .any l.toArray (drawQ N k m0 H0 n0 w0) D.before f listed' cs' a' w'):
    wpAnyL P .any l.toArray (drawQ N k m0 H0 n0 w0) D.before fuel listed cs a w:=by
  obtain⟨f,rfl,hcnt⟩:=h.cnt_head hne
  have hoA:l.toArray[i]?=some o:=by simpa using ho
  have hr:=h.head_ready hs ho hne
  have hlt:=h.head_lt hs
  refine⟨fun e=>(by rw[e] at hr; cases hr),fun j hj=>?_⟩
  obtain⟨hjlt,hje,q,hq,hqj⟩:=h.ready_rest hs hj
  by_cases hji:j=i
  · subst hji
    unfold wpOp
    simp only[hoA,hw,if_true]
    refine .inl (evOp_wp (drawOp_stop hl hld hk) h.inv.rel h.erel fun m' v H' n' w' x hK hx h1 h2 h3 h4=>?_)
    obtain⟨hchk,hnext⟩:=hK
    have hcond:∀c∈cs,D.before c.1 j=false→(∀w,c.2 w)∨((∃o,l[c.1]?=some o∧isLoad o.op=true)∧c.1∈pre.map (·.1)∧∃t adr v mc nc,(c.1,t,adr,v)∈rd∧c.2=LC P mc nc t adr v∧nc≤n'∧NM.agree nc mc m'∧loadK P H' t adr (· =v)):=fun c hc hb=>
      (h.conds c hc).imp id fun⟨⟨oc,hoc,hocl⟩,g2,t,adr,v,mc,nc,g3,g4,g5,g6,g7⟩=>by
        obtain⟨p,hp,hpe⟩:=List.mem_map.1 g2
        have hpair:=(h.pairL hs).2.1 p hp
        have:=(pairOk_spec hpair (by rw[hpe]; exact hoc) ho (by rw[hpe]; exact hb)).2.2 hocl hl hld
        exact⟨⟨oc,hoc,hocl⟩,g2,t,adr,v,mc,nc,g3,g4,by omega,g6.trans h3 g5,chk_mem hchk g3 (by rw[← hpe]; exact this)⟩
    refine⟨fun c hc hb=>?_,next ⟨by rw[h.ord]; simp,h.inv.step h1 h2 h3 h4,(h.erel.agree h3 h2).putE (hs.dsts j o ho) hx,?_,by simpa using h.siz,h.closed.set hs.anc hr,hcnt,ersIn_r hs h hne,?_,h.ersNe,?_,?_⟩ (Nat.lt_succ_self f) hnext⟩
    · rcases hcond c hc hb with h1 | ⟨_,_,t,adr,v,mc,nc,_,e,g2,g3,g4⟩
      · exact h1 w'
      · rw[e]; exact⟨m',H',n',h1,g2,g3,g4⟩
    · intro y
      rw[h.lst_set hlt y,h.lst y]
      simp only[List.map_append,List.map_cons,List.map_nil,List.mem_append,List.mem_singleton]
      constructor
      · rintro(e | e | e)
        · exact .inl (.inr e)
        · exact .inl (.inl e)
        · exact .inr e
      · rintro((e | e) | e)
        · exact .inr (.inl e)
        · exact .inl e
        · exact .inr (.inr e)
    · intro s hsm
      obtain⟨o',z,t,f,d,he⟩:=h.ersOk s hsm
      exact⟨o',z,t,f,d,(he.step h4).put (dst_ne hs ho he.es (fun e=>hne (List.mem_map.2 ⟨s,hsm,e.symm⟩))) _⟩
    · intro p hp hpr
      have hip:j≠p.1:=fun e=>(h.head_not_r hs) (e▸hpr)
      rw[get_putE_ne (dst_ne hs ho hp hip)]
      exact h.msk p hp (by simp only[List.map_cons]; exact List.mem_cons_of_mem _ hpr)
    · intro c hc
      simp only[List.mem_filter,Bool.not_eq_true'] at hc
      refine(hcond c hc.1 hc.2).imp id fun⟨g1,g2,g3⟩=>⟨g1,by simp only[List.map_append,List.mem_append]; exact .inl g2,g3⟩
  ·
    have hqr:q∈r:=by
      rcases List.mem_cons.1 hq with rfl | hq
      · exact absurd hqj.symm hji
      · exact hq
    have hpair:=(h.pairL hs).1 q hqr
    have hnb:D.before i q.1=false:=by
      cases hx:D.before i q.1
      · rfl
      · have:=ready_anc hs.anc h.closed hj (x:=i) (by rw[← hqj]; exact hx)
        rcases (h.lst i).1 this with e | e
        · exact absurd e (h.head_not_pre hs)
        · exact absurd e hne
    have hoj:l[j]?=some l[j]:=List.getElem?_eq_getElem hjlt
    have hany:=(pairOk_spec hpair ho (by rw[hqj]; exact hoj) hnb).2.1 hl hld
    simp only[List.any_eq_true,beq_iff_eq] at hany
    obtain⟨p,hp,hpe⟩:=hany
    rw[hqj] at hpe
    obtain⟨oj,hoj',hdst,hgd,⟨⟨z,t,g⟩,het⟩,huni⟩:=hs.es p hp
    rw[hpe] at hoj'
    have hojA:l.toArray[j]?=some oj:=by simpa using hoj'
    obtain⟨m',w',h1,h2,h3,h4,h5⟩:=early_run het (a:=a) h.inv.rel h.erel
    obtain⟨hval,hok,hjk,hz⟩:=early_val het
    rcases h5 with ⟨x,hrun,hx⟩ | ⟨_,hbad⟩
    · obtain⟨hxv,_⟩:=hx (hjk n)
      have hle:H.le (H.upd n (some ⟨z,t,false⟩)):=fun j b hj=>⟨b,by rw[Heap.upd_ne _ _ (fun e=>by subst e; rw[rel_none h.inv.rel] at hj; cases hj)]; exact hj,rfl,rfl,List.prefix_refl _⟩
      have hrel:HRel m' H n w':=(h1.weaken hle).cut h.inv.rel.wf
      have hfr:Fr m H w m' H w':=h4.weaken hle
      have hge:w.heap.size≤m'.ρ n:=by
        rcases h4.own n ⟨z,t,false⟩ (Heap.upd_same _ _ _) with ⟨y,by_,hy,_,e⟩ | hge
        · exfalso
          have hyn:=h.inv.rel.dom y by_ hy
          refine h1.inj n y ⟨z,t,false⟩ by_ (Heap.upd_same _ _ _) (by rw[Heap.upd_ne _ _ (by omega)]; exact hy) (by omega) rfl ?_
          rw[(h3 y hyn).1,e]
        · exact hge
      have hjnp:j∉pre.map (·.1):=fun hm=>by
        obtain⟨pp,hpp,e⟩:=List.mem_map.1 hm
        exact(pairOk_ne ((h.pairL hs).2.2 pp hpp q hqr)).1 (e.trans hqj.symm)
      unfold wpOp
      simp only[hojA,wanted_none hgd,if_true,Oper.wp,hrun,Oper.upon]
      refine .inl ⟨fun c hc hb=>?_,again (ers':=(j,m',n) :: ers) (m':=m') ⟨h.ord,h.inv.step hrel (Nat.le_refl n) h3 hfr,?_,?_,by simpa using h.siz,h.closed.set hs.anc hj,?_,?_,?_,?_,h.msk,?_⟩ (Nat.lt_succ_self f)⟩
      · rcases h.conds c hc with h1 | ⟨_,_,t,adr,v,mc,nc,_,e,g2,g3,g4⟩
        · exact h1 w'
        · rw[e]; exact⟨m',H,n,hrel,g2,g3.trans h3 g2,g4⟩
      · rw[hdst]
        exact(h.erel.agree h3 (Nat.le_refl n)).put_junk (h.msk p hp (List.mem_map.2 ⟨q,hq,by rw[hqj,hpe]⟩)) _
      · intro y
        rw[h.lst_set hjlt y,h.lst y]
        simp only[List.map_cons,List.mem_cons]
        constructor
        · rintro(e | e | e)
          · exact .inr (.inl e)
          · exact .inl e
          · exact .inr (.inr e)
        · rintro(e | e | e)
          · exact .inr (.inl e)
          · exact .inl e
          · exact .inr (.inr e)
      · have hc:=h.cnt
        refine Nat.lt_succ_iff.1 (Nat.lt_of_lt_of_le (filter_lt (fun y hy=>?_) hq ?_ ?_) hc)
        · simp only[List.map_cons,List.contains_cons,Bool.not_eq_true',Bool.or_eq_false_iff] at hy ⊢
          exact hy.2
        · simp only[hqj]; simpa using hje
        · simp[hqj]
      · intro s hsm
        rcases List.mem_cons.1 hsm with rfl | hsm
        · exact List.mem_map.2 ⟨q,hq,hqj⟩
        · exact h.ersIn s hsm
      · intro s hsm
        rcases List.mem_cons.1 hsm with rfl | hsm
        · refine⟨oj,z,t,g,p.2,⟨by rw[← hpe]; exact hp,hoj',hdst,hgd,het,?_,?_,?_,?_,fun y b hy=>?_⟩⟩
          · refine(h1.weaken (H:=nilH.upd n (some ⟨z,t,false⟩)) fun y b hy=>?_)
            by_cases hyn:y=n
            · subst hyn; rw[Heap.upd_same] at hy ⊢; exact⟨b,hy,rfl,rfl,List.prefix_refl _⟩
            · rw[Heap.upd_ne _ _ hyn] at hy; simp[nilH] at hy
          · rw[hdst]
            have hd:p.2<a.tmps.size:=by rw[h.erel.size]; exact hs.dsts j oj hoj' _ hdst
            simp[Act.put,Array.getD_eq_getD_getElem?,hd,hxv]
          · exact Nat.le_trans h.inv.fr.size hge
          · obtain⟨c,fz,hc,_⟩:=h1.blk n ⟨z,t,false⟩ (Heap.upd_same _ _ _)
            exact lt_of_heap hc
          · have hyn:=h.inv.rel.dom y b hy
            intro e
            exact h1.inj n y ⟨z,t,false⟩ b (Heap.upd_same _ _ _) (by rw[Heap.upd_ne _ _ (by omega)]; exact hy) (by omega) rfl e.symm
        · obtain⟨o',z',t',f',d',he⟩:=h.ersOk s hsm
          have hsj:s.1≠j:=fun e=>hje (List.mem_map.2 ⟨s,hsm,e⟩)
          exact⟨o',z',t',f',d',(he.step hfr).put (dst_ne hs hoj' he.es (fun e=>hsj e.symm)) _⟩
      · have hold:∀s∈ers,s.2.1.ρ s.2.2<w.heap.size:=fun s hsm=>by
          obtain⟨o',z',t',f',d',he⟩:=h.ersOk s hsm
          exact he.lt
        intro s hsm s' hsm' hne'
        rcases List.mem_cons.1 hsm with rfl | hsm <;> rcases List.mem_cons.1 hsm' with rfl | hsm'
        · exact absurd rfl hne'
        · have:=hold s' hsm'; simp only; omega
        · have:=hold s hsm; simp only; omega
        · exact h.ersNe s hsm s' hsm' hne'
      · intro c hc
        simp only[List.mem_filter,Bool.not_eq_true'] at hc
        refine(h.conds c hc.1).imp id fun⟨g1,g2,t,adr,v,mc,nc,g3,g4,g5,g6,g7⟩=>⟨g1,g2,t,adr,v,mc,nc,g3,g4,g5,g6.trans h3 g5,g7⟩
    · exact absurd hbad (hjk n)
end
end Go.Ab
namespace Go.Ab
section
variable {P:Program} {N:Nat} {l:List Oper} {D:Draw} {k:Env→Heap→Nat→Prop} {m0:NM} {H0:Heap} {n0:Nat} {w0:World}
theorem loadK_det {P:Program} {H:Heap} {t:TypeId} {a:AV} {K:AV→Prop} (h:loadK P H t a K):∃v,K v∧loadK P H t a (· =v):=by
  unfold loadK at*
  split at h <;> try exact h.elim
  rename_i b off
  cases hb:H b with
  | none=>rw[hb] at h; exact h.elim
  | some blk=>
    rw[hb] at h
    cases ht:tyA P t with
    | none=>rw[ht] at h; exact h.elim
    | some q=>
      obtain⟨ag,sz⟩:=q
      rw[ht] at h
      cases ag
      · exact⟨_,h.2,h.1,rfl⟩
      · exact⟨_,h.2,h.1,rfl⟩
theorem ERel.congr {m:NM} {N n:Nat} {env env':Env} {a:Act} (h:ERel m N n env a) (he:∀t,env'.get t=env.get t):ERel m N n env' a:=
  h.weaken fun t _=>he t
theorem nodup_lt_length {l:List Nat} (hd:l.Nodup) {n:Nat} (h:∀x∈l,x<n):l.length≤n:=by
  induction n generalizing l with
  | zero=>
    cases l with
    | nil=>simp
    | cons a r=>exact absurd (h a List.mem_cons_self) (Nat.not_lt_zero _)
  | succ n ih=>
    have h1:(l.erase n).length≤n:=ih (hd.erase n) fun x hx=>by
      have hx':=List.mem_of_mem_erase hx
      have:=h x hx'
      have hne:x≠n:=fun e=>by subst e; exact(hd.not_mem_erase) hx
      omega
    have:=List.le_length_erase (a:=n) (l:=l)
    omega
theorem St.reenv {pre rest:List (Nat×List Nat)} {rd:RD} {ers:List ER} {fuel:Nat} {listed:Array Bool} {cs:List (Nat×(World→Prop))} {env env':Env} {H:Heap} {n:Nat} {m:NM} {a:Act} {w:World}
    (h:St P N l D m0 H0 n0 w0 pre rest rd ers fuel listed cs env H n m a w) (he:ERel m N n env' a) (hj:∀d,env.get d=.junk→env'.get d=.junk):
    St P N l D m0 H0 n0 w0 pre rest rd ers fuel listed cs env' H n m a w:=
  { h with erel:=he,msk:=fun p hp hr=>hj _ (h.msk p hp hr)}
theorem draw_main (hs:DrawSpec P N l D):∀(q:Nat) {pre rest:List (Nat×List Nat)} {rd:RD} {ers:List ER} {fuel:Nat} {listed:Array Bool} {cs:List (Nat×(World→Prop))} {env:Env} {H:Heap} {n:Nat} {m:NM} {a:Act} {w:World},
    fuel+rest.length<q→St P N l D m0 H0 n0 w0 pre rest rd ers fuel listed cs env H n m a w→drawK P l k rest rd env H n→
    wpAnyL P .any l.toArray (drawQ N k m0 H0 n0 w0) D.before fuel listed cs a w:=by
  intro q
  induction q with
  | zero=>intro pre rest rd ers fuel listed cs env H n m a w hq; omega
  | succ q ih=>
    intro pre rest rd ers fuel listed cs env H n m a w hq h hk
    match rest with
    | []=>
      have hr:Region.ready .any l.toArray listed=[]:=by
        refine List.eq_nil_iff_forall_not_mem.2 fun j hj=>?_
        obtain⟨_,_,q,hq,_⟩:=h.ready_rest hs hj
        simp at hq
      have hQ:drawQ N k m0 H0 n0 w0 .normal a w:=⟨rfl,m,env,H,n,hk,h.inv,h.erel⟩
      cases fuel with
      | zero=>exact⟨hr,hQ⟩
      | succ f=>exact⟨fun _=>hQ,by rw[hr]; simp⟩
    | (i,ws) :: r=>
      simp only[List.length_cons] at hq
      by_cases hin:i∈ers.map (·.1)
      · obtain⟨env',H',n',m',hk',h'⟩:=adopt_step hs h hin hk
        exact ih (by omega) h' hk'
      · have ho:l[i]?=some (l[i]'(h.head_lt hs)):=List.getElem?_eq_getElem _
        generalize l[i]'(h.head_lt hs)=o at ho
        have body:∀ {env':Env},(∀t,env'.get t=env.get t)→Region.wanted o (yielded l.toArray a.tmps)=true→drawOp P o i ws (drawK P l k r) rd env' H n→
            wpAnyL P .any l.toArray (drawQ N k m0 H0 n0 w0) D.before fuel listed cs a w:=by
          intro env' he hw hk'
          have h':St P N l D m0 H0 n0 w0 pre ((i,ws) :: r) rd ers fuel listed cs env' H n m a w:=h.reenv (h.erel.congr he) (fun d hd=>by rw[he]; exact hd)
          cases hld:isLoad o.op with
          | true=>
            obtain⟨t,x,hop⟩:∃t x,o.op=.load t x:=by
              cases hop:o.op <;> rw[hop] at hld <;> first | exact⟨_,_,rfl⟩ | simp[isLoad] at hld
            simp only[drawOp,hop] at hk'
            obtain⟨v,hv,hlv⟩:=loadK_det hk'
            have hrun:∀ {m' H' n' w'},HRel m' H' n' w'→n≤n'→NM.agree n m m'→loadK P H' t (opv env' x) (· =v)→(execOp a.eval o).run P w'=.ok (.value (AV.toV m' v)) w'∧v.ok n'=true:=fun {m' H' n' w'} h1 h2 h3 h4=>by
              obtain⟨v',rfl,hr⟩:=load_sound hop h4
              exact hr m' N n' a w' h1 (h'.erel.agree h3 h2)
            have hok:=(hrun h.inv.rel (Nat.le_refl n) (NM.agree.refl n m) hlv).2
            refine light_step hs (C:=LC P m n t (opv env' x) v) (x:=AV.toV m v) (v:=v) h' ho hin (.inl ⟨hw,fun w' ⟨m',H',n',h1,h2,h3,h4⟩=>?_⟩) ⟨m,H,n,h.inv.rel,Nat.le_refl n,NM.agree.refl n m,hlv⟩ (fun _=>⟨rfl,hok⟩)
              (rd':=(i,t,opv env' x,v) :: rd) (fun y hy=>List.mem_cons_of_mem _ hy) (.inr ⟨⟨o,ho,hld⟩,t,opv env' x,v,m,n,List.mem_cons_self,rfl,Nat.le_refl n,NM.agree.refl n m,hlv⟩) (fun h' hf=>ih (by omega) h' hv)
            rw[(hrun h1 h2 h3 h4).1,AV.toV_agree h3 v hok]
          | false=>
            cases hl:lightOp o.op with
            | true=>
              have hk2:evOp P env' nilH n o.op (litK (drawK P l k r rd) o.dst env' H n):=by
                unfold drawOp at hk'
                split at hk'
                · rename_i hop; rw[hop] at hld; simp[isLoad] at hld
                · rw[if_pos hl] at hk'; exact hk'
              obtain⟨v,hv,hp⟩:=light_sound (K:=fun v=>drawK P l k r rd (putE o.dst v env') H n) hl hk2
              obtain⟨x,hx,hxv⟩:=hp m N n a h'.erel
              exact light_step hs (C:=fun _=>True) h' ho hin (.inl ⟨hw,fun w' _=>hx w'⟩) trivial hxv (rd':=rd) (fun y hy=>hy) (.inl fun _=>trivial) (fun h' hf=>ih (by omega) h' hv)
            | false=>
              exact stop_step hs h' ho hin hl hld hw hk' (fun h2 hf hk2=>ih (by omega) h2 hk2)
                (fun h2 hf=>ih (by simp only[List.length_cons]; omega) (h2.reenv (h2.erel.congr fun t=>(he t).symm) (fun d hd=>by rw[← he]; exact hd)) hk)
        have hk0:=hk
        unfold drawK at hk0
        rw[ho] at hk0
        simp only at hk0
        split at hk0
        · rename_i hg
          exact body (fun _=>rfl) (wanted_none hg _) hk0
        · rename_i j want hg
          split at hk0 <;> try exact hk0.elim
          rename_i t ht
          split at hk0 <;> try exact hk0.elim
          · rename_i c hc
            have hy:=yielded_of (ops:=l) h.erel ht hc
            by_cases hcw:c=want
            · refine body (env':=(t,.bo want) :: env) (fun u=>?_) (by simp[Region.wanted,hg,hy,hcw]) (hk0.1 hcw)
              simp only[Env.get]
              split
              · rename_i e; rw[← e,hc,hcw]
              · rfl
            · have hcn:c=!want:=by cases c <;> cases want <;> simp_all
              have he:∀u,Env.get ((t,.bo (!want)) :: env) u=env.get u:=fun u=>by
                simp only[Env.get]
                split
                · rename_i e; rw[← e,hc,hcn]
                · rfl
              have h':St P N l D m0 H0 n0 w0 pre ((i,ws) :: r) rd ers fuel listed cs ((t,.bo (!want)) :: env) H n m a w:=h.reenv (h.erel.congr he) (fun d hd=>by rw[he]; exact hd)
              exact light_step hs (C:=fun _=>True) (x:=undef) (v:=.tu []) h' ho hin (.inr ⟨by simp[Region.wanted,hg,hy,hcw],rfl⟩) trivial (fun _=>undef_tu m n) (rd':=rd) (fun y hy=>hy) (.inl fun _=>trivial) (fun h' hf=>ih (by omega) h' (hk0.2 hcn))
          · rename_i hc
            have hy:=yielded_none (ops:=l) h.erel ht hc
            exact light_step hs (C:=fun _=>True) (x:=undef) (v:=.tu []) h ho hin (.inr ⟨by simp[Region.wanted,hg,hy],rfl⟩) trivial (fun _=>undef_tu m n) (rd':=rd) (fun y hy=>hy) (.inl fun _=>trivial) (fun h' hf=>ih (by omega) h' hk0)
def maskE (es:List (Nat×Nat)) (env:Env):Env:=es.map (fun p=>(p.2,AV.junk))++env
theorem maskE_get {es:List (Nat×Nat)} {env:Env} {p:Nat×Nat} (hp:p∈es):(maskE es env).get p.2=.junk:=by
  induction es with
  | nil=>simp at hp
  | cons q r ih=>
    simp only[maskE,List.map_cons,List.cons_append,Env.get]
    split
    · rfl
    · rename_i hne
      rcases List.mem_cons.1 hp with rfl | hp
      · exact absurd rfl hne
      · exact ih hp
theorem maskE_le {es:List (Nat×Nat)} {env:Env}:(maskE es env).le env:=by
  intro t ht
  induction es with
  | nil=>rfl
  | cons q r ih=>
    simp only[maskE,List.map_cons,List.cons_append,Env.get] at ht ⊢
    split at ht
    · exact absurd rfl ht
    · rename_i hne; rw[if_neg hne]; exact ih ht
theorem HRel.drawn {m:NM} {H:Heap} {n:Nat} {w:World} (h:HRel m H n w):HRel m H n { w with drawn:=w.drawn+1}:=⟨h.dom,h.blk,h.inj,h.ok⟩
theorem Fr.drawn {m m':NM} {H H':Heap} {w w':World} (h:Fr m H w m' H' w'):Fr m H w m' H' { w' with drawn:=w'.drawn+1}:=⟨h.os,h.tape,h.output,h.size,h.keep,h.own⟩
theorem replicate_false (n x:Nat):(Array.replicate n false).getD x false=false:=by
  rcases Nat.lt_or_ge x n with h | h
  · simp[h]
  · simp[Array.getElem?_eq_none (xs:=Array.replicate n false) (i:=x) (by simpa using h)]
theorem awp_draw {id:Nat} (hm:P.follows .mixedOrders=true) (hd:drawOk P N l D=true) {K:Exit→Env→Heap→Nat→Prop} {env:Env} {H:Heap} {n:Nat}
    (h:drawK P l (K .normal) D.ord [] (maskE D.es env) H n):awp P N (.region id l.toArray true) K env H n:=by
  intro m0 H0 n0 w0 m a w hI hE
  have hs:=drawOk_spec hd
  have hpost:∀e a' w',drawQ N (K .normal) m0 H0 n0 w0 e a' w'→∃m' env' H' n',Inv m0 H0 n0 w0 m' H' n' w'∧ERel m' N n' env' a'∧K e env' H' n':=by
    rintro e a' w' ⟨rfl,m',env',H',n',hK,h1,h2⟩
    exact⟨m',env',H',n',h1,h2,hK⟩
  refine wp_mono ?_ hpost
  refine wp_region_any hm (wpAny_of_L (anc:=D.before) _ _ [] _ _ ?_)
  refine draw_main hs _ (Nat.lt_succ_self _) (pre:=[]) (rest:=D.ord) (rd:=[]) (ers:=[]) (cs:=[]) (env:=maskE D.es env) ⟨rfl,⟨hI.rel.drawn,hI.le,hI.ag,hI.fr.drawn⟩,hE.weaken maskE_le,?_,by simp,?_,?_,by simp,by simp,by simp,fun p hp _=>maskE_get hp,by simp⟩ h
  · intro x
    simp only[List.map_nil,List.not_mem_nil,or_self,iff_false,replicate_false]
    simp
  · intro j hj
    rw[replicate_false] at hj
    cases hj
  · have:(D.ord.filter fun p=>!(([]:List ER).map (·.1)).contains p.1).length≤D.ord.length:=List.length_filter_le _ _
    refine Nat.le_trans this ?_
    have hnd:(D.ord.map (·.1)).Nodup:=by
      rw[List.Nodup,List.pairwise_map]
      exact hs.pairs.imp fun h=>(pairOk_ne h).1
    have hsub:∀x∈D.ord.map (·.1),x<l.length:=fun x hx=>by
      obtain⟨p,hp,rfl⟩:=List.mem_map.1 hx
      exact hs.lt p hp
    rw[← List.length_map (f:=(·.1))]
    simpa using nodup_lt_length hnd hsub
end
end Go.Ab
namespace Go.Ab
mutual
def AV.ren (σ:Nat→Nat):AV→AV
  | .pt b o=>.pt (σ b) o
  | .sl b o l c=>.sl (σ b) o l c
  | .su b o l e=>.su (σ b) o l e
  | .ag l=>.ag (AV.rens σ l)
  | .tu l=>.tu (AV.rens σ l)
  | .ifc t v=>.ifc t (AV.ren σ v)
  | .fn f l=>.fn f (AV.rens σ l)
  | .bo x=>.bo x | .u8 x=>.u8 x | .u16 x=>.u16 x | .u32 x=>.u32 x | .u64 x=>.u64 x | .i8 x=>.i8 x | .i32 x=>.i32 x | .i64 x=>.i64 x
  | .st x=>.st x | .pn=>.pn | .sn=>.sn | .ifn=>.ifn | .fnn=>.fnn | .junk=>.junk
def AV.rens (σ:Nat→Nat):List AV→List AV
  | []=>[]
  | v :: r=>AV.ren σ v :: AV.rens σ r
end
def NM.comp (m:NM) (σ:Nat→Nat):NM:=⟨fun i=>m.ρ (σ i),fun i=>m.κ (σ i),fun i=>m.β (σ i)⟩
mutual
theorem AV.toV_ren (m:NM) (σ:Nat→Nat):∀v:AV,AV.toV m (AV.ren σ v)=AV.toV (m.comp σ) v
  | .pt b o=>rfl
  | .sl b o l c=>rfl
  | .su b o l e=>rfl
  | .ag l=>by simp only[AV.ren,AV.toV,AV.toVs_ren m σ l]
  | .tu l=>by simp only[AV.ren,AV.toV,AV.toVs_ren m σ l]
  | .ifc t v=>by simp only[AV.ren,AV.toV,AV.toV_ren m σ v]
  | .fn f l=>by simp only[AV.ren,AV.toV,AV.toVs_ren m σ l]
  | .bo _=>rfl | .u8 _=>rfl | .u16 _=>rfl | .u32 _=>rfl | .u64 _=>rfl | .i8 _=>rfl | .i32 _=>rfl | .i64 _=>rfl
  | .st _=>rfl | .pn=>rfl | .sn=>rfl | .ifn=>rfl | .fnn=>rfl | .junk=>rfl
theorem AV.toVs_ren (m:NM) (σ:Nat→Nat):∀l:List AV,AV.toVs m (AV.rens σ l)=AV.toVs (m.comp σ) l
  | []=>rfl
  | v :: r=>by simp only[AV.rens,AV.toVs,AV.toV_ren m σ v,AV.toVs_ren m σ r]
end
mutual
theorem AV.ren_low {σ:Nat→Nat} {n:Nat} (h:∀i,i<n→σ i=i):∀v:AV,v.ok n=true→AV.ren σ v=v
  | .pt b o,hv=>by simp only[AV.ok,decide_eq_true_eq] at hv; simp only[AV.ren,h b hv]
  | .sl b o l c,hv=>by simp only[AV.ok,decide_eq_true_eq] at hv; simp only[AV.ren,h b hv]
  | .su b o l e,hv=>by simp only[AV.ok,Bool.and_eq_true,decide_eq_true_eq] at hv; simp only[AV.ren,h b hv.1]
  | .ag l,hv=>by simp only[AV.ok,Bool.and_eq_true] at hv; simp only[AV.ren,AV.rens_low h l hv.1]
  | .tu l,hv=>by simp only[AV.ok] at hv; simp only[AV.ren,AV.rens_low h l hv]
  | .ifc t v,hv=>by simp only[AV.ok] at hv; simp only[AV.ren,AV.ren_low h v hv]
  | .fn f l,hv=>by simp only[AV.ok] at hv; simp only[AV.ren,AV.rens_low h l hv]
  | .bo _,_=>rfl | .u8 _,_=>rfl | .u16 _,_=>rfl | .u32 _,_=>rfl | .u64 _,_=>rfl | .i8 _,_=>rfl | .i32 _,_=>rfl | .i64 _,_=>rfl
  | .st _,_=>rfl | .pn,_=>rfl | .sn,_=>rfl | .ifn,_=>rfl | .fnn,_=>rfl | .junk,_=>rfl
theorem AV.rens_low {σ:Nat→Nat} {n:Nat} (h:∀i,i<n→σ i=i):∀l:List AV,AV.oks n l=true→AV.rens σ l=l
  | [],_=>rfl
  | v :: r,hv=>by simp only[AV.oks,Bool.and_eq_true] at hv; simp only[AV.rens,AV.ren_low h v hv.1,AV.rens_low h r hv.2]
end
theorem AV.ren_one (σ:Nat→Nat) (v:AV):(AV.ren σ v).one=v.one:=by cases v <;> rfl
def Blk.ren (σ:Nat→Nat) (b:Blk):Blk:={ b with cells:=b.cells.map (AV.ren σ)}
theorem Blk.ren_low {σ:Nat→Nat} {n:Nat} (h:∀i,i<n→σ i=i) {b:Blk} (hb:∀v∈b.cells,v.ok n=true):b.ren σ=b:=by
  unfold Blk.ren
  rw[List.map_congr_left (g:=id) (fun v hv=>AV.ren_low h v (hb v hv))]
  simp
structure Ren (σ:Nat→Nat) (n0 n':Nat) (H H':Heap):Prop where
  low:∀i,i<n0→σ i=i
  le:n0≤n'
  blk:∀i b',H' i=some b'→i<n'∧(∀v∈b'.cells,v.ok n'=true)∧∃b,H (σ i)=some b∧b'.elem=b.elem∧b'.ro=b.ro∧(b'.cells.map (AV.ren σ))<+:b.cells
  inj:∀i j bi bj,H' i=some bi→H' j=some bj→i≠j→bi.ro=false→σ i≠σ j
theorem Ren.rel {σ:Nat→Nat} {n0 n n':Nat} {H H':Heap} {m:NM} {w:World} (r:Ren σ n0 n' H H') (h:HRel m H n w):HRel (m.comp σ) H' n' w where
  dom:=fun i b hi=>(r.blk i b hi).1
  blk:=fun i b' hi=>by
    obtain⟨_,_,b,hb,he,hr,hp⟩:=r.blk i b' hi
    obtain⟨c,fz,hc,hk,hf,hv⟩:=h.blk (σ i) b hb
    refine⟨c,fz,by rw[he]; exact hc,hk,fun h0=>hf (by rw[← hr]; exact h0),fun j v hj=>?_⟩
    rw[← AV.toV_ren]
    exact hv j _ (getElem?_of_prefix hp (by rw[List.getElem?_map,hj]; rfl))
  inj:=fun i j bi bj hi hj hne hro=>by
    obtain⟨_,_,b,hb,_,hr,_⟩:=r.blk i bi hi
    obtain⟨_,_,b2,hb2,_⟩:=r.blk j bj hj
    exact h.inj (σ i) (σ j) b b2 hb hb2 (r.inj i j bi bj hi hj hne hro) (by rw[← hr]; exact hro)
  ok:=fun i b' hi v hv=>by
    obtain⟨_,ho,b,hb,_,_,hp⟩:=r.blk i b' hi
    refine⟨ho v hv,?_⟩
    have:=(h.ok (σ i) b hb (AV.ren σ v) (hp.subset (List.mem_map_of_mem hv))).2
    rwa [AV.ren_one] at this
theorem Ren.fr {σ:Nat→Nat} {n0 n':Nat} {H0 H H':Heap} {m0 m:NM} {w0 w:World} (r:Ren σ n0 n' H H') (h:Fr m0 H0 w0 m H w):Fr m0 H0 w0 (m.comp σ) H' w where
  os:=h.os
  tape:=h.tape
  output:=h.output
  size:=h.size
  keep:=h.keep
  own:=fun i b' hi=>by
    obtain⟨_,_,b,hb,_,hr,_⟩:=r.blk i b' hi
    rcases h.own (σ i) b hb with ⟨j,bj,hj,hjr,e⟩ | hge
    · exact .inl ⟨j,bj,hj,fun h0=>hjr (by rw[← hr]; exact h0),e⟩
    · exact .inr hge
theorem Ren.ag {σ:Nat→Nat} {n0:Nat} {m0 m:NM} (low:∀i,i<n0→σ i=i) (h:NM.agree n0 m0 m):NM.agree n0 m0 (m.comp σ):=fun i hi=>by
  have:=h i hi
  simp only[NM.comp,low i hi]
  exact this
theorem Ren.inv {σ:Nat→Nat} {n0 n n':Nat} {H0 H H':Heap} {m0 m:NM} {w0 w:World} (r:Ren σ n0 n' H H') (h:Inv m0 H0 n0 w0 m H n w):Inv m0 H0 n0 w0 (m.comp σ) H' n' w:=
  ⟨r.rel h.rel,r.le,Ren.ag r.low h.ag,r.fr h.fr⟩
theorem Ren.of {σ:Nat→Nat} {n0 n':Nat} {H H':Heap} (low:∀i,i<n0→σ i=i) (le:n0≤n') (wf:H'.wf n') (h:∀i,i<n'→H (σ i)=(H' i).map (Blk.ren σ))
    (inj:∀i j,i<n'→j<n'→i≠j→σ i≠σ j):Ren σ n0 n' H H' where
  low:=low
  le:=le
  blk:=fun i b' hi=>by
    obtain⟨h1,h2⟩:=wf i b' hi
    refine⟨h1,h2,b'.ren σ,by rw[h i h1,hi]; rfl,rfl,rfl,List.prefix_refl _⟩
  inj:=fun i j bi bj hi hj hne _=>inj i j (wf i bi hi).1 (wf j bj hj).1 hne
theorem Heap.ren_low {σ:Nat→Nat} {n:Nat} {H:Heap} (wf:H.wf n) (h:∀i,i<n→σ i=i) (i:Nat):(H i).map (Blk.ren σ)=H i:=by
  cases hb:H i with
  | none=>rfl
  | some b=>simp only[Option.map_some,Blk.ren_low h (wf i b hb).2]
def Env.renLe (σ:Nat→Nat) (e e':Env):Prop:=∀t,e.get t≠ .junk→AV.ren σ (e.get t)=e'.get t
theorem ren_ne_junk {σ:Nat→Nat} {v:AV} (h:v≠ .junk):AV.ren σ v≠ .junk:=by cases v <;> simp_all [AV.ren]
theorem ERel.ren {m:NM} {N n n':Nat} {σ:Nat→Nat} {e e':Env} {a:Act} (h:ERel m N n e' a) (hl:e.renLe σ e') (hk:∀t,e.get t≠ .junk→(e.get t).ok n'=true):ERel (m.comp σ) N n' e a where
  size:=h.size
  defers:=h.defers
  get:=fun t ht=>by
    have e1:=hl t ht
    have:=h.get t (by rw[← e1]; exact ren_ne_junk ht)
    refine⟨?_,hk t ht⟩
    rw[this.1,← e1,AV.toV_ren]
end Go.Ab
namespace Go.Ab
def ev (P:Program) (N:Nat) (T:Nat→Draw):Code→(Exit→Env→Heap→Nat→Prop)→Env→Heap→Nat→Prop
  | .skip,K,env,H,n=>K .normal env H n
  | .label _,K,env,H,n=>K .normal env H n
  | .ret,K,env,H,n=>K .ret env H n
  | .exit id,K,env,H,n=>K (.exit id) env H n
  | .seq a b,K,env,H,n=>ev P N T a (seqK (ev P N T b K) K) env H n
  | .block id b,K,env,H,n=>ev P N T b (blkK id K) env H n
  | .cond c x y,K,env,H,n=>match opv env c with
    | .bo t=>(t=true→ev P N T x K env H n)∧(t=false→ev P N T y K env H n)
    | _=>False
  | .region _ ops false,K,env,H,n=>evOps P ops.toList ops.toList (K .normal) env H n
  | .region id ops true,K,env,H,n=>drawK P ops.toList (K .normal) (T id).ord [] (maskE (T id).es env) H n
  | c,K,env,H,n=>awp P N c K env H n
def codeOk (P:Program) (N:Nat) (T:Nat→Draw):Code→Bool
  | .region id ops draw=>dstsOk N ops.toList&&(!draw||(P.follows .mixedOrders&&drawOk P N ops.toList (T id)))
  | .seq a b=>codeOk P N T a&&codeOk P N T b
  | .cond _ a b=>codeOk P N T a&&codeOk P N T b
  | .block _ a=>codeOk P N T a
  | _=>true
theorem ev_sound {P:Program} {N:Nat} {T:Nat→Draw}:∀(c:Code) (K:Exit→Env→Heap→Nat→Prop) (env:Env) (H:Heap) (n:Nat),codeOk P N T c=true→ev P N T c K env H n→awp P N c K env H n
  | .skip,_,_,_,_,_,h=>awp_skip h
  | .label _,_,_,_,_,_,h=>awp_label h
  | .ret,_,_,_,_,_,h=>awp_ret h
  | .exit _,_,_,_,_,_,h=>awp_exit h
  | .seq a b,K,env,H,n,hc,h=>by
    simp only[codeOk,Bool.and_eq_true] at hc
    refine awp_seq ((ev_sound a _ env H n hc.1 h).mono fun e env' H' n' hk=>?_)
    cases e <;> first | exact ev_sound b K env' H' n' hc.2 hk | exact hk
  | .block id b,K,env,H,n,hc,h=>awp_block (ev_sound b _ env H n hc h)
  | .cond c x y,K,env,H,n,hc,h=>by
    simp only[codeOk,Bool.and_eq_true] at hc
    unfold ev at h
    split at h <;> try exact h.elim
    rename_i t ht
    exact awp_cond ht (fun e=>ev_sound x K env H n hc.1 (h.1 e)) (fun e=>ev_sound y K env H n hc.2 (h.2 e))
  | .region id ops draw,K,env,H,n,hc,h=>by
    simp only[codeOk,Bool.and_eq_true] at hc
    cases draw with
    | true=>
      have h2:P.follows .mixedOrders=true∧drawOk P N ops.toList (T id)=true:=by simpa using hc.2
      have:=awp_draw (id:=id) (l:=ops.toList) (N:=N) (P:=P) (K:=K) h2.1 h2.2 h
      rwa [Array.toArray_toList] at this
    | false=>
      have:=awp_region (id:=id) (l:=ops.toList) (N:=N) (P:=P) (K:=K) hc.1 h
      rwa [Array.toArray_toList] at this
  | .loop _,_,_,_,_,_,h=>h
  | .rangeFunc ..,_,_,_,_,_,h=>h
  | .scope _,_,_,_,_,_,h=>h
  | .goto _,_,_,_,_,_,h=>h
  | .refuse _,_,_,_,_,_,h=>h
def Env.okAt (e:Env) (n:Nat):Prop:=∀t,e.get t≠ .junk→(e.get t).ok n=true
theorem Env.okAt_nil (n:Nat):Env.okAt [] n:=fun _ h=>absurd rfl h
theorem Env.okAt_cons {t n:Nat} {v:AV} {e:Env} (h:v.ok n=true) (h':e.okAt n):Env.okAt ((t,v) :: e) n:=fun u hu=>by
  simp only[Env.get] at hu ⊢
  split
  · exact h
  · rename_i c; rw[if_neg c] at hu; exact h' u hu
theorem Heap.le_on {H H':Heap} {n:Nat} (wf:H.wf n) (h:∀i,i<n→H' i=H i):H.le H':=fun i b hb=>⟨b,by rw[h i (wf i b hb).1]; exact hb,rfl,rfl,List.prefix_refl _⟩
theorem Heap.wf_upd {H:Heap} {n:Nat} {blk:Blk} (wf:H.wf n) (h:∀v∈blk.cells,v.ok (n+1)=true):(H.upd n (some blk)).wf (n+1):=fun i b hb=>by
  by_cases hi:i=n
  · subst hi
    rw[Heap.upd_same] at hb
    simp only[Option.some.injEq] at hb; subst hb
    exact⟨by omega,h⟩
  · rw[Heap.upd_ne _ _ hi] at hb
    obtain⟨h1,h2⟩:=wf i b hb
    exact⟨by omega,fun v hv=>AV.ok_mono (by omega) v (h2 v hv)⟩
theorem Heap.wf_set {H:Heap} {n i:Nat} {blk:Blk} (wf:H.wf n) (hi:i<n) (h:∀v∈blk.cells,v.ok n=true):(H.upd i (some blk)).wf n:=fun j b hb=>by
  by_cases hj:j=i
  · subst hj
    rw[Heap.upd_same] at hb
    simp only[Option.some.injEq] at hb; subst hb
    exact⟨hi,h⟩
  · rw[Heap.upd_ne _ _ hj] at hb
    exact wf j b hb
def resK (P:Program) (H:Heap) (env:Env):List ResultVar→(List AV→Prop)→Prop
  | [],k=>k []
  | .tmp t :: r,k=>env.get t≠ .junk∧resK P H env r fun l=>k (env.get t :: l)
  | .cell a t :: r,k=>loadK P H t (env.get a) fun v=>resK P H env r fun l=>k (v :: l)
def pack:List AV→AV
  | [v]=>v
  | l=>.tu l
def Fin (n0:Nat) (v:AV) (H:Heap) (n:Nat) (K:AV→Heap→Nat→Prop):Prop:=
  (∃H' n',H'.le H∧(n'=n∨(n'=n0∧H'.wf n0∧v.ok n0=true))∧K v H' n')∨
  (∃σ v' H' n',Ren σ n0 n' H H'∧v'.ok n'=true∧v=AV.ren σ v'∧K v' H' n')
theorem Fin.keep {n0:Nat} {v:AV} {H:Heap} {n:Nat} {K:AV→Heap→Nat→Prop} (h:K v H n):Fin n0 v H n K:=.inl ⟨H,n,Heap.le.refl H,.inl rfl,h⟩
theorem Fin.less {n0:Nat} {v:AV} {H H':Heap} {n:Nat} {K:AV→Heap→Nat→Prop} (hl:H'.le H) (h:K v H' n):Fin n0 v H n K:=.inl ⟨H',n,hl,.inl rfl,h⟩
theorem Fin.drop {n0:Nat} {v:AV} {H H':Heap} {n:Nat} {K:AV→Heap→Nat→Prop} (h:K v H' n0) (hl:H'.le H) (hw:H'.wf n0) (hv:v.ok n0=true):Fin n0 v H n K:=.inl ⟨H',n0,hl,.inr ⟨rfl,hw,hv⟩,h⟩
theorem Fin.ren {n0:Nat} {v:AV} {H:Heap} {n:Nat} {K:AV→Heap→Nat→Prop} (σ:Nat→Nat) {v':AV} {H':Heap} {n':Nat} (h:K v' H' n') (r:Ren σ n0 n' H H') (hv:v'.ok n'=true) (e:v=AV.ren σ v'):Fin n0 v H n K:=.inr ⟨σ,v',H',n',r,hv,e,h⟩
def finK (P:Program) (res:List ResultVar) (n0:Nat) (K:AV→Heap→Nat→Prop):Exit→Env→Heap→Nat→Prop
  | .normal,env,H,n=>resK P H env res fun vs=>Fin n0 (pack vs) H n K
  | .ret,env,H,n=>resK P H env res fun vs=>Fin n0 (pack vs) H n K
  | _,_,_,_=>False
def envFrom:Nat→List AV→Env
  | _,[]=>[]
  | i,v :: r=>(i,v) :: envFrom (i+1) r
theorem envFrom_get:∀(l:List AV) (i t:Nat),(envFrom i l).get t≠ .junk→i≤t∧l[t-i]?=some ((envFrom i l).get t)
  | [],i,t,h=>absurd rfl h
  | v :: r,i,t,h=>by
    simp only[envFrom,Env.get] at h ⊢
    split at h
    · rename_i e; subst e; simp
    · rename_i e
      obtain⟨h1,h2⟩:=envFrom_get r (i+1) t h
      refine⟨by omega,?_⟩
      rw[if_neg e,← h2,show t-i=(t-(i+1))+1 from by omega]; simp
def resG (tmps:Array Value):ResultVar→Sem Value
  | .tmp t=>pure (tmps.getD t undef)
  | .cell a t=>do loadVar t (← asAddr (tmps.getD a undef))
theorem results_eq (fn:Func) (tmps:Array Value):results fn tmps=(fn.results.mapM (resG tmps)>>=fun vs=>pure (if h:vs.size=1 then vs[0] else .tuple vs)):=by
  unfold results
  congr 1
theorem resK_sound {P:Program} {H:Heap} {env:Env} {m:NM} {N n:Nat} {a:Act} {w:World} (hH:HRel m H n w) (hE:ERel m N n env a):∀(rs:List ResultVar) (k:List AV→Prop),resK P H env rs k→
    ∃vs,k vs∧(∀v∈vs,v.ok n=true)∧(rs.mapM (resG a.tmps)).run P w=.ok (vs.map (AV.toV m)) w
  | [],k,h=>⟨[],h,by simp,rfl⟩
  | .tmp t :: r,k,h=>by
    obtain⟨hj,h⟩:=h
    obtain⟨vs,hk,hok,hr⟩:=resK_sound hH hE r _ h
    have e:=hE.get t hj
    refine⟨_,hk,fun v hv=>?_,?_⟩
    · rcases List.mem_cons.1 hv with rfl | hv
      · exact e.2
      · exact hok v hv
    · rw[List.mapM_cons]
      have h1:(resG a.tmps (.tmp t)).run P w=.ok (AV.toV m (env.get t)) w:=by simp only[resG]; rw[e.1]; rfl
      rw[run_ok_bind h1,run_ok_bind hr]; rfl
  | .cell x t :: r,k,h=>by
    unfold resK at h
    have hx:∃b off,env.get x=.pt b off:=by
      unfold loadK at h
      split at h <;> first | exact⟨_,_,by assumption⟩ | exact h.elim
    obtain⟨b,off,hx⟩:=hx
    obtain⟨v,hv,hl⟩:=load_sound (P:=P) (env:=env) (o:={ dst:=none,op:=.load t (.tmp x),type:=0,pos:= "",after:= #[],guard:=none}) rfl h
    obtain⟨hrun,hok⟩:=hl m N n a w hH hE
    obtain⟨vs,hk,hoks,hr⟩:=resK_sound hH hE r _ hv
    have e:=hE.get x (by rw[hx]; simp)
    rw[hx,AV.toV] at e
    refine⟨_,hk,fun y hy=>?_,?_⟩
    · rcases List.mem_cons.1 hy with rfl | hy
      · exact hok
      · exact hoks y hy
    · rw[List.mapM_cons]
      have h1:(resG a.tmps (.cell x t)).run P w=.ok (AV.toV m v) w:=by
        simp only[resG]
        rw[e.1]
        have h2:(loadVar t ⟨m.ρ b,m.β b+off,none⟩>>=fun r=>pure (Next.value r)).run P w=.ok (.value (AV.toV m v)) w:=by
          have:=hrun
          simp only[execOp,Act.eval,e.1,Instr.loadAt,Instr.sureAddr,pure_bind] at this
          exact this
        rw[run_bind] at h2
        show(loadVar t ⟨m.ρ b,m.β b+off,none⟩).run P w=_
        split at h2
        · rename_i y w' hy
          rw[hy]
          simp only[run_pure,Result.ok.injEq,Next.value.injEq] at h2
          rw[h2.1,h2.2]
        · simp at h2
      rw[run_ok_bind h1,run_ok_bind hr]; rfl
theorem ACalls.of_awp {P:Program} {f:FuncId} {fn:Func} {body:Code} {args:List AV} {H:Heap} {n:Nat} {K:AV→Heap→Nat→Prop} (hf:P.funcs[f]?=some fn) (hb:fn.body=some body)
    (hname:(fn.name== "runtime.NumGoroutine")=false) (hlen:args.length≤fn.ntmps) (hj:∀v∈args,v≠ .junk)
    (h:H.wf n→awp P fn.ntmps body (finK P fn.results.toList n K) (envFrom 0 args) H n):ACalls P f args H n K:=by
  refine⟨hj,fun m w hH hargs=>?_⟩
  rw[run_callFunc hf hname (by rw[hb]; rfl)]
  refine calls_of_wp hf hb ?_
  have hE:ERel m fn.ntmps n (envFrom 0 args) { tmps:=(args.map (AV.toV m)).toArray++Array.replicate (fn.ntmps-(args.map (AV.toV m)).toArray.size) undef,defers:=[]}:=by
    refine⟨by simp; omega,rfl,fun t ht=>?_⟩
    obtain⟨_,hg⟩:=envFrom_get args 0 t ht
    rw[Nat.sub_zero] at hg
    have htl:t<args.length:=by
      rcases Nat.lt_or_ge t args.length with h | h
      · exact h
      · rw[List.getElem?_eq_none h] at hg; simp at hg
    refine⟨?_,hargs _ (List.mem_of_getElem? hg)⟩
    rw[Array.getD_eq_getD_getElem?,Array.getElem?_append_left (by simpa using htl),List.getElem?_toArray,List.getElem?_map,hg]
    rfl
  have hI:Inv m H n w m H n w:=⟨hH,Nat.le_refl _,NM.agree.refl _ _,Fr.refl _ _ _⟩
  refine wp_mono (h hH.wf m H n w m _ w hI hE) fun e a' w' ⟨m',env',H',n',hI',hE',hq⟩=>?_
  have main:(resK P H' env' fn.results.toList fun vs=>Fin n (pack vs) H' n' K)→a'.defers=[]∧∃v,(results fn a'.tmps).run P w'=.ok v w'∧∃x,Ending.returned v=.returned x∧
      ∃(m'':NM) (v:AV) (H'':Heap) (n'':Nat),(v≠ .junk→x=AV.toV m'' v∧v.ok n''=true)∧HRel m'' H'' n'' w'∧n≤n''∧NM.agree n m m''∧Fr m H w m'' H'' w'∧K v H'' n'':=by
    intro hr
    obtain⟨vs,hfin,hvok,hrun⟩:=resK_sound hI'.rel hE' _ _ hr
    have hpack:(results fn a'.tmps).run P w'=.ok (AV.toV m' (pack vs)) w':=by
      rw[results_eq]
      have h1:(fn.results.mapM (resG a'.tmps)).run P w'=.ok (vs.map (AV.toV m')).toArray w':=by
        rw[← Array.toArray_toList (xs:=fn.results),List.mapM_toArray,map_eq_pure_bind,run_ok_bind hrun]; rfl
      rw[run_ok_bind h1,run_pure]
      congr 1
      cases vs with
      | nil=>rfl
      | cons v r=>cases r with
        | nil=>rfl
        | cons v2 r2=>simp[pack,AV.toV,AV.toVs_eq]
    have hpok:(pack vs).ok n'=true:=by
      cases vs with
      | nil=>rfl
      | cons v r=>cases r with
        | nil=>exact hvok v (by simp)
        | cons v2 r2=>simp only[pack,AV.ok,AV.oks_eq,List.all_eq_true]; exact hvok
    rcases hfin with ⟨H2,n2,hle,hn2,hK⟩ | ⟨σ,v',H2,n2,hren,hv',he,hK⟩
    rotate_left
    · refine⟨hE'.defers,_,hpack,_,rfl,m'.comp σ,v',H2,n2,fun _=>⟨by rw[he,AV.toV_ren],hv'⟩,hren.rel hI'.rel,hren.le,Ren.ag hren.low hI'.ag,hren.fr hI'.fr,hK⟩
    refine⟨hE'.defers,_,hpack,_,rfl,m',pack vs,H2,n2,fun _=>⟨rfl,?_⟩,?_,?_,hI'.ag,hI'.fr.weaken hle,hK⟩
    · rcases hn2 with rfl | ⟨rfl,_,hv⟩
      · exact hpok
      · exact hv
    · rcases hn2 with rfl | ⟨rfl,hw,_⟩
      · exact hI'.rel.weaken hle
      · exact(hI'.rel.weaken hle).cut hw
    · rcases hn2 with rfl | ⟨rfl,_,_⟩
      · exact hI'.le
      · exact Nat.le_refl _
  cases e <;> first | exact main hq | exact hq.elim
theorem ACalls.of_ev {P:Program} (T:Nat→Draw) {f:FuncId} {fn:Func} {body:Code} {args:List AV} {H:Heap} {n:Nat} {K:AV→Heap→Nat→Prop} (hf:P.funcs[f]?=some fn) (hb:fn.body=some body)
    (hname:(fn.name== "runtime.NumGoroutine")=false) (hok:codeOk P fn.ntmps T body=true) (hlen:args.length≤fn.ntmps) (hj:∀v∈args,v≠ .junk)
    (h:H.wf n→ev P fn.ntmps T body (finK P fn.results.toList n K) (envFrom 0 args) H n):ACalls P f args H n K:=
  .of_awp hf hb hname hlen hj fun hw=>ev_sound body _ _ H n hok (h hw)
theorem awp_step {P:Program} {N:Nat} (T:Nat→Draw) {a b:Code} {K:Exit→Env→Heap→Nat→Prop} {env:Env} {H:Heap} {n:Nat} (hok:codeOk P N T a=true)
    (h1:ev P N T a (seqK (awp P N b K) K) env H n):awp P N (.seq a b) K env H n:=
  awp_seq (ev_sound a _ _ _ _ hok h1)
theorem Env.le_nil (e:Env):Env.le [] e:=fun _ h=>absurd rfl h
theorem Env.le_cons {t:Nat} {v:AV} {e e':Env} (h:e'.get t=v) (h':e.le e'):Env.le ((t,v) :: e) e':=fun u hu=>by
  simp only[Env.get] at hu ⊢
  split
  · rename_i c; rw[← c,h]
  · rename_i c; rw[if_neg c] at hu; exact h' u hu
end Go.Ab
namespace Go.Ab
@[go_sem] theorem get_same (t:Nat) (v:AV) (e:Env):Env.get ((t,v) :: e) t=v:=by simp[Env.get]
@[go_sem] theorem get_ne {t u:Nat} (h:(t==u)=false) (v:AV) (e:Env):Env.get ((t,v) :: e) u=Env.get e u:=by
  have:t≠u:=by simpa using h
  simp[Env.get,this]
@[go_sem] theorem get_nil (u:Nat):Env.get [] u=.junk:=rfl
@[go_sem] theorem opv_tmp (env:Env) (t:Tmp):opv env (.tmp t)=env.get t:=rfl
@[go_sem] theorem opv_func (env:Env) (f:FuncId):opv env (.func f)=.fn f []:=rfl
@[go_sem] theorem opv_const (env:Env) (v:Value):opv env (.const v)=ofV v:=rfl
@[go_sem] theorem ofV_bool (b:Bool):ofV (.bool b)=.bo b:=rfl
@[go_sem] theorem ofV_i64 (n:Int):ofV (.int .i64 n)=.i64 n:=rfl
@[go_sem] theorem ofV_nilp:ofV (.pointer none)=.pn:=rfl
@[go_sem] theorem ofV_nils:ofV (.slice none 0 0)=.sn:=rfl
@[go_sem] theorem ofV_nili:ofV .nilIface=.ifn:=rfl
@[go_sem] theorem ofV_nilf:ofV .nilFunc=.fnn:=rfl
@[go_sem] theorem ofV_str (l:List UInt8):ofV (.string ⟨l.toArray⟩)=.st (l.map UInt8.toBitVec):=rfl
@[go_sem] theorem ofV_u8 (n:Int) (h0:0≤n) (h1:n<256):ofV (.int .u8 n)=.u8 (BitVec.ofInt 8 n):=by simp[ofV,h0,h1]
@[go_sem] theorem ofV_u16 (n:Int) (h0:0≤n) (h1:n<65536):ofV (.int .u16 n)=.u16 (BitVec.ofInt 16 n):=by simp[ofV,h0,h1]
@[go_sem] theorem ofV_u64 (n:Int) (h0:0≤n) (h1:n<18446744073709551616):ofV (.int .u64 n)=.u64 (BitVec.ofInt 64 n):=by simp[ofV,h0,h1]
@[go_sem] theorem upd_aa {H:Heap} {n a b:Nat} {x:Option Blk} (h:(b==a)=false):(H.upd (n+a) x) (n+b)=H (n+b):=
  Heap.upd_ne _ _ (by have:b≠a:=by simpa using h
                      omega)
@[go_sem] theorem upd_na {H:Heap} {n b:Nat} {x:Option Blk} (h:(b==0)=false):(H.upd n x) (n+b)=H (n+b):=
  Heap.upd_ne _ _ (by have:b≠0:=by simpa using h
                      omega)
@[go_sem] theorem upd_an {H:Heap} {n a:Nat} {x:Option Blk} (h:(a==0)=false):(H.upd (n+a) x) n=H n:=
  Heap.upd_ne _ _ (by have:a≠0:=by simpa using h
                      omega)
attribute [go_sem] Heap.upd_same Heap.upd_upd
@[congr] theorem evOps_congr {P:Program} {all:List Oper} {l:List Oper} {k:Env→Heap→Nat→Prop} {env env':Env} {H H':Heap} {n n':Nat} (h_env:env=env') (h_H:H=H') (h_n:n=n'):evOps P all l k env H n=evOps P all l k env' H' n':=by subst h_env h_H h_n; rfl
@[congr] theorem ev_congr {P:Program} {N:Nat} {T:Nat→Draw} {c:Code} {k:Exit→Env→Heap→Nat→Prop} {env env':Env} {H H':Heap} {n n':Nat} (h_env:env=env') (h_H:H=H') (h_n:n=n'):ev P N T c k env H n=ev P N T c k env' H' n':=by subst h_env h_H h_n; rfl
@[congr] theorem awp_congr {P:Program} {N:Nat} {c:Code} {k:Exit→Env→Heap→Nat→Prop} {env env':Env} {H H':Heap} {n n':Nat} (h_env:env=env') (h_H:H=H') (h_n:n=n'):awp P N c k env H n=awp P N c k env' H' n':=by subst h_env h_H h_n; rfl
@[congr] theorem evOp_congr {P:Program} {o:Op} {k:AV→Heap→Nat→Prop} {env env':Env} {H H':Heap} {n n':Nat} (h_env:env=env') (h_H:H=H') (h_n:n=n'):evOp P env H n o k=evOp P env' H' n' o k:=by subst h_env h_H h_n; rfl
@[congr] theorem pureK_congr {P:Program} {o:Op} {k:AV→Prop} {env env':Env} (h_env:env=env'):pureK P env o k=pureK P env' o k:=by subst h_env; rfl
@[congr] theorem ACalls_congr {P:Program} {f:FuncId} {k:AV→Heap→Nat→Prop} {a a':List AV} {H H':Heap} {n n':Nat} (h_a:a=a') (h_H:H=H') (h_n:n=n'):ACalls P f a H n k=ACalls P f a' H' n' k:=by subst h_a h_H h_n; rfl
@[congr] theorem evOpsK_congr {P:Program} {all:List Oper} {dst:Option Tmp} {evR:Env→Heap→Nat→Prop} {env env':Env} {v v':AV} {H H':Heap} {n n':Nat} (h_env:env=env') (h_v:v=v') (h_H:H=H') (h_n:n=n'):evOpsK P all dst evR env v H n=evOpsK P all dst evR env' v' H' n':=by subst h_env h_v h_H h_n; rfl
@[congr] theorem seqK_congr {k:Env→Heap→Nat→Prop} {K:Exit→Env→Heap→Nat→Prop} {e e':Exit} {env env':Env} {H H':Heap} {n n':Nat} (h_e:e=e') (h_env:env=env') (h_H:H=H') (h_n:n=n'):seqK k K e env H n=seqK k K e' env' H' n':=by subst h_e h_env h_H h_n; rfl
@[congr] theorem blkK_congr {id:Nat} {K:Exit→Env→Heap→Nat→Prop} {e e':Exit} {env env':Env} {H H':Heap} {n n':Nat} (h_e:e=e') (h_env:env=env') (h_H:H=H') (h_n:n=n'):blkK id K e env H n=blkK id K e' env' H' n':=by subst h_e h_env h_H h_n; rfl
@[congr] theorem finK_congr {P:Program} {rs:List ResultVar} {n0:Nat} {K:AV→Heap→Nat→Prop} {e e':Exit} {env env':Env} {H H':Heap} {n n':Nat} (h_e:e=e') (h_env:env=env') (h_H:H=H') (h_n:n=n'):finK P rs n0 K e env H n=finK P rs n0 K e' env' H' n':=by subst h_e h_env h_H h_n; rfl
@[congr] theorem atK_congr {K:AV→Heap→Nat→Prop} {H H':Heap} {n n':Nat} {v v':AV} (h_H:H=H') (h_n:n=n') (h_v:v=v'):atK K H n v=atK K H' n' v':=by subst h_H h_n h_v; rfl
@[congr] theorem atHK_congr {K:AV→Heap→Nat→Prop} {n n':Nat} {H H':Heap} (h_n:n=n') (h_H:H=H'):atHK K n H=atHK K n' H':=by subst h_n h_H; rfl
@[congr] theorem atVHK_congr {K:AV→Heap→Nat→Prop} {n n':Nat} {v v':AV} {H H':Heap} (h_n:n=n') (h_v:v=v') (h_H:H=H'):atVHK K n v H=atVHK K n' v' H':=by subst h_n h_v h_H; rfl
@[congr] theorem atStK_congr {K:AV→Heap→Nat→Prop} {H H':Heap} {n n':Nat} {l l':Nat} {c c':List AV} (h_H:H=H') (h_n:n=n') (h_l:l=l') (h_c:c=c'):atStK K H n l c=atStK K H' n' l' c':=by subst h_H h_n h_l h_c; rfl
@[congr] theorem atRowK_congr {K:AV→Heap→Nat→Prop} {H H':Heap} {n n':Nat} {l l':Nat} {t t':TypeId} {c c':List AV} (h_H:H=H') (h_n:n=n') (h_l:l=l') (h_t:t=t') (h_c:c=c'):atRowK K H n l t c=atRowK K H' n' l' t' c':=by subst h_H h_n h_l h_t h_c; rfl
@[congr] theorem loadK_congr {P:Program} {K:AV→Prop} {H:Heap} {t:TypeId} {a a':AV} (h_a:a=a'):loadK P H t a K=loadK P H t a' K:=by subst h_a; rfl
@[congr] theorem storeK_congr {P:Program} {K:Heap→Prop} {H:Heap} {t:TypeId} {a a':AV} {v v':AV} (h_a:a=a') (h_v:v=v'):storeK P H t a v K=storeK P H t a' v' K:=by subst h_a h_v; rfl
@[congr] theorem fillK_congr {pl:Nat→Option (Nat×Nat)} {K:List AV→Prop} {ps ps':List (Nat×AV)} {l l':List AV} (h_ps:ps=ps') (h_l:l=l'):fillK pl K ps l=fillK pl K ps' l':=by subst h_ps h_l; rfl
@[congr] theorem convI_congr {k:IntKind} {K:AV→Prop} {v v':AV} (h_v:v=v'):convI k v K=convI k v' K:=by subst h_v; rfl
@[congr] theorem unK_congr {op:UnOp} {K:AV→Prop} {v v':AV} (h_v:v=v'):unK op v K=unK op v' K:=by subst h_v; rfl
@[congr] theorem lenK_congr {P:Program} {t:TypeId} {K:AV→Prop} {v v':AV} (h_v:v=v'):lenK P t v K=lenK P t v' K:=by subst h_v; rfl
@[congr] theorem capK_congr {P:Program} {t:TypeId} {K:AV→Prop} {v v':AV} (h_v:v=v'):capK P t v K=capK P t v' K:=by subst h_v; rfl
@[congr] theorem mmK_congr {f:Int→Int→Int} {K:AV→Prop} {x x':AV} {y y':AV} (h_x:x=x') (h_y:y=y'):mmK f x y K=mmK f x' y' K:=by subst h_x h_y; rfl
@[congr] theorem srcK_congr {H:Heap} {e:Nat} {K:Nat→List AV→Prop} {x x':AV} (h_x:x=x'):srcK H e x K=srcK H e x' K:=by subst h_x; rfl
@[congr] theorem readK_congr {H:Heap} {e:Nat} {K:Nat→List AV→Prop} {x x':AV} (h_x:x=x'):readK H e x K=readK H e x' K:=by subst h_x; rfl
@[congr] theorem Fin_congr {K:AV→Heap→Nat→Prop} {n0 n0':Nat} {v v':AV} {H H':Heap} {n n':Nat} (h_n0:n0=n0') (h_v:v=v') (h_H:H=H') (h_n:n=n'):Fin n0 v H n K=Fin n0' v' H' n' K:=by subst h_n0 h_v h_H h_n; rfl
@[congr] theorem resK_congr {P:Program} {H:Heap} {rs:List ResultVar} {K:List AV→Prop} {env env':Env} (h_env:env=env'):resK P H env rs K=resK P H env' rs K:=by subst h_env; rfl
@[go_sem] theorem evOps_nil {P:Program} {all:List Oper} {k:Env→Heap→Nat→Prop} {env:Env} {H:Heap} {n:Nat}:evOps P all [] k env H n=k env H n:=Eq.trans rfl rfl
@[go_sem] theorem evOps_none {P:Program} {all r:List Oper} {k:Env→Heap→Nat→Prop} {env:Env} {H:Heap} {n:Nat} {d:Option Tmp} {op:Op} {t:TypeId} {p:String} {af:Array Edge}:
    evOps P all (⟨d,op,t,p,af,none⟩ :: r) k env H n=evOp P env H n op (evOpsK P all d (evOps P all r k) env):=Eq.trans rfl rfl
def guard2 (P:Program) (all r:List Oper) (k:Env→Heap→Nat→Prop) (d:Option Tmp) (op:Op) (want:Bool) (t:Tmp) (c:AV) (env:Env) (H:Heap) (n:Nat):Prop:=
  match c with
  | .bo c=>(c=want→evOp P ((t,.bo want) :: env) H n op (evOpsK P all d (evOps P all r k) ((t,.bo want) :: env)))∧
      (c=(!want)→evOps P all r k (putE d (.tu []) ((t,.bo (!want)) :: env)) H n)
  | .tu []=>evOps P all r k (putE d (.tu []) env) H n
  | _=>False
def guard1 (P:Program) (all r:List Oper) (k:Env→Heap→Nat→Prop) (d:Option Tmp) (op:Op) (want:Bool) (t:Option Tmp) (env:Env) (H:Heap) (n:Nat):Prop:=
  match t with
  | none=>False
  | some t=>guard2 P all r k d op want t (env.get t) env H n
@[go_sem] theorem evOps_guard {P:Program} {all r:List Oper} {k:Env→Heap→Nat→Prop} {env:Env} {H:Heap} {n:Nat} {d:Option Tmp} {op:Op} {t:TypeId} {p:String} {af:Array Edge} {j:Nat} {want:Bool}:
    evOps P all (⟨d,op,t,p,af,some (j,want)⟩ :: r) k env H n=guard1 P all r k d op want ((all[j]?).bind (·.dst)) env H n:=Eq.trans rfl rfl
@[go_sem] theorem guard1_some {P:Program} {all r:List Oper} {k:Env→Heap→Nat→Prop} {d:Option Tmp} {op:Op} {want:Bool} {t:Tmp} {env:Env} {H:Heap} {n:Nat}:
    guard1 P all r k d op want (some t) env H n=guard2 P all r k d op want t (env.get t) env H n:=Eq.trans rfl rfl
@[go_sem] theorem guard2_bo {P:Program} {all r:List Oper} {k:Env→Heap→Nat→Prop} {d:Option Tmp} {op:Op} {want:Bool} {t:Tmp} {c:Bool} {env:Env} {H:Heap} {n:Nat}:
    guard2 P all r k d op want t (.bo c) env H n=((c=want→evOp P ((t,.bo want) :: env) H n op (evOpsK P all d (evOps P all r k) ((t,.bo want) :: env)))∧
      (c=(!want)→evOps P all r k (putE d (.tu []) ((t,.bo (!want)) :: env)) H n)):=Eq.trans rfl rfl
@[go_sem high] theorem guard2_true_true {P:Program} {all r:List Oper} {k:Env→Heap→Nat→Prop} {d:Option Tmp} {op:Op} {t:Tmp} {env:Env} {H:Heap} {n:Nat}:
    guard2 P all r k d op true t (.bo true) env H n=(evOp P ((t,.bo true) :: env) H n op (evOpsK P all d (evOps P all r k) ((t,.bo true) :: env))):=by simp[guard2]
@[go_sem high] theorem guard2_true_false {P:Program} {all r:List Oper} {k:Env→Heap→Nat→Prop} {d:Option Tmp} {op:Op} {t:Tmp} {env:Env} {H:Heap} {n:Nat}:
    guard2 P all r k d op true t (.bo false) env H n=(evOps P all r k (putE d (.tu []) ((t,.bo false) :: env)) H n):=by simp[guard2]
@[go_sem high] theorem guard2_false_true {P:Program} {all r:List Oper} {k:Env→Heap→Nat→Prop} {d:Option Tmp} {op:Op} {t:Tmp} {env:Env} {H:Heap} {n:Nat}:
    guard2 P all r k d op false t (.bo true) env H n=(evOps P all r k (putE d (.tu []) ((t,.bo true) :: env)) H n):=by simp[guard2]
@[go_sem high] theorem guard2_false_false {P:Program} {all r:List Oper} {k:Env→Heap→Nat→Prop} {d:Option Tmp} {op:Op} {t:Tmp} {env:Env} {H:Heap} {n:Nat}:
    guard2 P all r k d op false t (.bo false) env H n=(evOp P ((t,.bo false) :: env) H n op (evOpsK P all d (evOps P all r k) ((t,.bo false) :: env))):=by simp[guard2]
@[go_sem] theorem guard2_tu {P:Program} {all r:List Oper} {k:Env→Heap→Nat→Prop} {d:Option Tmp} {op:Op} {want:Bool} {t:Tmp} {env:Env} {H:Heap} {n:Nat}:
    guard2 P all r k d op want t (.tu []) env H n=evOps P all r k (putE d (.tu []) env) H n:=Eq.trans rfl rfl
@[congr] theorem guard1_congr {P:Program} {all:List Oper} {r:List Oper} {k:Env→Heap→Nat→Prop} {d:Option Tmp} {op:Op} {want:Bool} {env:Env} {H:Heap} {n:Nat} {t t':Option Tmp} (h_t:t=t'):guard1 P all r k d op want t env H n=guard1 P all r k d op want t' env H n:=by subst h_t; rfl
@[congr] theorem guard2_congr {P:Program} {all:List Oper} {r:List Oper} {k:Env→Heap→Nat→Prop} {d:Option Tmp} {op:Op} {want:Bool} {t:Tmp} {env:Env} {H:Heap} {n:Nat} {c c':AV} (h_c:c=c'):guard2 P all r k d op want t c env H n=guard2 P all r k d op want t c' env H n:=by subst h_c; rfl
@[go_sem] theorem evOpsK_eq {P:Program} {all:List Oper} {dst:Option Tmp} {evR:Env→Heap→Nat→Prop} {env:Env} {v:AV} {H:Heap} {n:Nat}:(evOpsK P all dst evR env v H n)=(evR (putE dst v env) H n):=Eq.trans rfl rfl
@[go_sem] theorem putE_some {d:Tmp} {v:AV} {env:Env}:(putE (some d) v env)=((d,v) :: env):=Eq.trans rfl rfl
@[go_sem] theorem putE_none {v:AV} {env:Env}:(putE none v env)=(env):=Eq.trans rfl rfl
@[go_sem] theorem atK_eq {K:AV→Heap→Nat→Prop} {H:Heap} {n:Nat} {v:AV}:(atK K H n v)=(K v H n):=Eq.trans rfl rfl
@[go_sem] theorem atHK_eq {K:AV→Heap→Nat→Prop} {H:Heap} {n:Nat}:(atHK K n H)=(K .junk H n):=Eq.trans rfl rfl
@[go_sem] theorem atRowK_eq {K:AV→Heap→Nat→Prop} {H:Heap} {n l:Nat} {e:TypeId} {c:List AV}:(atRowK K H n l e c)=(K (.sl n 0 l l) (H.upd n (some ⟨c,e,false⟩)) (n+1)):=Eq.trans rfl rfl
def loadB (o:Option Blk) (ty:Option (Bool×Nat)) (off:Nat) (K:AV→Prop):Prop:=
  match o with
  | some blk=>match ty with
    | some (false,_)=>off<blk.cells.length∧K (blk.cells.getD off .junk)
    | some (true,sz)=>off+sz≤blk.cells.length∧K (.ag ((blk.cells.drop off).take sz))
    | none=>False
  | none=>False
def storeB (o:Option Blk) (ty:Option (Bool×Nat)) (b off:Nat) (v:AV) (H:Heap) (K:Heap→Prop):Prop:=
  match o with
  | some blk=>match ty with
    | some (_,sz)=>blk.ro=false∧(match v with | .junk=>False | .tu _=>False | _=>True)∧(cellsOf v).length=sz∧off+sz≤blk.cells.length∧
        K (H.upd b (some { blk with cells:=putCells blk.cells off v}))
    | none=>False
  | none=>False
@[congr] theorem loadB_congr {K:AV→Prop} {o o':Option Blk} {ty ty':Option (Bool×Nat)} {off off':Nat} (h_o:o=o') (h_ty:ty=ty') (h_off:off=off'):loadB o ty off K=loadB o' ty' off' K:=by subst h_o h_ty h_off; rfl
@[congr] theorem storeB_congr {K:Heap→Prop} {H:Heap} {o o':Option Blk} {ty ty':Option (Bool×Nat)} {b b':Nat} {off off':Nat} {v v':AV} (h_o:o=o') (h_ty:ty=ty') (h_b:b=b') (h_off:off=off') (h_v:v=v'):storeB o ty b off v H K=storeB o' ty' b' off' v' H K:=by subst h_o h_ty h_b h_off h_v; rfl
@[go_sem] theorem evOp_load {P:Program} {env:Env} {H:Heap} {n:Nat}{K:AV→Heap→Nat→Prop} {t:TypeId} {a:Operand}:(evOp P env H n (.load t a) K)=(loadK P H t (opv env a) (atK K H n)):=Eq.trans rfl rfl
@[go_sem] theorem loadK_pt {P:Program} {H:Heap} {t:TypeId} {b off:Nat} {K:AV→Prop}:(loadK P H t (.pt b off) K)=(loadB (H b) (tyA P t) off K):=Eq.trans rfl rfl
@[go_sem] theorem loadB_one {blk:Blk} {sz off:Nat} {K:AV→Prop}:(loadB (some blk) (some (false,sz)) off K)=(off<blk.cells.length∧K (blk.cells.getD off .junk)):=Eq.trans rfl rfl
@[go_sem] theorem loadB_many {blk:Blk} {sz off:Nat} {K:AV→Prop}:(loadB (some blk) (some (true,sz)) off K)=(off+sz≤blk.cells.length∧K (.ag ((blk.cells.drop off).take sz))):=Eq.trans rfl rfl
@[go_sem] theorem evOp_store {P:Program} {env:Env} {H:Heap} {n:Nat}{K:AV→Heap→Nat→Prop} {t:TypeId} {a x:Operand}:(evOp P env H n (.store t a x) K)=(storeK P H t (opv env a) (opv env x) (atHK K n)):=Eq.trans rfl rfl
@[go_sem] theorem storeK_pt {P:Program} {H:Heap} {t:TypeId} {b off:Nat} {v:AV} {K:Heap→Prop}:(storeK P H t (.pt b off) v K)=(storeB (H b) (tyA P t) b off v H K):=Eq.trans rfl rfl
@[go_sem] theorem storeB_bo {blk:Blk} {sz b off:Nat} {ag:Bool} {H:Heap} {K:Heap→Prop} (x:Bool):(storeB (some blk) (some (ag,sz)) b off (.bo x) H K)=(blk.ro=false∧True∧1=sz∧off+sz≤blk.cells.length∧K (H.upd b (some ⟨blk.cells.set off (.bo x),blk.elem,blk.ro⟩))):=Eq.trans rfl rfl
@[go_sem] theorem storeB_u8 {blk:Blk} {sz b off:Nat} {ag:Bool} {H:Heap} {K:Heap→Prop} (x:BitVec 8):(storeB (some blk) (some (ag,sz)) b off (.u8 x) H K)=(blk.ro=false∧True∧1=sz∧off+sz≤blk.cells.length∧K (H.upd b (some ⟨blk.cells.set off (.u8 x),blk.elem,blk.ro⟩))):=Eq.trans rfl rfl
@[go_sem] theorem storeB_u16 {blk:Blk} {sz b off:Nat} {ag:Bool} {H:Heap} {K:Heap→Prop} (x:BitVec 16):(storeB (some blk) (some (ag,sz)) b off (.u16 x) H K)=(blk.ro=false∧True∧1=sz∧off+sz≤blk.cells.length∧K (H.upd b (some ⟨blk.cells.set off (.u16 x),blk.elem,blk.ro⟩))):=Eq.trans rfl rfl
@[go_sem] theorem storeB_su {blk:Blk} {sz b off:Nat} {ag:Bool} {H:Heap} {K:Heap→Prop} (x y z u:Nat):(storeB (some blk) (some (ag,sz)) b off (.su x y z u) H K)=(blk.ro=false∧True∧1=sz∧off+sz≤blk.cells.length∧K (H.upd b (some ⟨blk.cells.set off (.su x y z u),blk.elem,blk.ro⟩))):=Eq.trans rfl rfl
@[go_sem] theorem storeB_sn {blk:Blk} {sz b off:Nat} {ag:Bool} {H:Heap} {K:Heap→Prop}:(storeB (some blk) (some (ag,sz)) b off (.sn) H K)=(blk.ro=false∧True∧1=sz∧off+sz≤blk.cells.length∧K (H.upd b (some ⟨blk.cells.set off (.sn),blk.elem,blk.ro⟩))):=Eq.trans rfl rfl
@[go_sem] theorem storeB_ag {blk:Blk} {sz b off:Nat} {ag:Bool} {H:Heap} {K:Heap→Prop} {l:List AV}:(storeB (some blk) (some (ag,sz)) b off (.ag l) H K)=(blk.ro=false∧True∧l.length=sz∧off+sz≤blk.cells.length∧K (H.upd b (some ⟨splice blk.cells off l,blk.elem,blk.ro⟩))):=Eq.trans rfl rfl
def allocB (z:Option (List AV)) (t:TypeId) (H:Heap) (n:Nat) (K:AV→Heap→Nat→Prop):Prop:=
  match z with
  | some z=>K (.pt n 0) (H.upd n (some ⟨z,t,false⟩)) (n+1)
  | none=>False
def rowB (el:Option (TypeId×Nat×Nat)) (P:Program) (len:Nat) (ps:List (Nat×AV)) (H:Heap) (n:Nat) (K:AV→Heap→Nat→Prop):Prop:=
  match el with
  | some (e,sz,_)=>match zeroT P e with
    | some z=>z.length=sz∧len*sz≤16777216∧fillK (elPl sz) (atRowK K H n len e) ps (repCells len z)
    | none=>False
  | none=>False
def rowB2 (z:Option (List AV)) (e:TypeId) (sz len:Nat) (ps:List (Nat×AV)) (H:Heap) (n:Nat) (K:AV→Heap→Nat→Prop):Prop:=
  match z with
  | some z=>z.length=sz∧len*sz≤16777216∧fillK (elPl sz) (atRowK K H n len e) ps (repCells len z)
  | none=>False
def makeB (el:Option (TypeId×Nat×Nat)) (P:Program) (l c:AV) (H:Heap) (n:Nat) (K:AV→Heap→Nat→Prop):Prop:=
  match el,l,c with
  | some (e,sz,by_),.i64 ln,.i64 cp=>match zeroT P e with
    | some z=>z.length=sz∧0≤ln∧ln≤cp∧by_*cp≤281474976710656∧cp≤9223372036854775807∧K (.sl n 0 ln.toNat cp.toNat) (H.upd n (some ⟨repCells cp.toNat z,e,false⟩)) (n+1)
    | none=>False
  | _,_,_=>False
def makeB2 (z:Option (List AV)) (e:TypeId) (sz by_:Nat) (ln cp:Int) (H:Heap) (n:Nat) (K:AV→Heap→Nat→Prop):Prop:=
  match z with
    | some z=>z.length=sz∧0≤ln∧ln≤cp∧by_*cp≤281474976710656∧cp≤9223372036854775807∧K (.sl n 0 ln.toNat cp.toNat) (H.upd n (some ⟨repCells cp.toNat z,e,false⟩)) (n+1)
    | none=>False
def bldB (z:Option (List AV)) (pl:Nat→Option (Nat×Nat)) (ps:List (Nat×AV)) (K:AV→Prop):Prop:=
  match z with
  | some z=>fillK pl (fun l=>K (.ag l)) ps z
  | none=>False
def agK (K:AV→Prop) (l:List AV):Prop:=K (.ag l)
def fillB (p:Option (Nat×Nat)) (pl:Nat→Option (Nat×Nat)) (K:List AV→Prop) (v:AV) (r:List (Nat×AV)) (l:List AV):Prop:=
  match p with
  | some (off,sz)=>partOk v=true∧(cellsOf v).length=sz∧off+sz≤l.length∧fillK pl K r (putCells l off v)
  | none=>False
@[congr] theorem agK_congr {K:AV→Prop} {l l':List AV} (h_l:l=l'):agK K l=agK K l':=by subst h_l; rfl
@[congr] theorem allocB_congr {t:TypeId} {H:Heap} {n:Nat} {K:AV→Heap→Nat→Prop} {z z':Option (List AV)} (h_z:z=z'):allocB z t H n K=allocB z' t H n K:=by subst h_z; rfl
@[congr] theorem rowB_congr {P:Program} {len:Nat} {H:Heap} {n:Nat} {K:AV→Heap→Nat→Prop} {el el':Option (TypeId×Nat×Nat)} {ps ps':List (Nat×AV)} (h_el:el=el') (h_ps:ps=ps'):rowB el P len ps H n K=rowB el' P len ps' H n K:=by subst h_el h_ps; rfl
@[congr] theorem rowB2_congr {e:TypeId} {sz:Nat} {len:Nat} {ps:List (Nat×AV)} {H:Heap} {n:Nat} {K:AV→Heap→Nat→Prop} {z z':Option (List AV)} (h_z:z=z'):rowB2 z e sz len ps H n K=rowB2 z' e sz len ps H n K:=by subst h_z; rfl
@[congr] theorem makeB_congr {P:Program} {H:Heap} {n:Nat} {K:AV→Heap→Nat→Prop} {el el':Option (TypeId×Nat×Nat)} {l l':AV} {c c':AV} (h_el:el=el') (h_l:l=l') (h_c:c=c'):makeB el P l c H n K=makeB el' P l' c' H n K:=by subst h_el h_l h_c; rfl
@[congr] theorem makeB2_congr {e:TypeId} {sz:Nat} {by_:Nat} {ln:Int} {cp:Int} {H:Heap} {n:Nat} {K:AV→Heap→Nat→Prop} {z z':Option (List AV)} (h_z:z=z'):makeB2 z e sz by_ ln cp H n K=makeB2 z' e sz by_ ln cp H n K:=by subst h_z; rfl
@[congr] theorem bldB_congr {pl:Nat→Option (Nat×Nat)} {ps:List (Nat×AV)} {K:AV→Prop} {z z':Option (List AV)} (h_z:z=z'):bldB z pl ps K=bldB z' pl ps K:=by subst h_z; rfl
@[congr] theorem fillB_congr {pl:Nat→Option (Nat×Nat)} {K:List AV→Prop} {v:AV} {r:List (Nat×AV)} {l:List AV} {p p':Option (Nat×Nat)} (h_p:p=p'):fillB p pl K v r l=fillB p' pl K v r l:=by subst h_p; rfl
@[go_sem] theorem evOp_alloc {P:Program} {env:Env} {H:Heap} {n:Nat}{K:AV→Heap→Nat→Prop} {t:TypeId}:(evOp P env H n (.alloc t) K)=(allocB (zeroT P t) t H n K):=Eq.trans rfl rfl
@[go_sem] theorem allocB_some {z:List AV} {t:TypeId} {H:Heap} {n:Nat} {K:AV→Heap→Nat→Prop}:(allocB (some z) t H n K)=(K (.pt n 0) (H.upd n (some ⟨z,t,false⟩)) (n+1)):=Eq.trans rfl rfl
def boxB (v:AV) (t:TypeId) (H:Heap) (n:Nat) (K:AV→Heap→Nat→Prop):Prop:=partOk v=true∧K (.pt n 0) (H.upd n (some ⟨cellsOf v,t,false⟩)) (n+1)
@[congr] theorem boxB_congr {t:TypeId} {H:Heap} {n:Nat} {K:AV→Heap→Nat→Prop} {v v':AV} (h_v:v=v'):boxB v t H n K=boxB v' t H n K:=by subst h_v; rfl
@[go_sem] theorem evOp_box {P:Program} {env:Env} {H:Heap} {n:Nat}{K:AV→Heap→Nat→Prop} {t:TypeId} {x:Operand}:(evOp P env H n (.box t x) K)=(boxB (opv env x) t H n K):=Eq.trans rfl rfl
@[go_sem] theorem boxB_ag {l:List AV} {t:TypeId} {H:Heap} {n:Nat} {K:AV→Heap→Nat→Prop}:(boxB (.ag l) t H n K)=(K (.pt n 0) (H.upd n (some ⟨l,t,false⟩)) (n+1)):=by simp[boxB,partOk,cellsOf]
@[go_sem] theorem cellsOf_bo (x:Bool):(cellsOf (.bo x))=([(.bo x)]):=Eq.trans rfl rfl
@[go_sem] theorem partOk_bo (x:Bool):(partOk (.bo x))=(true):=Eq.trans rfl rfl
@[go_sem] theorem putCells_bo (l:List AV) (off:Nat) (x:Bool):(putCells l off (.bo x))=(l.set off (.bo x)):=Eq.trans rfl rfl
@[go_sem] theorem cellsOf_u8 (x:BitVec 8):(cellsOf (.u8 x))=([(.u8 x)]):=Eq.trans rfl rfl
@[go_sem] theorem partOk_u8 (x:BitVec 8):(partOk (.u8 x))=(true):=Eq.trans rfl rfl
@[go_sem] theorem putCells_u8 (l:List AV) (off:Nat) (x:BitVec 8):(putCells l off (.u8 x))=(l.set off (.u8 x)):=Eq.trans rfl rfl
@[go_sem] theorem cellsOf_u16 (x:BitVec 16):(cellsOf (.u16 x))=([(.u16 x)]):=Eq.trans rfl rfl
@[go_sem] theorem partOk_u16 (x:BitVec 16):(partOk (.u16 x))=(true):=Eq.trans rfl rfl
@[go_sem] theorem putCells_u16 (l:List AV) (off:Nat) (x:BitVec 16):(putCells l off (.u16 x))=(l.set off (.u16 x)):=Eq.trans rfl rfl
@[go_sem] theorem cellsOf_i64 (x:Int):(cellsOf (.i64 x))=([(.i64 x)]):=Eq.trans rfl rfl
@[go_sem] theorem partOk_i64 (x:Int):(partOk (.i64 x))=(true):=Eq.trans rfl rfl
@[go_sem] theorem putCells_i64 (l:List AV) (off:Nat) (x:Int):(putCells l off (.i64 x))=(l.set off (.i64 x)):=Eq.trans rfl rfl
@[go_sem] theorem cellsOf_st (x:List (BitVec 8)):(cellsOf (.st x))=([(.st x)]):=Eq.trans rfl rfl
@[go_sem] theorem partOk_st (x:List (BitVec 8)):(partOk (.st x))=(true):=Eq.trans rfl rfl
@[go_sem] theorem putCells_st (l:List AV) (off:Nat) (x:List (BitVec 8)):(putCells l off (.st x))=(l.set off (.st x)):=Eq.trans rfl rfl
@[go_sem] theorem cellsOf_pt (x y:Nat):(cellsOf (.pt x y))=([(.pt x y)]):=Eq.trans rfl rfl
@[go_sem] theorem partOk_pt (x y:Nat):(partOk (.pt x y))=(true):=Eq.trans rfl rfl
@[go_sem] theorem putCells_pt (l:List AV) (off:Nat) (x y:Nat):(putCells l off (.pt x y))=(l.set off (.pt x y)):=Eq.trans rfl rfl
@[go_sem] theorem cellsOf_sl (x y z u:Nat):(cellsOf (.sl x y z u))=([(.sl x y z u)]):=Eq.trans rfl rfl
@[go_sem] theorem partOk_sl (x y z u:Nat):(partOk (.sl x y z u))=(true):=Eq.trans rfl rfl
@[go_sem] theorem putCells_sl (l:List AV) (off:Nat) (x y z u:Nat):(putCells l off (.sl x y z u))=(l.set off (.sl x y z u)):=Eq.trans rfl rfl
@[go_sem] theorem cellsOf_ifc (t':Nat) (v:AV):(cellsOf (.ifc t' v))=([(.ifc t' v)]):=Eq.trans rfl rfl
@[go_sem] theorem partOk_ifc (t':Nat) (v:AV):(partOk (.ifc t' v))=(true):=Eq.trans rfl rfl
@[go_sem] theorem putCells_ifc (l:List AV) (off:Nat) (t':Nat) (v:AV):(putCells l off (.ifc t' v))=(l.set off (.ifc t' v)):=Eq.trans rfl rfl
@[go_sem] theorem cellsOf_ag (l:List AV):(cellsOf (.ag l))=(l):=Eq.trans rfl rfl
@[go_sem] theorem partOk_ag (l:List AV):(partOk (.ag l))=(true):=Eq.trans rfl rfl
@[go_sem] theorem putCells_ag (l l2:List AV) (off:Nat):(putCells l off (.ag l2))=(splice l off l2):=Eq.trans rfl rfl
@[go_sem] theorem evOp_build {P:Program} {env:Env} {H:Heap} {n:Nat}{K:AV→Heap→Nat→Prop} {t:TypeId} {ps:Array (Nat×Operand)}:(evOp P env H n (.build t ps) K)=(bldT P t=true∧bldB (zeroT P t) (plT P t) (ps.toList.map fun p=>(p.1,opv env p.2)) (atK K H n)):=Eq.trans rfl rfl
@[go_sem] theorem bldB_some {z:List AV} {pl:Nat→Option (Nat×Nat)} {ps:List (Nat×AV)} {K:AV→Prop}:(bldB (some z) pl ps K)=(fillK pl (agK K) ps z):=Eq.trans rfl rfl
@[go_sem] theorem agK_eq {K:AV→Prop} {l:List AV}:(agK K l)=(K (.ag l)):=Eq.trans rfl rfl
@[go_sem] theorem fillK_nil {pl:Nat→Option (Nat×Nat)} {K:List AV→Prop} {l:List AV}:(fillK pl K [] l)=(K l):=Eq.trans rfl rfl
@[go_sem] theorem fillK_cons {pl:Nat→Option (Nat×Nat)} {K:List AV→Prop} {l:List AV} {i:Nat} {v:AV} {r:List (Nat×AV)}:(fillK pl K ((i,v) :: r) l)=(fillB (pl i) pl K v r l):=Eq.trans rfl rfl
@[go_sem] theorem fillB_some {pl:Nat→Option (Nat×Nat)} {K:List AV→Prop} {l:List AV} {off sz:Nat} {v:AV} {r:List (Nat×AV)}:(fillB (some (off,sz)) pl K v r l)=(partOk v=true∧(cellsOf v).length=sz∧off+sz≤l.length∧fillK pl K r (putCells l off v)):=Eq.trans rfl rfl
@[go_sem] theorem elPl_eq {sz i:Nat}:(elPl sz i)=(some (i*sz,sz)):=Eq.trans rfl rfl
@[go_sem] theorem evOp_buildSlice {P:Program} {env:Env} {H:Heap} {n:Nat}{K:AV→Heap→Nat→Prop} {t:TypeId} {len:Nat} {ps:Array (Nat×Operand)}:(evOp P env H n (.buildSlice t len ps) K)=(rowB (elT P t) P len (ps.toList.map fun p=>(p.1,opv env p.2)) H n K):=Eq.trans rfl rfl
@[go_sem] theorem rowB_some {P:Program} {e:TypeId} {sz by_ len:Nat} {ps:List (Nat×AV)} {H:Heap} {n:Nat} {K:AV→Heap→Nat→Prop}:(rowB (some (e,sz,by_)) P len ps H n K)=(rowB2 (zeroT P e) e sz len ps H n K):=Eq.trans rfl rfl
@[go_sem] theorem rowB2_some {z:List AV} {e:TypeId} {sz len:Nat} {ps:List (Nat×AV)} {H:Heap} {n:Nat} {K:AV→Heap→Nat→Prop}:(rowB2 (some z) e sz len ps H n K)=(z.length=sz∧len*sz≤16777216∧fillK (elPl sz) (atRowK K H n len e) ps (repCells len z)):=Eq.trans rfl rfl
@[go_sem] theorem evOp_makeSlice {P:Program} {env:Env} {H:Heap} {n:Nat}{K:AV→Heap→Nat→Prop} {t:TypeId} {l c:Operand}:(evOp P env H n (.makeSlice t l c) K)=(makeB (elT P t) P (opv env l) (opv env c) H n K):=Eq.trans rfl rfl
@[go_sem] theorem makeB_some {P:Program} {e:TypeId} {sz by_:Nat} {ln cp:Int} {H:Heap} {n:Nat} {K:AV→Heap→Nat→Prop}:(makeB (some (e,sz,by_)) P (.i64 ln) (.i64 cp) H n K)=(makeB2 (zeroT P e) e sz by_ ln cp H n K):=Eq.trans rfl rfl
@[go_sem] theorem makeB2_some {z:List AV} {e:TypeId} {sz by_:Nat} {ln cp:Int} {H:Heap} {n:Nat} {K:AV→Heap→Nat→Prop}:(makeB2 (some z) e sz by_ ln cp H n K)=(z.length=sz∧0≤ln∧ln≤cp∧by_*cp≤281474976710656∧cp≤9223372036854775807∧K (.sl n 0 ln.toNat cp.toNat) (H.upd n (some ⟨repCells cp.toNat z,e,false⟩)) (n+1)):=Eq.trans rfl rfl
@[go_sem] theorem evOp_move {P:Program} {env:Env} {H:Heap} {n:Nat}{K:AV→Heap→Nat→Prop} {x:Operand}:(evOp P env H n (.move x) K)=(K (opv env x) H n):=Eq.trans rfl rfl
@[go_sem] theorem evOp_assign {P:Program} {env:Env} {H:Heap} {n:Nat}{K:AV→Heap→Nat→Prop} {x:Operand}:(evOp P env H n (.assign x) K)=(K (opv env x) H n):=Eq.trans rfl rfl
def pickB (c:AV) (a b:AV) (K:AV→Prop):Prop:=match c with
  | .bo t=>(t=true→K a)∧(t=false→K b)
  | _=>False
@[congr] theorem pickB_congr {K:AV→Prop} {c c':AV} {a a':AV} {b b':AV} (h_c:c=c') (h_a:a=a') (h_b:b=b'):pickB c a b K=pickB c' a' b' K:=by subst h_c h_a h_b; rfl
@[go_sem] theorem evOp_pick {P:Program} {env:Env} {H:Heap} {n:Nat}{K:AV→Heap→Nat→Prop} {c a b:Operand}:(evOp P env H n (.pick c a b) K)=(pickB (opv env c) (opv env a) (opv env b) (atK K H n)):=Eq.trans rfl rfl
@[go_sem] theorem pickB_true {a b:AV} {K:AV→Prop}:(pickB (.bo true) a b K)=(K a):=by simp[pickB]
@[go_sem] theorem pickB_false {a b:AV} {K:AV→Prop}:(pickB (.bo false) a b K)=(K b):=by simp[pickB]
def nilB (c:AV) (K:AV→Prop):Prop:=match c with
  | .pt b o=>K (.pt b o)
  | .ifc t v=>K (.ifc t v)
  | _=>False
@[congr] theorem nilB_congr {K:AV→Prop} {c c':AV} (h_c:c=c'):nilB c K=nilB c' K:=by subst h_c; rfl
@[go_sem] theorem evOp_nilCheck {P:Program} {env:Env} {H:Heap} {n:Nat}{K:AV→Heap→Nat→Prop} {x:Operand}:(evOp P env H n (.nilCheck x) K)=(nilB (opv env x) (atK K H n)):=Eq.trans rfl rfl
@[go_sem] theorem nilB_pt {b o:Nat} {K:AV→Prop}:(nilB (.pt b o) K)=(K (.pt b o)):=Eq.trans rfl rfl
@[go_sem] theorem nilB_ifc {t:Nat} {v:AV} {K:AV→Prop}:(nilB (.ifc t v) K)=(K (.ifc t v)):=Eq.trans rfl rfl
def binB (op:BinOp) (P:Program) (t:TypeId) (x y:AV) (K:AV→Prop):Prop:=
  if isShift op then binShift op x y K
    else if isScalar x then binScalar op x y K
    else if isAg x then binAgg P op t x y K
    else binPlain P op t x y K
def aggB (q:Option (List EK)) (op:BinOp) (l l':List AV) (K:AV→Prop):Prop:=
  match q with
  | none=>False
  | some ks=>fits ks l=true∧fits ks l'=true∧match op with
      | .eql=>K (.bo (eqCells l l'))
      | .neq=>K (.bo (!eqCells l l'))
      | _=>False
@[congr] theorem aggB_congr {op:BinOp} {K:AV→Prop} {l:List AV} {l':List AV} {q q':Option (List EK)} (h_q:q=q'):aggB q op l l' K=aggB q' op l l' K:=by subst h_q; rfl
@[congr] theorem binB_congr {op:BinOp} {P:Program} {t:TypeId} {K:AV→Prop} {x x':AV} {y y':AV} (h_x:x=x') (h_y:y=y'):binB op P t x y K=binB op P t x' y' K:=by subst h_x h_y; rfl
@[go_sem] theorem evOp_binOp {P:Program} {env:Env} {H:Heap} {n:Nat}{K:AV→Heap→Nat→Prop} {op:BinOp} {t yt:TypeId} {x y:Operand}:(evOp P env H n (.binOp op t x y yt) K)=(binB op P t (opv env x) (opv env y) (atK K H n)):=Eq.trans rfl rfl
@[go_sem] theorem binB_add_u8 {P:Program} {t:TypeId} {x y:BitVec 8} {K:AV→Prop}:(binB .add P t (.u8 x) (.u8 y) K)=(K (.u8 (x+y))):=Eq.trans rfl rfl
@[go_sem] theorem binB_sub_u8 {P:Program} {t:TypeId} {x y:BitVec 8} {K:AV→Prop}:(binB .sub P t (.u8 x) (.u8 y) K)=(K (.u8 (x-y))):=Eq.trans rfl rfl
@[go_sem] theorem binB_mul_u8 {P:Program} {t:TypeId} {x y:BitVec 8} {K:AV→Prop}:(binB .mul P t (.u8 x) (.u8 y) K)=(K (.u8 (x*y))):=Eq.trans rfl rfl
@[go_sem] theorem binB_and_u8 {P:Program} {t:TypeId} {x y:BitVec 8} {K:AV→Prop}:(binB .and P t (.u8 x) (.u8 y) K)=(K (.u8 (x&&&y))):=Eq.trans rfl rfl
@[go_sem] theorem binB_or_u8 {P:Program} {t:TypeId} {x y:BitVec 8} {K:AV→Prop}:(binB .or P t (.u8 x) (.u8 y) K)=(K (.u8 (x|||y))):=Eq.trans rfl rfl
@[go_sem] theorem binB_xor_u8 {P:Program} {t:TypeId} {x y:BitVec 8} {K:AV→Prop}:(binB .xor P t (.u8 x) (.u8 y) K)=(K (.u8 (x^^^y))):=Eq.trans rfl rfl
@[go_sem] theorem binB_andNot_u8 {P:Program} {t:TypeId} {x y:BitVec 8} {K:AV→Prop}:(binB .andNot P t (.u8 x) (.u8 y) K)=(K (.u8 (x&&& ~~~ y))):=Eq.trans rfl rfl
@[go_sem] theorem binB_quo_u8 {P:Program} {t:TypeId} {x y:BitVec 8} {K:AV→Prop}:(binB .quo P t (.u8 x) (.u8 y) K)=(y≠0∧K (.u8 (x / y))):=Eq.trans rfl rfl
@[go_sem] theorem binB_rem_u8 {P:Program} {t:TypeId} {x y:BitVec 8} {K:AV→Prop}:(binB .rem P t (.u8 x) (.u8 y) K)=(y≠0∧K (.u8 (x%y))):=Eq.trans rfl rfl
@[go_sem] theorem binB_eql_u8 {P:Program} {t:TypeId} {x y:BitVec 8} {K:AV→Prop}:(binB .eql P t (.u8 x) (.u8 y) K)=(K (.bo (x==y))):=Eq.trans rfl rfl
@[go_sem] theorem binB_neq_u8 {P:Program} {t:TypeId} {x y:BitVec 8} {K:AV→Prop}:(binB .neq P t (.u8 x) (.u8 y) K)=(K (.bo (x !=y))):=Eq.trans rfl rfl
@[go_sem] theorem binB_lss_u8 {P:Program} {t:TypeId} {x y:BitVec 8} {K:AV→Prop}:(binB .lss P t (.u8 x) (.u8 y) K)=(K (.bo (decide (x<y)))):=Eq.trans rfl rfl
@[go_sem] theorem binB_gtr_u8 {P:Program} {t:TypeId} {x y:BitVec 8} {K:AV→Prop}:(binB .gtr P t (.u8 x) (.u8 y) K)=(K (.bo (decide (y<x)))):=Eq.trans rfl rfl
@[go_sem] theorem binB_geq_u8 {P:Program} {t:TypeId} {x y:BitVec 8} {K:AV→Prop}:(binB .geq P t (.u8 x) (.u8 y) K)=(K (.bo (decide (y≤x)))):=Eq.trans rfl rfl
@[go_sem] theorem binB_shl_u8_i64 {P:Program} {t:TypeId} {x:BitVec 8} {y:Int} {K:AV→Prop}:(binB .shl P t (.u8 x) (.i64 y) K)=(0≤y∧K (.u8 (x<<<y.toNat))):=Eq.trans rfl rfl
@[go_sem] theorem binB_add_u16 {P:Program} {t:TypeId} {x y:BitVec 16} {K:AV→Prop}:(binB .add P t (.u16 x) (.u16 y) K)=(K (.u16 (x+y))):=Eq.trans rfl rfl
@[go_sem] theorem binB_sub_u16 {P:Program} {t:TypeId} {x y:BitVec 16} {K:AV→Prop}:(binB .sub P t (.u16 x) (.u16 y) K)=(K (.u16 (x-y))):=Eq.trans rfl rfl
@[go_sem] theorem binB_and_u16 {P:Program} {t:TypeId} {x y:BitVec 16} {K:AV→Prop}:(binB .and P t (.u16 x) (.u16 y) K)=(K (.u16 (x&&&y))):=Eq.trans rfl rfl
@[go_sem] theorem binB_or_u16 {P:Program} {t:TypeId} {x y:BitVec 16} {K:AV→Prop}:(binB .or P t (.u16 x) (.u16 y) K)=(K (.u16 (x|||y))):=Eq.trans rfl rfl
@[go_sem] theorem binB_xor_u16 {P:Program} {t:TypeId} {x y:BitVec 16} {K:AV→Prop}:(binB .xor P t (.u16 x) (.u16 y) K)=(K (.u16 (x^^^y))):=Eq.trans rfl rfl
@[go_sem] theorem binB_eql_u16 {P:Program} {t:TypeId} {x y:BitVec 16} {K:AV→Prop}:(binB .eql P t (.u16 x) (.u16 y) K)=(K (.bo (x==y))):=Eq.trans rfl rfl
@[go_sem] theorem binB_neq_u16 {P:Program} {t:TypeId} {x y:BitVec 16} {K:AV→Prop}:(binB .neq P t (.u16 x) (.u16 y) K)=(K (.bo (x !=y))):=Eq.trans rfl rfl
@[go_sem] theorem binB_gtr_u16 {P:Program} {t:TypeId} {x y:BitVec 16} {K:AV→Prop}:(binB .gtr P t (.u16 x) (.u16 y) K)=(K (.bo (decide (y<x)))):=Eq.trans rfl rfl
@[go_sem] theorem binB_add_u32 {P:Program} {t:TypeId} {x y:BitVec 32} {K:AV→Prop}:(binB .add P t (.u32 x) (.u32 y) K)=(K (.u32 (x+y))):=Eq.trans rfl rfl
@[go_sem] theorem binB_sub_u64 {P:Program} {t:TypeId} {x y:BitVec 64} {K:AV→Prop}:(binB .sub P t (.u64 x) (.u64 y) K)=(K (.u64 (x-y))):=Eq.trans rfl rfl
@[go_sem] theorem binB_and_u64 {P:Program} {t:TypeId} {x y:BitVec 64} {K:AV→Prop}:(binB .and P t (.u64 x) (.u64 y) K)=(K (.u64 (x&&&y))):=Eq.trans rfl rfl
@[go_sem] theorem binB_add_i64 {P:Program} {t:TypeId} {x y:Int} {K:AV→Prop}:(binB .add P t (.i64 x) (.i64 y) K)=(K (.i64 (wrap64 (x+y)))):=Eq.trans rfl rfl
@[go_sem] theorem binB_sub_i64 {P:Program} {t:TypeId} {x y:Int} {K:AV→Prop}:(binB .sub P t (.i64 x) (.i64 y) K)=(K (.i64 (wrap64 (x-y)))):=Eq.trans rfl rfl
@[go_sem] theorem binB_mul_i64 {P:Program} {t:TypeId} {x y:Int} {K:AV→Prop}:(binB .mul P t (.i64 x) (.i64 y) K)=(K (.i64 (wrap64 (x*y)))):=Eq.trans rfl rfl
@[go_sem] theorem binB_and_i64 {P:Program} {t:TypeId} {x y:Int} {K:AV→Prop}:(binB .and P t (.i64 x) (.i64 y) K)=(K (.i64 (and64 x y))):=Eq.trans rfl rfl
@[go_sem] theorem binB_quo_i64 {P:Program} {t:TypeId} {x y:Int} {K:AV→Prop}:(binB .quo P t (.i64 x) (.i64 y) K)=(y≠0∧K (.i64 (wrap64 (x.tdiv y)))):=Eq.trans rfl rfl
@[go_sem] theorem binB_rem_i64 {P:Program} {t:TypeId} {x y:Int} {K:AV→Prop}:(binB .rem P t (.i64 x) (.i64 y) K)=(y≠0∧K (.i64 (x.tmod y))):=Eq.trans rfl rfl
@[go_sem] theorem binB_eql_i64 {P:Program} {t:TypeId} {x y:Int} {K:AV→Prop}:(binB .eql P t (.i64 x) (.i64 y) K)=(K (.bo (x==y))):=Eq.trans rfl rfl
@[go_sem] theorem binB_neq_i64 {P:Program} {t:TypeId} {x y:Int} {K:AV→Prop}:(binB .neq P t (.i64 x) (.i64 y) K)=(K (.bo (x !=y))):=Eq.trans rfl rfl
@[go_sem] theorem binB_lss_i64 {P:Program} {t:TypeId} {x y:Int} {K:AV→Prop}:(binB .lss P t (.i64 x) (.i64 y) K)=(K (.bo (decide (x<y)))):=Eq.trans rfl rfl
@[go_sem] theorem binB_leq_i64 {P:Program} {t:TypeId} {x y:Int} {K:AV→Prop}:(binB .leq P t (.i64 x) (.i64 y) K)=(K (.bo (decide (x≤y)))):=Eq.trans rfl rfl
@[go_sem] theorem binB_gtr_i64 {P:Program} {t:TypeId} {x y:Int} {K:AV→Prop}:(binB .gtr P t (.i64 x) (.i64 y) K)=(K (.bo (decide (y<x)))):=Eq.trans rfl rfl
@[go_sem] theorem binB_geq_i64 {P:Program} {t:TypeId} {x y:Int} {K:AV→Prop}:(binB .geq P t (.i64 x) (.i64 y) K)=(K (.bo (decide (y≤x)))):=Eq.trans rfl rfl
@[go_sem] theorem binB_eql_st {P:Program} {t:TypeId} {x y:List (BitVec 8)} {K:AV→Prop}:(binB .eql P t (.st x) (.st y) K)=(K (.bo (x==y))):=Eq.trans rfl rfl
@[go_sem] theorem binB_neq_st {P:Program} {t:TypeId} {x y:List (BitVec 8)} {K:AV→Prop}:(binB .neq P t (.st x) (.st y) K)=(K (.bo (x !=y))):=Eq.trans rfl rfl
@[go_sem] theorem binB_add_st {P:Program} {t:TypeId} {x y:List (BitVec 8)} {K:AV→Prop}:(binB .add P t (.st x) (.st y) K)=(x.length+y.length≤9223372036854775807∧K (.st (x++y))):=Eq.trans rfl rfl
def plainB (k:Option TK) (op:BinOp) (x y:AV) (K:AV→Prop):Prop:=
  match k with
  | none=>False
  | some k=>match eqPlain k x y with
    | none=>False
    | some b=>match op with
      | .eql=>K (.bo b)
      | .neq=>K (.bo (!b))
      | _=>False
@[congr] theorem plainB_congr {op:BinOp} {K:AV→Prop} {x:AV} {y:AV} {k k':Option TK} (h_k:k=k'):plainB k op x y K=plainB k' op x y K:=by subst h_k; rfl
@[go_sem] theorem binB_ag {P:Program} {op:BinOp} {t:TypeId} {K:AV→Prop} {l l':List AV} (h:isShift op=false):(binB op P t (.ag l) (.ag l') K)=(aggB (eqT P t) op l l' K):=by simp only[binB,h,isScalar,isAg]; rfl
@[go_sem] theorem aggB_eql {ks:List EK} {K:AV→Prop} {l l':List AV}:(aggB (some ks) .eql l l' K)=(fits ks l=true∧fits ks l'=true∧K (.bo (eqCells l l'))):=Eq.trans rfl rfl
@[go_sem] theorem fits_nil:(fits [] [])=(true):=Eq.trans rfl rfl
@[go_sem] theorem eqCells_nil:(eqCells [] [])=(true):=Eq.trans rfl rfl
@[go_sem] theorem fits_bo {ks:List EK} {r:List AV} {x:Bool}:(fits (.bool :: ks) (.bo x :: r))=(fits ks r):=by simp[fits,AV.fits]
@[go_sem] theorem eqCells_bo {r s:List AV} {x y:Bool}:(eqCells (.bo x :: r) (.bo y :: s))=(x==y&&eqCells r s):=Eq.trans rfl rfl
@[go_sem] theorem fits_u8 {ks:List EK} {r:List AV} {x:BitVec 8}:(fits (.int .u8 :: ks) (.u8 x :: r))=(fits ks r):=by simp[fits,AV.fits]
@[go_sem] theorem eqCells_u8 {r s:List AV} {x y:BitVec 8}:(eqCells (.u8 x :: r) (.u8 y :: s))=(x==y&&eqCells r s):=Eq.trans rfl rfl
@[go_sem] theorem fits_u16 {ks:List EK} {r:List AV} {x:BitVec 16}:(fits (.int .u16 :: ks) (.u16 x :: r))=(fits ks r):=by simp[fits,AV.fits]
@[go_sem] theorem eqCells_u16 {r s:List AV} {x y:BitVec 16}:(eqCells (.u16 x :: r) (.u16 y :: s))=(x==y&&eqCells r s):=Eq.trans rfl rfl
@[go_sem] theorem binB_plain_bo_bo {P:Program} {op:BinOp} {t:TypeId} {K:AV→Prop} (x:Bool) (y:Bool) (h:isShift op=false):(binB op P t (.bo x) (.bo y) K)=(plainB (kindT P t) op (.bo x) (.bo y) K):=by simp only[binB,h,isScalar,isAg]; rfl
@[go_sem] theorem plainB_eql_bo_bo {K:AV→Prop} (x:Bool) (y:Bool):(plainB (some .bool) .eql (.bo x) (.bo y) K)=(K (.bo (x==y))):=Eq.trans rfl rfl
@[go_sem] theorem binB_plain_sl_sn {P:Program} {op:BinOp} {t:TypeId} {K:AV→Prop} (b o l c:Nat) (h:isShift op=false):(binB op P t (.sl b o l c) (.sn) K)=(plainB (kindT P t) op (.sl b o l c) (.sn) K):=by simp only[binB,h,isScalar,isAg]; rfl
@[go_sem] theorem plainB_neq_sl_sn {K:AV→Prop} (b o l c:Nat):(plainB (some .slice) .neq (.sl b o l c) (.sn) K)=(K (.bo (true))):=Eq.trans rfl rfl
@[go_sem] theorem isShift_eql:(isShift .eql)=(false):=Eq.trans rfl rfl
@[go_sem] theorem isShift_neq:(isShift .neq)=(false):=Eq.trans rfl rfl
@[go_sem] theorem evOp_unOp {P:Program} {env:Env} {H:Heap} {n:Nat}{K:AV→Heap→Nat→Prop} {op:UnOp} {t:TypeId} {x:Operand}:(evOp P env H n (.unOp op t x) K)=(unK op (opv env x) (atK K H n)):=Eq.trans rfl rfl
@[go_sem] theorem unK_not {x:Bool} {K:AV→Prop}:(unK .not (.bo x) K)=(K (.bo (!x))):=Eq.trans rfl rfl
@[go_sem] theorem unK_xor_u8 {x:BitVec 8} {K:AV→Prop}:(unK .xor (.u8 x) K)=(K (.u8 (~~~ x))):=Eq.trans rfl rfl
@[go_sem] theorem unK_xor_u16 {x:BitVec 16} {K:AV→Prop}:(unK .xor (.u16 x) K)=(K (.u16 (~~~ x))):=Eq.trans rfl rfl
def convB (c:Option CK) (P:Program) (s d:TypeId) (x:AV) (H:Heap) (n:Nat) (K:AV→Heap→Nat→Prop):Prop:=
  match c with
  | some .b2s=>readK H 1 x (atStK K H n)
  | some (.int k)=>convI k x (atK K H n)
  | some .str=>match x with
    | .st s=>K (.st s) H n
    | _=>False
  | _=>False
@[congr] theorem convB_congr {P:Program} {s:TypeId} {d:TypeId} {H:Heap} {n:Nat} {K:AV→Heap→Nat→Prop} {c c':Option CK} {x x':AV} (h_c:c=c') (h_x:x=x'):convB c P s d x H n K=convB c' P s d x' H n K:=by subst h_c h_x; rfl
@[go_sem] theorem evOp_convert {P:Program} {env:Env} {H:Heap} {n:Nat} {K:AV→Heap→Nat→Prop} {s d:TypeId} {x:Operand}:evOp P env H n (.convert s d x) K=convB (convT P s d) P s d (opv env x) H n K:=by
  simp only[evOp,pureK]
  cases hc:convT P s d with
  | none=>rfl
  | some c=>cases c <;> first | rfl | (simp only[convB]; cases opv env x <;> rfl)
@[go_sem] theorem convB_int {P:Program} {s d:TypeId} {x:AV} {H:Heap} {n:Nat} {k:IntKind} {K:AV→Heap→Nat→Prop}:(convB (some (.int k)) P s d x H n K)=(convI k x (atK K H n)):=Eq.trans rfl rfl
@[go_sem] theorem convI_u8_u16 {x:BitVec 16} {K:AV→Prop}:(convI .u8 (.u16 x) K)=(K (.u8 (x.setWidth 8))):=Eq.trans rfl rfl
@[go_sem] theorem convI_u8_u32 {x:BitVec 32} {K:AV→Prop}:(convI .u8 (.u32 x) K)=(K (.u8 (x.setWidth 8))):=Eq.trans rfl rfl
@[go_sem] theorem convI_u8_i64 {x:Int} {K:AV→Prop}:(convI .u8 (.i64 x) K)=(K (.u8 (BitVec.ofInt 8 x))):=Eq.trans rfl rfl
@[go_sem] theorem convI_u16_u8 {x:BitVec 8} {K:AV→Prop}:(convI .u16 (.u8 x) K)=(K (.u16 (x.setWidth 16))):=Eq.trans rfl rfl
@[go_sem] theorem convI_u16_u32 {x:BitVec 32} {K:AV→Prop}:(convI .u16 (.u32 x) K)=(K (.u16 (x.setWidth 16))):=Eq.trans rfl rfl
@[go_sem] theorem convI_u16_i64 {x:Int} {K:AV→Prop}:(convI .u16 (.i64 x) K)=(K (.u16 (BitVec.ofInt 16 x))):=Eq.trans rfl rfl
@[go_sem] theorem convI_u32_u8 {x:BitVec 8} {K:AV→Prop}:(convI .u32 (.u8 x) K)=(K (.u32 (x.setWidth 32))):=Eq.trans rfl rfl
@[go_sem] theorem convI_u32_u16 {x:BitVec 16} {K:AV→Prop}:(convI .u32 (.u16 x) K)=(K (.u32 (x.setWidth 32))):=Eq.trans rfl rfl
@[go_sem] theorem convI_u64_i64 {x:Int} {K:AV→Prop}:(convI .u64 (.i64 x) K)=(K (.u64 (BitVec.ofInt 64 x))):=Eq.trans rfl rfl
@[go_sem] theorem convI_u16_i8 {x:BitVec 8} {K:AV→Prop}:(convI .u16 (.i8 x) K)=(K (.u16 (x.signExtend 16))):=Eq.trans rfl rfl
@[go_sem] theorem convI_i8_u8 {x:BitVec 8} {K:AV→Prop}:(convI .i8 (.u8 x) K)=(K (.i8 x)):=Eq.trans rfl rfl
@[go_sem] theorem convI_i64_u8 {x:BitVec 8} {K:AV→Prop}:(convI .i64 (.u8 x) K)=(K (.i64 x.toNat)):=Eq.trans rfl rfl
@[go_sem] theorem convI_i64_u16 {x:BitVec 16} {K:AV→Prop}:(convI .i64 (.u16 x) K)=(K (.i64 x.toNat)):=Eq.trans rfl rfl
@[go_sem] theorem evOp_makeInterface {P:Program} {env:Env} {H:Heap} {n:Nat}{K:AV→Heap→Nat→Prop} {t:TypeId} {x:Operand}:(evOp P env H n (.makeInterface t x) K)=(notIface P t=true∧opv env x≠ .junk∧K (.ifc t (opv env x)) H n):=Eq.trans rfl rfl
def fieldB (x:AV) (f:Option (Nat×Bool×Nat)) (K:AV→Prop):Prop:=match x,f with
  | .pt b o,some (off,_,_)=>K (.pt b (o+off))
  | _,_=>False
def fieldVB (x:AV) (f:Option (Nat×Bool×Nat)) (K:AV→Prop):Prop:=match x,f with
  | .ag l,some (off,true,sz)=>off+sz≤l.length∧K (.ag ((l.drop off).take sz))
  | .ag l,some (off,false,_)=>off<l.length∧K (l.getD off .junk)
  | _,_=>False
@[congr] theorem fieldB_congr {K:AV→Prop} {x x':AV} {f f':Option (Nat×Bool×Nat)} (h_x:x=x') (h_f:f=f'):fieldB x f K=fieldB x' f' K:=by subst h_x h_f; rfl
@[congr] theorem fieldVB_congr {K:AV→Prop} {x x':AV} {f f':Option (Nat×Bool×Nat)} (h_x:x=x') (h_f:f=f'):fieldVB x f K=fieldVB x' f' K:=by subst h_x h_f; rfl
@[go_sem] theorem evOp_fieldAddr {P:Program} {env:Env} {H:Heap} {n:Nat}{K:AV→Heap→Nat→Prop} {s:TypeId} {x:Operand} {f:Nat}:(evOp P env H n (.fieldAddr s x f) K)=(fieldB (opv env x) (fldT P s f) (atK K H n)):=Eq.trans rfl rfl
@[go_sem] theorem fieldB_pt {b o off sz:Nat} {ag:Bool} {K:AV→Prop}:(fieldB (.pt b o) (some (off,ag,sz)) K)=(K (.pt b (o+off))):=Eq.trans rfl rfl
def ixB (ix:Option (Option Nat×Bool×Nat)) (x:AV) (i:Option Int) (K:AV→Prop):Prop:=
  match ix,i with
  | some (some n,_,e),some i=>match x with
    | .pt b o=>0≤i∧i<n∧K (.pt b (o+i.toNat*e))
    | _=>False
  | some (none,_,e),some i=>match x with
    | .sl b o n _=>0≤i∧i<n∧K (.pt b (o+i.toNat*e))
    | .su b o n _=>0≤i∧i<n∧K (.pt b (o+i.toNat*e))
    | _=>False
  | _,_=>False
def ixVB (ix:Option (Option Nat×Bool×Nat)) (str:Bool) (x:AV) (i:Option Int) (K:AV→Prop):Prop:=
  match i with
  | none=>False
  | some i=>match x with
    | .st s=>str=true∧0≤i∧i<s.length∧K (.u8 (s.getD i.toNat 0))
    | .ag l=>match ix with
      | some (some n,false,e)=>0≤i∧i<n∧i.toNat*e<l.length∧K (l.getD (i.toNat*e) .junk)
      | some (some n,true,e)=>0≤i∧i<n∧i.toNat*e+e≤l.length∧K (.ag ((l.drop (i.toNat*e)).take e))
      | _=>False
    | _=>False
@[congr] theorem ixB_congr {K:AV→Prop} {ix ix':Option (Option Nat×Bool×Nat)} {x x':AV} {i i':Option Int} (h_ix:ix=ix') (h_x:x=x') (h_i:i=i'):ixB ix x i K=ixB ix' x' i' K:=by subst h_ix h_x h_i; rfl
@[congr] theorem ixVB_congr {K:AV→Prop} {ix ix':Option (Option Nat×Bool×Nat)} {str str':Bool} {x x':AV} {i i':Option Int} (h_ix:ix=ix') (h_str:str=str') (h_x:x=x') (h_i:i=i'):ixVB ix str x i K=ixVB ix' str' x' i' K:=by subst h_ix h_str h_x h_i; rfl
@[go_sem] theorem evOp_indexAddr {P:Program} {env:Env} {H:Heap} {n:Nat}{K:AV→Heap→Nat→Prop} {t:TypeId} {x i:Operand}:(evOp P env H n (.indexAddr t x i) K)=(ixB (ixT P t) (opv env x) (idx (opv env i)) (atK K H n)):=Eq.trans rfl rfl
@[go_sem] theorem ixB_arr {n e b o:Nat} {ag:Bool} {i:Int} {K:AV→Prop}:(ixB (some (some n,ag,e)) (.pt b o) (some i) K)=(0≤i∧i<n∧K (.pt b (o+i.toNat*e))):=Eq.trans rfl rfl
@[go_sem] theorem ixB_sl {e b o l c:Nat} {ag:Bool} {i:Int} {K:AV→Prop}:(ixB (some (none,ag,e)) (.sl b o l c) (some i) K)=(0≤i∧i<l∧K (.pt b (o+i.toNat*e))):=Eq.trans rfl rfl
@[go_sem] theorem ixB_su {e b o l c:Nat} {ag:Bool} {i:Int} {K:AV→Prop}:(ixB (some (none,ag,e)) (.su b o l c) (some i) K)=(0≤i∧i<l∧K (.pt b (o+i.toNat*e))):=Eq.trans rfl rfl
@[go_sem] theorem evOp_index {P:Program} {env:Env} {H:Heap} {n:Nat}{K:AV→Heap→Nat→Prop} {t:TypeId} {x i:Operand}:(evOp P env H n (.index t x i) K)=(ixVB (ixT P t) (isStrT P t) (opv env x) (idx (opv env i)) (atK K H n)):=Eq.trans rfl rfl
@[go_sem] theorem ixVB_st {ix:Option (Option Nat×Bool×Nat)} {str:Bool} {s:List (BitVec 8)} {i:Int} {K:AV→Prop}:(ixVB ix str (.st s) (some i) K)=(str=true∧0≤i∧i<s.length∧K (.u8 (s.getD i.toNat 0))):=Eq.trans rfl rfl
@[go_sem] theorem ixVB_one {str:Bool} {l:List AV} {n e:Nat} {i:Int} {K:AV→Prop}:(ixVB (some (some n,false,e)) str (.ag l) (some i) K)=(0≤i∧i<n∧i.toNat*e<l.length∧K (l.getD (i.toNat*e) .junk)):=Eq.trans rfl rfl
@[go_sem] theorem idx_u8 {x:BitVec 8}:(idx (.u8 x))=(some (x.toNat:Int)):=Eq.trans rfl rfl
@[go_sem] theorem idx_u16 {x:BitVec 16}:(idx (.u16 x))=(some (x.toNat:Int)):=Eq.trans rfl rfl
@[go_sem] theorem idx_i64 {x:Int}:(idx (.i64 x))=(some x):=Eq.trans rfl rfl
def extB (x:AV) (i:Nat) (K:AV→Prop):Prop:=match x with
  | .tu l=>i<l.length∧K (l.getD i .junk)
  | _=>False
@[congr] theorem extB_congr {K:AV→Prop} {x x':AV} {i i':Nat} (h_x:x=x') (h_i:i=i'):extB x i K=extB x' i' K:=by subst h_x h_i; rfl
@[go_sem] theorem evOp_extract {P:Program} {env:Env} {H:Heap} {n:Nat}{K:AV→Heap→Nat→Prop} {x:Operand} {i:Nat}:(evOp P env H n (.extract x i) K)=(extB (opv env x) i (atK K H n)):=Eq.trans rfl rfl
@[go_sem] theorem extB_tu {l:List AV} {i:Nat} {K:AV→Prop}:(extB (.tu l) i K)=(i<l.length∧K (l.getD i .junk)):=Eq.trans rfl rfl
def slB (x:AV) (P:Program) (t:TypeId) (lo:Option Int) (hi mx:Nat→Option Int) (full ok:Bool) (H:Heap) (n:Nat) (K:AV→Heap→Nat→Prop):Prop:=
  match x with
  | .su b o l e=>full=false∧sliceSu P H t b o l e lo (hi l) (atK K H n)
  | x=>ok=true∧sliceK P t x lo hi mx full (atK K H n)
@[congr] theorem slB_congr {P:Program} {t:TypeId} {H:Heap} {n:Nat} {K:AV→Heap→Nat→Prop} {x x':AV} {lo lo':Option Int} {hi hi':Nat→Option Int} {mx mx':Nat→Option Int} {full full':Bool} {ok ok':Bool} (h_x:x=x') (h_lo:lo=lo') (h_hi:hi=hi') (h_mx:mx=mx') (h_full:full=full') (h_ok:ok=ok'):slB x P t lo hi mx full ok H n K=slB x' P t lo' hi' mx' full' ok' H n K:=by subst h_x h_lo h_hi h_mx h_full h_ok; rfl
@[go_sem] theorem evOp_slice {P:Program} {env:Env} {H:Heap} {n:Nat} {K:AV→Heap→Nat→Prop} {t:TypeId} {x:Operand} {lo hi mx:Option Operand}:
    evOp P env H n (.slice t x lo hi mx) K=slB (opv env x) P t (bnd env 0 lo) (fun n=>bnd env n hi) (fun n=>bnd env n mx) mx.isSome (hi.isSome||mx.isNone) H n K:=by
  simp only[evOp,pureK]
  cases hx:opv env x <;> first | rfl | (cases mx <;> simp[slB])
@[go_sem] theorem bnd_none {env:Env} {d:Nat}:(bnd env d none)=(some (d:Int)):=Eq.trans rfl rfl
@[go_sem] theorem bnd_some {env:Env} {d:Nat} {x:Operand}:(bnd env d (some x))=(idx (opv env x)):=Eq.trans rfl rfl
def arrB (ix:Option (Option Nat×Bool×Nat)) (b o:Nat) (lo:Option Int) (hi mx:Nat→Option Int) (K:AV→Prop):Prop:=
  match ix with
  | some (some n,_,e)=>match lo,hi n,mx n with
      | some l,some h,some m=>0≤l∧l≤h∧h≤m∧m≤n∧K (.sl b (if m=l then o else o+l.toNat*e) (h.toNat-l.toNat) (m.toNat-l.toNat))
      | _,_,_=>False
  | _=>False
def arrB2 (b o n e:Nat) (lo hi mx:Option Int) (K:AV→Prop):Prop:=
  match lo,hi,mx with
      | some l,some h,some m=>0≤l∧l≤h∧h≤m∧m≤n∧K (.sl b (if m=l then o else o+l.toNat*e) (h.toNat-l.toNat) (m.toNat-l.toNat))
      | _,_,_=>False
def slcB (ix:Option (Option Nat×Bool×Nat)) (b o n c:Nat) (lo:Option Int) (hi mx:Nat→Option Int) (K:AV→Prop):Prop:=
  match ix with
  | some (none,_,e)=>match lo,hi n,mx c with
      | some l,some h,some m=>0≤l∧l≤h∧h≤m∧m≤c∧K (.sl b (if m=l then o else o+l.toNat*e) (h.toNat-l.toNat) (m.toNat-l.toNat))
      | _,_,_=>False
  | _=>False
def snB (ix:Option (Option Nat×Bool×Nat)) (lo:Option Int) (hi mx:Nat→Option Int) (K:AV→Prop):Prop:=
  match ix with
  | some (none,_,_)=>match lo,hi 0,mx 0 with
      | some l,some h,some m=>l=0∧h=0∧m=0∧K .sn
      | _,_,_=>False
  | _=>False
def snB2 (lo hi mx:Option Int) (K:AV→Prop):Prop:=match lo,hi,mx with
      | some l,some h,some m=>l=0∧h=0∧m=0∧K .sn
      | _,_,_=>False
def strB (str:Bool) (s:List (BitVec 8)) (lo hi:Option Int) (full:Bool) (K:AV→Prop):Prop:=
  str=true∧full=false∧match lo,hi with
    | some l,some h=>0≤l∧l≤h∧h≤s.length∧K (.st ((s.drop l.toNat).take (h.toNat-l.toNat)))
    | _,_=>False
def suB (ix:Option (Option Nat×Bool×Nat)) (blk:Option Blk) (b o l e:Nat) (lo hi:Option Int) (K:AV→Prop):Prop:=
  match ix,blk,lo,hi with
  | some (none,_,e'),some blk,some l',some h=>e'=e∧0≤l'∧l'≤h∧o+h.toNat*e≤blk.cells.length∧
      (if l'=0 then K (.su b o h.toNat e) else if l'<h then K (.su b (o+l'.toNat*e) (h.toNat-l'.toNat) e) else K (.sl b o 0 0)∧K (.su b (o+l'.toNat*e) 0 e))
  | _,_,_,_=>False
@[congr] theorem arrB_congr {b:Nat} {o:Nat} {K:AV→Prop} {lo:Option Int} {hi:Nat→Option Int} {mx:Nat→Option Int} {ix ix':Option (Option Nat×Bool×Nat)} (h_ix:ix=ix'):arrB ix b o lo hi mx K=arrB ix' b o lo hi mx K:=by subst h_ix; rfl
@[congr] theorem arrB2_congr {b:Nat} {o:Nat} {n:Nat} {e:Nat} {K:AV→Prop} {lo lo':Option Int} {hi hi':Option Int} {mx mx':Option Int} (h_lo:lo=lo') (h_hi:hi=hi') (h_mx:mx=mx'):arrB2 b o n e lo hi mx K=arrB2 b o n e lo' hi' mx' K:=by subst h_lo h_hi h_mx; rfl
@[congr] theorem slcB_congr {b:Nat} {o:Nat} {n:Nat} {c:Nat} {K:AV→Prop} {lo:Option Int} {hi:Nat→Option Int} {mx:Nat→Option Int} {ix ix':Option (Option Nat×Bool×Nat)} (h_ix:ix=ix'):slcB ix b o n c lo hi mx K=slcB ix' b o n c lo hi mx K:=by subst h_ix; rfl
@[congr] theorem snB_congr {K:AV→Prop} {lo:Option Int} {hi:Nat→Option Int} {mx:Nat→Option Int} {ix ix':Option (Option Nat×Bool×Nat)} (h_ix:ix=ix'):snB ix lo hi mx K=snB ix' lo hi mx K:=by subst h_ix; rfl
@[congr] theorem snB2_congr {K:AV→Prop} {lo lo':Option Int} {hi hi':Option Int} {mx mx':Option Int} (h_lo:lo=lo') (h_hi:hi=hi') (h_mx:mx=mx'):snB2 lo hi mx K=snB2 lo' hi' mx' K:=by subst h_lo h_hi h_mx; rfl
@[congr] theorem strB_congr {K:AV→Prop} {str str':Bool} {s s':List (BitVec 8)} {lo lo':Option Int} {hi hi':Option Int} {full full':Bool} (h_str:str=str') (h_s:s=s') (h_lo:lo=lo') (h_hi:hi=hi') (h_full:full=full'):strB str s lo hi full K=strB str' s' lo' hi' full' K:=by subst h_str h_s h_lo h_hi h_full; rfl
@[congr] theorem suB_congr {K:AV→Prop} {ix ix':Option (Option Nat×Bool×Nat)} {blk blk':Option Blk} {b b':Nat} {o o':Nat} {l l':Nat} {e e':Nat} {lo lo':Option Int} {hi hi':Option Int} (h_ix:ix=ix') (h_blk:blk=blk') (h_b:b=b') (h_o:o=o') (h_l:l=l') (h_e:e=e') (h_lo:lo=lo') (h_hi:hi=hi'):suB ix blk b o l e lo hi K=suB ix' blk' b' o' l' e' lo' hi' K:=by subst h_ix h_blk h_b h_o h_l h_e h_lo h_hi; rfl
@[go_sem] theorem slB_st {P:Program} {t:TypeId} {lo:Option Int} {hi mx:Nat→Option Int} {full ok:Bool} {H:Heap} {n:Nat} {K:AV→Heap→Nat→Prop} {s:List (BitVec 8)}:(slB (.st s) P t lo hi mx full ok H n K)=(ok=true∧strB (isStrT P t) s lo (hi s.length) full (atK K H n)):=Eq.trans rfl rfl
@[go_sem] theorem strB_some {str full:Bool} {s:List (BitVec 8)} {l h:Int} {K:AV→Prop}:(strB str s (some l) (some h) full K)=(str=true∧full=false∧0≤l∧l≤h∧h≤s.length∧K (.st ((s.drop l.toNat).take (h.toNat-l.toNat)))):=Eq.trans rfl rfl
def callB (f:AV) (P:Program) (args:List AV) (H:Heap) (n:Nat) (K:AV→Heap→Nat→Prop):Prop:=match f with
  | .fn k caps=>ACalls P k (args++caps) H n K
  | _=>False
def callJ (f:Option FuncId) (P:Program) (args:List AV) (H:Heap) (n:Nat) (K:AV→Heap→Nat→Prop):Prop:=match f with
  | some k=>ACalls P k args H n K
  | none=>False
def callI (f:AV) (name:String) (P:Program) (args:List AV) (H:Heap) (n:Nat) (K:AV→Heap→Nat→Prop):Prop:=match f with
  | .ifc t v=>callJ (mthT P t name) P (v :: args) H n K
  | _=>False
@[congr] theorem callB_congr {P:Program} {H:Heap} {n:Nat} {K:AV→Heap→Nat→Prop} {f f':AV} {args args':List AV} (h_f:f=f') (h_args:args=args'):callB f P args H n K=callB f' P args' H n K:=by subst h_f h_args; rfl
@[congr] theorem callJ_congr {P:Program} {H:Heap} {n:Nat} {K:AV→Heap→Nat→Prop} {f f':Option FuncId} {args args':List AV} (h_f:f=f') (h_args:args=args'):callJ f P args H n K=callJ f' P args' H n K:=by subst h_f h_args; rfl
@[congr] theorem callI_congr {name:String} {P:Program} {H:Heap} {n:Nat} {K:AV→Heap→Nat→Prop} {f f':AV} {args args':List AV} (h_f:f=f') (h_args:args=args'):callI f name P args H n K=callI f' name P args' H n K:=by subst h_f h_args; rfl
@[go_sem] theorem evOp_call {P:Program} {env:Env} {H:Heap} {n:Nat}{K:AV→Heap→Nat→Prop} {f:Operand} {args:Array Operand} {ts:Array TypeId}:(evOp P env H n (.call ⟨.value f,args,ts⟩) K)=(callB (opv env f) P (args.toList.map (opv env)) H n K):=Eq.trans rfl rfl
@[go_sem] theorem evOp_invoke {P:Program} {env:Env} {H:Heap} {n:Nat}{K:AV→Heap→Nat→Prop} {r:Operand} {name:String} {args:Array Operand} {ts:Array TypeId}:(evOp P env H n (.call ⟨.invoke r name,args,ts⟩) K)=(callI (opv env r) name P (args.toList.map (opv env)) H n K):=Eq.trans rfl rfl
@[go_sem] theorem callB_fn {P:Program} {args:List AV} {H:Heap} {n k:Nat} {caps:List AV} {K:AV→Heap→Nat→Prop}:(callB (.fn k caps) P args H n K)=(ACalls P k (args++caps) H n K):=Eq.trans rfl rfl
@[go_sem] theorem callI_ifc {P:Program} {args:List AV} {H:Heap} {n t:Nat} {v:AV} {name:String} {K:AV→Heap→Nat→Prop}:(callI (.ifc t v) name P args H n K)=(callJ (mthT P t name) P (v :: args) H n K):=Eq.trans rfl rfl
@[go_sem] theorem callJ_some {P:Program} {args:List AV} {H:Heap} {n k:Nat} {K:AV→Heap→Nat→Prop}:(callJ (some k) P args H n K)=(ACalls P k args H n K):=Eq.trans rfl rfl
def lenB (k:Option LenK) (x:AV) (K:AV→Prop):Prop:=match k with
  | some (.arr n)=>K (.i64 n)
  | some .str=>match x with
    | .st s=>K (.i64 s.length)
    | _=>False
  | some .slice=>match x with
    | .sl _ _ l _=>K (.i64 l)
    | .su _ _ l _=>K (.i64 l)
    | .sn=>K (.i64 0)
    | _=>False
  | none=>False
def capB (k:Option LenK) (x:AV) (K:AV→Prop):Prop:=match k with
  | some .slice=>match x with
    | .sl _ _ _ c=>K (.i64 c)
    | .sn=>K (.i64 0)
    | _=>False
  | _=>False
@[congr] theorem lenB_congr {K:AV→Prop} {k k':Option LenK} {x x':AV} (h_k:k=k') (h_x:x=x'):lenB k x K=lenB k' x' K:=by subst h_k h_x; rfl
@[congr] theorem capB_congr {K:AV→Prop} {k k':Option LenK} {x x':AV} (h_k:k=k') (h_x:x=x'):capB k x K=capB k' x' K:=by subst h_k h_x; rfl
@[go_sem] theorem evOp_len {P:Program} {env:Env} {H:Heap} {n:Nat}{K:AV→Heap→Nat→Prop} {x:Operand} {t:TypeId}:(evOp P env H n (.call ⟨.builtin .len,[x].toArray,[t].toArray⟩) K)=(lenB (lenT P t) (opv env x) (atK K H n)):=Eq.trans rfl rfl
@[go_sem] theorem lenB_str {s:List (BitVec 8)} {K:AV→Prop}:(lenB (some .str) (.st s) K)=(K (.i64 s.length)):=Eq.trans rfl rfl
@[go_sem] theorem lenB_sl {b o l c:Nat} {K:AV→Prop}:(lenB (some .slice) (.sl b o l c) K)=(K (.i64 l)):=Eq.trans rfl rfl
@[go_sem] theorem lenB_su {b o l c:Nat} {K:AV→Prop}:(lenB (some .slice) (.su b o l c) K)=(K (.i64 l)):=Eq.trans rfl rfl
@[go_sem] theorem lenB_sn {K:AV→Prop}:(lenB (some .slice) .sn K)=(K (.i64 0)):=Eq.trans rfl rfl
def copyB (el:Option (TypeId×Nat×Nat)) (H:Heap) (dst src:AV) (K:AV→Heap→Prop):Prop:=
  match el with
  | none=>False
  | some (_,e,_)=>(match src with | .st _=>e=1 | _=>True)∧srcK H e src fun l cells=>
    match slicePl e dst with
    | some (b,off,dl)=>match H b with
      | some blk=>blk.ro=false∧off+min l dl*e≤blk.cells.length∧
          K (.i64 (min l dl:Nat)) (H.upd b (some { blk with cells:=splice blk.cells off (cells.take (min l dl*e))}))
      | none=>False
    | none=>False
def rdB (blk:Option Blk) (o e l:Nat) (K:Nat→List AV→Prop):Prop:=match blk with
  | some blk=>o+l*e≤blk.cells.length∧K l ((blk.cells.drop o).take (l*e))
  | none=>False
def cpB (blk:Option Blk) (b off dl e:Nat) (H:Heap) (K:AV→Heap→Prop) (l:Nat) (cells:List AV):Prop:=match blk with
  | some blk=>blk.ro=false∧off+min l dl*e≤blk.cells.length∧K (.i64 (min l dl:Nat)) (H.upd b (some ⟨splice blk.cells off (cells.take (min l dl*e)),blk.elem,blk.ro⟩))
  | none=>False
@[congr] theorem copyB_congr {H:Heap} {K:AV→Heap→Prop} {el el':Option (TypeId×Nat×Nat)} {dst dst':AV} {src src':AV} (h_el:el=el') (h_dst:dst=dst') (h_src:src=src'):copyB el H dst src K=copyB el' H dst' src' K:=by subst h_el h_dst h_src; rfl
@[congr] theorem rdB_congr {K:Nat→List AV→Prop} {blk blk':Option Blk} {o o':Nat} {e e':Nat} {l l':Nat} (h_blk:blk=blk') (h_o:o=o') (h_e:e=e') (h_l:l=l'):rdB blk o e l K=rdB blk' o' e' l' K:=by subst h_blk h_o h_e h_l; rfl
@[congr] theorem cpB_congr {H:Heap} {K:AV→Heap→Prop} {blk blk':Option Blk} {b b':Nat} {off off':Nat} {dl dl':Nat} {e e':Nat} {l l':Nat} {cells cells':List AV} (h_blk:blk=blk') (h_b:b=b') (h_off:off=off') (h_dl:dl=dl') (h_e:e=e') (h_l:l=l') (h_cells:cells=cells'):cpB blk b off dl e H K l cells=cpB blk' b' off' dl' e' H K l' cells':=by subst h_blk h_b h_off h_dl h_e h_l h_cells; rfl
@[go_sem] theorem srcK_sl {H:Heap} {e:Nat} {K:Nat→List AV→Prop} {b o l c:Nat}:(srcK H e (.sl b o l c) K)=(rdB (H b) o e l K):=Eq.trans rfl rfl
@[go_sem] theorem rdB_some {blk:Blk} {o e l:Nat} {K:Nat→List AV→Prop}:(rdB (some blk) o e l K)=(o+l*e≤blk.cells.length∧K l ((blk.cells.drop o).take (l*e))):=Eq.trans rfl rfl
def appB (a:Option AppT) (ni:Bool) (H:Heap) (n:Nat) (s x:AV) (K:AV→Heap→Nat→Prop):Prop:=
  ni=true∧match a with
  | none=>False
  | some a=>(match x with | .st _=>a.e=1 | _=>True)∧srcK H a.e x fun l new=>
    match s with
    | .sn=>(l=0→K .sn H n)∧(0<l→l≤4294967296∧K (.su n 0 l a.e) (H.upd n (some ⟨new,a.el,false⟩)) (n+1))
    | .sl b o sl c=>match H b with
      | some blk=>o+sl*a.e≤blk.cells.length∧
          (sl+l≤c→blk.ro=false∧o+(sl+l)*a.e≤blk.cells.length∧K (.sl b o (sl+l) c) (H.upd b (some { blk with cells:=splice blk.cells (o+sl*a.e) new})) n)∧
          (c<sl+l→sl+l≤4294967296∧K (.su n 0 (sl+l) a.e) (H.upd n (some ⟨(blk.cells.drop o).take (sl*a.e)++new,a.el,false⟩)) (n+1))
      | none=>False
    | .su b o sl e=>match H b with
      | some blk=>e=a.e∧o=0∧blk.ro=false∧blk.elem=a.el∧sl*a.e≤blk.cells.length∧sl+l≤4294967296∧
          K (.su n 0 (sl+l) a.e) ((H.upd b none).upd n (some ⟨blk.cells.take (sl*a.e)++new,a.el,false⟩)) (n+1)
      | none=>False
    | _=>False
def zB (a:Option AppT) (it:Bool) (H:Heap) (n:Nat) (s x:AV) (K:AV→Heap→Nat→Prop):Prop:=
  it=true∧match a,s,x with
  | some a,.sn,.i64 l=>0<l∧l≤4294967296∧K (.su n 0 l.toNat a.e) (H.upd n (some ⟨repCells l.toNat a.z,a.el,false⟩)) (n+1)
  | _,_,_=>False
def appI (ni it:Bool) (a:Option AppT) (H:Heap) (n:Nat) (s x:AV) (K:AV→Heap→Nat→Prop):Prop:=
  if ni=true then appB a ni H n s x K else zB a it H n s x K
def appSn (a:AppT) (H:Heap) (n:Nat) (K:AV→Heap→Nat→Prop) (l:Nat) (new:List AV):Prop:=
  (l=0→K .sn H n)∧(0<l→l≤4294967296∧K (.su n 0 l a.e) (H.upd n (some ⟨new,a.el,false⟩)) (n+1))
def appSl (blk:Option Blk) (a:AppT) (b o sl c:Nat) (H:Heap) (n:Nat) (K:AV→Heap→Nat→Prop) (l:Nat) (new:List AV):Prop:=match blk with
  | some blk=>o+sl*a.e≤blk.cells.length∧
          (sl+l≤c→blk.ro=false∧o+(sl+l)*a.e≤blk.cells.length∧K (.sl b o (sl+l) c) (H.upd b (some ⟨splice blk.cells (o+sl*a.e) new,blk.elem,blk.ro⟩)) n)∧
          (c<sl+l→sl+l≤4294967296∧K (.su n 0 (sl+l) a.e) (H.upd n (some ⟨(blk.cells.drop o).take (sl*a.e)++new,a.el,false⟩)) (n+1))
  | none=>False
def appSu (blk:Option Blk) (a:AppT) (b o sl e:Nat) (H:Heap) (n:Nat) (K:AV→Heap→Nat→Prop) (l:Nat) (new:List AV):Prop:=match blk with
  | some blk=>e=a.e∧o=0∧blk.ro=false∧blk.elem=a.el∧sl*a.e≤blk.cells.length∧sl+l≤4294967296∧
          K (.su n 0 (sl+l) a.e) ((H.upd b none).upd n (some ⟨blk.cells.take (sl*a.e)++new,a.el,false⟩)) (n+1)
  | none=>False
def appX (a:AppT) (x:AV):Prop:=match x with
  | .st _=>a.e=1
  | _=>True
@[congr] theorem appB_congr {H:Heap} {n:Nat} {K:AV→Heap→Nat→Prop} {a a':Option AppT} {ni ni':Bool} {s s':AV} {x x':AV} (h_a:a=a') (h_ni:ni=ni') (h_s:s=s') (h_x:x=x'):appB a ni H n s x K=appB a' ni' H n s' x' K:=by subst h_a h_ni h_s h_x; rfl
@[congr] theorem zB_congr {H:Heap} {n:Nat} {K:AV→Heap→Nat→Prop} {a a':Option AppT} {it it':Bool} {s s':AV} {x x':AV} (h_a:a=a') (h_it:it=it') (h_s:s=s') (h_x:x=x'):zB a it H n s x K=zB a' it' H n s' x' K:=by subst h_a h_it h_s h_x; rfl
@[congr] theorem appI_congr {H:Heap} {n:Nat} {K:AV→Heap→Nat→Prop} {ni ni':Bool} {it it':Bool} {a a':Option AppT} {s s':AV} {x x':AV} (h_ni:ni=ni') (h_it:it=it') (h_a:a=a') (h_s:s=s') (h_x:x=x'):appI ni it a H n s x K=appI ni' it' a' H n s' x' K:=by subst h_ni h_it h_a h_s h_x; rfl
@[congr] theorem appSn_congr {a:AppT} {H:Heap} {n:Nat} {K:AV→Heap→Nat→Prop} {l l':Nat} {new new':List AV} (h_l:l=l') (h_new:new=new'):appSn a H n K l new=appSn a H n K l' new':=by subst h_l h_new; rfl
@[congr] theorem appSl_congr {a:AppT} {b:Nat} {o:Nat} {sl:Nat} {c:Nat} {H:Heap} {n:Nat} {K:AV→Heap→Nat→Prop} {blk blk':Option Blk} {l l':Nat} {new new':List AV} (h_blk:blk=blk') (h_l:l=l') (h_new:new=new'):appSl blk a b o sl c H n K l new=appSl blk' a b o sl c H n K l' new':=by subst h_blk h_l h_new; rfl
@[congr] theorem appSu_congr {a:AppT} {b:Nat} {o:Nat} {sl:Nat} {e:Nat} {H:Heap} {n:Nat} {K:AV→Heap→Nat→Prop} {blk blk':Option Blk} {l l':Nat} {new new':List AV} (h_blk:blk=blk') (h_l:l=l') (h_new:new=new'):appSu blk a b o sl e H n K l new=appSu blk' a b o sl e H n K l' new':=by subst h_blk h_l h_new; rfl
@[go_sem] theorem evOp_append {P:Program} {env:Env} {H:Heap} {n:Nat}{K:AV→Heap→Nat→Prop} {x y:Operand} {t t':TypeId}:(evOp P env H n (.call ⟨.builtin .append,[x,y].toArray,[t,t'].toArray⟩) K)=(appI (notIntT P t') (intT P t') (appT P t) H n (opv env x) (opv env y) K):=Eq.trans rfl rfl
@[go_sem] theorem appI_true {it:Bool} {a:Option AppT} {H:Heap} {n:Nat} {s x:AV} {K:AV→Heap→Nat→Prop}:(appI true it a H n s x K)=(appB a true H n s x K):=by simp only[appI,if_true]
@[go_sem] theorem appB_sn {a:AppT} {H:Heap} {n:Nat} {x:AV} {K:AV→Heap→Nat→Prop}:(appB (some a) true H n .sn x K)=(appX a x∧srcK H a.e x (appSn a H n K)):=by simp only[appB,true_and]; rfl
@[go_sem] theorem appB_sl {a:AppT} {H:Heap} {n:Nat} {x:AV} {K:AV→Heap→Nat→Prop} {b o l c:Nat}:(appB (some a) true H n (.sl b o l c) x K)=(appX a x∧srcK H a.e x (appSl (H b) a b o l c H n K)):=by simp only[appB,true_and]; rfl
@[go_sem] theorem appB_su {a:AppT} {H:Heap} {n:Nat} {x:AV} {K:AV→Heap→Nat→Prop} {b o l e:Nat}:(appB (some a) true H n (.su b o l e) x K)=(appX a x∧srcK H a.e x (appSu (H b) a b o l e H n K)):=by simp only[appB,true_and]; rfl
@[go_sem] theorem appX_sl {a:AppT} {b o l c:Nat}:(appX a (.sl b o l c))=(True):=Eq.trans rfl rfl
@[go_sem] theorem appSn_eq {a:AppT} {H:Heap} {n:Nat} {K:AV→Heap→Nat→Prop}{l:Nat} {new:List AV}:(appSn a H n K l new)=((l=0→K .sn H n)∧(0<l→l≤4294967296∧K (.su n 0 l a.e) (H.upd n (some ⟨new,a.el,false⟩)) (n+1))):=Eq.trans rfl rfl
@[go_sem] theorem appSl_some {blk:Blk} {a:AppT} {b o sl c:Nat} {H:Heap} {n:Nat} {K:AV→Heap→Nat→Prop}{l:Nat} {new:List AV}:(appSl (some blk) a b o sl c H n K l new)=(o+sl*a.e≤blk.cells.length∧(sl+l≤c→blk.ro=false∧o+(sl+l)*a.e≤blk.cells.length∧K (.sl b o (sl+l) c) (H.upd b (some ⟨splice blk.cells (o+sl*a.e) new,blk.elem,blk.ro⟩)) n)∧(c<sl+l→sl+l≤4294967296∧K (.su n 0 (sl+l) a.e) (H.upd n (some ⟨(blk.cells.drop o).take (sl*a.e)++new,a.el,false⟩)) (n+1))):=Eq.trans rfl rfl
@[go_sem] theorem appSu_some {blk:Blk} {a:AppT} {b o sl e:Nat} {H:Heap} {n:Nat} {K:AV→Heap→Nat→Prop}{l:Nat} {new:List AV}:(appSu (some blk) a b o sl e H n K l new)=(e=a.e∧o=0∧blk.ro=false∧blk.elem=a.el∧sl*a.e≤blk.cells.length∧sl+l≤4294967296∧K (.su n 0 (sl+l) a.e) ((H.upd b none).upd n (some ⟨blk.cells.take (sl*a.e)++new,a.el,false⟩)) (n+1)):=Eq.trans rfl rfl
@[congr] theorem drawK_congr {P:Program} {all:List Oper} {k:Env→Heap→Nat→Prop} {ord ord':List (Nat×List Nat)} {rd rd':RD} {env env':Env} {H H':Heap} {n n':Nat} (h_ord:ord=ord') (h_rd:rd=rd') (h_env:env=env') (h_H:H=H') (h_n:n=n'):drawK P all k ord rd env H n=drawK P all k ord' rd' env' H' n':=by subst h_ord h_rd h_env h_H h_n; rfl
@[congr] theorem litK_congr {k:Env→Heap→Nat→Prop} {dst dst':Option Tmp} {env env':Env} {H H':Heap} {n n':Nat} {v v':AV} {H2 H2':Heap} {n2 n2':Nat} (h_dst:dst=dst') (h_env:env=env') (h_H:H=H') (h_n:n=n') (h_v:v=v') (h_H2:H2=H2') (h_n2:n2=n2'):litK k dst env H n v H2 n2=litK k dst' env' H' n' v' H2' n2':=by subst h_dst h_env h_H h_n h_v h_H2 h_n2; rfl
@[congr] theorem stopK_congr {P:Program} {k:RD→Env→Heap→Nat→Prop} {ws ws':List Nat} {rd rd':RD} {dst dst':Option Tmp} {env env':Env} {v v':AV} {H H':Heap} {n n':Nat} (h_ws:ws=ws') (h_rd:rd=rd') (h_dst:dst=dst') (h_env:env=env') (h_v:v=v') (h_H:H=H') (h_n:n=n'):stopK P ws rd k dst env v H n=stopK P ws' rd' k dst' env' v' H' n':=by subst h_ws h_rd h_dst h_env h_v h_H h_n; rfl
@[congr] theorem ldK_congr {k:RD→Env→Heap→Nat→Prop} {i i':Nat} {t t':TypeId} {a a':AV} {rd rd':RD} {dst dst':Option Tmp} {env env':Env} {H H':Heap} {n n':Nat} {v v':AV} (h_i:i=i') (h_t:t=t') (h_a:a=a') (h_rd:rd=rd') (h_dst:dst=dst') (h_env:env=env') (h_H:H=H') (h_n:n=n') (h_v:v=v'):ldK k i t a rd dst env H n v=ldK k i' t' a' rd' dst' env' H' n' v':=by subst h_i h_t h_a h_rd h_dst h_env h_H h_n h_v; rfl
def drawO (P:Program) (op:Op) (d:Option Tmp) (i:Nat) (ws:List Nat) (k:RD→Env→Heap→Nat→Prop) (rd:RD) (env:Env) (H:Heap) (n:Nat):Prop:=
  match op with
  | .load t a=>loadK P H t (opv env a) (ldK k i t (opv env a) rd d env H n)
  | op=>if lightOp op then evOp P env nilH n op (litK (k rd) d env H n) else evOp P env H n op (stopK P ws rd k d env)
def drawG2 (c:AV) (P:Program) (all:List Oper) (k:Env→Heap→Nat→Prop) (op:Op) (d:Option Tmp) (want:Bool) (t:Tmp) (i:Nat) (ws:List Nat) (r:List (Nat×List Nat)) (rd:RD) (env:Env) (H:Heap) (n:Nat):Prop:=
  match c with
  | .bo c=>(c=want→drawO P op d i ws (drawK P all k r) rd ((t,.bo want) :: env) H n)∧(c=(!want)→drawK P all k r rd (putE d (.tu []) ((t,.bo (!want)) :: env)) H n)
  | .tu []=>drawK P all k r rd (putE d (.tu []) env) H n
  | _=>False
def drawG1 (t:Option Tmp) (P:Program) (all:List Oper) (k:Env→Heap→Nat→Prop) (op:Op) (d:Option Tmp) (want:Bool) (i:Nat) (ws:List Nat) (r:List (Nat×List Nat)) (rd:RD) (env:Env) (H:Heap) (n:Nat):Prop:=
  match t with
  | none=>False
  | some t=>drawG2 (env.get t) P all k op d want t i ws r rd env H n
def drawB (o:Option Oper) (P:Program) (all:List Oper) (k:Env→Heap→Nat→Prop) (i:Nat) (ws:List Nat) (r:List (Nat×List Nat)) (rd:RD) (env:Env) (H:Heap) (n:Nat):Prop:=
  match o with
  | none=>False
  | some o=>match o.guard with
    | none=>drawO P o.op o.dst i ws (drawK P all k r) rd env H n
    | some (j,want)=>drawG1 ((all[j]?).bind (·.dst)) P all k o.op o.dst want i ws r rd env H n
@[congr] theorem drawO_congr {P:Program} {op:Op} {d:Option Tmp} {i:Nat} {ws:List Nat} {k:RD→Env→Heap→Nat→Prop} {rd rd':RD} {env env':Env} {H H':Heap} {n n':Nat} (h_rd:rd=rd') (h_env:env=env') (h_H:H=H') (h_n:n=n'):drawO P op d i ws k rd env H n=drawO P op d i ws k rd' env' H' n':=by subst h_rd h_env h_H h_n; rfl
@[congr] theorem drawG2_congr {P:Program} {all:List Oper} {k:Env→Heap→Nat→Prop} {op:Op} {d:Option Tmp} {want:Bool} {t:Tmp} {i:Nat} {ws:List Nat} {r:List (Nat×List Nat)} {c c':AV} {rd rd':RD} {env env':Env} {H H':Heap} {n n':Nat} (h_c:c=c') (h_rd:rd=rd') (h_env:env=env') (h_H:H=H') (h_n:n=n'):drawG2 c P all k op d want t i ws r rd env H n=drawG2 c' P all k op d want t i ws r rd' env' H' n':=by subst h_c h_rd h_env h_H h_n; rfl
@[congr] theorem drawG1_congr {P:Program} {all:List Oper} {k:Env→Heap→Nat→Prop} {op:Op} {d:Option Tmp} {want:Bool} {i:Nat} {ws:List Nat} {r:List (Nat×List Nat)} {t t':Option Tmp} {rd rd':RD} {env env':Env} {H H':Heap} {n n':Nat} (h_t:t=t') (h_rd:rd=rd') (h_env:env=env') (h_H:H=H') (h_n:n=n'):drawG1 t P all k op d want i ws r rd env H n=drawG1 t' P all k op d want i ws r rd' env' H' n':=by subst h_t h_rd h_env h_H h_n; rfl
@[congr] theorem drawB_congr {P:Program} {all:List Oper} {k:Env→Heap→Nat→Prop} {i:Nat} {ws:List Nat} {r:List (Nat×List Nat)} {o o':Option Oper} {rd rd':RD} {env env':Env} {H H':Heap} {n n':Nat} (h_o:o=o') (h_rd:rd=rd') (h_env:env=env') (h_H:H=H') (h_n:n=n'):drawB o P all k i ws r rd env H n=drawB o' P all k i ws r rd' env' H' n':=by subst h_o h_rd h_env h_H h_n; rfl
@[go_sem] theorem drawK_nil {P:Program} {all:List Oper} {k:Env→Heap→Nat→Prop} {rd:RD} {env:Env} {H:Heap} {n:Nat}:(drawK P all k [] rd env H n)=(k env H n):=Eq.trans rfl rfl
@[go_sem] theorem drawK_cons {P:Program} {all:List Oper} {k:Env→Heap→Nat→Prop} {rd:RD} {env:Env} {H:Heap} {n:Nat} {i:Nat} {ws:List Nat} {r:List (Nat×List Nat)}:(drawK P all k ((i,ws) :: r) rd env H n)=(drawB (all[i]?) P all k i ws r rd env H n):=Eq.trans rfl rfl
@[go_sem] theorem drawB_none {P:Program} {all:List Oper} {k:Env→Heap→Nat→Prop} {rd:RD} {env:Env} {H:Heap} {n:Nat} {i:Nat} {ws:List Nat} {r:List (Nat×List Nat)} {d:Option Tmp} {op:Op} {t:TypeId} {p:String} {af:Array Edge}:(drawB (some ⟨d,op,t,p,af,none⟩) P all k i ws r rd env H n)=(drawO P op d i ws (drawK P all k r) rd env H n):=Eq.trans rfl rfl
@[go_sem] theorem drawO_move {P:Program} {k:RD→Env→Heap→Nat→Prop} {rd:RD} {env:Env} {H:Heap} {n:Nat} {i:Nat} {ws:List Nat} {d:Option Tmp} {x:Operand}:(drawO P (.move x) d i ws k rd env H n)=(evOp P env nilH n (.move x) (litK (k rd) d env H n)):=Eq.trans rfl rfl
@[go_sem] theorem drawO_assign {P:Program} {k:RD→Env→Heap→Nat→Prop} {rd:RD} {env:Env} {H:Heap} {n:Nat} {i:Nat} {ws:List Nat} {d:Option Tmp} {x:Operand}:(drawO P (.assign x) d i ws k rd env H n)=(evOp P env nilH n (.assign x) (litK (k rd) d env H n)):=Eq.trans rfl rfl
@[go_sem] theorem drawO_nilCheck {P:Program} {k:RD→Env→Heap→Nat→Prop} {rd:RD} {env:Env} {H:Heap} {n:Nat} {i:Nat} {ws:List Nat} {d:Option Tmp} {x:Operand}:(drawO P (.nilCheck x) d i ws k rd env H n)=(evOp P env nilH n (.nilCheck x) (litK (k rd) d env H n)):=Eq.trans rfl rfl
@[go_sem] theorem drawO_binOp {P:Program} {k:RD→Env→Heap→Nat→Prop} {rd:RD} {env:Env} {H:Heap} {n:Nat} {i:Nat} {ws:List Nat} {d:Option Tmp} {o:BinOp} {t t':TypeId} {x y:Operand}:(drawO P (.binOp o t x y t') d i ws k rd env H n)=(evOp P env nilH n (.binOp o t x y t') (litK (k rd) d env H n)):=Eq.trans rfl rfl
@[go_sem] theorem drawO_convert {P:Program} {k:RD→Env→Heap→Nat→Prop} {rd:RD} {env:Env} {H:Heap} {n:Nat} {i:Nat} {ws:List Nat} {d:Option Tmp} {s t:TypeId} {x:Operand}:(drawO P (.convert s t x) d i ws k rd env H n)=(evOp P env nilH n (.convert s t x) (litK (k rd) d env H n)):=Eq.trans rfl rfl
@[go_sem] theorem drawO_slice {P:Program} {k:RD→Env→Heap→Nat→Prop} {rd:RD} {env:Env} {H:Heap} {n:Nat} {i:Nat} {ws:List Nat} {d:Option Tmp} {t:TypeId} {x:Operand} {a b c:Option Operand}:(drawO P (.slice t x a b c) d i ws k rd env H n)=(evOp P env nilH n (.slice t x a b c) (litK (k rd) d env H n)):=Eq.trans rfl rfl
@[go_sem] theorem drawO_fieldAddr {P:Program} {k:RD→Env→Heap→Nat→Prop} {rd:RD} {env:Env} {H:Heap} {n:Nat} {i:Nat} {ws:List Nat} {d:Option Tmp} {t:TypeId} {x:Operand} {f:Nat}:(drawO P (.fieldAddr t x f) d i ws k rd env H n)=(evOp P env nilH n (.fieldAddr t x f) (litK (k rd) d env H n)):=Eq.trans rfl rfl
@[go_sem] theorem drawO_indexAddr {P:Program} {k:RD→Env→Heap→Nat→Prop} {rd:RD} {env:Env} {H:Heap} {n:Nat} {i:Nat} {ws:List Nat} {d:Option Tmp} {t:TypeId} {x y:Operand}:(drawO P (.indexAddr t x y) d i ws k rd env H n)=(evOp P env nilH n (.indexAddr t x y) (litK (k rd) d env H n)):=Eq.trans rfl rfl
@[go_sem] theorem drawO_extract {P:Program} {k:RD→Env→Heap→Nat→Prop} {rd:RD} {env:Env} {H:Heap} {n:Nat} {i:Nat} {ws:List Nat} {d:Option Tmp} {x:Operand} {j:Nat}:(drawO P (.extract x j) d i ws k rd env H n)=(evOp P env nilH n (.extract x j) (litK (k rd) d env H n)):=Eq.trans rfl rfl
@[go_sem] theorem drawO_load {P:Program} {k:RD→Env→Heap→Nat→Prop} {rd:RD} {env:Env} {H:Heap} {n:Nat} {i:Nat} {ws:List Nat} {d:Option Tmp} {t:TypeId} {a:Operand}:(drawO P (.load t a) d i ws k rd env H n)=(loadK P H t (opv env a) (ldK k i t (opv env a) rd d env H n)):=Eq.trans rfl rfl
@[go_sem] theorem drawO_store {P:Program} {k:RD→Env→Heap→Nat→Prop} {rd:RD} {env:Env} {H:Heap} {n:Nat} {i:Nat} {ws:List Nat} {d:Option Tmp} {t:TypeId} {a x:Operand}:(drawO P (.store t a x) d i ws k rd env H n)=(evOp P env H n (.store t a x) (stopK P ws rd k d env)):=Eq.trans rfl rfl
@[go_sem] theorem drawO_callv {P:Program} {k:RD→Env→Heap→Nat→Prop} {rd:RD} {env:Env} {H:Heap} {n:Nat} {i:Nat} {ws:List Nat} {d:Option Tmp} {f:Operand} {a:Array Operand} {b:Array TypeId}:(drawO P (.call ⟨.value f,a,b⟩) d i ws k rd env H n)=(evOp P env H n (.call ⟨.value f,a,b⟩) (stopK P ws rd k d env)):=Eq.trans rfl rfl
@[go_sem] theorem drawO_calli {P:Program} {k:RD→Env→Heap→Nat→Prop} {rd:RD} {env:Env} {H:Heap} {n:Nat} {i:Nat} {ws:List Nat} {d:Option Tmp} {f:Operand} {nm:String} {a:Array Operand} {b:Array TypeId}:(drawO P (.call ⟨.invoke f nm,a,b⟩) d i ws k rd env H n)=(evOp P env H n (.call ⟨.invoke f nm,a,b⟩) (stopK P ws rd k d env)):=Eq.trans rfl rfl
@[go_sem] theorem litK_eq {k:Env→Heap→Nat→Prop} {d:Option Tmp} {env:Env} {H H2:Heap} {n n2:Nat} {v:AV}:(litK k d env H n v H2 n2)=(k (putE d v env) H n):=Eq.trans rfl rfl
@[go_sem] theorem ldK_eq {k:RD→Env→Heap→Nat→Prop} {i:Nat} {t:TypeId} {a:AV} {rd:RD} {d:Option Tmp} {env:Env} {H:Heap} {n:Nat} {v:AV}:(ldK k i t a rd d env H n v)=(k ((i,t,a,v) :: rd) (putE d v env) H n):=Eq.trans rfl rfl
@[go_sem] theorem stopK_eq {P:Program} {ws:List Nat} {rd:RD} {k:RD→Env→Heap→Nat→Prop} {d:Option Tmp} {env:Env} {H:Heap} {n:Nat} {v:AV}:(stopK P ws rd k d env v H n)=(chk P H ws rd∧k rd (putE d v env) H n):=Eq.trans rfl rfl
@[go_sem] theorem chk_nil {P:Program} {H:Heap} {ws:List Nat}:(chk P H ws [])=(True):=Eq.trans rfl rfl
@[go_sem] theorem chk_none {P:Program} {H:Heap} {rd:RD}:(chk P H [] rd)=(True):=by
  induction rd with
  | nil=>rfl
  | cons c r ih=>obtain⟨i,t,a,v⟩:=c; simp[chk,ih]
@[go_sem] theorem chk_cons {P:Program} {H:Heap} {w:Nat} {ws:List Nat} {i:Nat} {t:TypeId} {a v:AV} {r:RD}:(chk P H (w :: ws) ((i,t,a,v) :: r))=(((w :: ws).contains i=true→loadK P H t a (· =v))∧chk P H (w :: ws) r):=Eq.trans rfl rfl
@[go_sem] theorem maskE_nil {env:Env}:(maskE [] env)=(env):=Eq.trans rfl rfl
@[go_sem] theorem ev_skip {P:Program} {N:Nat} {T:Nat→Draw} {K:Exit→Env→Heap→Nat→Prop} {env:Env} {H:Heap} {n:Nat}:(ev P N T .skip K env H n)=(K .normal env H n):=Eq.trans rfl rfl
@[go_sem] theorem ev_ret {P:Program} {N:Nat} {T:Nat→Draw} {K:Exit→Env→Heap→Nat→Prop} {env:Env} {H:Heap} {n:Nat}:(ev P N T .ret K env H n)=(K .ret env H n):=Eq.trans rfl rfl
@[go_sem] theorem ev_exit {P:Program} {N:Nat} {T:Nat→Draw} {K:Exit→Env→Heap→Nat→Prop} {env:Env} {H:Heap} {n:Nat} {id:Nat}:(ev P N T (.exit id) K env H n)=(K (.exit id) env H n):=Eq.trans rfl rfl
@[go_sem] theorem ev_seq {P:Program} {N:Nat} {T:Nat→Draw} {K:Exit→Env→Heap→Nat→Prop} {env:Env} {H:Heap} {n:Nat} {a b:Code}:(ev P N T (.seq a b) K env H n)=(ev P N T a (seqK (ev P N T b K) K) env H n):=Eq.trans rfl rfl
@[go_sem] theorem ev_block {P:Program} {N:Nat} {T:Nat→Draw} {K:Exit→Env→Heap→Nat→Prop} {env:Env} {H:Heap} {n:Nat} {id:Nat} {b:Code}:(ev P N T (.block id b) K env H n)=(ev P N T b (blkK id K) env H n):=Eq.trans rfl rfl
@[go_sem] theorem ev_region {P:Program} {N:Nat} {T:Nat→Draw} {K:Exit→Env→Heap→Nat→Prop} {env:Env} {H:Heap} {n:Nat} {id:Nat} {l:List Oper}:(ev P N T (.region id l.toArray false) K env H n)=(evOps P l l (K .normal) env H n):=Eq.trans rfl rfl
@[go_sem] theorem ev_draw {P:Program} {N:Nat} {T:Nat→Draw} {K:Exit→Env→Heap→Nat→Prop} {env:Env} {H:Heap} {n:Nat} {id:Nat} {l:List Oper}:(ev P N T (.region id l.toArray true) K env H n)=(drawK P l (K .normal) (T id).ord [] (maskE (T id).es env) H n):=Eq.trans rfl rfl
@[go_sem] theorem ev_loop {P:Program} {N:Nat} {T:Nat→Draw} {K:Exit→Env→Heap→Nat→Prop} {env:Env} {H:Heap} {n:Nat} {b:Code}:(ev P N T (.loop b) K env H n)=(awp P N (.loop b) K env H n):=Eq.trans rfl rfl
def condB (c:AV) (P:Program) (N:Nat) (T:Nat→Draw) (x y:Code) (K:Exit→Env→Heap→Nat→Prop) (env:Env) (H:Heap) (n:Nat):Prop:=match c with
  | .bo t=>(t=true→ev P N T x K env H n)∧(t=false→ev P N T y K env H n)
  | _=>False
@[congr] theorem condB_congr {P:Program} {N:Nat} {T:Nat→Draw} {x:Code} {y:Code} {K:Exit→Env→Heap→Nat→Prop} {env:Env} {H:Heap} {n:Nat} {c c':AV} (h_c:c=c'):condB c P N T x y K env H n=condB c' P N T x y K env H n:=by subst h_c; rfl
@[go_sem] theorem ev_cond {P:Program} {N:Nat} {T:Nat→Draw} {K:Exit→Env→Heap→Nat→Prop} {env:Env} {H:Heap} {n:Nat} {c:Operand} {x y:Code}:(ev P N T (.cond c x y) K env H n)=(condB (opv env c) P N T x y K env H n):=Eq.trans rfl rfl
@[go_sem] theorem condB_bo {P:Program} {N:Nat} {T:Nat→Draw} {K:Exit→Env→Heap→Nat→Prop} {env:Env} {H:Heap} {n:Nat} {t:Bool} {x y:Code}:(condB (.bo t) P N T x y K env H n)=((t=true→ev P N T x K env H n)∧(t=false→ev P N T y K env H n)):=Eq.trans rfl rfl
@[go_sem high] theorem condB_true {P:Program} {N:Nat} {T:Nat→Draw} {K:Exit→Env→Heap→Nat→Prop} {env:Env} {H:Heap} {n:Nat} {x y:Code}:condB (.bo true) P N T x y K env H n=ev P N T x K env H n:=by simp[condB]
@[go_sem high] theorem condB_false {P:Program} {N:Nat} {T:Nat→Draw} {K:Exit→Env→Heap→Nat→Prop} {env:Env} {H:Heap} {n:Nat} {x y:Code}:condB (.bo false) P N T x y K env H n=ev P N T y K env H n:=by simp[condB]
@[go_sem] theorem seqK_normal {k:Env→Heap→Nat→Prop} {K:Exit→Env→Heap→Nat→Prop} {env:Env} {H:Heap} {n:Nat}:(seqK k K .normal env H n)=(k env H n):=Eq.trans rfl rfl
@[go_sem] theorem seqK_ret {k:Env→Heap→Nat→Prop} {K:Exit→Env→Heap→Nat→Prop} {env:Env} {H:Heap} {n:Nat}:(seqK k K .ret env H n)=(K .ret env H n):=Eq.trans rfl rfl
@[go_sem] theorem seqK_exit {k:Env→Heap→Nat→Prop} {K:Exit→Env→Heap→Nat→Prop} {env:Env} {H:Heap} {n:Nat} {i:Nat}:(seqK k K (.exit i) env H n)=(K (.exit i) env H n):=Eq.trans rfl rfl
@[go_sem] theorem blkK_normal {id:Nat} {K:Exit→Env→Heap→Nat→Prop} {env:Env} {H:Heap} {n:Nat}:(blkK id K .normal env H n)=(K .normal env H n):=Eq.trans rfl rfl
@[go_sem] theorem blkK_ret {id:Nat} {K:Exit→Env→Heap→Nat→Prop} {env:Env} {H:Heap} {n:Nat}:(blkK id K .ret env H n)=(K .ret env H n):=Eq.trans rfl rfl
@[go_sem] theorem blkK_same {id:Nat} {K:Exit→Env→Heap→Nat→Prop} {env:Env} {H:Heap} {n:Nat}:(blkK id K (.exit id) env H n)=(K .normal env H n):=by simp[blkK]
def packK (n0:Nat) (H:Heap) (n:Nat) (K:AV→Heap→Nat→Prop) (vs:List AV):Prop:=Fin n0 (pack vs) H n K
def consK (k:List AV→Prop) (v:AV) (l:List AV):Prop:=k (v :: l)
def res1K (P:Program) (H:Heap) (env:Env) (rs:List ResultVar) (k:List AV→Prop) (v:AV):Prop:=resK P H env rs (consK k v)
@[congr] theorem packK_congr {n0:Nat} {H:Heap} {n:Nat} {K:AV→Heap→Nat→Prop} {vs vs':List AV} (h_vs:vs=vs'):packK n0 H n K vs=packK n0 H n K vs':=by subst h_vs; rfl
@[congr] theorem consK_congr {k:List AV→Prop} {v v':AV} {l l':List AV} (h_v:v=v') (h_l:l=l'):consK k v l=consK k v' l':=by subst h_v h_l; rfl
@[congr] theorem res1K_congr {P:Program} {H:Heap} {env:Env} {rs:List ResultVar} {k:List AV→Prop} {v v':AV} (h_v:v=v'):res1K P H env rs k v=res1K P H env rs k v':=by subst h_v; rfl
@[go_sem] theorem finK_normal {P:Program} {rs:List ResultVar} {n0:Nat} {K:AV→Heap→Nat→Prop} {env:Env} {H:Heap} {n:Nat}:(finK P rs n0 K .normal env H n)=(resK P H env rs (packK n0 H n K)):=Eq.trans rfl rfl
@[go_sem] theorem finK_ret {P:Program} {rs:List ResultVar} {n0:Nat} {K:AV→Heap→Nat→Prop} {env:Env} {H:Heap} {n:Nat}:(finK P rs n0 K .ret env H n)=(resK P H env rs (packK n0 H n K)):=Eq.trans rfl rfl
@[go_sem] theorem resK_nil {P:Program} {H:Heap} {env:Env} {k:List AV→Prop}:(resK P H env [] k)=(k []):=Eq.trans rfl rfl
def resT (v:AV) (P:Program) (H:Heap) (env:Env) (rs:List ResultVar) (k:List AV→Prop):Prop:=v≠ .junk∧resK P H env rs (consK k v)
@[congr] theorem resT_congr {P:Program} {H:Heap} {env:Env} {rs:List ResultVar} {k:List AV→Prop} {v v':AV} (h_v:v=v'):resT v P H env rs k=resT v' P H env rs k:=by subst h_v; rfl
@[go_sem] theorem resK_tmp {P:Program} {H:Heap} {env:Env} {r:List ResultVar} {k:List AV→Prop} {t:Tmp}:(resK P H env (.tmp t :: r) k)=(resT (env.get t) P H env r k):=Eq.trans rfl rfl
@[go_sem] theorem resT_eq {P:Program} {H:Heap} {env:Env} {r:List ResultVar} {k:List AV→Prop} {v:AV}:(resT v P H env r k)=(v≠ .junk∧resK P H env r (consK k v)):=Eq.trans rfl rfl
@[go_sem] theorem resK_cell {P:Program} {H:Heap} {env:Env} {r:List ResultVar} {k:List AV→Prop} {a:Tmp} {t:TypeId}:(resK P H env (.cell a t :: r) k)=(loadK P H t (env.get a) (res1K P H env r k)):=Eq.trans rfl rfl
@[go_sem] theorem res1K_eq {P:Program} {H:Heap} {env:Env} {r:List ResultVar} {k:List AV→Prop} {v:AV}:(res1K P H env r k v)=(resK P H env r (consK k v)):=Eq.trans rfl rfl
@[go_sem] theorem consK_eq {k:List AV→Prop} {v:AV} {l:List AV}:(consK k v l)=(k (v :: l)):=Eq.trans rfl rfl
@[go_sem] theorem packK_nil {n0:Nat} {H:Heap} {n:Nat} {K:AV→Heap→Nat→Prop}:(packK n0 H n K [])=(Fin n0 (.tu []) H n K):=Eq.trans rfl rfl
@[go_sem] theorem packK_one {n0:Nat} {H:Heap} {n:Nat} {v:AV} {K:AV→Heap→Nat→Prop}:(packK n0 H n K [v])=(Fin n0 v H n K):=Eq.trans rfl rfl
@[go_sem] theorem packK_two {n0:Nat} {H:Heap} {n:Nat} {v v':AV} {r:List AV} {K:AV→Heap→Nat→Prop}:(packK n0 H n K (v :: v' :: r))=(Fin n0 (.tu (v :: v' :: r)) H n K):=Eq.trans rfl rfl
attribute [go_sem] List.contains_cons List.contains_nil Bool.or_false Bool.false_or Bool.true_or Bool.or_true Bool.false_eq_true false_implies true_implies Bool.not_true Bool.not_false decide_eq_true_eq decide_eq_false_iff_not Bool.or_self Bool.and_self Bool.and_true Bool.true_and Bool.and_false Bool.false_and
attribute [go_sem] envFrom List.getElem?_cons_zero List.getElem?_cons_succ Option.bind_some Option.bind_none List.length_cons List.length_nil List.getD_cons_zero List.getD_cons_succ List.set_cons_zero List.set_cons_succ if_true if_false beq_self_eq_true true_and and_true List.map_cons List.map_nil List.append_nil List.cons_append List.nil_append forall_const Nat.reduceAdd Nat.min_eq_left Nat.min_eq_right Nat.reduceBEq Nat.reduceLT Nat.reduceSub Nat.reduceMul Nat.add_assoc Nat.reduceLeDiff Int.reduceToNat Int.toNat_natCast List.drop_zero List.take_succ_cons List.take_zero List.drop_succ_cons Nat.le_refl Int.reduceLE Int.reduceLT and_self BitVec.reduceOfInt ne_eq reduceCtorEq not_false_eq_true not_true_eq_false List.take_nil List.drop_nil Int.reduceAdd Int.reduceSub Int.reduceMul Int.reduceNeg Int.reduceEq Int.reduceNe Int.reduceBEq Int.reduceBNe Int.reduceTDiv Int.reduceTMod BitVec.reduceEq BitVec.reduceNe BitVec.reduceBEq BitVec.reduceBNe BitVec.reduceAdd BitVec.reduceSub BitVec.reduceAnd BitVec.reduceOr BitVec.ofNat_eq_ofNat Nat.reduceEqDiff
@[go_sem] theorem splice_zero_nil (l:List AV):splice l 0 []=l:=by simp[splice]
@[go_sem] theorem splice_zero_cons (b:AV) (l:List AV) (a:AV) (r:List AV):splice (b :: l) 0 (a :: r)=a :: splice l 0 r:=by simp[splice]
theorem Blk.le.refl (b:Blk):b.le b:=⟨rfl,rfl,List.prefix_refl _⟩
theorem Fin.back {n0:Nat} {v:AV} {H H0:Heap} {n:Nat} {K:AV→Heap→Nat→Prop} (wf:H0.wf n0) (h:K v H0 n0) (hd:∀i,i<n0→H i=H0 i) (hv:v.ok n0=true):Fin n0 v H n K:=
  Fin.drop h (fun i b hb=>⟨b,by rw[hd i (wf i b hb).1]; exact hb,Blk.le.refl b⟩) wf hv
end Go.Ab
namespace Go.Ab
attribute [go_sem] Option.isSome_none Option.isSome_some Option.isNone_none Option.isNone_some BitVec.reduceToNat Int.cast_ofNat_Int Nat.zero_add Nat.mul_one Nat.one_mul beq_self_eq_true bne_self_eq_false
@[go_sem] theorem nat_nonneg (i:Nat):(0≤(i:Int))=True:=eq_true (Int.natCast_nonneg i)
@[go_sem] theorem binB_shl_u8_u64 {P:Program} {t:TypeId} {x:BitVec 8} {y:BitVec 64} {K:AV→Prop}:(binB .shl P t (.u8 x) (.u64 y) K)=(K (.u8 (x<<<y.toNat))):=by simp[binB,isShift,binShift,idx,shU]
@[go_sem] theorem binB_shr_u8_u64 {P:Program} {t:TypeId} {x:BitVec 8} {y:BitVec 64} {K:AV→Prop}:(binB .shr P t (.u8 x) (.u64 y) K)=(K (.u8 (x>>>y.toNat))):=by simp[binB,isShift,binShift,idx,shU]
@[go_sem] theorem binB_shl_u16_u64 {P:Program} {t:TypeId} {x:BitVec 16} {y:BitVec 64} {K:AV→Prop}:(binB .shl P t (.u16 x) (.u64 y) K)=(K (.u16 (x<<<y.toNat))):=by simp[binB,isShift,binShift,idx,shU]
@[go_sem] theorem binB_shr_u16_u64 {P:Program} {t:TypeId} {x:BitVec 16} {y:BitVec 64} {K:AV→Prop}:(binB .shr P t (.u16 x) (.u64 y) K)=(K (.u16 (x>>>y.toNat))):=by simp[binB,isShift,binShift,idx,shU]
@[go_sem] theorem binB_shr_u32_u64 {P:Program} {t:TypeId} {x:BitVec 32} {y:BitVec 64} {K:AV→Prop}:(binB .shr P t (.u32 x) (.u64 y) K)=(K (.u32 (x>>>y.toNat))):=by simp[binB,isShift,binShift,idx,shU]
theorem wrap_id (x:Int) (h0: -9223372036854775808≤x) (h1:x≤9223372036854775807):wrap64 x=x:=wrap64_small x h0 h1
theorem wrap_zero:wrap64 0=0:=rfl
attribute [go_sem] wrap_zero
def Ends {S:Type} (E:S→Env) (G:S→Heap) (nn:S→Nat) (I:S→Prop) (n:Nat) (env':Env) (H':Heap) (n':Nat):Prop:=
  ∃s,I s∧n≤nn s∧(((E s).le env'∧(∀i,i<nn s→H' i=G s i)∧nn s≤n')∨∃σ,(E s).renLe σ env'∧Ren σ n (nn s) H' (G s))
theorem Ends.mk {S:Type} {E:S→Env} {G:S→Heap} {nn:S→Nat} {I:S→Prop} {n:Nat} {env':Env} {H':Heap} {n':Nat} (s:S) (hI:I s) (he:(E s).le env') (hh:∀i,i<nn s→H' i=G s i) (hn:n≤nn s) (hn':nn s≤n'):
    Ends E G nn I n env' H' n':=⟨s,hI,hn,.inl ⟨he,hh,hn'⟩⟩
theorem Ends.ren {S:Type} {E:S→Env} {G:S→Heap} {nn:S→Nat} {I:S→Prop} {n:Nat} {env':Env} {H':Heap} {n':Nat} (s:S) (σ:Nat→Nat) (hI:I s) (he:(E s).renLe σ env') (hr:Ren σ n (nn s) H' (G s)):
    Ends E G nn I n env' H' n':=⟨s,hI,hr.le,.inr ⟨σ,he,hr⟩⟩
theorem Ends.use {S:Type} {E:S→Env} {G:S→Heap} {nn:S→Nat} {I:S→Prop} {n:Nat} {env':Env} {H':Heap} {n':Nat} (hwf:∀s,I s→(G s).wf (nn s)∧(E s).okAt (nn s)) (h:Ends E G nn I n env' H' n')
    {m0:NM} {H0:Heap} {n0:Nat} {w0:World} {m':NM} {w':World} {N:Nat} {a':Act} (hI':Inv m0 H0 n0 w0 m' H' n' w') (hE':ERel m' N n' env' a') (h0:n0≤n):
    ∃s m'',I s∧n≤nn s∧Inv m0 H0 n0 w0 m'' (G s) (nn s) w'∧ERel m'' N (nn s) (E s) a':=by
  obtain⟨s,hs,hn,⟨he,hh,hn'⟩ | ⟨σ,he,hr⟩⟩:=h
  · have hl:(G s).le H':=Heap.le_on (hwf s hs).1 hh
    have h3:=hE'.weaken he
    exact⟨s,m',hs,hn,⟨(hI'.rel.weaken hl).cut (hwf s hs).1,Nat.le_trans h0 hn,hI'.ag,hI'.fr.weaken hl⟩,⟨h3.size,h3.defers,fun t ht=>⟨(h3.get t ht).1,(hwf s hs).2 t ht⟩⟩⟩
  · exact⟨s,m'.comp σ,hs,hn,⟨hr.rel hI'.rel,Nat.le_trans h0 hn,Ren.ag (fun i hi=>hr.low i (by omega)) hI'.ag,hr.fr hI'.fr⟩,hE'.ren he (hwf s hs).2⟩
theorem awp_loopF {P:Program} {N:Nat} {c:Code} {K:Exit→Env→Heap→Nat→Prop} {S:Type} (E:S→Env) (G:S→Heap) (nn:S→Nat) (I:S→Prop) (μ:S→Nat)
    (hwf:∀s,I s→(G s).wf (nn s)∧(E s).okAt (nn s))
    (round:∀s,I s→awp P N c (seqK (Ends E G nn (fun s'=>μ s'<μ s∧I s') (nn s)) K) (E s) (G s) (nn s))
    {env:Env} {H:Heap} {n:Nat} (s0:S) (h0:I s0) (he:(E s0).le env) (hh:∀i,i<nn s0→H i=G s0 i) (hn:n=nn s0):awp P N (.loop c) K env H n:=by
  have hle:∀s,I s→∀H',(∀i,i<nn s→H' i=G s i)→(G s).le H':=fun s hs H' h=>Heap.le_on (hwf s hs).1 h
  intro m0 H0 n0 w0 m a w hI hE b k cs
  have key:∀(j:Nat) (s:S) (m:NM) (a:Act) (w:World),μ s=j→I s→Inv m0 H0 n0 w0 m (G s) (nn s) w→ERel m N (nn s) (E s) a→
      ∃e a' w',(∃m' env' H' n',Inv m0 H0 n0 w0 m' H' n' w'∧ERel m' N n' env' a'∧K e env' H' n')∧Arrives P (lone (b.at a (.code c :: .inLoop c :: k)) cs w) b k cs e a' w':=by
    intro j
    induction j using Nat.strongRecOn with
    | _ j ih=>
      intro s m a w hj hs hI hE
      obtain⟨e,a₁,w₁,⟨m₁,env₁,H₁,n₁,hI₁,hE₁,hq⟩,harr⟩:=round s hs m0 H0 n0 w0 m a w hI hE b (.inLoop c :: k) cs
      cases e with
      | normal=>
        obtain⟨s',m2,⟨hlt,hs'⟩,hn,hI2,hE2⟩:=hq.use (fun s h=>hwf s h.2) hI₁ hE₁ hI.le
        obtain⟨e₂,a₂,w₂,hq₂,harr₂⟩:=ih (μ s') (hj▸hlt) s' m2 a₁ w₁ rfl hs' hI2 hE2
        exact⟨e₂,a₂,w₂,hq₂,.of_steps (Steps.trans harr (.one step_inLoop)) harr₂⟩
      | exit id=>exact⟨_,a₁,w₁,⟨m₁,env₁,H₁,n₁,hI₁,hE₁,hq⟩,.pass (x:=.inLoop c) rfl (fun _ _=>.inl (by simp)) harr⟩
      | goto l=>exact⟨_,a₁,w₁,⟨m₁,env₁,H₁,n₁,hI₁,hE₁,hq⟩,.pass (x:=.inLoop c) rfl (fun _ _=>.inl (by simp)) harr⟩
      | ret=>exact⟨_,a₁,w₁,⟨m₁,env₁,H₁,n₁,hI₁,hE₁,hq⟩,.pass (x:=.inLoop c) rfl (fun _ _=>.inl (by simp)) harr⟩
      | panic ch=>exact⟨_,a₁,w₁,⟨m₁,env₁,H₁,n₁,hI₁,hE₁,hq⟩,.pass (x:=.inLoop c) rfl (fun _ _=>.inl (by simp)) harr⟩
      | outgrown=>exact⟨_,a₁,w₁,⟨m₁,env₁,H₁,n₁,hI₁,hE₁,hq⟩,.pass (x:=.inLoop c) rfl (fun _ _=>.inl (by simp)) harr⟩
  subst hn
  obtain⟨e,a',w',hq,harr⟩:=key _ s0 m a w rfl h0 ⟨hI.rel.weaken (hle s0 h0 _ hh),hI.le,hI.ag,hI.fr.weaken (hle s0 h0 _ hh)⟩ (hE.weaken he)
  exact⟨e,a',w',hq,.of_steps (.one step_loop) harr⟩
theorem awp_ev {P:Program} {N:Nat} (T:Nat→Draw) {c:Code} {K:Exit→Env→Heap→Nat→Prop} {env:Env} {H:Heap} {n:Nat} (hok:codeOk P N T c=true) (h:ev P N T c K env H n):awp P N c K env H n:=
  ev_sound c K env H n hok h
theorem awp_seqF {P:Program} {N:Nat} {S:Type} (E:S→Env) (G:S→Heap) (nn:S→Nat) (I:S→Prop) (hwf:∀s,I s→(G s).wf (nn s)∧(E s).okAt (nn s)) {a b:Code} {K:Exit→Env→Heap→Nat→Prop} {env:Env} {H:Heap} {n:Nat}
    (h1:awp P N a (seqK (Ends E G nn I n) K) env H n)
    (h2:∀s,I s→awp P N b K (E s) (G s) (nn s)):awp P N (.seq a b) K env H n:=by
  intro m0 H0 n0 w0 m ac w hI hE
  refine wp_seq (wp_mono (h1 m0 H0 n0 w0 m ac w hI hE) ?_)
  rintro e a' w' ⟨m',env',H',n',hI',hE',hq⟩
  cases e with
  | normal=>
    obtain⟨s,m2,hs,hn,hI2,hE2⟩:=hq.use hwf hI' hE' hI.le
    exact h2 s hs m0 H0 n0 w0 m2 a' w' hI2 hE2
  | exit id=>exact⟨m',env',H',n',hI',hE',hq⟩
  | goto l=>exact⟨m',env',H',n',hI',hE',hq⟩
  | ret=>exact⟨m',env',H',n',hI',hE',hq⟩
  | panic ch=>exact⟨m',env',H',n',hI',hE',hq⟩
  | outgrown=>exact⟨m',env',H',n',hI',hE',hq⟩
theorem Env.okAt_of {e:Env} {n:Nat} (h:e.all (fun p=>p.2.ok n)=true):e.okAt n:=by
  induction e with
  | nil=>exact Env.okAt_nil n
  | cons p e ih=>
    simp only[List.all_cons,Bool.and_eq_true] at h
    obtain⟨t,v⟩:=p
    exact Env.okAt_cons h.1 (ih h.2)
end Go.Ab
namespace Go.Ab
theorem Fin.one {n0:Nat} {v:AV} {H H0:Heap} {n:Nat} {K:AV→Heap→Nat→Prop} (k:Nat) {blk:Blk} {v':AV} (wf:H0.wf n0) (h:K v' (H0.upd n0 (some blk)) (n0+1)) (hn:n0≤k) (hk:H k=some blk) (hd:∀i,i<n0→H i=H0 i)
    (hblk:∀x∈blk.cells,x.ok n0=true) (hv:v=AV.ren (fun i=>if i=n0 then k else i) v') (hvok:v'.ok (n0+1)=true):Fin n0 v H n K:=by
  have low:∀i,i<n0→(fun i=>if i=n0 then k else i) i=i:=fun i hi=>by simp only[if_neg (Nat.ne_of_lt hi)]
  refine Fin.ren (fun i=>if i=n0 then k else i) h (Ren.of low (Nat.le_succ _) (Heap.wf_upd wf fun x hx=>AV.ok_mono (Nat.le_succ _) x (hblk x hx)) (fun i hi=>?_) (fun i j hi hj hne=>?_)) hvok hv
  · rcases Nat.lt_succ_iff_lt_or_eq.1 hi with hi | rfl
    · simp only[if_neg (Nat.ne_of_lt hi)]
      rw[Heap.upd_ne _ _ (Nat.ne_of_lt hi),Heap.ren_low wf low,hd i hi]
    · simp only[if_true,Heap.upd_same,Option.map_some,hk,Blk.ren_low low hblk]
  · show(if i=n0 then k else i)≠(if j=n0 then k else j)
    split <;> split <;> omega
end Go.Ab
namespace Go.Ab
inductive DT where
  | done
  | op (i:Nat) (next:DT)
  | fork (i:Nat) (ws:List Nat) (next other:DT)
  | stop
def treeG (all:List Oper) (g:Option (Nat×Bool)) (env:Env) (run skip:Env→Prop):Prop:=match g with
  | none=>run env
  | some (j,want)=>match (all[j]?).bind (·.dst) with
    | none=>False
    | some t=>match env.get t with
      | .bo c=>(c=want→run ((t,.bo want) :: env))∧(c=(!want)→skip ((t,.bo (!want)) :: env))
      | .tu []=>skip env
      | _=>False
def treeK (P:Program) (all:List Oper) (k:Env→Heap→Nat→Prop):DT→RD→Env→Heap→Nat→Prop
  | .done,_,env,H,n=>k env H n
  | .stop,_,_,_,_=>True
  | .op i t,rd,env,H,n=>match all[i]? with
    | none=>False
    | some o=>treeG all o.guard env (fun env=>drawOp P o i [] (treeK P all k t) rd env H n) (fun env=>treeK P all k t rd (putE o.dst (.tu []) env) H n)
  | .fork i ws t u,rd,env,H,n=>(match all[i]? with
    | none=>False
    | some o=>treeG all o.guard env (fun env=>evOp P env H n o.op (stopK P ws rd (treeK P all k t) o.dst env)) (fun env=>treeK P all k t rd (putE o.dst (.tu []) env) H n))∧treeK P all k u rd env H n
def DT.chain:DT→List Nat
  | .fork i _ _ u=>i :: u.chain
  | _=>[]
mutual
def treeOk (l:List Oper) (D:Draw) (done:List Nat):DT→Bool
  | .done=>(List.range l.length).all fun j=>done.contains j
  | .stop=>false
  | .op i t=>(match l[i]? with
    | none=>false
    | some o=>!done.contains i&&(edgesOf o).all (fun e=>done.contains e)&&(lightOp o.op||isLoad o.op)&&
      (List.range l.length).all fun j=>j==i||done.contains j||D.before i j||match l[j]? with | some oj=>o.apart l.toArray oj | none=>true)&&treeOk l D (i :: done) t
  | .fork i ws t u=>((List.range l.length).all fun j=>done.contains j||j==i||u.chain.contains j||match l[j]? with | some o=>!(edgesOf o).all (fun e=>done.contains e) | none=>true)&&
      ((match l[i]? with
        | none=>false
        | some o=>!done.contains i&&(edgesOf o).all (fun e=>done.contains e)&&done.all fun x=>D.before x i||ws.contains x||match l[x]? with | some ox=>!isLoad ox.op | none=>true)&&treeOk l D (i :: done) t&&forkOk l D done u)
def forkOk (l:List Oper) (D:Draw) (done:List Nat):DT→Bool
  | .stop=>true
  | .fork i ws t u=>(match l[i]? with
    | none=>false
    | some o=>!done.contains i&&(edgesOf o).all (fun e=>done.contains e)&&done.all fun x=>D.before x i||ws.contains x||match l[x]? with | some ox=>!isLoad ox.op | none=>true)&&treeOk l D (i :: done) t&&forkOk l D done u
  | _=>false
end
structure TSt (P:Program) (N:Nat) (l:List Oper) (D:Draw) (m0:NM) (H0:Heap) (n0:Nat) (w0:World)
    (done:List Nat) (rd:RD) (fuel:Nat) (listed:Array Bool) (cs:List (Nat×(World→Prop))) (env:Env) (H:Heap) (n:Nat) (m:NM) (a:Act) (w:World):Prop where
  inv:Inv m0 H0 n0 w0 m H n w
  erel:ERel m N n env a
  lst:∀x,listed.getD x false=true↔x∈done
  siz:listed.size=l.length
  closed:Closed D.before listed
  cnt:l.length≤fuel+done.length
  nodup:done.Nodup
  lt:∀x∈done,x<l.length
  conds:∀c∈cs,(∀w,c.2 w)∨((∃o,l[c.1]?=some o∧isLoad o.op=true)∧c.1∈done∧∃t adr v mc nc,(c.1,t,adr,v)∈rd∧c.2=LC P mc nc t adr v∧nc≤n∧NM.agree nc mc m∧loadK P H t adr (· =v))
section
variable {P:Program} {N:Nat} {l:List Oper} {D:Draw} {k:Env→Heap→Nat→Prop} {m0:NM} {H0:Heap} {n0:Nat} {w0:World}
variable {done:List Nat} {rd:RD} {fuel:Nat} {listed:Array Bool} {cs:List (Nat×(World→Prop))} {env:Env} {H:Heap} {n:Nat} {m:NM} {a:Act} {w:World}
theorem edges_mem {o:Oper} {e:Edge} (he:e∈o.after) (hb:Region.binds .any e=true):e.on∈edgesOf o:=
  List.mem_map.2 ⟨e,List.mem_filter.2 ⟨by simpa using he,hb⟩,rfl⟩
theorem TSt.ready (h:TSt P N l D m0 H0 n0 w0 done rd fuel listed cs env H n m a w) {i:Nat} {o:Oper} (ho:l[i]?=some o) (hn:i∉done) (he:∀e∈edgesOf o,e∈done):i∈Region.ready .any l.toArray listed:=by
  have hi:=(List.getElem?_eq_some_iff.1 ho).1
  rw[mem_ready]
  refine⟨?_,o,by simpa using ho,fun e hm hb=>(h.lst _).2 (he _ (edges_mem hm hb))⟩
  rw[getD_listed h.siz hi]
  cases hx:listed.getD i false
  · rfl
  · exact absurd ((h.lst i).1 hx) hn
theorem TSt.set (h:TSt P N l D m0 H0 n0 w0 done rd fuel listed cs env H n m a w) {i:Nat} (hi:i<l.length) (x:Nat):(listed.setIfInBounds i true).getD x false=true↔x∈i :: done:=by
  rw[List.mem_cons,← h.lst x]
  by_cases e:i=x
  · subst e; simp[h.siz,hi]
  · rw[getD_set_ne false e]; simp[Ne.symm e]
theorem TSt.reenv (h:TSt P N l D m0 H0 n0 w0 done rd fuel listed cs env H n m a w) {env':Env} (he:∀t,env'.get t=env.get t):TSt P N l D m0 H0 n0 w0 done rd fuel listed cs env' H n m a w:=
  { h with erel:=h.erel.congr he}
end
end Go.Ab
namespace Go.Ab
def topG2 (c:AV) (P:Program) (all:List Oper) (k:Env→Heap→Nat→Prop) (op:Op) (d:Option Tmp) (want:Bool) (g:Tmp) (i:Nat) (t:DT) (rd:RD) (env:Env) (H:Heap) (n:Nat):Prop:=match c with
  | .bo c=>(c=want→drawO P op d i [] (treeK P all k t) rd ((g,.bo want) :: env) H n)∧(c=(!want)→treeK P all k t rd (putE d (.tu []) ((g,.bo (!want)) :: env)) H n)
  | .tu []=>treeK P all k t rd (putE d (.tu []) env) H n
  | _=>False
def tfkG2 (c:AV) (P:Program) (all:List Oper) (k:Env→Heap→Nat→Prop) (op:Op) (d:Option Tmp) (want:Bool) (g:Tmp) (ws:List Nat) (t:DT) (rd:RD) (env:Env) (H:Heap) (n:Nat):Prop:=match c with
  | .bo c=>(c=want→evOp P ((g,.bo want) :: env) H n op (stopK P ws rd (treeK P all k t) d ((g,.bo want) :: env)))∧(c=(!want)→treeK P all k t rd (putE d (.tu []) ((g,.bo (!want)) :: env)) H n)
  | .tu []=>treeK P all k t rd (putE d (.tu []) env) H n
  | _=>False
def topG1 (g:Option Tmp) (P:Program) (all:List Oper) (k:Env→Heap→Nat→Prop) (op:Op) (d:Option Tmp) (want:Bool) (i:Nat) (t:DT) (rd:RD) (env:Env) (H:Heap) (n:Nat):Prop:=match g with
  | none=>False
  | some g=>topG2 (env.get g) P all k op d want g i t rd env H n
def tfkG1 (g:Option Tmp) (P:Program) (all:List Oper) (k:Env→Heap→Nat→Prop) (op:Op) (d:Option Tmp) (want:Bool) (ws:List Nat) (t:DT) (rd:RD) (env:Env) (H:Heap) (n:Nat):Prop:=match g with
  | none=>False
  | some g=>tfkG2 (env.get g) P all k op d want g ws t rd env H n
def topB (o:Option Oper) (P:Program) (all:List Oper) (k:Env→Heap→Nat→Prop) (i:Nat) (t:DT) (rd:RD) (env:Env) (H:Heap) (n:Nat):Prop:=match o with
  | none=>False
  | some o=>treeG all o.guard env (fun env=>drawO P o.op o.dst i [] (treeK P all k t) rd env H n) (fun env=>treeK P all k t rd (putE o.dst (.tu []) env) H n)
def tfkB (o:Option Oper) (P:Program) (all:List Oper) (k:Env→Heap→Nat→Prop) (ws:List Nat) (t:DT) (rd:RD) (env:Env) (H:Heap) (n:Nat):Prop:=match o with
  | none=>False
  | some o=>treeG all o.guard env (fun env=>evOp P env H n o.op (stopK P ws rd (treeK P all k t) o.dst env)) (fun env=>treeK P all k t rd (putE o.dst (.tu []) env) H n)
@[congr] theorem treeK_congr {P:Program} {all:List Oper} {k:Env→Heap→Nat→Prop} {T:DT} {rd rd':RD} {env env':Env} {H H':Heap} {n n':Nat} (h_rd:rd=rd') (h_env:env=env') (h_H:H=H') (h_n:n=n'):
    treeK P all k T rd env H n=treeK P all k T rd' env' H' n':=by subst h_rd h_env h_H h_n; rfl
@[congr] theorem topB_congr {P:Program} {all:List Oper} {k:Env→Heap→Nat→Prop} {i:Nat} {T:DT} {o o':Option Oper} {rd rd':RD} {env env':Env} {H H':Heap} {n n':Nat} (h_o:o=o') (h_rd:rd=rd') (h_env:env=env') (h_H:H=H') (h_n:n=n'):
    topB o P all k i T rd env H n=topB o' P all k i T rd' env' H' n':=by subst h_o h_rd h_env h_H h_n; rfl
@[congr] theorem tfkB_congr {P:Program} {all:List Oper} {k:Env→Heap→Nat→Prop} {ws:List Nat} {T:DT} {o o':Option Oper} {rd rd':RD} {env env':Env} {H H':Heap} {n n':Nat} (h_o:o=o') (h_rd:rd=rd') (h_env:env=env') (h_H:H=H') (h_n:n=n'):
    tfkB o P all k ws T rd env H n=tfkB o' P all k ws T rd' env' H' n':=by subst h_o h_rd h_env h_H h_n; rfl
@[congr] theorem topG1_congr {P:Program} {all:List Oper} {k:Env→Heap→Nat→Prop} {op:Op} {d:Option Tmp} {want:Bool} {i:Nat} {T:DT} {o o':Option Tmp} {rd rd':RD} {env env':Env} {H H':Heap} {n n':Nat} (h_o:o=o') (h_rd:rd=rd') (h_env:env=env') (h_H:H=H') (h_n:n=n'):
    topG1 o P all k op d want i T rd env H n=topG1 o' P all k op d want i T rd' env' H' n':=by subst h_o h_rd h_env h_H h_n; rfl
@[congr] theorem tfkG1_congr {P:Program} {all:List Oper} {k:Env→Heap→Nat→Prop} {op:Op} {d:Option Tmp} {want:Bool} {ws:List Nat} {T:DT} {o o':Option Tmp} {rd rd':RD} {env env':Env} {H H':Heap} {n n':Nat} (h_o:o=o') (h_rd:rd=rd') (h_env:env=env') (h_H:H=H') (h_n:n=n'):
    tfkG1 o P all k op d want ws T rd env H n=tfkG1 o' P all k op d want ws T rd' env' H' n':=by subst h_o h_rd h_env h_H h_n; rfl
@[congr] theorem topG2_congr {P:Program} {all:List Oper} {k:Env→Heap→Nat→Prop} {op:Op} {d:Option Tmp} {want:Bool} {g:Tmp} {i:Nat} {T:DT} {o o':AV} {rd rd':RD} {env env':Env} {H H':Heap} {n n':Nat} (h_o:o=o') (h_rd:rd=rd') (h_env:env=env') (h_H:H=H') (h_n:n=n'):
    topG2 o P all k op d want g i T rd env H n=topG2 o' P all k op d want g i T rd' env' H' n':=by subst h_o h_rd h_env h_H h_n; rfl
@[congr] theorem tfkG2_congr {P:Program} {all:List Oper} {k:Env→Heap→Nat→Prop} {op:Op} {d:Option Tmp} {want:Bool} {g:Tmp} {ws:List Nat} {T:DT} {o o':AV} {rd rd':RD} {env env':Env} {H H':Heap} {n n':Nat} (h_o:o=o') (h_rd:rd=rd') (h_env:env=env') (h_H:H=H') (h_n:n=n'):
    tfkG2 o P all k op d want g ws T rd env H n=tfkG2 o' P all k op d want g ws T rd' env' H' n':=by subst h_o h_rd h_env h_H h_n; rfl
section
variable {P:Program} {all:List Oper} {k:Env→Heap→Nat→Prop} {i j:Nat} {ws:List Nat} {t u:DT} {rd:RD} {env:Env} {H:Heap} {n:Nat} {d:Option Tmp} {op:Op} {ty:TypeId} {p:String} {af:Array Edge} {want:Bool} {g:Tmp} {c:Bool}
end
end Go.Ab
namespace Go.Ab
def EK.known:EK→Bool
  | .int .u8 | .int .u16 | .int .u32 | .int .u64 | .int .i8 | .int .i64 | .bool | .str=>true
  | _=>false
theorem cells_of_tyA {P:Program} {t:TypeId} {ag:Bool} {sz:Nat} (h:tyA P t=some (ag,sz)):P.cellsOf t=sz:=by
  unfold tyA at h
  cases hu:P.underlying t with
  | none=>rw[hu] at h; simp at h
  | some d=>
    rw[hu] at h
    cases hi:P.info? t with
    | none=>rw[hi] at h; cases d <;> simp at h
    | some i=>rw[hi] at h; rw[cellsOf_eq hi]; cases d <;> simp at h <;> first | exact h.2 | exact h
def AV.inr:AV→Prop
  | .i64 n=> -9223372036854775808≤n∧n≤9223372036854775807
  | _=>True
theorem av_of_int {k:IntKind} (hk:(EK.int k).known=true) {n:Int} (hw:(Lit.int k n).wf=true):∃v:AV,(v.fits (.int k)=true∧v.inr)∧∀m,AV.toV m v=.int k n:=by
  cases k <;> simp only[EK.known,Bool.false_eq_true] at hk <;> simp[Lit.wf,IntKind.min,IntKind.max,IntKind.signed,IntKind.bits] at hw
  case u8=>exact⟨.u8 (BitVec.ofInt 8 n),⟨rfl,trivial⟩,fun m=>by simp only[AV.toV,BitVec.toNat_ofInt]; congr 1; omega⟩
  case u16=>exact⟨.u16 (BitVec.ofInt 16 n),⟨rfl,trivial⟩,fun m=>by simp only[AV.toV,BitVec.toNat_ofInt]; congr 1; omega⟩
  case u32=>exact⟨.u32 (BitVec.ofInt 32 n),⟨rfl,trivial⟩,fun m=>by simp only[AV.toV,BitVec.toNat_ofInt]; congr 1; omega⟩
  case u64=>exact⟨.u64 (BitVec.ofInt 64 n),⟨rfl,trivial⟩,fun m=>by simp only[AV.toV,BitVec.toNat_ofInt]; congr 1; omega⟩
  case i8=>exact⟨.i8 (BitVec.ofInt 8 n),⟨rfl,trivial⟩,fun m=>by simp only[AV.toV,BitVec.toInt_ofInt]; congr 1; rw[Int.bmod_def]; omega⟩
  case i64=>exact⟨.i64 n,⟨rfl,by simp only[AV.inr]; omega⟩,fun m=>rfl⟩
theorem fits_append {a b:List EK}:∀ {l l':List AV},fits a l=true→fits b l'=true→fits (a++b) (l++l')=true:=by
  induction a with
  | nil=>intro l l' h h'; cases l <;> simp_all [fits]
  | cons k ks ih=>intro l l' h h'; cases l with
    | nil=>simp[fits] at h
    | cons v r=>
      simp only[fits,Bool.and_eq_true] at h
      simp only[List.cons_append,fits,Bool.and_eq_true]
      exact⟨h.1,ih h.2 h'⟩
def FitsR (ks:List EK) (l:List AV):Prop:=fits ks l=true∧∀x∈l,x.inr
theorem FitsR.nil:FitsR [] []:=⟨rfl,by simp⟩
theorem FitsR.one {k:EK} {v:AV} (h:v.fits k=true) (hr:v.inr):FitsR [k] [v]:=⟨by simp[fits,h],fun x hx=>by rw[List.mem_singleton] at hx; subst hx; exact hr⟩
theorem FitsR.append {a b:List EK} {l l':List AV} (h:FitsR a l) (h':FitsR b l'):FitsR (a++b) (l++l'):=
  ⟨fits_append h.1 h'.1,fun x hx=>by exact(List.mem_append.1 hx).elim (h.2 x) (h'.2 x)⟩
section
variable {Hh:Type} {enc:TypeId×Value→Hh} {P:Program} {w:World} {base:Nat} {sp:Nat→Bool} {held:Bool}
theorem mapM_cons_some {α β:Type} {f:α→Option β} {a:α} {r:List α} {ys:List β} (h:(a :: r).mapM f=some ys):∃y ys',f a=some y∧r.mapM f=some ys':=by
  rw[List.mapM_cons] at h
  cases ha:f a with
  | none=>rw[ha] at h; simp at h
  | some y=>
    cases hr:r.mapM f with
    | none=>rw[ha,hr] at h; simp at h
    | some ys'=>exact⟨y,ys',rfl,rfl⟩
theorem fields_open {d fuel:Nat} (ih:∀t ks,leaves P d t=some ks→P.cellsOf t=ks.length→ks.all EK.known=true→∀cs x,DataW.trod enc P w base sp held fuel t cs=some x→∃l,FitsR ks l∧∀m,cs=AV.toVs m l) (cs:List Value):
    ∀ (fs:List Field) (off:Nat) (ks:List EK) (xs:List (DataW Hh×List MemPlace)),leavesF P (leaves P d) fs off=some ks→ks.all EK.known=true→off+ks.length≤cs.length→
      (fs.mapM fun f=>DataW.trod enc P w base sp held fuel f.type ((cs.drop f.offset).take (P.cellsOf f.type)))=some xs→∃l,FitsR ks l∧∀m,(cs.drop off).take ks.length=AV.toVs m l
  | [],off,ks,xs,h,_,_,_=>by
    simp only[leavesF,Option.some.injEq] at h
    subst h
    exact⟨[],FitsR.nil,fun m=>by simp[AV.toVs]⟩
  | f :: fs,off,ks,xs,h,hk,hl,hm=>by
    unfold leavesF at h
    cases hg:leaves P d f.type with
    | none=>rw[hg] at h; simp at h
    | some l0=>
      cases ht:tyA P f.type with
      | none=>rw[hg,ht] at h; simp at h
      | some q=>
        obtain⟨ag,sz⟩:=q
        rw[hg,ht] at h
        simp only at h
        split at h
        · rename_i hc
          obtain⟨c1,c2,c3⟩:=hc
          subst c2 c3
          simp only[Option.map_eq_some_iff] at h
          obtain⟨ks',h3,rfl⟩:=h
          obtain⟨y,ys',hy,hys⟩:=mapM_cons_some hm
          simp only[List.all_append,Bool.and_eq_true] at hk
          simp only[List.length_append] at hl
          have hcs:=cells_of_tyA ht
          rw[hcs] at hy
          obtain⟨l1,f1,e1⟩:=ih f.type l0 hg hcs hk.1 _ y hy
          obtain⟨l2,f2,e2⟩:=fields_open ih cs fs (f.offset+l0.length) ks' ys' h3 hk.2 (by omega) hys
          refine⟨l1++l2,FitsR.append f1 f2,fun m=>?_⟩
          rw[AV.toVs_eq,List.map_append,← AV.toVs_eq,← AV.toVs_eq,← e1 m,← e2 m,List.length_append,← List.drop_drop,← List.take_add]
        · simp at h
theorem items_open {d fuel:Nat} {e:TypeId} {ks:List EK} (hk:ks.all EK.known=true) (ih:∀cs x,DataW.trod enc P w base sp held fuel e cs=some x→∃l,FitsR ks l∧∀m,cs=AV.toVs m l) (cs:List Value):
    ∀ (len i:Nat) (xs:List (DataW Hh×List MemPlace)),i*ks.length+len*ks.length≤cs.length→
      ((List.range' i len).mapM fun i=>DataW.trod enc P w base sp held fuel e ((cs.drop (i*ks.length)).take ks.length))=some xs→∃l,FitsR (List.replicate len ks).flatten l∧∀m,(cs.drop (i*ks.length)).take (len*ks.length)=AV.toVs m l
  | 0,i,xs,_,_=>⟨[],FitsR.nil,fun m=>by simp[AV.toVs]⟩
  | len+1,i,xs,hl,hm=>by
    rw[List.range'_succ] at hm
    obtain⟨y,ys',hy,hys⟩:=mapM_cons_some hm
    have e3:i*ks.length+ks.length=(i+1)*ks.length:=by rw[Nat.add_mul,Nat.one_mul]
    have e4:(len+1)*ks.length=ks.length+len*ks.length:=by rw[Nat.add_mul,Nat.one_mul,Nat.add_comm]
    obtain⟨l1,f1,e1⟩:=ih _ y hy
    obtain⟨l2,f2,e2⟩:=items_open (d:=d) hk ih cs len (i+1) ys' (by omega) hys
    refine⟨l1++l2,?_,fun m=>?_⟩
    · simp only[List.replicate_succ,List.flatten_cons]; exact FitsR.append f1 f2
    · rw[AV.toVs_eq,List.map_append,← AV.toVs_eq,← AV.toVs_eq,← e1 m,← e2 m,e4,← e3,← List.drop_drop,← List.take_add]
theorem trod_struct_eq {t:TypeId} {fs:Array Field} (hu:P.underlying t=some (.struct fs)) (n:Nat) (cs:List Value):DataW.trod enc P w base sp held (n+1) t cs=
    if cs.length=P.cellsOf t then(fs.toList.mapM fun f=>DataW.trod enc P w base sp held n f.type ((cs.drop f.offset).take (P.cellsOf f.type))).map fun xs=>(.agg (xs.map (·.1)),xs.flatMap (·.2)) else none:=by
  simp only[DataW.trod,hu]
theorem trod_array_eq {t e:TypeId} {k:Nat} (hu:P.underlying t=some (.array k e)) (n:Nat) (cs:List Value):DataW.trod enc P w base sp held (n+1) t cs=
    if cs.length=P.cellsOf t then((List.range k).mapM fun i=>DataW.trod enc P w base sp held n e ((cs.drop (i*P.cellsOf e)).take (P.cellsOf e))).map fun xs=>(.agg (xs.map (·.1)),xs.flatMap (·.2)) else none:=by
  simp only[DataW.trod,hu]
theorem flat_open:∀(d:Nat) (t:TypeId) (ks:List EK),leaves P d t=some ks→P.cellsOf t=ks.length→ks.all EK.known=true→∀(fuel:Nat) (cs:List Value) (x:DataW Hh×List MemPlace),
    DataW.trod enc P w base sp held fuel t cs=some x→∃l,FitsR ks l∧∀m,cs=AV.toVs m l
  | 0,t,ks,h=>by simp[leaves] at h
  | d+1,t,ks,h=>by
    intro hcell hk fuel cs x hx
    cases fuel with
    | zero=>simp[DataW.trod] at hx
    | succ fuel=>
      have hx0:=hx
      unfold leaves at h
      unfold DataW.trod at hx
      cases hu:P.underlying t with
      | none=>rw[hu] at h; simp at h
      | some dd=>
        rw[hu] at h hx
        cases dd <;> simp only[Option.some.injEq,reduceCtorEq] at h
        case bool=>
          subst h
          split at hx <;> simp_all
          rename_i b
          exact⟨[.bo b],FitsR.one rfl trivial,fun m=>by simp[AV.toVs,AV.toV]⟩
        case int k=>
          subst h
          split at hx <;> simp_all
          rename_i k' n
          obtain⟨⟨rfl,hw⟩,_⟩:=hx
          obtain⟨v,hv,hm⟩:=av_of_int hk hw
          exact⟨[v],FitsR.one hv.1 hv.2,fun m=>by simp[AV.toVs,hm]⟩
        case string=>
          subst h
          split at hx <;> simp_all
          rename_i s
          refine⟨[.st (s.data.toList.map UInt8.toBitVec)],FitsR.one rfl trivial,fun m=>?_⟩
          obtain⟨⟨s⟩⟩:=s
          simp[AV.toVs,AV.toV,Function.comp_def]
        case struct fs=>
          split at h
          · simp at h
          · rw[trod_struct_eq hu] at hx0
            split at hx0
            · rename_i hl
              simp only[Option.map_eq_some_iff] at hx0
              obtain⟨xs,hm,_⟩:=hx0
              obtain⟨l,hf,he⟩:=fields_open (fun t ks h1 h2 h3 cs x h4=>flat_open d t ks h1 h2 h3 fuel cs x h4) cs fs.toList 0 ks xs h hk (by omega) hm
              exact⟨l,hf,fun m=>by rw[← he m,← hcell,← hl]; simp⟩
            · simp at hx0
        case array len e=>
          cases hke:leaves P d e with
          | none=>rw[hke] at h; simp at h
          | some kl=>
            cases hi:P.info? e with
            | none=>rw[hke,hi] at h; simp at h
            | some i=>
              rw[hke,hi] at h
              simp only at h
              split at h
              · rename_i hs
                simp only[Option.some.injEq] at h
                subst h
                rw[trod_array_eq hu] at hx0
                split at hx0
                · rename_i hl
                  simp only[Option.map_eq_some_iff] at hx0
                  obtain⟨xs,hm,_⟩:=hx0
                  have hce:P.cellsOf e=kl.length:=by rw[cellsOf_eq hi,hs]
                  rw[hce,List.range_eq_range'] at hm
                  have hlen:(List.replicate len kl).flatten.length=len*kl.length:=by simp
                  cases hlz:len with
                  | zero=>
                    subst hlz
                    refine⟨[],FitsR.nil,fun m=>?_⟩
                    rw[hcell] at hl
                    simp at hl
                    simp[hl,AV.toVs]
                  | succ len'=>
                    have hkl:kl.all EK.known=true:=by
                      rw[hlz,List.replicate_succ,List.flatten_cons,List.all_append,Bool.and_eq_true] at hk
                      exact hk.1
                    obtain⟨l,hf,he⟩:=items_open (d:=d) hkl (fun cs x h4=>flat_open d e kl hke hce hkl fuel cs x h4) cs len 0 xs (by rw[hl,hcell,hlen]; omega) hm
                    rw[← hlz]
                    refine⟨l,hf,fun m=>?_⟩
                    rw[← he m,← hlen,← hcell,← hl]; simp
                · simp at hx0
              · simp at h
end
end Go.Ab
namespace Go.Ab
inductive SK where
  | k (e:EK)
  | s (el:TypeId) (ks:List EK)
def leavesSF (P:Program) (g:TypeId→Option (List SK)):List Field→Nat→Option (List SK)
  | [],_=>some []
  | f :: fs,off=>match g f.type,tyA P f.type with
    | some l,some (_,sz)=>if f.offset=off∧sz=l.length then(leavesSF P g fs (off+sz)).map (l++·) else none
    | _,_=>none
def leavesS (P:Program):Nat→TypeId→Option (List SK)
  | 0,_=>none
  | d+1,t=>match P.underlying t with
    | some (.slice e)=>match leaves P d e with
      | some ks=>if P.cellsOf e=ks.length∧ks.all EK.known=true then some [.s e ks] else none
      | none=>none
    | some (.struct fs)=>leavesSF P (leavesS P d) fs.toList 0
    | _=>match leaves P (d+1) t with
      | some ks=>if ks.all EK.known=true then some (ks.map .k) else none
      | none=>none
def fitV (w:World):SK→Value→Prop
  | .k e,v=>∃a:AV,(a.fits e=true∧a.inr)∧∀m,v=AV.toV m a
  | .s _ ks,v=>v=.slice none 0 0∨∃(a:Addr) (len cap:Nat) (es:List AV),v=.slice (some a) len cap∧len≤cap∧cap≤maxLen∧FitsR (List.replicate len ks).flatten es∧
      ∀(q:Nat) (x:AV),es[q]?=some x→∀m,w.cell? (a.add q)=some (AV.toV m x)
def fitsV (w:World):List SK→List Value→Prop
  | [],[]=>True
  | k :: ks,v :: vs=>fitV w k v∧fitsV w ks vs
  | _,_=>False
theorem fitsV_append {w:World} {a b:List SK}:∀ {l l':List Value},fitsV w a l→fitsV w b l'→fitsV w (a++b) (l++l'):=by
  induction a with
  | nil=>intro l l' h h'; cases l <;> simp_all [fitsV]
  | cons k a ih=>intro l l' h h'; cases l with
    | nil=>exact h.elim
    | cons v l=>exact⟨h.1,ih h.2 h'⟩
theorem fitsV_flat {w:World}:∀ {ks:List EK} {l:List AV},FitsR ks l→∀ {cs:List Value},(∀m,cs=AV.toVs m l)→fitsV w (ks.map .k) cs
  | [],[],_,cs,h=>by have:=h ⟨fun _=>0,fun _=>0,fun _=>0⟩; simp only[AV.toVs] at this; subst this; trivial
  | k :: ks,v :: l,hf,cs,h=>by
    obtain⟨hf,hr⟩:=hf
    simp only[fits,Bool.and_eq_true] at hf
    cases cs with
    | nil=>have:=h ⟨fun _=>0,fun _=>0,fun _=>0⟩; simp[AV.toVs] at this
    | cons c cs=>
      refine⟨⟨v,⟨hf.1,hr v List.mem_cons_self⟩,fun m=>?_⟩,fitsV_flat ⟨hf.2,fun x hx=>hr x (List.mem_cons_of_mem _ hx)⟩ fun m=>?_⟩
      · have:=h m; simp only[AV.toVs,List.cons.injEq] at this; exact this.1
      · have:=h m; simp only[AV.toVs,List.cons.injEq] at this; exact this.2
  | [],_ :: _,h,_,_=>by simp[FitsR,fits] at h
  | _ :: _,[],h,_,_=>by simp[FitsR,fits] at h
section
variable {Hh:Type} {enc:TypeId×Value→Hh} {P:Program} {w:World} {base:Nat} {sp:Nat→Bool} {held:Bool}
theorem cells_get {a:Addr} {n:Nat} {cs:List Value} (h:w.cells? base a n=some cs):cs.length=n∧∀j,j<n→w.cell? (a.add j)=cs[j]?:=by
  unfold World.cells? at h
  split at h
  · rw[List.range_eq_range'] at h
    have key:∀(n s:Nat) (cs:List Value),(List.range' s n).mapM (fun i=>w.cell? (a.add i))=some cs→cs.length=n∧∀j,j<n→w.cell? (a.add (s+j))=cs[j]?:=by
      intro n
      induction n with
      | zero=>intro s cs h; simp at h; subst h; exact⟨rfl,fun j hj=>absurd hj (Nat.not_lt_zero _)⟩
      | succ n ih=>
        intro s cs h
        rw[List.range'_succ] at h
        obtain⟨y,ys,hy,hys⟩:∃y ys,w.cell? (a.add s)=some y∧(List.range' (s+1) n).mapM (fun i=>w.cell? (a.add i))=some ys∧cs=y :: ys:=by
          rw[List.mapM_cons] at h
          cases hy:w.cell? (a.add s) with
          | none=>rw[hy] at h; simp at h
          | some y=>
            cases hr:(List.range' (s+1) n).mapM (fun i=>w.cell? (a.add i)) with
            | none=>rw[hy,hr] at h; simp at h
            | some ys=>rw[hy,hr] at h; simp at h; exact⟨y,ys,rfl,rfl,h.symm⟩
        obtain⟨h2,rfl⟩:=hys
        obtain⟨hl,hj⟩:=ih (s+1) ys h2
        refine⟨by simp[hl],fun j hjn=>?_⟩
        cases j with
        | zero=>simpa using hy
        | succ j=>have:=hj j (by omega); rw[show s+(j+1)=s+1+j by omega]; simpa using this
    obtain⟨h1,h2⟩:=key n 0 cs h
    exact⟨h1,fun j hj=>by simpa using h2 j hj⟩
  · simp at h
theorem add_add (a:Addr) (i j:Nat) (h:a.spot=none):(a.add i).add j=a.add (i+j):=by
  obtain⟨b,o,s⟩:=a
  subst h
  rw[add_addr,add_addr,add_addr,Nat.add_assoc]
theorem elems_open {e:TypeId} {ks:List EK} {fuel:Nat} {a:Addr} (hs:a.spot=none) (hce:P.cellsOf e=ks.length)
    (ih:∀cs x,DataW.trod enc P w base sp held fuel e cs=some x→∃l,FitsR ks l∧∀m,cs=AV.toVs m l):∀(len i:Nat) (xs:List (DataW Hh×List MemPlace)),
      ((List.range' i len).mapM fun i=>(w.cells? base (a.add (i*P.cellsOf e)) (P.cellsOf e)).bind (DataW.trod enc P w base sp held fuel e))=some xs→
      ∃es:List AV,FitsR (List.replicate len ks).flatten es∧∀(q:Nat) (x:AV),es[q]?=some x→∀m,w.cell? (a.add (i*ks.length+q))=some (AV.toV m x)
  | 0,i,xs,_=>⟨[],FitsR.nil,fun q x h=>by simp at h⟩
  | len+1,i,xs,hm=>by
    rw[List.range'_succ] at hm
    obtain⟨y,ys',hy,hys⟩:=mapM_cons_some hm
    cases hc:w.cells? base (a.add (i*P.cellsOf e)) (P.cellsOf e) with
    | none=>rw[hc] at hy; simp at hy
    | some cs=>
      rw[hc] at hy
      simp only[Option.bind_some] at hy
      obtain⟨l1,f1,e1⟩:=ih cs y hy
      obtain⟨l2,f2,e2⟩:=elems_open hs hce ih len (i+1) ys' hys
      obtain⟨hlen,hget⟩:=cells_get hc
      refine⟨l1++l2,?_,fun q x hq m=>?_⟩
      · simp only[List.replicate_succ,List.flatten_cons]; exact FitsR.append f1 f2
      · have hl1:=fits_length f1.1
        by_cases hlt:q<l1.length
        · rw[List.getElem?_append_left hlt] at hq
          have:=hget q (by omega)
          rw[add_add _ _ _ hs,hce] at this
          rw[this,e1 m,AV.toVs_eq,List.getElem?_map,hq]; rfl
        · rw[List.getElem?_append_right (by omega)] at hq
          have:=e2 (q-l1.length) x hq m
          rw[← this]
          congr 2
          rw[Nat.add_mul,Nat.one_mul]; omega
theorem fieldsS_open {d fuel:Nat} (ih:∀t ks,leavesS P d t=some ks→P.cellsOf t=ks.length→∀cs x,DataW.trod enc P w base sp held fuel t cs=some x→(∀a len cap,Value.slice (some a) len cap∈cs→a.spot=none)→fitsV w ks cs) (cs:List Value)
    (hsp:∀a len cap,Value.slice (some a) len cap∈cs→a.spot=none):
    ∀ (fs:List Field) (off:Nat) (ks:List SK) (xs:List (DataW Hh×List MemPlace)),leavesSF P (leavesS P d) fs off=some ks→off+ks.length≤cs.length→
      (fs.mapM fun f=>DataW.trod enc P w base sp held fuel f.type ((cs.drop f.offset).take (P.cellsOf f.type)))=some xs→fitsV w ks ((cs.drop off).take ks.length)
  | [],off,ks,xs,h,_,_=>by
    simp only[leavesSF,Option.some.injEq] at h
    subst h
    simp[fitsV]
  | f :: fs,off,ks,xs,h,hl,hm=>by
    unfold leavesSF at h
    cases hg:leavesS P d f.type with
    | none=>rw[hg] at h; simp at h
    | some l0=>
      cases ht:tyA P f.type with
      | none=>rw[hg,ht] at h; simp at h
      | some q=>
        obtain⟨ag,sz⟩:=q
        rw[hg,ht] at h
        simp only at h
        split at h
        · rename_i hc
          obtain⟨c2,c3⟩:=hc
          subst c2 c3
          simp only[Option.map_eq_some_iff] at h
          obtain⟨ks',h3,rfl⟩:=h
          obtain⟨y,ys',hy,hys⟩:=mapM_cons_some hm
          simp only[List.length_append] at hl
          have hcs:=cells_of_tyA ht
          rw[hcs] at hy
          have f1:=ih f.type l0 hg hcs _ y hy (fun a len cap hmem=>hsp a len cap (List.mem_of_mem_drop (List.mem_of_mem_take hmem)))
          have f2:=fieldsS_open ih cs hsp fs (f.offset+l0.length) ks' ys' h3 (by omega) hys
          have:=fitsV_append f1 f2
          rwa [← List.drop_drop,← List.take_add,← List.length_append] at this
        · simp at h
theorem trod_slice_eq {t e:TypeId} (hu:P.underlying t=some (.slice e)) (n:Nat) (a:Addr) (len cap:Nat):DataW.trod enc P w base sp held (n+1) t [.slice (some a) len cap]=
      (let elemAt (i:Nat):Option (DataW Hh×List MemPlace):=(w.cells? base (a.add (i*P.cellsOf e)) (P.cellsOf e)).bind (DataW.trod enc P w base sp held n e)
      if base≤a.block∧len≤cap∧cap≤maxLen then
        ((List.range len).mapM elemAt).bind fun elems=>
          (if sp a.block then(List.range (cap-len)).mapM fun j=>elemAt (len+j) else some []).map fun rest=>
            (.slice (elems.map (·.1)) (rest.map (·.1)),MemPlace.row a ((elems.length+rest.length)*P.cellsOf e)++(elems++rest).flatMap (·.2))
      else none):=by
  simp only[DataW.trod,hu]
theorem slice_form {t e:TypeId} (hu:P.underlying t=some (.slice e)) {n:Nat} {cs:List Value} {x:DataW Hh×List MemPlace} (hx:DataW.trod enc P w base sp held (n+1) t cs=some x):
    cs=[.slice none 0 0]∨∃a len cap,cs=[.slice (some a) len cap]:=by
  unfold DataW.trod at hx
  rw[hu] at hx
  split at hx <;> simp_all
theorem flat_case {d:Nat} {t:TypeId} {ks:List SK} (h:(match leaves P (d+1) t with | some ks=>if ks.all EK.known=true then some (ks.map SK.k) else none | none=>none)=some ks) (hcell:P.cellsOf t=ks.length) {fuel:Nat} {cs:List Value} {x:DataW Hh×List MemPlace}
    (hx:DataW.trod enc P w base sp held fuel t cs=some x):fitsV w ks cs:=by
  cases hl:leaves P (d+1) t with
  | none=>rw[hl] at h; simp at h
  | some kl=>
    rw[hl] at h
    simp only at h
    split at h
    · rename_i hk
      simp only[Option.some.injEq] at h
      subst h
      obtain⟨l,hf,hm⟩:=flat_open (d+1) t kl hl (by simpa using hcell) hk fuel cs x hx
      exact fitsV_flat hf hm
    · simp at h
theorem args_cells_open:∀(d:Nat) (t:TypeId) (ks:List SK),leavesS P d t=some ks→P.cellsOf t=ks.length→∀(fuel:Nat) (cs:List Value) (x:DataW Hh×List MemPlace),
    DataW.trod enc P w base sp held fuel t cs=some x→(∀a len cap,Value.slice (some a) len cap∈cs→a.spot=none)→fitsV w ks cs
  | 0,t,ks,h=>by simp[leavesS] at h
  | d+1,t,ks,h=>by
    intro hcell fuel cs x hx hsp
    cases fuel with
    | zero=>simp[DataW.trod] at hx
    | succ fuel=>
      unfold leavesS at h
      cases hu:P.underlying t with
      | none=>rw[hu] at h; exact flat_case h hcell hx
      | some dd=>
        rw[hu] at h
        cases dd
        case slice e=>
          simp only at h
          cases hl:leaves P d e with
          | none=>rw[hl] at h; simp at h
          | some kl=>
            rw[hl] at h
            simp only at h
            split at h
            · rename_i hk
              simp only[Option.some.injEq] at h
              subst h
              rcases slice_form hu hx with rfl | ⟨ad,ln,cp,rfl⟩
              · exact⟨.inl rfl,trivial⟩
              · rw[trod_slice_eq hu] at hx
                dsimp only at hx
                split at hx
                · rename_i hc
                  obtain⟨hb,hlc,hcm⟩:=hc
                  simp only[Option.bind_eq_some_iff] at hx
                  obtain⟨elems,hel,_⟩:=hx
                  rw[List.range_eq_range'] at hel
                  obtain⟨es,hf,hq⟩:=elems_open (P:=P) (e:=e) (ks:=kl) (fuel:=fuel) (a:=ad) (enc:=enc) (sp:=sp) (held:=held) (base:=base) (w:=w) (hsp ad ln cp (List.mem_singleton.2 rfl)) hk.1 (fun cs x h4=>flat_open d e kl hl hk.1 hk.2 fuel cs x h4) _ 0 elems hel
                  exact⟨.inr ⟨ad,_,_,es,rfl,hlc,hcm,hf,fun q x hx m=>by simpa using hq q x hx m⟩,trivial⟩
                · simp at hx
            · simp at h
        case struct fs=>
          simp only at h
          rw[trod_struct_eq hu] at hx
          split at hx
          · rename_i hl
            simp only[Option.map_eq_some_iff] at hx
            obtain⟨xs,hm,_⟩:=hx
            have:=fieldsS_open (fun t ks h1 h2 cs x h3 h4=>args_cells_open d t ks h1 h2 fuel cs x h3 h4) cs hsp fs.toList 0 ks xs h (by omega) hm
            rwa [List.drop_zero,List.take_of_length_le (by omega)] at this
          · simp at hx
        all_goals exact flat_case h hcell hx
end
end Go.Ab
namespace Go.Ab
def RO (H:Heap):Prop:=∀i b,H i=some b→b.ro=true
def slOk (w:World) (v:Value):Prop:=∀a len cap,v=.slice (some a) len cap→a.spot=none∧∃(c:Array Value) (el:TypeId) (fz:Nat×Nat),w.heap[a.block]?=some (.cells c el fz)∧a.off≤c.size
theorem rowAt_le {p:Program} {fits:TypeId→Bool}:∀ {d:Nat} {e:TypeId} {count off n:Nat},rowAt p fits d e count off n=true→off≤count*p.cellsOf e
  | 0,_,_,_,_,h=>by simp[rowAt] at h
  | d+1,e,count,off,n,h=>by
    unfold rowAt at h
    simp only at h
    split at h
    · simp at h
    · rename_i hs
      have hdm:=Nat.div_add_mod off (p.cellsOf e)
      have hml:=Nat.mod_lt off (Nat.pos_of_ne_zero hs)
      have key:∀i,i+1≤count→p.cellsOf e*i+p.cellsOf e≤count*p.cellsOf e:=fun i hi=>by
        have:=Nat.mul_le_mul_right (p.cellsOf e) hi
        rw[Nat.add_mul,Nat.one_mul,Nat.mul_comm i] at this; exact this
      simp only[Bool.or_eq_true,Bool.and_eq_true,beq_iff_eq,decide_eq_true_eq] at h
      rcases h with ⟨⟨h1,h2⟩,_⟩ | ⟨h1,_⟩
      · have:=Nat.mul_le_mul_right (p.cellsOf e) (show off / p.cellsOf e≤count by omega)
        rw[Nat.mul_comm (off / p.cellsOf e)] at this
        omega
      · have:=key _ h1
        omega
theorem liesAt_le {p:Program} {e:TypeId} {count off:Nat}:∀ {d:Nat} {u:TypeId} {n:Nat},liesAt p d e count off u n=true→off≤count*p.cellsOf e
  | 0,_,_,h=>by simp[liesAt] at h
  | d+1,u,n,h=>by
    unfold liesAt at h
    simp only[Bool.or_eq_true] at h
    rcases h with h | h
    · exact rowAt_le h
    · split at h
      · exact liesAt_le h
      · simp at h
theorem slOk_of_cell {P:Program} {w:World} {r:Reach} {base:Nat} {u:TypeId} {v:Value} (h:Cell.okWide P w r base u v):slOk w v:=by
  rintro a len cap rfl
  unfold Cell.okWide at h
  split at h <;> try (rename_i h1 h2; simp at h2; done)
  rename_i h1 h2 h3 h4 h5 h6 h7 h8
  unfold Cell.ok at h
  split at h <;> try (rename_i q1 q2; simp at q2; done)
  · rename_i q1 q2
    simp only[Value.slice.injEq,Option.some.injEq] at q2
    obtain⟨rfl,rfl,rfl⟩:=q2
    obtain⟨_,_,_,hsp,row,cells,hsh,hl⟩:=h
    refine⟨hsp,?_⟩
    unfold World.shape? at hsh
    split at hsh
    · rename_i c el fz hc
      simp only[Option.some.injEq,Prod.mk.injEq] at hsh
      obtain⟨rfl,rfl⟩:=hsh
      exact⟨c,el,fz,hc,Nat.le_trans (liesAt_le hl) (Nat.div_mul_le_self _ _)⟩
    · simp at hsh
  · exact h.elim
theorem fits_ok:∀ {ks:List EK} {l:List AV},fits ks l=true→∀v∈l,(∀n,v.ok n=true)∧v.one=true
  | [],[],_,v,hv=>by simp at hv
  | [],_ :: _,h,_,_=>by simp[fits] at h
  | _ :: _,[],h,_,_=>by simp[fits] at h
  | k :: ks,x :: l,h,v,hv=>by
    simp only[fits,Bool.and_eq_true] at h
    rcases List.mem_cons.1 hv with rfl | hv
    · have:=h.1
      unfold AV.fits at this
      split at this <;> first | exact⟨fun _=>rfl,rfl⟩ | simp at this
    · exact fits_ok h.2 v hv
def fitL (H:Heap):SK→AV→Prop
  | .k e,v=>v.fits e=true∧v.inr
  | .s _ ks,v=>v=.sn∨∃(b len cap:Nat) (es:List AV) (el:TypeId),v=.sl b 0 len cap∧len≤cap∧cap≤maxLen∧FitsR (List.replicate len ks).flatten es∧H b=some ⟨es,el,true⟩
def fitsL (H:Heap):List SK→List AV→Prop
  | [],[]=>True
  | k :: ks,v :: vs=>fitL H k v∧fitsL H ks vs
  | _,_=>False
theorem fitL.mono {H H':Heap} {n:Nat} (h:∀i,i<n→H' i=H i) {k:SK} {v:AV} (ho:v.ok n=true) (hf:fitL H k v):fitL H' k v:=by
  cases k with
  | k e=>exact hf
  | s el ks=>
    rcases hf with hf | ⟨b,len,cap,es,el,rfl,h1,h2,h3,h4⟩
    · exact .inl hf
    · simp only[AV.ok,decide_eq_true_eq] at ho
      exact .inr ⟨b,len,cap,es,el,rfl,h1,h2,h3,by rw[h b ho]; exact h4⟩
theorem fitsL.mono {H H':Heap} {n:Nat} (h:∀i,i<n→H' i=H i):∀ {ks:List SK} {l:List AV},(∀v∈l,v.ok n=true)→fitsL H ks l→fitsL H' ks l
  | [],[],_,_=>trivial
  | [],_ :: _,_,hf=>hf.elim
  | _ :: _,[],_,hf=>hf.elim
  | k :: ks,x :: l,ho,hf=>⟨fitL.mono h (ho x List.mem_cons_self) hf.1,fitsL.mono h (fun v hv=>ho v (List.mem_cons_of_mem _ hv)) hf.2⟩
structure More (w:World) (m:NM) (H:Heap) (n:Nat) (m':NM) (H':Heap) (n':Nat):Prop where
  rel:HRel m' H' n' w
  ro:RO H'
  le:n≤n'
  ag:NM.agree n m m'
  old:∀i,i<n→H' i=H i
theorem More.trans {w:World} {m m' m'':NM} {H H' H'':Heap} {n n' n'':Nat} (h:More w m H n m' H' n') (h':More w m' H' n' m'' H'' n''):More w m H n m'' H'' n'':=
  ⟨h'.rel,h'.ro,Nat.le_trans h.le h'.le,h.ag.trans h'.ag h.le,fun i hi=>by rw[h'.old i (by have:=h.le; omega),h.old i hi]⟩
theorem name_cell {w:World} {k:SK} {v:Value} (hf:fitV w k v) (ho:slOk w v) {m:NM} {H:Heap} {n:Nat} (hH:HRel m H n w) (hr:RO H):
    ∃m' H' n' x,More w m H n m' H' n'∧v=AV.toV m' x∧x.ok n'=true∧x.one=true∧fitL H' k x:=by
  cases k with
  | k e=>
    obtain⟨a,ha,hv⟩:=hf
    have:=fits_ok (ks:=[e]) (l:=[a]) (by simp[fits,ha.1]) a List.mem_cons_self
    exact⟨m,H,n,a,⟨hH,hr,Nat.le_refl _,NM.agree.refl _ _,fun _ _=>rfl⟩,hv m,this.1 n,this.2,ha⟩
  | s el ks=>
    rcases hf with rfl | ⟨a,len,cap,es,rfl,h1,h2,h3,h4⟩
    · exact⟨m,H,n,.sn,⟨hH,hr,Nat.le_refl _,NM.agree.refl _ _,fun _ _=>rfl⟩,rfl,rfl,rfl,.inl rfl⟩
    · obtain⟨hsp,c,el',fz,hc,hoff⟩:=ho a len cap rfl
      have hag:NM.agree n m ⟨fun i=>if i=n then a.block else m.ρ i,fun i=>if i=n then c.size-a.off else m.κ i,fun i=>if i=n then a.off else m.β i⟩:=fun i hi=>by
        simp only[if_neg (Nat.ne_of_lt hi)]; exact⟨trivial,trivial,trivial⟩
      have hcell:∀q,w.cell? (a.add q)=c[a.off+q]?:=fun q=>by
        obtain⟨b,o,s⟩:=a
        simp only at hsp; subst hsp
        rw[add_addr]; simp only[World.cell?,hc]; simp
      have hes:=fits_ok h3.1
      refine⟨_,H.upd n (some ⟨es,el',true⟩),n+1,.sl n 0 len cap,⟨⟨?_,?_,?_,?_⟩,?_,Nat.le_succ _,hag,fun i hi=>Heap.upd_ne _ _ (Nat.ne_of_lt hi)⟩,?_,by simp[AV.ok],rfl,.inr ⟨n,len,cap,es,el',rfl,h1,h2,h3,Heap.upd_same _ _ _⟩⟩
      · intro i b hi
        by_cases hn:i=n
        · omega
        · rw[Heap.upd_ne _ _ hn] at hi; have:=hH.dom i b hi; omega
      · intro i b hi
        by_cases hn:i=n
        · subst hn
          rw[Heap.upd_same] at hi
          simp only[Option.some.injEq] at hi; subst hi
          refine⟨c,fz,by simpa using hc,by simp; omega,fun h0=>by simp at h0,fun q x hq=>?_⟩
          simp only[if_true]
          rw[← hcell q]
          exact h4 q x hq _
        · rw[Heap.upd_ne _ _ hn] at hi
          obtain⟨c',fz',hc',hk',hf',hv'⟩:=hH.blk i b hi
          refine⟨c',fz',by simpa [hn] using hc',by simpa [hn] using hk',fun h0=>by simpa [hn] using hf' h0,fun q x hq=>?_⟩
          simp only[if_neg hn]
          rw[hv' q x hq,AV.toV_agree hag x (hH.ok i b hi x (List.mem_of_getElem? hq)).1]
      · intro i j bi bj hi hj hne hro
        by_cases hn:i=n
        · subst hn; rw[Heap.upd_same] at hi; simp only[Option.some.injEq] at hi; subst hi; simp at hro
        · rw[Heap.upd_ne _ _ hn] at hi; rw[hr i bi hi] at hro; simp at hro
      · intro i b hi x hx
        by_cases hn:i=n
        · subst hn
          rw[Heap.upd_same] at hi
          simp only[Option.some.injEq] at hi; subst hi
          exact⟨(hes x hx).1 _,(hes x hx).2⟩
        · rw[Heap.upd_ne _ _ hn] at hi
          have:=hH.ok i b hi x hx
          exact⟨AV.ok_mono (Nat.le_succ _) x this.1,this.2⟩
      · intro i b hi
        by_cases hn:i=n
        · subst hn; rw[Heap.upd_same] at hi; simp only[Option.some.injEq] at hi; subst hi; rfl
        · rw[Heap.upd_ne _ _ hn] at hi; exact hr i b hi
      · obtain⟨b,o,s⟩:=a
        simp only at hsp; subst hsp
        simp[AV.toV]
theorem name_cells {w:World}:∀ {ks:List SK} {cs:List Value},fitsV w ks cs→(∀v∈cs,slOk w v)→∀ {m:NM} {H:Heap} {n:Nat},HRel m H n w→RO H→
    ∃m' H' n' l,More w m H n m' H' n'∧cs=l.map (AV.toV m')∧(∀x∈l,x.ok n'=true∧x.one=true)∧fitsL H' ks l
  | [],[],_,_,m,H,n,hH,hr=>⟨m,H,n,[],⟨hH,hr,Nat.le_refl _,NM.agree.refl _ _,fun _ _=>rfl⟩,rfl,by simp,trivial⟩
  | [],_ :: _,h,_,_,_,_,_,_=>h.elim
  | _ :: _,[],h,_,_,_,_,_,_=>h.elim
  | k :: ks,v :: cs,hf,ho,m,H,n,hH,hr=>by
    obtain⟨m1,H1,n1,x,M1,e1,o1,p1,f1⟩:=name_cell hf.1 (ho v List.mem_cons_self) hH hr
    obtain⟨m2,H2,n2,l,M2,e2,o2,f2⟩:=name_cells hf.2 (fun v hv=>ho v (List.mem_cons_of_mem _ hv)) M1.rel M1.ro
    refine⟨m2,H2,n2,x :: l,M1.trans M2,?_,?_,fitL.mono M2.old o1 f1,f2⟩
    · rw[List.map_cons,e1,e2,AV.toV_agree M2.ag x o1]
    · intro y hy
      rcases List.mem_cons.1 hy with rfl | hy
      · exact⟨AV.ok_mono M2.le _ o1,p1⟩
      · exact o2 y hy
inductive AK where
  | one (k:SK)
  | ag (ks:List SK)
def argT (P:Program) (t:TypeId):Option AK:=
  match leavesS P 20 t,tyA P t with
  | some ks,some (true,sz)=>if sz=ks.length then some (.ag ks) else none
  | some [k],some (false,1)=>some (.one k)
  | _,_=>none
def fitA (H:Heap):AK→AV→Prop
  | .one k,v=>fitL H k v
  | .ag ks,v=>∃l,v=.ag l∧fitsL H ks l
def fitAs (H:Heap):List AK→List AV→Prop
  | [],[]=>True
  | k :: ks,v :: vs=>fitA H k v∧fitAs H ks vs
  | _,_=>False
theorem fitA.mono {H H':Heap} {n:Nat} (h:∀i,i<n→H' i=H i) {k:AK} {v:AV} (ho:v.ok n=true) (hf:fitA H k v):fitA H' k v:=by
  cases k with
  | one k=>exact fitL.mono h ho hf
  | ag ks=>
    obtain⟨l,rfl,hf⟩:=hf
    simp only[AV.ok,Bool.and_eq_true,AV.oks_eq,List.all_eq_true] at ho
    exact⟨l,rfl,fitsL.mono h ho.1 hf⟩
theorem one_cells {v:Value} (h:∀cs,v≠ .agg cs):v.cells.toList=[v]:=by
  unfold Value.cells
  split
  · rename_i cs; exact absurd rfl (h cs)
  · rfl
section
variable {Hh:Type} {enc:TypeId×Value→Hh} {P:Program} {w:World} {base:Nat} {sp:Nat→Bool} {held:Bool}
theorem cell_not_agg {r:Reach} {u:TypeId} {v:Value} (h:Cell.okWide P w r base u v):∀cs,v≠ .agg cs:=by
  rintro cs rfl
  unfold Cell.okWide at h
  split at h <;> try (rename_i h1 h2; simp at h2; done)
  unfold Cell.ok at h
  split at h <;> first | exact h.elim | (rename_i q1 q2; simp at q2)
theorem name_arg {r:Reach} {b0:Nat} {t:TypeId} {v:Value} {d:DataW Hh} {ps:List MemPlace} {k:AK} (ht:argT P t=some k) (hval:Value.okWide P w r b0 t v) (hd:DataW.Trod enc P w base sp held t v d ps)
    {m:NM} {H:Heap} {n:Nat} (hH:HRel m H n w) (hr:RO H):∃m' H' n' x,More w m H n m' H' n'∧v=AV.toV m' x∧x.ok n'=true∧x≠ .junk∧fitA H' k x:=by
  obtain⟨fuel,hd⟩:=hd
  unfold argT at ht
  split at ht
  · rename_i ks sz hl hty
    split at ht
    · rename_i hsz
      simp only[Option.some.injEq] at ht; subst ht
      have hcell:=cells_of_tyA hty
      have hform:∃cs,v=.agg cs∧cs.size=P.cellsOf t∧Row.okWide P w r b0 t cs:=by
        rcases (tyA_ag hty).1 rfl with ⟨fs,hu⟩ | ⟨q,e,hu⟩ <;> simpa [Value.okWide,hu] using hval
      obtain⟨cs,rfl,hcs,ts,_,_,hrow⟩:=hform
      have hok:∀v∈cs.toList,slOk w v:=fun v hv=>by
        obtain⟨i,hi,rfl⟩:=List.getElem_of_mem hv
        obtain⟨u,_,hu⟩:=hrow i cs.toList[i] (by simp at hi; simp[hi])
        exact slOk_of_cell hu
      have hfit:=args_cells_open 20 t ks hl (by rw[hcell,hsz]) fuel cs.toList (d,ps) hd (fun a len cap hm=>(hok _ hm a len cap rfl).1)
      obtain⟨m',H',n',l,M,e,o,f⟩:=name_cells hfit hok hH hr
      refine⟨m',H',n',.ag l,M,?_,?_,by simp,l,rfl,f⟩
      · simp only[AV.toV,AV.toVs_eq,← e]
      · simp only[AV.ok,AV.oks_eq,Bool.and_eq_true,List.all_eq_true]
        exact⟨fun x hx=>(o x hx).1,fun x hx=>(o x hx).2⟩
    · simp at ht
  · rename_i k' hl hty
    simp only[Option.some.injEq] at ht; subst ht
    have hcell:=cells_of_tyA hty
    have hc:Cell.okWide P w r b0 t v:=by
      have hna:¬((∃fs,P.underlying t=some (.struct fs))∨∃n e,P.underlying t=some (.array n e)):=fun h=>by
        have:=(tyA_ag hty).2 h; simp at this
      unfold Value.okWide at hval
      split at hval
      · rename_i fs hu; exact absurd (.inl ⟨_,hu⟩) hna
      · rename_i q e hu; exact absurd (.inr ⟨_,_,hu⟩) hna
      · exact hval
    have hv:=one_cells (cell_not_agg hc)
    rw[hv] at hd
    have hok:=slOk_of_cell hc
    have hfit:=args_cells_open 20 t [k'] hl (by rw[hcell]; rfl) fuel [v] (d,ps) hd (fun a len cap hm=>by
      rw[List.mem_singleton] at hm; exact(hok a len cap hm.symm).1)
    obtain⟨m',H',n',x,M,e,o,o1,f⟩:=name_cell hfit.1 hok hH hr
    exact⟨m',H',n',x,M,e,o,by rintro rfl; simp[AV.one] at o1,f⟩
  · simp at ht
theorem name_args {r:Reach} {b0:Nat}:∀ {ts:List TypeId} {vs:List Value} {ds:List (DataW Hh)} {ps:List MemPlace} {sh:List AK},DataW.TrodAll enc P w base sp held ts vs ds ps→ts.map (argT P)=sh.map some→
    (∀(j:Nat) t v,ts[j]?=some t→vs[j]?=some v→Value.okWide P w r b0 t v)→∀ {m:NM} {H:Heap} {n:Nat},HRel m H n w→RO H→
    ∃m' H' n' L,More w m H n m' H' n'∧vs=L.map (AV.toV m')∧(∀x∈L,x.ok n'=true∧x≠ .junk)∧fitAs H' sh L
  | [],vs,ds,ps,sh,h,hs,_,m,H,n,hH,hr=>by
    have hvs:vs=[]:=by
      cases vs with
      | nil=>rfl
      | cons a b=>cases ds <;> exact h.elim
    subst hvs
    cases sh with
    | nil=>exact⟨m,H,n,[],⟨hH,hr,Nat.le_refl _,NM.agree.refl _ _,fun _ _=>rfl⟩,rfl,by simp,trivial⟩
    | cons a b=>simp at hs
  | t :: ts,vs,ds,ps,sh,h,hs,hval,m,H,n,hH,hr=>by
    cases sh with
    | nil=>simp at hs
    | cons k sh=>
      simp only[List.map_cons,List.cons.injEq] at hs
      cases vs with
      | nil=>cases ds <;> exact h.elim
      | cons v vs=>
        cases ds with
        | nil=>exact h.elim
        | cons d ds=>
          obtain⟨p,q,h1,h2,_⟩:=h
          obtain⟨m1,H1,n1,x,M1,e1,o1,j1,f1⟩:=name_arg hs.1 (hval 0 t v rfl rfl) h1 hH hr
          obtain⟨m2,H2,n2,l,M2,e2,o2,f2⟩:=name_args h2 hs.2 (fun j t v ht hv=>hval (j+1) t v (by simpa using ht) (by simpa using hv)) M1.rel M1.ro
          refine⟨m2,H2,n2,x :: l,M1.trans M2,?_,?_,fitA.mono M2.old o1 f1,f2⟩
          · rw[List.map_cons,e1,e2,AV.toV_agree M2.ag x o1]
          · intro y hy
            rcases List.mem_cons.1 hy with rfl | hy
            · exact⟨AV.ok_mono M2.le _ o1,j1⟩
            · exact o2 y hy
end
end Go.Ab
namespace Go.Ab
theorem flat_split {ks:List EK}:∀ {len:Nat} {es:List AV},FitsR (List.replicate len ks).flatten es→∃ls:List (List AV),ls.length=len∧es=ls.flatten∧∀l∈ls,FitsR ks l
  | 0,es,h=>by
    have:=fits_length h.1
    simp at this
    subst this
    exact⟨[],rfl,rfl,by simp⟩
  | len+1,es,h=>by
    simp only[List.replicate_succ,List.flatten_cons] at h
    obtain⟨h1,h2⟩:=fits_take h.1
    obtain⟨ls,hl,he,hf⟩:=flat_split (ks:=ks) (len:=len) (es:=es.drop ks.length) ⟨h2,fun x hx=>h.2 x (List.mem_of_mem_drop hx)⟩
    refine⟨es.take ks.length :: ls,by simp[hl],by simp[← he],fun l hm=>?_⟩
    rcases List.mem_cons.1 hm with rfl | hm
    · exact⟨h1,fun x hx=>h.2 x (List.mem_of_mem_take hx)⟩
    · exact hf l hm
theorem enc_list {α:Type} {ks:List EK} (enc:α→List AV) (hconv:∀l,FitsR ks l→∃x,l=enc x):∀(ls:List (List AV)),(∀l∈ls,FitsR ks l)→∃xs:List α,xs.length=ls.length∧ls.flatten=xs.flatMap enc
  | [],_=>⟨[],rfl,rfl⟩
  | l :: ls,h=>by
    obtain⟨x,hx⟩:=hconv l (h l List.mem_cons_self)
    obtain⟨xs,h1,h2⟩:=enc_list enc hconv ls (fun l hl=>h l (List.mem_cons_of_mem _ hl))
    exact⟨x :: xs,by simp[h1],by simp[h2,hx]⟩
end Go.Ab
namespace Go.Ab
theorem fitsL_flat {H:Heap}:∀ {ks:List EK} {l:List AV},fitsL H (ks.map .k) l→FitsR ks l
  | [],[],_=>FitsR.nil
  | [],_ :: _,h=>h.elim
  | _ :: _,[],h=>h.elim
  | k :: ks,v :: l,h=>by
    have:=fitsL_flat h.2
    have h1:=h.1
    exact FitsR.append (a:=[k]) (l:=[v]) (FitsR.one h1.1 h1.2) this
theorem fitA_flat {H:Heap} {ks:List EK} {v:AV} (h:fitA H (.ag (ks.map .k)) v):∃l,v=.ag l∧FitsR ks l:=
  let⟨l,h1,h2⟩:=h; ⟨l,h1,fitsL_flat h2⟩
end Go.Ab
namespace Go.Ab
def vw (su:Bool) (b o l c:Nat):AV:=if su then .su b o l 1 else .sl b o l c
@[go_sem] theorem vw_true (b o l c:Nat):vw true b o l c=.su b o l 1:=rfl
@[go_sem] theorem vw_false (b o l c:Nat):vw false b o l c=.sl b o l c:=rfl
theorem vw_ok {su:Bool} {b o l c n:Nat} (h:b<n):(vw su b o l c).ok n=true:=by cases su <;> simp[vw,AV.ok,h]
theorem vw_ok' {su:Bool} {b o l c n:Nat} (h:(vw su b o l c).ok n=true):b<n:=by cases su <;> simpa [vw,AV.ok] using h
theorem vw_ne {su:Bool} {b o l c:Nat}:vw su b o l c≠ .junk:=by cases su <;> simp[vw]
def bytesIn (H:Heap) (v:AV) (bs:List (BitVec 8)):Prop:=
  (v=.sn∧bs=[])∨
  (∃su b o c blk,v=vw su b o bs.length c∧bs.length≤c∧H b=some blk∧(blk.cells.drop o).take bs.length=bs.map .u8∧o+bs.length≤blk.cells.length)
theorem bytesIn.vw {H:Heap} {su:Bool} {b o c l:Nat} {blk:Blk} {bs:List (BitVec 8)} (hb:H b=some blk) (hl:l=bs.length) (hc:l≤c) (h:(blk.cells.drop o).take bs.length=bs.map .u8) (hle:o+bs.length≤blk.cells.length):bytesIn H (Go.Ab.vw su b o l c) bs:=
  .inr ⟨su,b,o,c,blk,by rw[hl],by omega,hb,h,hle⟩
theorem bytesIn.sl {H:Heap} {b o c l:Nat} {blk:Blk} {bs:List (BitVec 8)} (hb:H b=some blk) (hl:l=bs.length) (hc:l≤c) (h:(blk.cells.drop o).take bs.length=bs.map .u8) (hle:o+bs.length≤blk.cells.length):bytesIn H (.sl b o l c) bs:=
  .vw (su:=false) hb hl hc h hle
theorem bytesIn.su {H:Heap} {b o l:Nat} {blk:Blk} {bs:List (BitVec 8)} (hb:H b=some blk) (hl:l=bs.length) (h:(blk.cells.drop o).take bs.length=bs.map .u8) (hle:o+bs.length≤blk.cells.length):bytesIn H (.su b o l 1) bs:=
  .vw (su:=true) (c:=l) hb hl (Nat.le_refl _) h hle
theorem bytesIn.whole {H:Heap} {b c l:Nat} {el:TypeId} {ro:Bool} {bs:List (BitVec 8)} (hb:H b=some ⟨bs.map .u8,el,ro⟩) (hl:l=bs.length) (hc:l≤c):bytesIn H (.sl b 0 l c) bs:=
  .sl hb hl hc (by rw[List.drop_zero]; exact List.take_of_length_le (by simp)) (by simp)
theorem bytesIn.mono {H H':Heap} {n:Nat} {v:AV} {bs:List (BitVec 8)} (h:bytesIn H v bs) (hv:v.ok n=true) (he:∀i,i<n→H' i=H i):bytesIn H' v bs:=by
  rcases h with h | ⟨su,b,o,c,blk,rfl,h0,h1,h2,h3⟩
  · exact .inl h
  · exact .inr ⟨su,b,o,c,blk,rfl,h0,by rw[he b (vw_ok' hv)]; exact h1,h2,h3⟩
theorem bytesIn.cut {H:Heap} {su:Bool} {b o c l:Nat} {blk:Blk} {bs:List (BitVec 8)} (hb:H b=some blk) (hl:l=bs.length) (hc:l≤c) (h:(blk.cells.drop o).take bs.length=bs.map .u8) (hle:o+bs.length≤blk.cells.length) {lo hi:Nat} (h1:lo≤hi) (h2:hi≤l):
    bytesIn H (Go.Ab.vw su b (o+lo) (hi-lo) (c-lo)) ((bs.drop lo).take (hi-lo)):=by
  have hlen:((bs.drop lo).take (hi-lo)).length=hi-lo:=by simp; omega
  refine .vw hb hlen.symm (by omega) ?_ (by rw[hlen]; omega)
  rw[hlen,List.map_take,List.map_drop,← h,List.drop_take,List.drop_drop,List.take_take,Nat.min_eq_left (by omega)]
theorem ixB_vw {ag:Bool} {su:Bool} {b o l c:Nat} {i:Nat} {K:AV→Prop} (h1:i<l) (h:K (.pt b (o+i))):ixB (some (none,ag,1)) (vw su b o l c) (some (i:Int)) K:=by
  cases su <;> simp[vw,ixB,h1,h]
theorem lenB_vw {su:Bool} {b o l c:Nat} {K:AV→Prop}:lenB (some .slice) (vw su b o l c) K=K (.i64 l):=by cases su <;> rfl
theorem loadB_at {blk:Blk} {o i:Nat} {bs:List (BitVec 8)} {K:AV→Prop} (h2:(blk.cells.drop o).take bs.length=bs.map .u8) (h3:o+bs.length≤blk.cells.length) (hi:i<bs.length) (h:K (.u8 (bs.getD i 0#8))):loadB (some blk) (some (false,1)) (o+i) K:=by
  refine⟨by omega,?_⟩
  have e:(bs.map AV.u8).getD i .junk=.u8 (bs.getD i 0#8):=by simp[List.getD_eq_getElem?_getD,hi]
  rw[← h2] at e
  have e2:((blk.cells.drop o).take bs.length).getD i .junk=blk.cells.getD (o+i) .junk:=by
    rw[List.getD_eq_getElem?_getD,List.getD_eq_getElem?_getD,List.getElem?_take,if_pos hi,List.getElem?_drop]
  rw[← e2,e]; exact h
end Go.Ab
namespace Go.Ab
theorem rep_one (k:Nat) (x:AV):repCells k [x]=List.replicate k x:=by
  induction k with
  | zero=>rfl
  | succ k ih=>simp only[repCells,List.replicate_succ,List.flatten_cons,List.singleton_append] at*; rw[ih]
theorem rep_u8 (k:Nat) (x:BitVec 8):repCells k [AV.u8 x]=(List.replicate k x).map AV.u8:=by rw[rep_one,List.map_replicate]
theorem lenB_bytes {H:Heap} {v:AV} {bs:List (BitVec 8)} (h:bytesIn H v bs) (K:AV→Prop):lenB (some .slice) v K=K (.i64 bs.length):=by
  rcases h with ⟨rfl,rfl⟩ | ⟨su,b,o,c,blk,rfl,_⟩
  · rfl
  · exact lenB_vw
theorem appX_bytes {H:Heap} {v:AV} {bs:List (BitVec 8)} (h:bytesIn H v bs) (a:AppT):appX a v=True:=by
  rcases h with ⟨rfl,rfl⟩ | ⟨su,b,o,c,blk,rfl,_⟩
  · rfl
  · cases su <;> rfl
theorem readK_bytes {H:Heap} {v:AV} {bs:List (BitVec 8)} (h:bytesIn H v bs) (K:Nat→List AV→Prop):readK H 1 v K=K bs.length (bs.map .u8):=by
  rcases h with ⟨rfl,rfl⟩ | ⟨su,b,o,c,blk,rfl,h0,h1,h2,h3⟩
  · rfl
  · cases su
    · simp only[vw,Bool.false_eq_true,if_false,readK,slicePl,h1,Nat.mul_one,h2,h3,true_and]
    · simp only[vw,readK,slicePl,if_true,h1,Nat.mul_one,h2,h3,true_and]
theorem srcK_bytes {H:Heap} {v:AV} {bs:List (BitVec 8)} (h:bytesIn H v bs) (K:Nat→List AV→Prop):srcK H 1 v K=K bs.length (bs.map .u8):=by
  have:=readK_bytes h K
  rcases h with ⟨rfl,rfl⟩ | ⟨su,b,o,c,blk,rfl,_⟩
  · exact this
  · cases su <;> exact this
theorem bytesIn.ne {H:Heap} {v:AV} {bs:List (BitVec 8)} (h:bytesIn H v bs):v≠ .junk:=by
  rcases h with ⟨rfl,rfl⟩ | ⟨su,b,o,c,blk,rfl,_⟩
  · simp
  · exact vw_ne
theorem Env.okAt_of2 {e:Env} {n:Nat} (h:∀p∈e,p.2.ok n=true):e.okAt n:=Env.okAt_of (List.all_eq_true.2 h)
end Go.Ab
namespace Go.Ab
theorem cells_at {blk:Blk} {o i:Nat} {bs:List (BitVec 8)} (h2:(blk.cells.drop o).take bs.length=bs.map .u8) (h3:o+bs.length≤blk.cells.length) (hi:i<bs.length):o+i<blk.cells.length∧blk.cells.getD (o+i) .junk=.u8 (bs.getD i 0#8):=by
  refine⟨by omega,?_⟩
  have e:(bs.map AV.u8).getD i .junk=.u8 (bs.getD i 0#8):=by simp[List.getD_eq_getElem?_getD,hi]
  rw[← h2] at e
  rw[← e,List.getD_eq_getElem?_getD,List.getD_eq_getElem?_getD,List.getElem?_take,if_pos hi,List.getElem?_drop]
end Go.Ab
namespace Go.Ab
@[go_sem] theorem ixB_vw_eq {ag:Bool} {su:Bool} {b o l c:Nat} {i:Int} {K:AV→Prop}:ixB (some (none,ag,1)) (vw su b o l c) (some i) K=(0≤i∧i<l∧K (.pt b (o+i.toNat))):=by
  cases su <;> simp[vw,ixB]
attribute [go_sem] lenB_vw
end Go.Ab
namespace Go.Ab
@[go_sem] theorem rep_lit1 (x:AV):repCells 1 [x]=[x]:=rfl
@[go_sem] theorem rep_lit2 (x:AV):repCells 2 [x]=[x,x]:=rfl
@[go_sem] theorem rep_lit3 (x:AV):repCells 3 [x]=[x,x,x]:=rfl
@[go_sem] theorem rep_lit4 (x:AV):repCells 4 [x]=[x,x,x,x]:=rfl
@[go_sem] theorem rep_lit5 (x:AV):repCells 5 [x]=[x,x,x,x,x]:=rfl
@[go_sem] theorem rep_lit6 (x:AV):repCells 6 [x]=[x,x,x,x,x,x]:=rfl
@[go_sem] theorem rep_lit7 (x:AV):repCells 7 [x]=[x,x,x,x,x,x,x]:=rfl
@[go_sem] theorem rep_lit8 (x:AV):repCells 8 [x]=[x,x,x,x,x,x,x,x]:=rfl
@[go_sem] theorem rep_lit9 (x:AV):repCells 9 [x]=[x,x,x,x,x,x,x,x,x]:=rfl
@[go_sem] theorem rep_lit10 (x:AV):repCells 10 [x]=[x,x,x,x,x,x,x,x,x,x]:=rfl
@[go_sem] theorem rep_lit11 (x:AV):repCells 11 [x]=[x,x,x,x,x,x,x,x,x,x,x]:=rfl
@[go_sem] theorem rep_lit12 (x:AV):repCells 12 [x]=[x,x,x,x,x,x,x,x,x,x,x,x]:=rfl
@[go_sem] theorem rep_lit13 (x:AV):repCells 13 [x]=[x,x,x,x,x,x,x,x,x,x,x,x,x]:=rfl
@[go_sem] theorem rep_lit14 (x:AV):repCells 14 [x]=[x,x,x,x,x,x,x,x,x,x,x,x,x,x]:=rfl
@[go_sem] theorem rep_lit15 (x:AV):repCells 15 [x]=[x,x,x,x,x,x,x,x,x,x,x,x,x,x,x]:=rfl
@[go_sem] theorem rep_lit16 (x:AV):repCells 16 [x]=[x,x,x,x,x,x,x,x,x,x,x,x,x,x,x,x]:=rfl
end Go.Ab
namespace Go.Ab
@[go_sem] theorem take_map_all {k:Nat} {bs:List (BitVec 8)} (h:bs.length=k):List.take k (bs.map AV.u8)=bs.map AV.u8:=List.take_of_length_le (by rw[List.length_map,h]; exact Nat.le_refl _)
end Go.Ab
namespace Go.Ab
end Go.Ab
namespace Go.Ab
end Go.Ab
namespace Go.Ab
end Go.Ab
namespace Go.Ab
theorem Heap.upd_swap (H:Heap) {a b:Nat} (x y:Option Blk) (h:a≠b):(H.upd a x).upd b y=(H.upd b y).upd a x:=by
  funext i
  by_cases h1:i=b
  · subst h1; rw[Heap.upd_same,Heap.upd_ne _ _ (Ne.symm h),Heap.upd_same]
  · rw[Heap.upd_ne _ _ h1]
    by_cases h2:i=a
    · subst h2; rw[Heap.upd_same,Heap.upd_same]
    · rw[Heap.upd_ne _ _ h2,Heap.upd_ne _ _ h2,Heap.upd_ne _ _ h1]
theorem Heap.wf_upd_none {H:Heap} {n k:Nat} (wf:H.wf n):(H.upd k none).wf n:=fun i b hb=>by
  by_cases h:i=k
  · subst h; rw[Heap.upd_same] at hb; cases hb
  · rw[Heap.upd_ne _ _ h] at hb; exact wf i b hb
theorem awp_gen {P:Program} {N:Nat} {c:Code} {K:Exit→Env→Heap→Nat→Prop} {env:Env} {H:Heap} {n:Nat} (Q:Heap→Prop) (hQ:Q H) (h:∀X,Q X→awp P N c K env X n):awp P N c K env H n:=h H hQ
end Go.Ab
namespace Go.Ab
open Go
def noGotoK (K:Exit→Env→Heap→Nat→Prop):Exit→Env→Heap→Nat→Prop
  | .goto _,_,_,_=>False
  | e,env,H,n=>K e env H n
@[congr] theorem noGotoK_congr {K:Exit→Env→Heap→Nat→Prop} {e e':Exit} {env env':Env} {H H':Heap} {n n':Nat} (h_e:e=e') (h_env:env=env') (h_H:H=H') (h_n:n=n'):noGotoK K e env H n=noGotoK K e' env' H' n':=by subst h_e h_env h_H h_n; rfl
end Go.Ab
namespace Go.Ab
theorem bytesIn.apart {H:Heap} {q:Nat} {v:AV} {bs:List (BitVec 8)} (h:bytesIn (H.upd q none) v bs) (X:Option Blk):bytesIn (H.upd q X) v bs:=by
  rcases h with h | ⟨su,b,o,c,blk,rfl,h0,h1,h2,h3⟩
  · exact .inl h
  · have hne:b≠q:=by rintro rfl; rw[Heap.upd_same] at h1; cases h1
    rw[Heap.upd_ne _ _ hne] at h1
    exact .inr ⟨su,b,o,c,blk,rfl,h0,by rw[Heap.upd_ne _ _ hne]; exact h1,h2,h3⟩
theorem bytesIn.ok {H:Heap} {n:Nat} {v:AV} {bs:List (BitVec 8)} (wf:H.wf n) (h:bytesIn H v bs):v.ok n=true:=by
  rcases h with ⟨rfl,rfl⟩ | ⟨su,b,o,c,blk,rfl,h0,h1,h2,h3⟩
  · rfl
  · exact vw_ok (wf b _ h1).1
end Go.Ab
namespace Go.Ab
theorem ACalls.wf {P:Program} {f:FuncId} {args:List AV} {H:Heap} {n:Nat} {K:AV→Heap→Nat→Prop} (h:ACalls P f args H n fun v H' n'=>H'.wf n'→n≤n'→K v H' n'):ACalls P f args H n K:=
  ⟨h.1,fun m w hH ha=>(h.2 m w hH ha).mono fun _ _ ⟨m',v,H',n',h1,h2,h3,h4,h5,h6⟩=>⟨m',v,H',n',h1,h2,h3,h4,h5,h6 h2.wf h3⟩⟩
end Go.Ab
namespace Go.Ab
theorem and64_mask (k:Nat) (hk:k≤62) (x:Int):and64 x (((2 ^ k-1:Nat):Nat):Int)=x%((2 ^ k:Nat):Int):=by
  have hp:0<2 ^ k:=Nat.two_pow_pos k
  have hle:(2:Nat) ^ k≤2 ^ 62:=Nat.pow_le_pow_right (by decide) hk
  have e1:(BitVec.ofInt 64 x&&&BitVec.ofInt 64 (((2 ^ k-1:Nat):Nat):Int)).toNat=(BitVec.ofInt 64 x).toNat%2 ^ k:=by
    rw[BitVec.toNat_and,BitVec.ofInt_natCast,BitVec.toNat_ofNat,Nat.mod_eq_of_lt (by omega),Nat.and_two_pow_sub_one_eq_mod]
  have e2:(((BitVec.ofInt 64 x).toNat%2 ^ k:Nat):Int)=x%((2 ^ k:Nat):Int):=by
    rw[Int.natCast_emod,BitVec.toNat_ofInt]
    have hnn:0≤x%((2 ^ 64:Nat):Int):=Int.emod_nonneg _ (by decide)
    rw[Int.toNat_of_nonneg hnn]
    exact Int.emod_emod_of_dvd _ (by
      have:(2:Nat) ^ k ∣ 2 ^ 64:=Nat.pow_dvd_pow 2 (by omega)
      exact Int.ofNat_dvd.2 this)
  unfold and64
  rw[e1]
  have hlt:(BitVec.ofInt 64 x).toNat%2 ^ k<2 ^ k:=Nat.mod_lt _ hp
  rw[wrap_id _ (by omega) (by omega),e2]
end Go.Ab
namespace Go.Ab
open Go.RowKit
theorem calls_of_acalls {P:Program} {f:FuncId} {fn:Func} (hf:P.funcs[f]?=some fn) (hname:(fn.name== "runtime.NumGoroutine")=false) (hb:fn.body.isNone=false)
    {args:List AV} {H:Heap} {n:Nat} {K:AV→Heap→Nat→Prop} (h:ACalls P f args H n K) {m:NM} {w:World} (hH:HRel m H n w) (ha:∀v∈args,v.ok n=true):
    Calls P f (args.map (AV.toV m)).toArray w fun e w'=>∃x,e=.returned x∧∃(m':NM) (v:AV) (H':Heap) (n':Nat),(v≠ .junk→x=AV.toV m' v∧v.ok n'=true)∧HRel m' H' n' w'∧n≤n'∧NM.agree n m m'∧Fr m H w m' H' w'∧K v H' n':=by
  have:=h.2 m w hH ha
  rw[run_callFunc hf hname hb] at this
  exact this
theorem law_calls {P:Program} {f:FuncId} {fn:Func} (hf:P.funcs[f]?=some fn) (hname:(fn.name== "runtime.NumGoroutine")=false) (hb:fn.body.isNone=false)
    {args:List AV} {H:Heap} {n:Nat} (h:ACalls P f args H n fun v _ _=>v=.bo true) (hro:∀i b,H i=some b→b.ro=true) {m:NM} {w:World} (hH:HRel m H n w) (ha:∀v∈args,v.ok n=true):
    Calls P f (args.map (AV.toV m)).toArray w fun e w'=>e=.returned (.bool true)∧Below w.heap.size w w':=
  (calls_of_acalls hf hname hb h hH ha).mono fun e w' ⟨x,he,m',v,H',n',hv,_,_,_,hfr,hK⟩=>by
    subst hK
    refine⟨by rw[he,(hv (by simp)).1]; rfl,hfr.os,hfr.tape,hfr.output,hfr.size,fun k hk=>hfr.keep k hk fun i b hi hr=>?_⟩
    rw[hro i b hi] at hr; cases hr
end Go.Ab
namespace Go.Ab
open Go.RowKit
theorem below_all {H:Type} {enc:TypeId×Value→H} {P:Program} (hl:laidOutB P=true) {W W':World} (hb:Below W.heap.size W W'):
    ∀ {ts:List TypeId} {vs:List Value} {ds:List (DataW H)} {ps:List MemPlace},(ts.all fun t=>P.readableRec t&&decide (t<P.types.size))=true→DataW.TrodAll enc P W 0 (fun _=>true) true ts vs ds ps→
      (∀x∈ps,x.block<W.heap.size)→DataW.TrodAll enc P W' 0 (fun b=>decide (b<W.heap.size)) true ts vs ds ps
  | [],[],[],_,_,h,_=>h
  | t :: ts,v :: vs,d :: ds,ps,ha,h,hlt=>by
    obtain⟨p,q,h1,h2,rfl⟩:=h
    simp only[List.all_cons,Bool.and_eq_true,decide_eq_true_eq] at ha
    exact⟨p,q,Below.trod hl ha.1.1 ha.1.2 h1 hb (fun x hx=>hlt x (List.mem_append_left _ hx)),below_all hl hb ha.2 h2 (fun x hx=>hlt x (List.mem_append_right _ hx)),rfl⟩
  | [],[],_ :: _,_,_,h,_=>h.elim
  | [],_ :: _,_,_,_,h,_=>by cases ‹List (DataW H)› <;> exact h.elim
  | _ :: _,[],_,_,_,h,_=>by cases ‹List (DataW H)› <;> exact h.elim
  | _ :: _,_ :: _,[],_,_,h,_=>h.elim
end Go.Ab
namespace Go.Ab
open Go.RowKit
section
variable {Hh:Type} {enc:TypeId×Value→Hh}
theorem trodAll_len {P:Program} {w:World} {base:Nat} {sp:Nat→Bool} {held:Bool}:∀ {ts:List TypeId} {vs:List Value} {ds:List (DataW Hh)} {ps:List MemPlace},DataW.TrodAll enc P w base sp held ts vs ds ps→ds.length=ts.length
  | [],vs,ds,ps,h=>by
    cases vs with
    | nil=>cases ds with
      | nil=>rfl
      | cons a b=>exact h.elim
    | cons a b=>cases ds <;> exact h.elim
  | t :: ts,vs,ds,ps,h=>by
    cases vs with
    | nil=>cases ds <;> exact h.elim
    | cons v vs=>cases ds with
      | nil=>exact h.elim
      | cons d ds=>
        obtain⟨p,q,_,h2,_⟩:=h
        simp[trodAll_len h2]
theorem law_calls_args {P:Program} {f:FuncId} {fn:Func} (hf:P.funcs[f]?=some fn) (hname:(fn.name== "runtime.NumGoroutine")=false) (hb:fn.body.isNone=false) {ts:List TypeId} {sh:List AK}
    (hs:ts.map (argT P)=sh.map some) (h:∀(H:Heap) (n:Nat) (L:List AV),RO H→H.wf n→(∀x∈L,x.ok n=true)→fitAs H sh L→ACalls P f L H n fun v _ _=>v=.bo true)
    {w:World} {r:Reach} {base b0:Nat} {sp:Nat→Bool} {held:Bool} {args:Array Value} {ds:List (DataW Hh)} {ps:List MemPlace} (hA:DataW.TrodAll enc P w base sp held ts args.toList ds ps)
    (hval:∀(j:Nat) t v,ts[j]?=some t→args.toList[j]?=some v→Value.okWide P w r b0 t v):
    Calls P f args w fun e w'=>e=.returned (.bool true)∧Below w.heap.size w w':=by
  obtain⟨m,H,n,L,M,e,o,fit⟩:=name_args hA hs hval (nilH_rel ⟨fun _=>0,fun _=>0,fun _=>0⟩ 0 w) (fun i b hi=>by simp[nilH] at hi)
  have hargs:args=(L.map (AV.toV m)).toArray:=by rw[← e]
  rw[hargs]
  exact law_calls hf hname hb (h H n L M.ro M.rel.wf (fun x hx=>(o x hx).1) fit) M.ro M.rel (fun x hx=>(o x hx).1)
end
end Go.Ab
namespace Go.Ab
theorem fitL_list {α:Type} {H:Heap} {el:TypeId} {ks:List EK} {v:AV} (enc:α→List AV) (hconv:∀l,FitsR ks l→∃x,l=enc x) (h:fitL H (.s el ks) v):
    ∃xs:List α,(v=.sn∧xs=[])∨∃b c el',v=.sl b 0 xs.length c∧xs.length≤c∧c≤maxLen∧H b=some ⟨xs.flatMap enc,el',true⟩:=by
  rcases h with rfl | ⟨b,len,cap,es,el',rfl,h1,h2,h3,h4⟩
  · exact⟨[],.inl ⟨rfl,rfl⟩⟩
  · obtain⟨ls,hl,rfl,hf⟩:=flat_split h3
    obtain⟨xs,hx,he⟩:=enc_list enc hconv ls hf
    exact⟨xs,.inr ⟨b,cap,el',by rw[hx,hl],by omega,h2,by rw[← he]; exact h4⟩⟩
theorem fitL_bytesIn {H:Heap} {el:TypeId} {v:AV} (h:fitL H (.s el [.int .u8]) v):∃bs,bytesIn H v bs:=by
  obtain⟨xs,hx⟩:=fitL_list (α:=BitVec 8) (fun x=>[.u8 x]) (fun l hl=>by
    match l,hl with
    | [.u8 x],_=>exact⟨x,rfl⟩) h
  have e:∀xs:List (BitVec 8),xs.flatMap (fun x=>[AV.u8 x])=xs.map .u8:=fun xs=>by
    induction xs with
    | nil=>rfl
    | cons a r ih=>rw[List.flatMap_cons,ih]; rfl
  rcases hx with ⟨rfl,rfl⟩ | ⟨b,c,el',rfl,h1,h2,h3⟩
  · exact⟨[],.inl ⟨rfl,rfl⟩⟩
  · rw[e] at h3
    exact⟨xs,.whole h3 rfl h1⟩
end Go.Ab
namespace Go.Ab
def intsIn (H:Heap) (v:AV) (xs:List Int):Prop:=(v=.sn∧xs=[])∨∃b c el,v=.sl b 0 xs.length c∧xs.length≤c∧H b=some ⟨xs.map .i64,el,true⟩
theorem intsIn.mono {H H':Heap} {n:Nat} {v:AV} {xs:List Int} (h:intsIn H v xs) (hv:v.ok n=true) (he:∀i,i<n→H' i=H i):intsIn H' v xs:=by
  rcases h with h | ⟨b,c,el,rfl,h0,h1⟩
  · exact .inl h
  · exact .inr ⟨b,c,el,rfl,h0,by rw[he b (by simpa [AV.ok] using hv)]; exact h1⟩
theorem intsIn.ok {H:Heap} {n:Nat} {v:AV} {xs:List Int} (wf:H.wf n) (h:intsIn H v xs):v.ok n=true:=by
  rcases h with ⟨rfl,rfl⟩ | ⟨b,c,el,rfl,h0,h1⟩
  · rfl
  · simpa [AV.ok] using (wf b _ h1).1
theorem intsIn.ne {H:Heap} {v:AV} {xs:List Int} (h:intsIn H v xs):v≠ .junk:=by
  rcases h with ⟨rfl,rfl⟩ | ⟨b,c,el,rfl,h0,h1⟩ <;> simp
end Go.Ab
