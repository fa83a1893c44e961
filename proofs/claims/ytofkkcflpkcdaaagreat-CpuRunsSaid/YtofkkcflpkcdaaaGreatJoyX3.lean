/- Parts of the proof: contracts of the seat's functions. -/
import Derived.Test.YtofkkcflpkcdaaaGreatJoyX2
import Derived.KernelRfl
import Derived.Test.YtofkkcflpkcdaaaGreatJoyW1
set_option linter.unusedSimpArgs false
set_option linter.unusedVariables false
set_option linter.unnecessarySimpa false
namespace Go.Proofs.Joy
open Go.Ab
set_option maxHeartbeats 1000000
structure XC where
  r:Rg
  to:BitVec 16
  idx:Bool
  pg:Nat
abbrev XM (α:Type):=XC→Eff (α×XC)
structure AX {P:Program} {σ:Type} (W:WC P σ) (T:TypeId) (H0:Heap) (n0:Nat) (F0:Nat→Prop) (k:Nat) (c:XC) (s:σ) (H:Heap) (n:Nat):Prop where
  wf:H.wf n
  le:n0≤n
  blk:H k=some ⟨c.r.cells++[W.v,.u16 c.to,.bo c.idx,.i64 c.pg],T,false⟩
  fp:∃F,W.rep s H n F∧¬F k∧∀i,F i→F0 i∨n0≤i
  fr:∀i,i<n0→i≠k→¬F0 i→H i=H0 i
variable {P:Program} {σ:Type} {W:WC P σ} {T:TypeId} {H0:Heap} {n0:Nat} {F0:Nat→Prop} {k:Nat} {c:XC} {s:σ} {H:Heap} {n:Nat}
theorem cells_okX (c:XC) (n:Nat):∀v∈c.r.cells,v.ok n=true:=by
  intro v hv
  simp only[Rg.cells,List.mem_cons,List.not_mem_nil,or_false] at hv
  rcases hv with rfl | rfl | rfl | rfl | rfl | rfl | rfl | rfl | rfl | rfl | rfl | rfl | rfl | rfl | rfl | rfl | rfl | rfl | rfl | rfl | rfl | rfl | rfl | rfl | rfl | rfl | rfl | rfl | rfl <;> rfl
theorem AX.kn (A:AX W T H0 n0 F0 k c s H n):k<n:=(A.wf _ _ A.blk).1
theorem AX.vok (A:AX W T H0 n0 F0 k c s H n):W.v.ok n=true:=let⟨_,h,_⟩:=A.fp; W.vok h
theorem coreX_ok (A:AX W T H0 n0 F0 k c s H n) (c':XC):∀v∈c'.r.cells++[W.v,.u16 c'.to,.bo c'.idx,.i64 c'.pg],v.ok n=true:=by
  intro v hv
  rcases List.mem_append.1 hv with hv | hv
  · exact cells_okX _ _ v hv
  · simp only[List.mem_cons,List.not_mem_nil,or_false] at hv
    rcases hv with rfl | rfl | rfl | rfl
    · exact A.vok
    · rfl
    · rfl
    · rfl
theorem AX.put (A:AX W T H0 n0 F0 k c s H n) (c':XC):AX W T H0 n0 F0 k c' s (H.upd k (some ⟨c'.r.cells++[W.v,.u16 c'.to,.bo c'.idx,.i64 c'.pg],T,false⟩)) n:=
  let⟨F,h1,h2,h3⟩:=A.fp
  ⟨Heap.wf_set A.wf A.kn (coreX_ok A c'),A.le,Heap.upd_same _ _ _,⟨F,W.stable h1 (fun i hi=>Heap.upd_ne _ _ (fun e=>h2 (e▸hi))) (Nat.le_refl _),h2,h3⟩,fun i hi hk hF=>by rw[Heap.upd_ne _ _ hk]; exact A.fr i hi hk hF⟩
theorem AX.mono (A:AX W T H0 n0 F0 k c s H n) {H':Heap} {n':Nat} (hw:H'.wf n') (hn:n≤n') (he:∀i,i<n→H' i=H i):AX W T H0 n0 F0 k c s H' n':=
  let⟨F,h1,h2,h3⟩:=A.fp
  ⟨hw,Nat.le_trans A.le hn,by rw[he _ A.kn]; exact A.blk,⟨F,W.stable h1 (fun i hi=>he i (W.low h1 hi)) hn,h2,h3⟩,fun i hi hk hF=>by rw[he i (Nat.lt_of_lt_of_le hi A.le)]; exact A.fr i hi hk hF⟩
theorem AX.out (A:AX W T H0 n0 F0 k c s H n) {F:Nat→Prop} (h1:W.rep s H n F) (h2:¬F k) (h3:∀i,F i→F0 i∨n0≤i) {s':σ} {H':Heap} {n':Nat} {F':Nat→Prop} (hw:H'.wf n') (hn:n≤n') (hr:W.rep s' H' n' F') (hF:∀i,F' i→F i∨n≤i) (he:∀i,i<n→¬F i→H' i=H i):AX W T H0 n0 F0 k c s' H' n':=
  ⟨hw,Nat.le_trans A.le hn,by rw[he _ A.kn h2]; exact A.blk,⟨F',hr,fun hk=>by rcases hF _ hk with h | h; exact h2 h; exact Nat.lt_irrefl _ (Nat.lt_of_lt_of_le A.kn h),fun i hi=>by
      rcases hF i hi with h | h
      · exact h3 i h
      · exact .inr (Nat.le_trans A.le h)⟩,
    fun i hi hk hF0=>by
      rw[he i (Nat.lt_of_lt_of_le hi A.le) (fun h=>by rcases h3 i h with h | h; exact hF0 h; exact Nat.lt_irrefl _ (Nat.lt_of_lt_of_le hi h))]; exact A.fr i hi hk hF0⟩
theorem AX.read (A:AX W T H0 n0 F0 k c s H n) {a:BitVec 16} {K:AV→Heap→Nat→Prop} (hl:1≤W.left s) (h:∀H' n',AX W T H0 n0 F0 k c (W.O.rd s a).2 H' n'→K (.u8 (W.O.rd s a).1) H' n'):ACalls P W.kr [W.v,.u16 a] H n K:=
  let⟨_,h1,h2,h3⟩:=A.fp
  W.read hl h1 fun H' n' _ hw hn hr hF he=>h H' n' (A.out h1 h2 h3 hw hn hr hF he)
theorem AX.write (A:AX W T H0 n0 F0 k c s H n) {a:BitVec 16} {x:BitVec 8} {K:AV→Heap→Nat→Prop} (hl:1≤W.left s) (h:∀H' n',AX W T H0 n0 F0 k c (W.O.wr s a x) H' n'→K (.tu []) H' n'):ACalls P W.kw [W.v,.u16 a,.u8 x] H n K:=
  let⟨_,h1,h2,h3⟩:=A.fp
  W.write hl h1 fun H' n' _ hw hn hr hF he=>h H' n' (A.out h1 h2 h3 hw hn hr hF he)
theorem AX.inp (A:AX W T H0 n0 F0 k c s H n) {p:BitVec 16} {u:Int} {K:AV→Heap→Nat→Prop} (hu:0≤u∧u≤100) (hl:1≤W.left s) (h:∀H' n',AX W T H0 n0 F0 k c (W.O.inp s p u).2 H' n'→K (.u8 (W.O.inp s p u).1) H' n'):ACalls P W.ki [W.v,.u16 p,.i64 u] H n K:=
  let⟨_,h1,h2,h3⟩:=A.fp
  W.inp hu hl h1 fun H' n' _ hw hn hr hF he=>h H' n' (A.out h1 h2 h3 hw hn hr hF he)
theorem AX.outp (A:AX W T H0 n0 F0 k c s H n) {p:BitVec 16} {x:BitVec 8} {u:Int} {K:AV→Heap→Nat→Prop} (hu:0≤u∧u≤100) (hl:1≤W.left s) (h:∀H' n',AX W T H0 n0 F0 k c (W.O.out s p x u) H' n'→K (.tu []) H' n'):ACalls P W.ko [W.v,.u16 p,.u8 x,.i64 u] H n K:=
  let⟨_,h1,h2,h3⟩:=A.fp
  W.out hu hl h1 fun H' n' _ hw hn hr hF he=>h H' n' (A.out h1 h2 h3 hw hn hr hF he)
theorem AX.put29 (A:AX W T H0 n0 F0 k c s H n) {a f b c_ d e h l a2 f2 b2 c2 d2 e2 h2 l2:BitVec 8} {ix iy sp pc wz:BitVec 16} {i r im pre:BitVec 8} {x1 x2 x3 x4:Bool} {to:BitVec 16} {idx:Bool} {pg:Nat}:
    AX W T H0 n0 F0 k ⟨⟨a,f,b,c_,d,e,h,l,a2,f2,b2,c2,d2,e2,h2,l2,ix,iy,sp,pc,wz,i,r,im,pre,x1,x2,x3,x4⟩,to,idx,pg⟩ s
      (H.upd k (some ⟨[.u8 a,.u8 f,.u8 b,.u8 c_,.u8 d,.u8 e,.u8 h,.u8 l,.u8 a2,.u8 f2,.u8 b2,.u8 c2,.u8 d2,.u8 e2,.u8 h2,.u8 l2,.u16 ix,.u16 iy,.u16 sp,.u16 pc,.u16 wz,.u8 i,.u8 r,.u8 im,.u8 pre,.bo x1,.bo x2,.bo x3,.bo x4,W.v,.u16 to,.bo idx,.i64 pg],T,false⟩)) n:=
  A.put ⟨⟨a,f,b,c_,d,e,h,l,a2,f2,b2,c2,d2,e2,h2,l2,ix,iy,sp,pc,wz,i,r,im,pre,x1,x2,x3,x4⟩,to,idx,pg⟩
theorem AX.blk29 (A:AX W T H0 n0 F0 k c s H n):H k=some ⟨[.u8 c.r.a,.u8 c.r.f,.u8 c.r.b,.u8 c.r.c,.u8 c.r.d,.u8 c.r.e,.u8 c.r.h,.u8 c.r.l,.u8 c.r.a2,.u8 c.r.f2,.u8 c.r.b2,.u8 c.r.c2,.u8 c.r.d2,.u8 c.r.e2,.u8 c.r.h2,.u8 c.r.l2,.u16 c.r.ix,.u16 c.r.iy,.u16 c.r.sp,.u16 c.r.pc,.u16 c.r.wz,.u8 c.r.i,.u8 c.r.r,.u8 c.r.im,.u8 c.r.pre,.bo c.r.iff1,.bo c.r.iff2,.bo c.r.hlt,.bo c.r.dly,W.v,.u16 c.to,.bo c.idx,.i64 c.pg],T,false⟩:=A.blk
theorem AX.rd (A:AX W T H0 n0 F0 k c s H n) {a:BitVec 16} {K:AV→Heap→Nat→Prop} (hl:1≤W.left s) (h:∀v s' H' n',(rdE a).run W.O s=(v,s')→W.left s≤W.left s'+1→AX W T H0 n0 F0 k c s' H' n'→K (.u8 v) H' n'):ACalls P W.kr [W.v,.u16 a] H n K:=
  A.read hl fun H' n' A'=>h _ _ H' n' rfl (W.lrd _ _) A'
theorem AX.wr (A:AX W T H0 n0 F0 k c s H n) {a:BitVec 16} {x:BitVec 8} {K:AV→Heap→Nat→Prop} (hl:1≤W.left s) (h:∀s' H' n',(wrE a x).run W.O s=((),s')→W.left s≤W.left s'+1→AX W T H0 n0 F0 k c s' H' n'→K (.tu []) H' n'):ACalls P W.kw [W.v,.u16 a,.u8 x] H n K:=
  A.write hl fun H' n' A'=>h _ H' n' rfl (W.lwr _ _ _) A'
theorem AX.ip (A:AX W T H0 n0 F0 k c s H n) {p:BitVec 16} {u:Int} {K:AV→Heap→Nat→Prop} (hu:0≤u∧u≤100) (hl:1≤W.left s) (h:∀v s' H' n',(inE p u).run W.O s=(v,s')→W.left s≤W.left s'+1→AX W T H0 n0 F0 k c s' H' n'→K (.u8 v) H' n'):ACalls P W.ki [W.v,.u16 p,.i64 u] H n K:=
  A.inp hu hl fun H' n' A'=>h _ _ H' n' rfl (W.lin _ _ _) A'
theorem AX.op (A:AX W T H0 n0 F0 k c s H n) {p:BitVec 16} {x:BitVec 8} {u:Int} {K:AV→Heap→Nat→Prop} (hu:0≤u∧u≤100) (hl:1≤W.left s) (h:∀s' H' n',(outE p x u).run W.O s=((),s')→W.left s≤W.left s'+1→AX W T H0 n0 F0 k c s' H' n'→K (.tu []) H' n'):ACalls P W.ko [W.v,.u16 p,.u8 x,.i64 u] H n K:=
  A.outp hu hl fun H' n' A'=>h _ H' n' rfl (W.lout _ _ _ _) A'
theorem AX.boxed (A:AX W T H0 n0 F0 k c s H n) (bl:Blk) (hok:∀v∈bl.cells,v.ok (n+1)=true):
    ∃ F1,AX W T (H.upd n (some bl)) (n+1) F1 k c s (H.upd n (some bl)) (n+1)∧
      ∀ {c':XC} {s':σ} {H':Heap} {n':Nat},AX W T (H.upd n (some bl)) (n+1) F1 k c' s' H' n'→AX W T H0 n0 F0 k c' s' H' n'∧H' n=some bl∧n≠k∧n<n':=by
  obtain⟨F,h1,h2,h3⟩:=A.fp
  have hne:n≠k:=fun e=>Nat.lt_irrefl _ (e▸A.kn)
  have hFn:¬F n:=fun h=>Nat.lt_irrefl _ (W.low h1 h)
  refine⟨F,⟨Heap.wf_upd A.wf hok,Nat.le_refl _,by rw[Heap.upd_ne _ _ (Ne.symm hne)]; exact A.blk,⟨F,W.stable h1 (fun i hi=>Heap.upd_ne _ _ (fun e=>hFn (e▸hi))) (Nat.le_succ _),h2,fun i hi=>.inl hi⟩,fun _ _ _ _=>rfl⟩,?_⟩
  intro c' s' H' n' B
  obtain⟨F',g1,g2,g3⟩:=B.fp
  refine⟨⟨B.wf,Nat.le_trans A.le (Nat.le_trans (Nat.le_succ _) B.le),B.blk,⟨F',g1,g2,fun i hi=>?_⟩,fun i hi hk hF=>?_⟩,?_,hne,Nat.lt_of_lt_of_le (Nat.lt_succ_self _) B.le⟩
  · rcases g3 i hi with h | h
    · exact h3 i h
    · exact .inr (Nat.le_trans A.le (Nat.le_trans (Nat.le_succ _) h))
  · have hin:i<n:=Nat.lt_of_lt_of_le hi A.le
    rw[B.fr i (Nat.lt_succ_of_lt hin) hk (fun h=>by rcases h3 i h with h | h; exact hF h; omega),Heap.upd_ne _ _ (Nat.ne_of_lt hin)]
    exact A.fr i hi hk hF
  · rw[B.fr n (Nat.lt_succ_self _) hne hFn,Heap.upd_same]
end Go.Proofs.Joy
namespace Go.Proofs.Joy
open Go.Ab
set_option maxHeartbeats 1000000
def getO (r:Rg) (m:Str):BitVec 8:=
  if m==[65#8] then r.a else if m==[70#8] then r.f else if m==[66#8] then r.b else if m==[67#8] then r.c else if m==[68#8] then r.d else if m==[69#8] then r.e else if m==[72#8] then hiS (joinS r.h r.l) else if m==[76#8] then loS (joinS r.h r.l)
  else if m==[73#8,88#8,72#8] then hiS r.ix else if m==[73#8,88#8,76#8] then loS r.ix else if m==[73#8,89#8,72#8] then hiS r.iy else if m==[73#8,89#8,76#8] then loS r.iy else if m==[73#8] then r.i else if m==[82#8] then r.r else loS (getB r m)
def setO (r:Rg) (m:Str) (v:BitVec 8):Rg:=
  if m==[65#8] then { r with a:=v} else if m==[70#8] then { r with f:=v} else if m==[66#8] then { r with b:=v} else if m==[67#8] then { r with c:=v} else if m==[68#8] then { r with d:=v} else if m==[69#8] then { r with e:=v} else if m==[72#8] then { r with h:=hiS (joinS v (loS (joinS r.h r.l))),l:=loS (joinS v (loS (joinS r.h r.l)))} else if m==[76#8] then { r with h:=hiS (joinS (hiS (joinS r.h r.l)) v),l:=loS (joinS (hiS (joinS r.h r.l)) v)}
  else if m==[73#8,88#8,72#8] then { r with ix:=joinS v (loS r.ix)} else if m==[73#8,88#8,76#8] then { r with ix:=joinS (hiS r.ix) v} else if m==[73#8,89#8,72#8] then { r with iy:=joinS v (loS r.iy)} else if m==[73#8,89#8,76#8] then { r with iy:=joinS (hiS r.iy) v} else if m==[73#8] then { r with i:=v} else if m==[82#8] then { r with r:=v} else setB r m (v.setWidth 16)
theorem getO_eq (r:Rg) (m:Str) (hm:okN m=true):loS (getB r m)=getO r m:=by
  unfold okN at hm
  rw[Bool.or_eq_true] at hm
  rcases hm with hm | hm
  · rcases ok1_cases hm with rfl | rfl | rfl | rfl | rfl | rfl | rfl | rfl | rfl | rfl | rfl | rfl | rfl | rfl | rfl | rfl | rfl <;> simp +decide only[getB,getO,if_true,if_false,lo_w,hi_join,lo_join]
  · rcases ok2_cases hm with rfl | rfl | rfl | rfl <;> simp +decide only[getO,if_true,if_false]
theorem setO_eq (r:Rg) (m:Str) (v:BitVec 8) (hm:okN m=true):setB r m (v.setWidth 16)=setO r m v:=by
  unfold okN at hm
  rw[Bool.or_eq_true] at hm
  rcases hm with hm | hm
  · rcases ok1_cases hm with rfl | rfl | rfl | rfl | rfl | rfl | rfl | rfl | rfl | rfl | rfl | rfl | rfl | rfl | rfl | rfl | rfl <;> simp +decide only[setB,setO,if_true,if_false,lo_w,hi_join,lo_join]
  · rcases ok2_cases hm with rfl | rfl | rfl | rfl <;> simp +decide only[setO,if_true,if_false]
def metN (f:BitVec 8) (m:Str):Bool:=
  if m==[78#8,90#8] then metR f 0 else if m==[90#8] then metR f 1 else if m==[78#8,67#8] then metR f 2 else if m==[67#8] then metR f 3 else if m==[80#8,79#8] then metR f 4 else if m==[80#8,69#8] then metR f 5 else if m==[80#8] then metR f 6 else metR f 7
theorem met_eq (f:BitVec 8) (m:Str):metB f m=metN f m:=by
  have h0:∀f:BitVec 8,(!(f / 64#8%2#8==1#8))=metR f 0:=by decide +kernel
  have h1:∀f:BitVec 8,(f / 64#8%2#8==1#8)=metR f 1:=by decide +kernel
  have h2:∀f:BitVec 8,(!(f%2#8==1#8))=metR f 2:=by decide +kernel
  have h3:∀f:BitVec 8,(f%2#8==1#8)=metR f 3:=by decide +kernel
  have h4:∀f:BitVec 8,(!(f / 4#8%2#8==1#8))=metR f 4:=by decide +kernel
  have h5:∀f:BitVec 8,(f / 4#8%2#8==1#8)=metR f 5:=by decide +kernel
  have h6:∀f:BitVec 8,(!(f / 128#8==1#8))=metR f 6:=by decide +kernel
  have h7:∀f:BitVec 8,(f / 128#8==1#8)=metR f 7:=by decide +kernel
  unfold metB metN
  rw[h0,h1,h2,h3,h4,h5,h6,h7]
def memB (m:Str):Bool:=m==[40#8,72#8,76#8,41#8]||m==[40#8,73#8,88#8,43#8,100#8,41#8]||m==[40#8,73#8,89#8,43#8,100#8,41#8]
def XC.reg (c:XC) (r:Rg):XC:={ c with r:=r}
def XC.setF (c:XC) (f:BitVec 8):XC:={ c with r:={ c.r with f:=f}}
def XC.setAF (c:XC) (x:BitVec 8×BitVec 8):XC:={ c with r:={ c.r with a:=x.1,f:=x.2}}
def XC.wz (c:XC) (a:BitVec 16):XC:={ c with r:={ c.r with wz:=a}}
def XC.go (c:XC) (a:BitVec 16):XC:={ c with r:={ c.r with pc:=a,wz:=a}}
def xNext:XM (BitVec 8):=fun c=>(rdE c.r.pc).bind fun v=>.ret (v,{ c with r:={ c.r with pc:=c.r.pc+1#16}})
def xFetch:XM (BitVec 8):=fun c=>xNext { c with r:=tickR c.r}
def xWord:XM (BitVec 16):=fun c=>(xNext c).bind fun lo=>(xNext lo.2).bind fun hi=>.ret (joinS hi.1 lo.1,hi.2)
def xLoad (a:BitVec 16):XM (BitVec 16):=fun c=>(rdE a).bind fun lo=>(rdE (a+1#16)).bind fun hi=>.ret (joinS hi lo,c)
def xStore (a v:BitVec 16):XM Unit:=fun c=>(wrE a (loS v)).bind fun _=>(wrE (a+1#16) (hiS v)).bind fun _=>.ret ((),c)
def xPush (v:BitVec 16):XM Unit:=fun c=>(wrE (c.r.sp-1#16) (hiS v)).bind fun _=>(wrE (c.r.sp-1#16-1#16) (loS v)).bind fun _=>.ret ((),{ c with r:={ c.r with sp:=c.r.sp-1#16-1#16}})
def xPop:XM (BitVec 16):=fun c=>(xLoad c.r.sp c).bind fun v=>.ret (v.1,{ c with r:={ c.r with sp:=c.r.sp+2#16}})
def xByte (m:Str):XM (BitVec 8):=fun c=>
  if m==[110#8] then xNext c else if memB m then(rdE c.to).bind fun v=>.ret (v,c)
  else if m==[40#8,66#8,67#8,41#8]||m==[40#8,68#8,69#8,41#8] then(rdE (getB c.r ((m.drop 1).take 2))).bind fun v=>.ret (v,c) else .ret (getO c.r m,c)
def xPut (m:Str) (v:BitVec 8):XM Unit:=fun c=>
  if memB m then(wrE c.to v).bind fun _=>.ret ((),c)
  else if m==[40#8,66#8,67#8,41#8]||m==[40#8,68#8,69#8,41#8] then(wrE (getB c.r ((m.drop 1).take 2)) v).bind fun _=>.ret ((),c) else .ret ((),{ c with r:=setO c.r m v})
def xBy (c:XC) (m:Str) (plain there far:Nat):Nat:=if memB m=false then plain else if c.idx then far else there
def xPoint (m:Str):XM Unit:=fun c=>(xNext c).bind fun d=>
  .ret ((),{ d.2 with to:=moveS (getB c.r m) d.1,idx:=true,r:={ d.2.r with wz:=moveS (getB c.r m) d.1}})
def xLdThere (a b:Str):XM Nat:=fun c=>(xWord c).bind fun t=>
  let c1:=t.2.wz (t.1+1#16)
  let n:=if c.pg=2 then 20 else 16
  let thing:=if a==[40#8,110#8,110#8,41#8] then b else a
  if thing==[65#8] then
    if a==[65#8] then(rdE t.1).bind fun v=>.ret (13,{ c1 with r:={ c1.r with a:=v}})
    else(wrE t.1 c1.r.a).bind fun _=>.ret (13,c1.wz (joinS c1.r.a (loS (t.1+1#16))))
  else if a==[40#8,110#8,110#8,41#8] then(xStore t.1 (getB c1.r b) c1).bind fun x=>.ret (n,x.2)
  else(xLoad t.1 c1).bind fun v=>.ret (n,v.2.reg (setB v.2.r a v.1))
def xLd (a b:Str):XM Nat:=fun c=>
  if a==[40#8,110#8,110#8,41#8]||b==[40#8,110#8,110#8,41#8] then xLdThere a b c
  else if a==[83#8,80#8]&&b !=[110#8,110#8] then .ret (6,c.reg (setB c.r [83#8,80#8] (getB c.r b)))
  else if b==[110#8,110#8] then(xWord c).bind fun w=>.ret (10,w.2.reg (setB w.2.r a w.1))
  else if a==[73#8]||a==[82#8]||b==[73#8]||b==[82#8] then
    let c1:=c.reg (setO c.r a (getO c.r b))
    if a==[65#8] then .ret (9,c1.setF (if c1.r.iff2 then(c1.r.f&&&1#8|||shapeS c1.r.a)|||4#8 else c1.r.f&&&1#8|||shapeS c1.r.a)) else .ret (9,c1)
  else if a==[40#8,66#8,67#8,41#8]||a==[40#8,68#8,69#8,41#8] then(xPut a c.r.a c).bind fun x=>.ret (7,x.2.wz (joinS x.2.r.a (loS (getB x.2.r ((a.drop 1).take 2)+1#16))))
  else if b==[40#8,66#8,67#8,41#8]||b==[40#8,68#8,69#8,41#8] then
    let c1:=c.wz (getB c.r ((b.drop 1).take 2)+1#16)
    (xByte b c1).bind fun v=>.ret (7,{ v.2 with r:={ v.2.r with a:=v.1}})
  else(xByte b c).bind fun v=>(xPut a v.1 v.2).bind fun x=>
    .ret (if b==[110#8] then xBy x.2 a 7 10 15 else if memB b then xBy x.2 b 4 7 15 else xBy x.2 a 4 7 15,x.2)
def xCount (m a:Str):XM Nat:=fun c=>
  if pairB a then .ret (6,c.reg (setB c.r a (if m==[73#8,78#8,67#8] then getB c.r a+1#16 else getB c.r a+1#16-2#16)))
  else(xByte a c).bind fun v=>
    let t:=if m==[68#8,69#8,67#8] then decS v.1 v.2.r.f else incS v.1 v.2.r.f
    (xPut a t.1 v.2).bind fun x=>.ret (xBy x.2 a 4 11 19,x.2.setF t.2)
def sumI (m:Str):Nat:=if m==[65#8,68#8,68#8] then 0 else if m==[65#8,68#8,67#8] then 1 else if m==[83#8,85#8,66#8] then 2 else if m==[83#8,66#8,67#8] then 3 else if m==[65#8,78#8,68#8] then 4 else if m==[88#8,79#8,82#8] then 5 else if m==[79#8,82#8] then 6 else 7
def xSum (m a b:Str):XM Nat:=fun c=>
  if pairB a then
    let v:=getB c.r a
    let w:=getB c.r b
    let c1:=c.wz (v+1#16)
    let t:=if m==[65#8,68#8,68#8] then add16 v w c1.r.f else if m==[65#8,68#8,67#8] then adc16 v w c1.r.f else sbc16 v w c1.r.f
    .ret (if m==[65#8,68#8,68#8] then 11 else 15,(c1.reg (setB c1.r a t.1)).setF t.2)
  else
    let thing:=if b !=[] then b else a
    (xByte thing c).bind fun v=>.ret (if thing==[110#8] then 7 else xBy v.2 thing 4 7 15,v.2.setAF (doS (sumI m) c.r.a v.1 c.r.f))
def rstN:Str→Nat→Nat
  | [],n=>n
  | c :: r,n=>rstN r (10*n+(c.toNat-48))
def xJump (m a b:Str):XM Nat:=fun c=>
  let met:=if b !=[] then metN c.r.f a else true
  let where_:=if b !=[] then b else a
  if m==[74#8,80#8] then
    if where_ !=[110#8,110#8] then .ret (4,{ c with r:={ c.r with pc:=getB c.r ((where_.drop 1).take 2)}})
    else(xWord c).bind fun w=>let c1:=w.2.wz w.1; .ret (10,if met then { c1 with r:={ c1.r with pc:=w.1}} else c1)
  else if m==[67#8,65#8,76#8,76#8] then(xWord c).bind fun w=>
    let c1:=w.2.wz w.1
    if met=false then .ret (10,c1) else(xPush c1.r.pc c1).bind fun x=>.ret (17,{ x.2 with r:={ x.2.r with pc:=x.2.r.wz}})
  else if m==[74#8,82#8]||m==[68#8,74#8,78#8,90#8] then
    let c1:XC:=if m==[68#8,74#8,78#8,90#8] then { c with r:={ c.r with b:=c.r.b-1#8}} else c
    let met2:=if m==[68#8,74#8,78#8,90#8] then c1.r.b !=0#8 else met
    let s:=if m==[68#8,74#8,78#8,90#8] then 8 else 7
    (xNext c1).bind fun e=>if met2=false then .ret (s,e.2) else .ret (s+5,e.2.go (moveS e.2.r.pc e.1))
  else if m==[82#8,83#8,84#8] then(xPush c.r.pc c).bind fun x=>.ret (11,x.2.go (BitVec.ofNat 16 (rstN a 0)))
  else if m==[82#8,69#8,84#8,78#8]||m==[82#8,69#8,84#8,73#8] then(xPop c).bind fun v=>
    let c1:=v.2.go v.1
    .ret (14,{ c1 with r:={ c1.r with iff1:=c1.r.iff2}})
  else if a==[] then(xPop c).bind fun v=>.ret (10,v.2.go v.1)
  else if metN c.r.f a=false then .ret (5,c) else(xPop c).bind fun v=>.ret (11,v.2.go v.1)
def xSwap (m a b:Str):XM Nat:=fun c=>
  if m==[69#8,88#8,88#8] then .ret (4,c.reg (swapR c.r true)) else if a==[65#8,70#8] then .ret (4,c.reg (swapR c.r false))
  else if a==[68#8,69#8] then .ret (4,{ c with r:={ c.r with d:=c.r.h,e:=c.r.l,h:=c.r.d,l:=c.r.e}})
  else(xLoad c.r.sp c).bind fun v=>(xStore v.2.r.sp (getB v.2.r b) v.2).bind fun x=>.ret (19,(x.2.reg (setB x.2.r b v.1)).wz v.1)
def xPort (m a b:Str):XM Nat:=fun c=>
  if a==[40#8,110#8,41#8]||b==[40#8,110#8,41#8] then(xNext c).bind fun n=>
    let port:=joinS n.2.r.a n.1
    if m==[79#8,85#8,84#8] then(outE port n.2.r.a 8).bind fun _=>.ret (11,n.2.wz (joinS n.2.r.a (n.1+1#8)))
    else
      let c1:=n.2.wz (port+1#16)
      (inE port 8).bind fun v=>.ret (11,{ c1 with r:={ c1.r with a:=v}})
  else
    let bc:=joinS c.r.b c.r.c
    let c1:=c.wz (bc+1#16)
    if m==[79#8,85#8,84#8] then(outE bc (if b !=[48#8] then getO c1.r b else 0#8) 9).bind fun _=>.ret (12,c1)
    else(inE bc 9).bind fun v=>
      let c2:=c1.setF (toldS v c1.r.f)
      .ret (12,if b !=[] then c2.reg (setO c2.r a v) else c2)
def rotI (m:Str):Nat:=if m==[82#8,76#8,67#8] then 0 else if m==[82#8,82#8,67#8] then 1 else if m==[82#8,76#8] then 2 else if m==[82#8,82#8] then 3 else if m==[83#8,76#8,65#8] then 4 else if m==[83#8,82#8,65#8] then 5 else if m==[83#8,76#8,76#8] then 6 else 7
def xPuts:List Str→BitVec 8→XM Unit
  | [],_=>fun c=>.ret ((),c)
  | x :: l,v=>fun c=>(xPut x v c).bind fun y=>xPuts l v y.2
def xBits (ts:List Str) (m:Str):XM Nat:=fun c=>
  let k:=m==[66#8,73#8,84#8]||m==[82#8,69#8,83#8]||m==[83#8,69#8,84#8]
  let n:=if k then(((ts.getD 0 []).getD 0 0#8).toNat-48) else 0
  let things:=if k then ts.drop 1 else ts
  (xByte (things.getD 0 []) c).bind fun v=>
    let from_:=if memB (things.getD 0 []) then hiS v.2.r.wz else v.1
    if m==[66#8,73#8,84#8] then .ret (xBy v.2 (things.getD 0 []) 8 12 16,v.2.setF (bitS8 n v.1 v.2.r.f from_))
    else
      let w:=if k then putS8 n v.1 (m==[83#8,69#8,84#8]) else(rotS (rotI m) v.1 v.2.r.f).1
      let c1:=if k then v.2 else v.2.setF (rotS (rotI m) v.1 v.2.r.f).2
      (xPuts things w c1).bind fun x=>.ret (xBy x.2 (things.getD 0 []) 8 15 19,x.2)
def xAlone (m:Str):XM Nat:=fun c=>
  .ret (4,if m==[82#8,76#8,67#8,65#8] then c.setAF (quickS 0 c.r.a c.r.f) else if m==[82#8,82#8,67#8,65#8] then c.setAF (quickS 1 c.r.a c.r.f) else if m==[82#8,76#8,65#8] then c.setAF (quickS 2 c.r.a c.r.f) else if m==[82#8,82#8,65#8] then c.setAF (quickS 3 c.r.a c.r.f)
    else if m==[68#8,65#8,65#8] then c.setAF (daaS c.r.a c.r.f) else if m==[67#8,80#8,76#8] then c.setAF (flipS 0 c.r.a c.r.f) else if m==[83#8,67#8,70#8] then c.setAF (flipS 1 c.r.a c.r.f) else if m==[67#8,67#8,70#8] then c.setAF (flipS 2 c.r.a c.r.f)
    else if m==[72#8,65#8,76#8,84#8] then { c with r:={ c.r with hlt:=true}} else if m==[68#8,73#8]||m==[69#8,73#8] then { c with r:={ c.r with iff1:=m==[69#8,73#8],iff2:=m==[69#8,73#8],dly:=m==[69#8,73#8]}} else c)
def downB (m:Str):Bool:=m==[76#8,68#8,68#8]||m==[76#8,68#8,68#8,82#8]||m==[67#8,80#8,68#8]||m==[67#8,80#8,68#8,82#8]||m==[73#8,78#8,68#8]||m==[73#8,78#8,68#8,82#8]||m==[79#8,85#8,84#8,68#8]||m==[79#8,84#8,68#8,82#8]
def xManyP (k:Nat) (by_:BitVec 16) (again:Bool):XM Nat:=fun c=>
  let hl:=joinS c.r.h c.r.l
  let bc:=joinS c.r.b c.r.c
  let fin:Bool→Bool→XC→Eff (Nat×XC):=fun ls on c=>
    let c1:XC:={ c with r:={ c.r with h:=hiS (hl+by_),l:=loS (hl+by_)}}
    if again=false∨on=false then .ret (16,c1)
    else
      let c2:XC:={ c1 with r:={ c1.r with pc:=c1.r.pc-2#16}}
      .ret (21,if ls then c2.wz (c2.r.pc+1#16) else c2)
  if k=0 then(rdE hl).bind fun v=>(wrE (joinS c.r.d c.r.e) v).bind fun _=>
    let c1:XC:={ c with r:={ c.r with d:=hiS (joinS c.r.d c.r.e+by_),e:=loS (joinS c.r.d c.r.e+by_),b:=hiS (bc-1#16),c:=loS (bc-1#16)}}
    fin true (bc !=1#16) (c1.setF (repLoad c1.r.a v c1.r.f (bc-1#16)))
  else if k=1 then
    let c1:XC:={ c with r:={ c.r with wz:=c.r.wz+by_,b:=hiS (bc-1#16),c:=loS (bc-1#16)}}
    (rdE hl).bind fun v=>fin true (repSeek c1.r.a v c1.r.f (bc-1#16)).2 (c1.setF (repSeek c1.r.a v c1.r.f (bc-1#16)).1)
  else if k=2 then
    let c1:=c.wz (bc+by_)
    (inE bc 13).bind fun v=>(wrE hl v).bind fun _=>
      let c2:XC:={ c1 with r:={ c1.r with b:=c1.r.b-1#8}}
      fin false (c2.r.b !=0#8) (c2.setF (repPort v (c2.r.c+loS by_) c2.r.b))
  else(rdE hl).bind fun v=>
    let c2:XC:={ c with r:={ c.r with b:=c.r.b-1#8}}
    (outE (joinS c2.r.b c2.r.c) v 13).bind fun _=>
      let c3:=c2.wz (joinS c2.r.b c2.r.c+by_)
      fin false (c3.r.b !=0#8) (c3.setF (repPort v (loS (hl+by_)) c3.r.b))
def manyI (m:Str):Nat:=if m.take 2==[76#8,68#8] then 0 else if m.take 2==[67#8,80#8] then 1 else if m.getD 0 0#8==73#8 then 2 else 3
def xMany (m:Str):XM Nat:=xManyP (manyI m) (if downB m then ~~~0#16 else 1#16) (m.getD (m.length-1) 0#8==82#8)
def xExt (m a:Str):XM Nat:=fun c=>
  if m==[78#8,69#8,71#8] then .ret (8,c.setAF (subS 0#8 c.r.a false)) else if m==[73#8,77#8] then .ret (8,{ c with r:={ c.r with im:=a.getD 0 0#8-48#8}})
  else if m==[82#8,82#8,68#8]||m==[82#8,76#8,68#8] then
    let t:=joinS c.r.h c.r.l
    let c1:XC:={ (c.wz (t+1#16)) with to:=t}
    (rdE t).bind fun v=>
      let d:=digitsS (m==[82#8,76#8,68#8]) c1.r.a v c1.r.f
      (wrE t d.2.1).bind fun _=>.ret (18,c1.setAF (d.1,d.2.2))
  else if m==[78#8,79#8,80#8] then .ret (8,c) else xMany m c
def wordsN (s:Str):List Str:=splitS s 32#8
def partsN (s:Str):List Str:=splitS ((wordsN s).getD 1 []) 44#8
def xRun (s:Str) (pg:Nat):XM Nat:=fun c0=>
  let c:XC:={ c0 with pg:=pg}
  let m:=(wordsN s).getD 0 []
  let a:=if 1<(wordsN s).length then(partsN s).getD 0 [] else []
  let b:=if 1<(wordsN s).length then(partsN s).getD 1 [] else []
  if m==[76#8,68#8] then xLd a b c else if m==[73#8,78#8,67#8]||m==[68#8,69#8,67#8] then xCount m a c
  else if m==[65#8,68#8,68#8]||m==[65#8,68#8,67#8]||m==[83#8,85#8,66#8]||m==[83#8,66#8,67#8]||m==[65#8,78#8,68#8]||m==[88#8,79#8,82#8]||m==[79#8,82#8]||m==[67#8,80#8] then xSum m a b c
  else if m==[74#8,80#8]||m==[74#8,82#8]||m==[68#8,74#8,78#8,90#8]||m==[67#8,65#8,76#8,76#8]||m==[82#8,69#8,84#8]||m==[82#8,83#8,84#8]||m==[82#8,69#8,84#8,78#8]||m==[82#8,69#8,84#8,73#8] then xJump m a b c
  else if m==[80#8,85#8,83#8,72#8] then(xPush (getB c.r a) c).bind fun x=>.ret (11,x.2)
  else if m==[80#8,79#8,80#8] then(xPop c).bind fun v=>.ret (10,v.2.reg (setB v.2.r a v.1))
  else if m==[69#8,88#8]||m==[69#8,88#8,88#8] then xSwap m a b c else if m==[73#8,78#8]||m==[79#8,85#8,84#8] then xPort m a b c
  else if m==[82#8,76#8,67#8]||m==[82#8,82#8,67#8]||m==[82#8,76#8]||m==[82#8,82#8]||m==[83#8,76#8,65#8]||m==[83#8,82#8,65#8]||m==[83#8,76#8,76#8]||m==[83#8,82#8,76#8]||m==[66#8,73#8,84#8]||m==[82#8,69#8,83#8]||m==[83#8,69#8,84#8] then xBits (partsN s) m c
  else if pg=2 then xExt m a c else xAlone m c
def xDo (pg:Nat) (op:BitVec 8):XM Nat:=fun c=>
  let s:=patS pg op
  (if(pg=3∨pg=4)∧hasS s [43#8,100#8]=true then xPoint (if pg=3 then [73#8,88#8] else [73#8,89#8]) c else .ret ((),c)).bind fun x=>
    xRun s pg (if hasS s [40#8,72#8,76#8,41#8] then { x.2 with to:=joinS x.2.r.h x.2.r.l} else x.2)
def xStep (r:Rg):Eff (Rg×Nat):=
  if r.hlt then .ret (tickR r,4) else
  (xFetch ⟨{ r with dly:=false,pre:=0#8},0#16,false,0⟩).bind fun op=>
    if op.1==0xDD#8||op.1==0xFD#8 then .ret ({ op.2.r with pre:=op.1},4)
    else if op.1==0xED#8 then(xFetch op.2).bind fun o2=>(xDo 2 o2.1 o2.2).bind fun x=>.ret (x.2.r,x.1)
    else if op.1==0xCB#8 then
      if r.pre==0#8 then(xFetch op.2).bind fun o2=>(xDo 1 o2.1 o2.2).bind fun x=>.ret (x.2.r,x.1)
      else(xPoint (if r.pre==0xDD#8 then [73#8,88#8] else [73#8,89#8]) op.2).bind fun p=>(xNext p.2).bind fun o2=>(xDo (if r.pre==0xDD#8 then 5 else 6) o2.1 o2.2).bind fun x=>.ret (x.2.r,x.1)
    else(xDo (if r.pre==0#8 then 0 else if r.pre==0xDD#8 then 3 else 4) op.1 op.2).bind fun x=>.ret (x.2.r,x.1)
def xInter (r:Rg) (pause line:Bool):Eff (Rg×Nat):=
  if(r.pre !=0#8)||(!pause&&(!line||!r.iff1||r.dly)) then .ret (r,0) else
  (xPush (tickR r).pc ⟨{ (tickR r) with hlt:=false,iff1:=false},0#16,false,0⟩).bind fun x=>
    if pause then .ret ((x.2.go 0x66#16).r,11) else
      let c1:XC:={ x.2 with r:={ x.2.r with iff2:=false}}
      let c2:=c1.go 0x38#16
      if r.im==2#8 then(xLoad (joinS r.i 0xFF#8) c2).bind fun v=>.ret ((v.2.go v.1).r,19) else .ret (c2.r,13)
end Go.Proofs.Joy
namespace Go.Proofs.Joy
open Go.Ab
set_option maxHeartbeats 1000000
theorem getSP (r:Rg):getB r [83#8,80#8]=r.sp:=rfl
theorem setSP (r:Rg) (v:BitVec 16):setB r [83#8,80#8] v={ r with sp:=v}:=rfl
theorem getHL (r:Rg):getB r [72#8,76#8]=joinS r.h r.l:=rfl
theorem getDE (r:Rg):getB r [68#8,69#8]=joinS r.d r.e:=rfl
theorem wrap_up (a:BitVec 16) (m:Int) (hm:0≤m∧m≤1000):wrap64 ((a.toNat:Int)+m)=(a.toNat:Int)+m:=by
  have:=a.isLt
  exact wrap_id _ (by omega) (by omega)
theorem wrap_dn (a:BitVec 16) (m:Int) (hm:0≤m∧m≤1000):wrap64 ((a.toNat:Int)-m)=(a.toNat:Int)-m:=by
  have:=a.isLt
  exact wrap_id _ (by omega) (by omega)
theorem int_up1 (a:BitVec 16):BitVec.ofInt 16 ((a.toNat:Int)+1)=a+1#16:=by
  have:=a_next a
  rwa [wrap_up a 1 (by decide)] at this
theorem int_up2 (a:BitVec 16):BitVec.ofInt 16 ((a.toNat:Int)+2)=a+2#16:=by
  rw[show(a.toNat:Int)+2=((a.toNat+2:Nat):Int) by omega]
  show BitVec.ofNat 16 (a.toNat+2)=_
  apply BitVec.eq_of_toNat_eq
  simp[BitVec.toNat_add]
theorem int_dn1 (a:BitVec 16):BitVec.ofInt 16 ((a.toNat:Int)-1)=a-1#16:=by
  apply BitVec.eq_of_toNat_eq
  have:=a.isLt
  rw[BitVec.toNat_ofInt,BitVec.toNat_sub]
  simp only[BitVec.toNat_ofNat]
  omega
theorem up_dn (a:BitVec 16):a+1#16-2#16=a-1#16:=by
  apply BitVec.eq_of_toNat_eq
  have:=a.isLt
  simp only[BitVec.toNat_sub,BitVec.toNat_add,BitVec.toNat_ofNat]
  omega
theorem nat_b (a:BitVec 16):(a.toNat:Int)≤65535∧0≤(a.toNat:Int):=by have:=a.isLt; omega
theorem nat_b8 (a:BitVec 8):(a.toNat:Int)≤255∧0≤(a.toNat:Int):=by have:=a.isLt; omega
def okT (m:Str):Bool:=m==[110#8]||memB m||m==[40#8,66#8,67#8,41#8]||m==[40#8,68#8,69#8,41#8]||okN m
theorem byte_lo (v:BitVec 16):BitVec.ofInt 8 (v.toNat:Int)=loS v:=by
  show BitVec.ofNat 8 v.toNat=_
  unfold loS
  apply BitVec.eq_of_toNat_eq
  simp
theorem int_w8 (v:BitVec 8):BitVec.ofInt 16 (v.toNat:Int)=v.setWidth 16:=by
  show BitVec.ofNat 16 v.toNat=_
  apply BitVec.eq_of_toNat_eq
  have:=v.isLt
  simp
theorem lo_next (a:BitVec 16):BitVec.ofInt 8 ((wrap64 ((a.toNat:Int)+1)).tmod 256)=loS (a+1#16):=by
  have:=a.isLt
  rw[wrap_up a 1 ⟨by decide,by decide⟩,show(a.toNat:Int)+1=((a.toNat+1:Nat):Int) by omega,show((a.toNat+1:Nat):Int).tmod 256=(((a.toNat+1)%256:Nat):Int) from rfl]
  show BitVec.ofNat 8 _=_
  unfold loS
  apply BitVec.eq_of_toNat_eq
  simp[BitVec.toNat_add]
def okLd (a b:Str):Bool:=
  if a==[40#8,110#8,110#8,41#8]||b==[40#8,110#8,110#8,41#8] then okN (if a==[40#8,110#8,110#8,41#8] then b else a)
  else if a==[83#8,80#8]&&b !=[110#8,110#8] then okN b
  else if b==[110#8,110#8] then okN a
  else if a==[73#8]||a==[82#8]||b==[73#8]||b==[82#8] then okN a&&okN b
  else if a==[40#8,66#8,67#8,41#8]||a==[40#8,68#8,69#8,41#8] then true
  else if b==[40#8,66#8,67#8,41#8]||b==[40#8,68#8,69#8,41#8] then true
  else okT a&&okT b&&!(a==[110#8])
theorem setIR (r:Rg) (a b:Str) (h:(a==[73#8])=true∨(a==[82#8])=true∨(b==[73#8])=true∨(b==[82#8])=true) (ha:okN a=true) (hb:okN b=true):setB r a (getB r b)=setO r a (getO r b):=by
  rcases h with h | h | h | h
  · obtain rfl:=eq_of_beq h
    rw[← getO_eq r b hb]; rfl
  · obtain rfl:=eq_of_beq h
    rw[← getO_eq r b hb]; rfl
  · obtain rfl:=eq_of_beq h
    exact setO_eq r a r.i ha
  · obtain rfl:=eq_of_beq h
    exact setO_eq r a r.r ha
theorem ldai_plain (v f:BitVec 8) (p:Bool):byteF (decide (128#8≤v)) (v==0#8) (v / 32#8%2#8==1#8) false (v / 8#8%2#8==1#8) p false (f%2#8==1#8)=if p then(f&&&1#8|||shapeS v)|||4#8 else f&&&1#8|||shapeS v:=by
  rw[flags_or,← shape_bits,← c_1]
  have h1:∀s x:BitVec 8,s|||x=x|||s:=fun s x=>BitVec.or_comm s x
  cases p
  · simp[BitVec.or_comm]
  · simp[BitVec.or_comm]
theorem getB8 (r:Rg):(getB r [66#8]).toNat=r.b.toNat:=by
  show(r.b.setWidth 16).toNat=_
  have:=r.b.isLt
  rw[BitVec.toNat_setWidth]
  omega
theorem dec_b (b:BitVec 8):(wrap64 ((b.toNat:Int)+255)).tmod 256=((b-1#8).toNat:Int):=by
  have:=b.isLt
  rw[wrap_id _ (by omega) (by omega),show(b.toNat:Int)+255=((b.toNat+255:Nat):Int) by omega,show((b.toNat+255:Nat):Int).tmod 256=(((b.toNat+255)%256:Nat):Int) from rfl,BitVec.toNat_sub]
  simp only[BitVec.toNat_ofNat]
  omega
theorem pos8 (x:BitVec 8):decide (0#8<x)=(x !=0#8):=by
  have:∀x:BitVec 8,decide (0#8<x)=(x !=0#8):=by decide +kernel
  exact this x
theorem rstN_app (l:Str) (x:BitVec 8):∀n,rstN (l++[x]) n=10*rstN l n+(x.toNat-48):=by
  induction l with
  | nil=>intro n; rfl
  | cons y l ih=>intro n; exact ih _
theorem rstN_step {a:Str} {j:Nat} (h:j<a.length):rstN (a.take (j+1)) 0=10*rstN (a.take j) 0+((a.getD j 0#8).toNat-48):=by
  rw[List.take_succ_eq_append_getElem h,rstN_app]
  simp[List.getD_eq_getElem?_getD,h]
theorem rstN_lt (l:Str) (hl:∀x∈l,x.toNat≤57):∀n,rstN l n<(n+1)*10 ^ l.length:=by
  induction l with
  | nil=>intro n; simp[rstN]
  | cons y l ih=>
    intro n
    have hy:=hl y List.mem_cons_self
    have:=ih (fun x hx=>hl x (List.mem_cons_of_mem _ hx)) (10*n+(y.toNat-48))
    refine Nat.lt_of_lt_of_le this ?_
    rw[List.length_cons,Nat.pow_succ,Nat.mul_comm _ 10,← Nat.mul_assoc]
    exact Nat.mul_le_mul_right _ (by omega)
theorem sub48 (x:BitVec 8) (h:48≤x.toNat):(x-48#8).toNat=x.toNat-48:=by
  have:=x.isLt
  rw[BitVec.toNat_sub]
  simp only[BitVec.toNat_ofNat]
  omega
theorem swapDE (r:Rg):setB (setB r [68#8,69#8] (getB r [72#8,76#8])) [72#8,76#8] (getB r [68#8,69#8])={ r with d:=r.h,e:=r.l,h:=r.d,l:=r.e}:=by
  simp +decide only[setB,getB,if_true,if_false,hi_join,lo_join]
theorem lo_next8 (a:BitVec 8):BitVec.ofInt 8 ((wrap64 ((a.toNat:Int)+1)).tmod 256)=a+1#8:=by
  have:=a.isLt
  rw[wrap_id _ (by omega) (by omega),show(a.toNat:Int)+1=((a.toNat+1:Nat):Int) by omega,show((a.toNat+1:Nat):Int).tmod 256=(((a.toNat+1)%256:Nat):Int) from rfl]
  show BitVec.ofNat 8 _=_
  apply BitVec.eq_of_toNat_eq
  simp[BitVec.toNat_add]
theorem setB8 (r:Rg) (v:BitVec 8):setB r [66#8] (BitVec.ofInt 16 (v.toNat:Int))={ r with b:=v}:=by
  rw[int_w8]
  simp +decide only[setB,if_true,if_false,lo_w]
end Go.Proofs.Joy
namespace Go.Proofs.Joy
open Go.Ab Go.Proofs
set_option maxHeartbeats 2000000
set_option maxRecDepth 20000
abbrev AXC {σ:Type} (W:WC Tryz.prog σ) (H0:Heap) (n0:Nat) (F0:Nat→Prop) (k:Nat) (c:XC) (s:σ) (H:Heap) (n:Nat):Prop:=AX W 69 H0 n0 F0 k c s H n
structure MX {σ:Type} (W:WC Tryz.prog σ):Prop where
  r:W.kr=66
  w:W.kw=89
  i:W.ki=145
  o:W.ko=144
section
variable {σ:Type} {W:WC Tryz.prog σ} {H0:Heap} {n0:Nat} {F0:Nat→Prop} {k:Nat} {c:XC} {s:σ} {H:Heap} {n:Nat} {K:AV→Heap→Nat→Prop} (M:MX W)
include M
theorem x_rd (A:AXC W H0 n0 F0 k c s H n) (a:BitVec 16) (hl:1≤W.left s) (h:∀v s' H' n',(rdE a).run W.O s=(v,s')→W.left s≤W.left s'+1→AXC W H0 n0 F0 k c s' H' n'→K (.u8 v) H' n'):ACalls Tryz.prog 66 [W.v,.u16 a] H n K:=by
  rw[← M.r]; exact A.rd hl h
theorem x_wr (A:AXC W H0 n0 F0 k c s H n) (a:BitVec 16) (x:BitVec 8) (hl:1≤W.left s) (h:∀s' H' n',(wrE a x).run W.O s=((),s')→W.left s≤W.left s'+1→AXC W H0 n0 F0 k c s' H' n'→K (.tu []) H' n'):ACalls Tryz.prog 89 [W.v,.u16 a,.u8 x] H n K:=by
  rw[← M.w]; exact A.wr hl h
theorem x_in (A:AXC W H0 n0 F0 k c s H n) (p:BitVec 16) (u:Int) (hu:0≤u∧u≤100) (hl:1≤W.left s) (h:∀v s' H' n',(inE p u).run W.O s=(v,s')→W.left s≤W.left s'+1→AXC W H0 n0 F0 k c s' H' n'→K (.u8 v) H' n'):ACalls Tryz.prog 145 [W.v,.u16 p,.i64 u] H n K:=by
  rw[← M.i]; exact A.ip hu hl h
theorem x_out (A:AXC W H0 n0 F0 k c s H n) (p:BitVec 16) (x:BitVec 8) (u:Int) (hu:0≤u∧u≤100) (hl:1≤W.left s) (h:∀s' H' n',(outE p x u).run W.O s=((),s')→W.left s≤W.left s'+1→AXC W H0 n0 F0 k c s' H' n'→K (.tu []) H' n'):ACalls Tryz.prog 144 [W.v,.u16 p,.u8 x,.i64 u] H n K:=by
  rw[← M.o]; exact A.op hu hl h
theorem x_next (A:AXC W H0 n0 F0 k c s H n) (hl:1≤W.left s) (h:∀v c' s' H' n',(xNext c).run W.O s=((v,c'),s')→c'.to=c.to→c'.idx=c.idx→c'.pg=c.pg→W.left s≤W.left s'+1→AXC W H0 n0 F0 k c' s' H' n'→K (.u8 v) H' n'):ACalls Tryz.prog 27 [.pt k 0] H n K:=by
  refine ACalls.of_awp Tryz.func27 rfl (by decide +kernel) (show 1≤25 by decide) (by simp) fun wf=>?_
  have hb:=A.blk29
  refine awp_ev dr27 (by decide +kernel) ?_
  simp only[go_sem,Tryz.f27,hb]
  refine x_rd M A _ hl fun v s' H' n' r lf A=>?_
  have hb:=A.blk29
  simp only[go_sem,hb]
  refine z_move _ _ _ _ _ ?_
  simp only[go_sem,hb]
  exact Fin.keep (h _ _ _ _ _ (Eff.run_of r rfl) rfl rfl rfl lf A.put29)
theorem x_fetch (A:AXC W H0 n0 F0 k c s H n) (hl:1≤W.left s) (h:∀v c' s' H' n',(xFetch c).run W.O s=((v,c'),s')→c'.to=c.to→c'.idx=c.idx→c'.pg=c.pg→W.left s≤W.left s'+1→AXC W H0 n0 F0 k c' s' H' n'→K (.u8 v) H' n'):ACalls Tryz.prog 25 [.pt k 0] H n K:=by
  refine ACalls.of_awp Tryz.func25 rfl (by decide +kernel) (show 1≤13 by decide) (by simp) fun wf=>?_
  have hb:=A.blk29
  have ht:=z_tick c.r
  simp only[Rg.cells] at ht
  refine awp_ev dr0 (by decide +kernel) ?_
  simp only[go_sem,Tryz.f25,hb]
  refine ht _ _ _ ?_
  simp only[go_sem,hb]
  refine x_next M A.put29 hl fun v c' s' H' n' r e1 e2 e3 lf A=>?_
  simp only[go_sem]
  exact Fin.keep (h _ _ _ _ _ r e1 e2 e3 lf A)
theorem x_word (A:AXC W H0 n0 F0 k c s H n) (hl:2≤W.left s) (h:∀v c' s' H' n',(xWord c).run W.O s=((v,c'),s')→c'.to=c.to→c'.idx=c.idx→c'.pg=c.pg→W.left s≤W.left s'+2→AXC W H0 n0 F0 k c' s' H' n'→K (.i64 v.toNat) H' n'):ACalls Tryz.prog 126 [.pt k 0] H n K:=by
  refine ACalls.of_awp Tryz.func126 rfl (by decide +kernel) (show 1≤13 by decide) (by simp) fun wf=>?_
  refine awp_ev dr0 (by decide +kernel) ?_
  simp only[go_sem,Tryz.f126]
  refine x_next M A (by omega) fun lo c1 s1 H1 n1 r1 e1 e2 e3 lf1 A=>?_
  simp only[go_sem]
  refine x_next M A (by omega) fun hi c2 s2 H2 n2 r2 f1 f2 f3 lf2 A=>?_
  simp only[go_sem]
  refine z_join _ _ _ _ _ ?_
  simp only[go_sem]
  exact Fin.keep (h _ _ _ _ _ (Eff.run_of r1 (Eff.run_of r2 rfl)) (f1.trans e1) (f2.trans e2) (f3.trans e3) (by omega) A)
omit M in
theorem x_get (A:AXC W H0 n0 F0 k c s H n) (m:Str) (hm:okN m=true) (h:K (.i64 (getB c.r m).toNat) H n):ACalls Tryz.prog 29 [.pt k 0,.st m] H n K:=by
  refine ACalls.of_awp Tryz.func29 rfl (by decide +kernel) (show 2≤11 by decide) (by simp) fun wf=>?_
  have hb:=A.blk29
  have hg:=z_get c.r m hm
  simp only[Rg.cells] at hg
  refine awp_ev dr0 (by decide +kernel) ?_
  simp only[go_sem,Tryz.f29,hb]
  refine hg _ _ _ ?_
  simp only[go_sem]
  exact Fin.keep h
omit M in
theorem x_set (A:AXC W H0 n0 F0 k c s H n) (m:Str) (hm:okN m=true) (v:Int) (hv: -1000000≤v∧v≤1000000) (h:∀H' n',AXC W H0 n0 F0 k { c with r:=setB c.r m (BitVec.ofInt 16 v)} s H' n'→K (.tu []) H' n'):ACalls Tryz.prog 77 [.pt k 0,.st m,.i64 v] H n K:=by
  refine ACalls.of_awp Tryz.func77 rfl (by decide +kernel) (show 3≤19 by decide) (by simp) fun wf=>?_
  have hb:=A.blk29
  have hg:=z_set c.r m (BitVec.ofInt 16 v) hm
  simp only[Rg.cells] at hg
  have e:(wrap64 (v.tmod 65536+65536)).tmod 65536=((BitVec.ofInt 16 v).toNat:Int):=by
    have h1: -65536<v.tmod 65536:=Int.lt_tmod_of_pos v (by decide)
    have h2:v.tmod 65536<65536:=Int.tmod_lt_of_pos v (by decide)
    rw[wrap_id _ (by omega) (by omega),mod_int,BitVec.toNat_ofInt]
    have:=Int.emod_nonneg v (show(65536:Int)≠0 by decide)
    omega
  refine awp_ev dr0 (by decide +kernel) ?_
  simp only[go_sem,Tryz.f77,hb,e]
  refine hg _ _ _ ?_
  simp only[go_sem,hb]
  exact Fin.keep (h _ _ A.put29)
theorem x_load (A:AXC W H0 n0 F0 k c s H n) (a:BitVec 16) (hl:2≤W.left s) (h:∀v s' H' n',(xLoad a c).run W.O s=((v,c),s')→W.left s≤W.left s'+2→AXC W H0 n0 F0 k c s' H' n'→K (.i64 v.toNat) H' n'):ACalls Tryz.prog 43 [.pt k 0,.i64 a.toNat] H n K:=by
  refine ACalls.of_awp Tryz.func43 rfl (by decide +kernel) (show 2≤26 by decide) (by simp) fun wf=>?_
  have hb:=A.blk29
  refine awp_ev dr0 (by decide +kernel) ?_
  simp only[go_sem,Tryz.f43,hb,ofInt16,a_next]
  refine x_rd M A _ (by omega) fun lo s1 H1 n1 r1 lf1 A=>?_
  have hb:=A.blk29
  simp only[go_sem,hb,ofInt16,a_next]
  refine x_rd M A _ (by omega) fun hi s2 H2 n2 r2 lf2 A=>?_
  simp only[go_sem]
  refine z_join _ _ _ _ _ ?_
  simp only[go_sem]
  exact Fin.keep (h _ _ _ _ (Eff.run_of r1 (Eff.run_of r2 rfl)) (by omega) A)
theorem x_store (A:AXC W H0 n0 F0 k c s H n) (a v:BitVec 16) (hl:2≤W.left s) (h:∀s' H' n',(xStore a v c).run W.O s=(((),c),s')→W.left s≤W.left s'+2→AXC W H0 n0 F0 k c s' H' n'→K (.tu []) H' n'):ACalls Tryz.prog 143 [.pt k 0,.i64 a.toNat,.i64 v.toNat] H n K:=by
  refine ACalls.of_awp Tryz.func143 rfl (by decide +kernel) (show 3≤27 by decide) (by simp) fun wf=>?_
  have hb:=A.blk29
  refine awp_ev dr0 (by decide +kernel) ?_
  simp only[go_sem,Tryz.f143,hb,ofInt16,a_next,hiW,loW,ofInt8]
  refine x_wr M A _ _ (by omega) fun s1 H1 n1 r1 lf1 A=>?_
  have hb:=A.blk29
  simp only[go_sem,hb,ofInt16,a_next,hiW,loW,ofInt8]
  refine x_wr M A _ _ (by omega) fun s2 H2 n2 r2 lf2 A=>?_
  simp only[go_sem]
  exact Fin.keep (h _ _ _ (Eff.run_of r1 (Eff.run_of r2 rfl)) (by omega) A)
theorem x_push (A:AXC W H0 n0 F0 k c s H n) (v:BitVec 16) (hl:2≤W.left s) (h:∀c' s' H' n',(xPush v c).run W.O s=(((),c'),s')→W.left s≤W.left s'+2→AXC W H0 n0 F0 k c' s' H' n'→K (.tu []) H' n'):ACalls Tryz.prog 40 [.pt k 0,.i64 v.toNat] H n K:=by
  refine ACalls.of_awp Tryz.func40 rfl (by decide +kernel) (show 2≤40 by decide) (by simp) fun wf=>?_
  have hb:=A.blk29
  refine awp_ev dr40 (by decide +kernel) ?_
  simp only[go_sem,Tryz.f40,hb,ofInt16,a_next,hiW,loW,ofInt8]
  refine x_get A _ (by decide) ?_
  simp only[go_sem,getSP]
  have b0:=nat_b c.r.sp
  rw[wrap_dn c.r.sp 1 (by decide)]
  refine x_set A _ (by decide) _ ⟨by omega,by omega⟩ fun H n A=>?_
  rw[setSP,int_dn1] at A
  have hb:=A.blk29
  simp only[go_sem,hb,ofInt16,a_next,hiW,loW,ofInt8]
  refine x_wr M A _ _ (by omega) fun s1 H1 n1 r1 lf1 A=>?_
  have hb:=A.blk29
  simp only[go_sem,hb,ofInt16,a_next,hiW,loW,ofInt8]
  refine x_get A _ (by decide) ?_
  simp only[go_sem,getSP]
  have b0:=nat_b (c.r.sp-1#16)
  rw[wrap_dn (c.r.sp-1#16) 1 (by decide)]
  refine x_set A _ (by decide) _ ⟨by omega,by omega⟩ fun H n A=>?_
  rw[setSP,int_dn1] at A
  have hb:=A.blk29
  simp only[go_sem,hb,ofInt16,a_next,hiW,loW,ofInt8]
  refine x_wr M A _ _ (by omega) fun s2 H2 n2 r2 lf2 A=>?_
  simp only[go_sem]
  exact Fin.keep (h _ _ _ _ (Eff.run_of r1 (Eff.run_of r2 rfl)) (by omega) A)
theorem x_pop (A:AXC W H0 n0 F0 k c s H n) (hl:2≤W.left s) (h:∀v c' s' H' n',(xPop c).run W.O s=((v,c'),s')→W.left s≤W.left s'+2→AXC W H0 n0 F0 k c' s' H' n'→K (.i64 v.toNat) H' n'):ACalls Tryz.prog 78 [.pt k 0] H n K:=by
  refine ACalls.of_awp Tryz.func78 rfl (by decide +kernel) (show 1≤14 by decide) (by simp) fun wf=>?_
  refine awp_ev dr0 (by decide +kernel) ?_
  simp only[go_sem,Tryz.f78]
  refine x_get A _ (by decide) ?_
  simp only[go_sem,getSP]
  refine x_load M A _ hl fun v s1 H1 n1 r1 lf1 A=>?_
  simp only[go_sem]
  refine x_get A _ (by decide) ?_
  simp only[go_sem,getSP]
  have b0:=nat_b c.r.sp
  rw[wrap_up c.r.sp 2 (by decide)]
  refine x_set A _ (by decide) _ ⟨by omega,by omega⟩ fun H n A=>?_
  rw[setSP,int_up2] at A
  simp only[go_sem]
  exact Fin.keep (h _ _ _ _ _ (Eff.run_of r1 rfl) lf1 A)
omit M in
theorem x_to (A:AXC W H0 n0 F0 k c s H n) (a:BitVec 16) (v:Int) (hv:BitVec.ofInt 16 v=a) (h:∀H' n',AXC W H0 n0 F0 k (c.go a) s H' n'→K (.tu []) H' n'):ACalls Tryz.prog 42 [.pt k 0,.i64 v] H n K:=by
  refine ACalls.of_awp Tryz.func42 rfl (by decide +kernel) (show 2≤16 by decide) (by simp) fun wf=>?_
  have hb:=A.blk29
  refine awp_ev dr0 (by decide +kernel) ?_
  simp only[go_sem,Tryz.f42,hb,hv]
  exact Fin.keep (h _ _ A.put29)
omit M in
theorem x_get16 (A:AXC W H0 n0 F0 k c s H n) (h:K (.i64 c.r.pc.toNat) H n):ACalls Tryz.prog 41 [.pt k 0] H n K:=by
  refine ACalls.of_awp Tryz.func41 rfl (by decide +kernel) (show 1≤9 by decide) (by simp) fun wf=>?_
  have hb:=A.blk29
  refine awp_ev dr0 (by decide +kernel) ?_
  simp only[go_sem,Tryz.f41,hb]
  exact Fin.keep h
end
theorem x_memory (m:Str) (H:Heap) (n:Nat) (K:AV→Heap→Nat→Prop) (h:K (.bo (memB m)) H n):ACalls Tryz.prog 132 [.st m] H n K:=by
  refine ACalls.of_awp Tryz.func132 rfl (by decide +kernel) (show 1≤13 by decide) (by simp) fun wf=>?_
  refine awp_ev dr0 (by decide +kernel) ?_
  unfold memB at h
  simp only[go_sem,Tryz.f132]
  repeat' first
    | with_reducible refine And.intro ?_ ?_
    | intro e
  all_goals
    simp only[*,Bool.false_or,Bool.true_or,Bool.or_true,Bool.or_false] at h
    exact Fin.back wf h (fun _ _=>rfl) rfl
section
variable {σ:Type} {W:WC Tryz.prog σ} {H0:Heap} {n0:Nat} {F0:Nat→Prop} {k:Nat} {c:XC} {s:σ} {H:Heap} {n:Nat} {K:AV→Heap→Nat→Prop} (M:MX W)
theorem x_by (A:AXC W H0 n0 F0 k c s H n) (m:Str) (p t f:Nat) (h:K (.i64 (xBy c m p t f)) H n):ACalls Tryz.prog 131 [.pt k 0,.st m,.i64 p,.i64 t,.i64 f] H n K:=by
  refine ACalls.of_awp Tryz.func131 rfl (by decide +kernel) (show 5≤21 by decide) (by simp) fun wf=>?_
  have hb:=A.blk29
  refine awp_ev dr0 (by decide +kernel) ?_
  unfold xBy at h
  simp only[go_sem,Tryz.f131]
  refine x_memory _ _ _ _ ?_
  simp only[go_sem,hb]
  refine⟨fun e=>?_,fun e=>⟨fun e2=>?_,fun e2=>?_⟩⟩
  · rw[if_pos (nbT e)] at h
    exact Fin.keep h
  · rw[if_neg (by rw[nbF e]; decide),if_pos e2] at h
    exact Fin.keep h
  · rw[if_neg (by rw[nbF e]; decide),if_neg (by rw[e2]; decide)] at h
    exact Fin.keep h
include M
theorem x_point (A:AXC W H0 n0 F0 k c s H n) (m:Str) (hm:okN m=true) (hl:1≤W.left s) (h:∀c' s' H' n',(xPoint m c).run W.O s=(((),c'),s')→W.left s≤W.left s'+1→AXC W H0 n0 F0 k c' s' H' n'→K (.tu []) H' n'):ACalls Tryz.prog 26 [.pt k 0,.st m] H n K:=by
  refine ACalls.of_awp Tryz.func26 rfl (by decide +kernel) (show 2≤25 by decide) (by simp) fun wf=>?_
  refine awp_ev dr0 (by decide +kernel) ?_
  simp only[go_sem,Tryz.f26]
  refine x_get A _ hm ?_
  simp only[go_sem,ofInt16]
  refine x_next M A hl fun d c' s' H' n' r e1 e2 e3 lf A=>?_
  simp only[go_sem]
  refine z_move _ _ _ _ _ ?_
  have hb:=A.blk29
  simp only[go_sem,hb]
  exact Fin.keep (h _ _ _ _ (Eff.run_of r rfl) lf A.put29)
omit M in
theorem okT_bc {m:Str} (h:(m==[40#8,66#8,67#8,41#8])=true):(m.drop 1).take 2=[66#8,67#8]:=by rw[eq_of_beq h]; rfl
omit M in
theorem okT_de {m:Str} (h:(m==[40#8,68#8,69#8,41#8])=true):(m.drop 1).take 2=[68#8,69#8]:=by rw[eq_of_beq h]; rfl
theorem x_byte (A:AXC W H0 n0 F0 k c s H n) (m:Str) (hm:okT m=true) (hl:1≤W.left s) (h:∀v c' s' H' n',(xByte m c).run W.O s=((v,c'),s')→W.left s≤W.left s'+1→AXC W H0 n0 F0 k c' s' H' n'→K (.u8 v) H' n'):ACalls Tryz.prog 130 [.pt k 0,.st m] H n K:=by
  have hb:=A.blk29
  unfold xByte at h
  refine ACalls.of_awp Tryz.func130 rfl (by decide +kernel) (show 2≤41 by decide) (by simp) fun wf=>?_
  by_cases e1:(m==[110#8])=true
  · rw[if_pos e1] at h
    refine awp_ev dr130 (by decide +kernel) ?_
    simp only[go_sem,Tryz.f130,e1]
    refine x_next M A hl fun d c' s' H' n' r _ _ _ lf A=>?_
    simp only[go_sem]
    exact Fin.keep (h _ _ _ _ _ r lf A)
  have e1':(m==[110#8])=false:=by simpa using e1
  rw[if_neg e1] at h
  rcases Bool.eq_false_or_eq_true (m==[40#8,66#8,67#8,41#8]) with e3 | e3 <;> rcases Bool.eq_false_or_eq_true (m==[40#8,68#8,69#8,41#8]) with e4 | e4
  · exact absurd ((eq_of_beq e3).symm.trans (eq_of_beq e4)) (by decide)
  all_goals
    refine awp_ev dr130 (by decide +kernel) ?_
    simp only[go_sem,Tryz.f130,e1']
    refine x_memory _ _ _ _ ?_
    simp only[go_sem,hb,e3,e4]
    refine⟨fun e2=>?_,fun e2=>?_⟩
    · rw[if_pos e2] at h
      refine x_rd M A _ hl fun v s' H' n' r lf A=>?_
      simp only[go_sem]
      exact Fin.keep (h _ _ _ _ _ (Eff.run_of r rfl) lf A)
    rw[if_neg (by rw[e2]; decide)] at h
  · rw[if_pos (by rw[e3]; rfl),okT_bc e3] at h
    refine⟨by rw[eq_of_beq e3]; decide,?_⟩
    rw[okT_bc e3]
    refine x_get A _ (by decide) ?_
    simp only[go_sem,hb,ofInt16]
    refine x_rd M A _ hl fun v s' H' n' r lf A=>?_
    simp only[go_sem]
    exact Fin.keep (h _ _ _ _ _ (Eff.run_of r rfl) lf A)
  · rw[if_pos (by rw[e3,e4]; rfl),okT_de e4] at h
    refine⟨by rw[eq_of_beq e4]; decide,?_⟩
    rw[okT_de e4]
    refine x_get A _ (by decide) ?_
    simp only[go_sem,hb,ofInt16]
    refine x_rd M A _ hl fun v s' H' n' r lf A=>?_
    simp only[go_sem]
    exact Fin.keep (h _ _ _ _ _ (Eff.run_of r rfl) lf A)
  · rw[if_neg (by rw[e3,e4]; decide)] at h
    have ok:okN m=true:=by
      unfold okT at hm
      rw[e1',e2,e3,e4] at hm
      simpa using hm
    refine x_get A _ ok ?_
    simp only[go_sem]
    rw[byte_lo,getO_eq _ _ ok]
    exact Fin.keep (h _ _ _ _ _ rfl (by omega) A)
theorem x_put (A:AXC W H0 n0 F0 k c s H n) (m:Str) (v:BitVec 8) (hm:okT m=true) (hn:(m==[110#8])=false) (hl:1≤W.left s) (h:∀c' s' H' n',(xPut m v c).run W.O s=(((),c'),s')→W.left s≤W.left s'+1→AXC W H0 n0 F0 k c' s' H' n'→K (.tu []) H' n'):ACalls Tryz.prog 129 [.pt k 0,.st m,.u8 v] H n K:=by
  have hb:=A.blk29
  unfold xPut at h
  refine ACalls.of_awp Tryz.func129 rfl (by decide +kernel) (show 3≤40 by decide) (by simp) fun wf=>?_
  rcases Bool.eq_false_or_eq_true (m==[40#8,66#8,67#8,41#8]) with e3 | e3 <;> rcases Bool.eq_false_or_eq_true (m==[40#8,68#8,69#8,41#8]) with e4 | e4
  · exact absurd ((eq_of_beq e3).symm.trans (eq_of_beq e4)) (by decide)
  all_goals
    refine awp_ev dr129 (by decide +kernel) ?_
    simp only[go_sem,Tryz.f129]
    refine x_memory _ _ _ _ ?_
    simp only[go_sem,hb,e3,e4]
    refine⟨fun e2=>?_,fun e2=>?_⟩
    · rw[if_pos e2] at h
      refine x_wr M A _ _ hl fun s' H' n' r lf A=>?_
      simp only[go_sem]
      exact Fin.keep (h _ _ _ _ (Eff.run_of r rfl) lf A)
    rw[if_neg (by rw[e2]; decide)] at h
  · rw[if_pos (by rw[e3]; rfl),okT_bc e3] at h
    refine⟨by rw[eq_of_beq e3]; decide,?_⟩
    rw[okT_bc e3]
    refine x_get A _ (by decide) ?_
    simp only[go_sem,hb,ofInt16]
    refine x_wr M A _ _ hl fun s' H' n' r lf A=>?_
    simp only[go_sem]
    exact Fin.keep (h _ _ _ _ (Eff.run_of r rfl) lf A)
  · rw[if_pos (by rw[e3,e4]; rfl),okT_de e4] at h
    refine⟨by rw[eq_of_beq e4]; decide,?_⟩
    rw[okT_de e4]
    refine x_get A _ (by decide) ?_
    simp only[go_sem,hb,ofInt16]
    refine x_wr M A _ _ hl fun s' H' n' r lf A=>?_
    simp only[go_sem]
    exact Fin.keep (h _ _ _ _ (Eff.run_of r rfl) lf A)
  · rw[if_neg (by rw[e3,e4]; decide)] at h
    have ok:okN m=true:=by
      unfold okT at hm
      rw[hn,e2,e3,e4] at hm
      simpa using hm
    have b0:=nat_b8 v
    refine x_set A _ ok _ ⟨by omega,by omega⟩ fun H n A=>?_
    rw[int_w8,setO_eq _ _ _ ok] at A
    simp only[go_sem]
    exact Fin.keep (h _ _ _ _ rfl (by omega) A)
end
end Go.Proofs.Joy
namespace Go.Proofs.Joy
open Go.Ab Go.Proofs
set_option maxHeartbeats 4000000
set_option maxRecDepth 20000
section
variable {σ:Type} {W:WC Tryz.prog σ} {H0:Heap} {n0:Nat} {F0:Nat→Prop} {k:Nat} {c:XC} {s:σ} {H:Heap} {n:Nat} {K:AV→Heap→Nat→Prop} (M:MX W)
include M
theorem x_ldthere (A:AXC W H0 n0 F0 k c s H n) (a b:Str) (hm:okN (if a==[40#8,110#8,110#8,41#8] then b else a)=true) (hl:4≤W.left s) (h:∀v c' s' H' n',(xLdThere a b c).run W.O s=((v,c'),s')→W.left s≤W.left s'+4→AXC W H0 n0 F0 k c' s' H' n'→K (.i64 (v:Nat)) H' n'):ACalls Tryz.prog 125 [.pt k 0,.st a,.st b] H n K:=by
  unfold xLdThere at h
  have hpg:∀x:Nat,((x:Int)==2)=decide (x=2):=fun x=>by
    by_cases q:x=2
    · subst q; rfl
    · rw[decide_eq_false q]
      have:¬(x:Int)=2:=by omega
      simpa using this
  rcases Bool.eq_false_or_eq_true (a==[40#8,110#8,110#8,41#8]) with ea | ea
  · have eaA:(a==[65#8])=false:=by rw[eq_of_beq ea]; rfl
    rw[if_pos ea] at hm
    rcases Bool.eq_false_or_eq_true (b==[65#8]) with eb | eb <;> by_cases hp:c.pg=2
    all_goals
      simp only[ea,eb,eaA,hp,if_true,if_false,Bool.false_eq_true] at h
      refine ACalls.of_awp Tryz.func125 rfl (by decide +kernel) (show 3≤85 by decide) (by simp) fun wf=>?_
      refine awp_ev dr125 (by decide +kernel) ?_
      simp only[go_sem,Tryz.f125]
      refine x_word M A (by omega) fun t c1 s1 H1 n1 r1 e1 e2 e3 lf1 A=>?_
      simp only[go_sem,ofInt16]
      refine z_move _ _ _ _ _ ?_
      have hb:=A.blk29
      have hp1:decide (c1.pg=2)=decide (c.pg=2):=by rw[e3]
      simp +decide only[go_sem,hb,hpg,hp1,hp,ea,eb,eaA,ofInt16]
    · refine x_wr M A.put29 _ _ (by omega) fun s2 H2 n2 r2 lf2 A=>?_
      have hb:=A.blk29
      simp only[go_sem,hb,lo_next]
      refine z_join _ _ _ _ _ ?_
      simp only[go_sem,hb]
      exact Fin.keep (h _ _ _ _ _ (Eff.run_of r1 (Eff.run_of r2 rfl)) (by omega) A.put29)
    · refine x_wr M A.put29 _ _ (by omega) fun s2 H2 n2 r2 lf2 A=>?_
      have hb:=A.blk29
      simp only[go_sem,hb,lo_next]
      refine z_join _ _ _ _ _ ?_
      simp only[go_sem,hb]
      exact Fin.keep (h _ _ _ _ _ (Eff.run_of r1 (Eff.run_of r2 rfl)) (by omega) A.put29)
    · refine x_get A.put29 _ hm ?_
      simp only[go_sem]
      refine x_store M A.put29 _ _ (by omega) fun s2 H2 n2 r2 lf2 A=>?_
      simp only[go_sem]
      exact Fin.keep (h _ _ _ _ _ (Eff.run_of r1 (Eff.run_of r2 rfl)) (by omega) A)
    · refine x_get A.put29 _ hm ?_
      simp only[go_sem]
      refine x_store M A.put29 _ _ (by omega) fun s2 H2 n2 r2 lf2 A=>?_
      simp only[go_sem]
      exact Fin.keep (h _ _ _ _ _ (Eff.run_of r1 (Eff.run_of r2 rfl)) (by omega) A)
  · rw[if_neg (by rw[ea]; decide)] at hm
    rcases Bool.eq_false_or_eq_true (a==[65#8]) with eaA | eaA <;> by_cases hp:c.pg=2
    all_goals
      simp only[ea,eaA,hp,if_true,if_false,Bool.false_eq_true] at h
      refine ACalls.of_awp Tryz.func125 rfl (by decide +kernel) (show 3≤85 by decide) (by simp) fun wf=>?_
      refine awp_ev dr125 (by decide +kernel) ?_
      simp only[go_sem,Tryz.f125]
      refine x_word M A (by omega) fun t c1 s1 H1 n1 r1 e1 e2 e3 lf1 A=>?_
      simp only[go_sem,ofInt16]
      refine z_move _ _ _ _ _ ?_
      have hb:=A.blk29
      have hp1:decide (c1.pg=2)=decide (c.pg=2):=by rw[e3]
      simp +decide only[go_sem,hb,hpg,hp1,hp,ea,eaA,ofInt16]
    · refine x_rd M A.put29 _ (by omega) fun v s2 H2 n2 r2 lf2 A=>?_
      have hb:=A.blk29
      simp only[go_sem,hb]
      exact Fin.keep (h _ _ _ _ _ (Eff.run_of r1 (Eff.run_of r2 rfl)) (by omega) A.put29)
    · refine x_rd M A.put29 _ (by omega) fun v s2 H2 n2 r2 lf2 A=>?_
      have hb:=A.blk29
      simp only[go_sem,hb]
      exact Fin.keep (h _ _ _ _ _ (Eff.run_of r1 (Eff.run_of r2 rfl)) (by omega) A.put29)
    · refine x_load M A.put29 _ (by omega) fun v s2 H2 n2 r2 lf2 A=>?_
      have b0:=nat_b v
      simp only[go_sem]
      refine x_set A _ hm _ ⟨by omega,by omega⟩ fun H n A=>?_
      rw[ofInt16] at A
      simp only[go_sem]
      exact Fin.keep (h _ _ _ _ _ (Eff.run_of r1 (Eff.run_of r2 rfl)) (by omega) A)
    · refine x_load M A.put29 _ (by omega) fun v s2 H2 n2 r2 lf2 A=>?_
      have b0:=nat_b v
      simp only[go_sem]
      refine x_set A _ hm _ ⟨by omega,by omega⟩ fun H n A=>?_
      rw[ofInt16] at A
      simp only[go_sem]
      exact Fin.keep (h _ _ _ _ _ (Eff.run_of r1 (Eff.run_of r2 rfl)) (by omega) A)
theorem x_ld (A:AXC W H0 n0 F0 k c s H n) (a b:Str) (hm:okLd a b=true) (hl:4≤W.left s) (h:∀v c' s' H' n',(xLd a b c).run W.O s=((v,c'),s')→W.left s≤W.left s'+4→AXC W H0 n0 F0 k c' s' H' n'→K (.i64 (v:Nat)) H' n'):ACalls Tryz.prog 73 [.pt k 0,.st a,.st b] H n K:=by
  unfold xLd at h
  unfold okLd at hm
  have hb:=A.blk29
  refine ACalls.of_awp Tryz.func73 rfl (by decide +kernel) (show 3≤165 by decide) (by simp) fun wf=>?_
  refine awp_ev dr73 (by decide +kernel) ?_
  simp only[go_sem,Tryz.f73,hb]
  repeat' first
    | with_reducible refine And.intro ?_ ?_
    | intro e
  all_goals simp only[*,Bool.or_true,Bool.true_or,Bool.or_false,Bool.false_or,Bool.and_true,Bool.true_and,Bool.and_false,Bool.false_and,if_true,if_false,Bool.false_eq_true,Bool.not_true,Bool.not_false] at h
  all_goals first
    | (refine x_ldthere M A a b (by simp only[*,Bool.or_true,Bool.true_or,Bool.or_false,Bool.false_or,Bool.and_true,Bool.true_and,Bool.and_false,Bool.false_and,if_true,if_false,Bool.false_eq_true,Bool.not_true,Bool.not_false] at hm ⊢; exact hm) hl fun v c' s' H' n' r lf A=>?_
       simp only[go_sem]
       exact Fin.keep (h _ _ _ _ _ r lf A))
    | exact by rw[eq_of_beq ‹(b==[40#8,66#8,67#8,41#8])=true›]; decide
    | exact by rw[eq_of_beq ‹(b==[40#8,68#8,69#8,41#8])=true›]; decide
    | (refine x_get A b (by simp only[*,Bool.or_true,Bool.true_or,Bool.or_false,Bool.false_or,Bool.and_true,Bool.true_and,Bool.and_false,Bool.false_and,if_true,if_false,Bool.false_eq_true,Bool.not_true,Bool.not_false] at hm; exact hm) ?_
       simp only[go_sem]
       refine x_set A [83#8,80#8] (by decide) _ ⟨by have:=nat_b (getB c.r b); omega,by have:=nat_b (getB c.r b); omega⟩ fun H n A=>?_
       rw[ofInt16] at A
       simp only[go_sem]
       exact Fin.keep (h _ _ _ _ _ rfl (by omega) A))
    | (refine x_word M A (by omega) fun w c1 s1 H1 n1 r1 e1 e2 e3 lf1 A=>?_
       simp only[go_sem]
       refine x_set A a (by simp only[*,Bool.or_true,Bool.true_or,Bool.or_false,Bool.false_or,Bool.and_true,Bool.true_and,Bool.and_false,Bool.false_and,if_true,if_false,Bool.false_eq_true,Bool.not_true,Bool.not_false] at hm; exact hm) _ ⟨by have:=nat_b w; omega,by have:=nat_b w; omega⟩ fun H n A=>?_
       rw[ofInt16] at A
       simp only[go_sem]
       exact Fin.keep (h _ _ _ _ _ (Eff.run_of r1 rfl) (by omega) A))
    | (refine x_put M A a _ (by unfold okT; simp only[*,Bool.or_true,Bool.true_or,Bool.or_false,Bool.false_or,Bool.and_true,Bool.true_and,Bool.and_false,Bool.false_and,if_true,if_false,Bool.false_eq_true,Bool.not_true,Bool.not_false]) (by first | (rw[eq_of_beq ‹(a==[40#8,66#8,67#8,41#8])=true›]; rfl) | (rw[eq_of_beq ‹(a==[40#8,68#8,69#8,41#8])=true›]; rfl)) (by omega) fun c1 s1 H1 n1 r1 lf1 A=>?_
       have hb:=A.blk29
       simp only[go_sem,hb]
       refine⟨by first | (rw[eq_of_beq ‹(a==[40#8,66#8,67#8,41#8])=true›]; decide) | (rw[eq_of_beq ‹(a==[40#8,68#8,69#8,41#8])=true›]; decide),?_⟩
       first
         | rw[okT_bc ‹(a==[40#8,66#8,67#8,41#8])=true›] at h ⊢
         | rw[okT_de ‹(a==[40#8,68#8,69#8,41#8])=true›] at h ⊢
       refine x_get A _ (by decide) ?_
       simp only[go_sem,lo_next,hb]
       refine z_join _ _ _ _ _ ?_
       simp only[go_sem,hb]
       exact Fin.keep (h _ _ _ _ _ (Eff.run_of r1 rfl) (by omega) A.put29))
    | (refine x_byte M A b (by simp only[*,Bool.or_true,Bool.true_or,Bool.or_false,Bool.false_or,Bool.and_true,Bool.true_and,Bool.and_false,Bool.false_and,if_true,if_false,Bool.false_eq_true,Bool.not_true,Bool.not_false] at hm; simp at hm; exact hm.1.2) (by omega) fun v c1 s1 H1 n1 r1 lf1 A=>?_
       simp only[go_sem]
       refine x_put M A a _ (by simp only[*,Bool.or_true,Bool.true_or,Bool.or_false,Bool.false_or,Bool.and_true,Bool.true_and,Bool.and_false,Bool.false_and,if_true,if_false,Bool.false_eq_true,Bool.not_true,Bool.not_false] at hm; simp at hm; exact hm.1.1) (by simp only[*,Bool.or_true,Bool.true_or,Bool.or_false,Bool.false_or,Bool.and_true,Bool.true_and,Bool.and_false,Bool.false_and,if_true,if_false,Bool.false_eq_true,Bool.not_true,Bool.not_false] at hm; simp at hm; simp; exact hm.2) (by omega) fun c2 s2 H2 n2 r2 lf2 A=>?_
       simp only[go_sem]
       refine⟨fun en=>?_,fun en=>?_⟩ <;> simp only[en,if_true,if_false,Bool.false_eq_true] at h
       · refine x_by A a 7 10 15 ?_
         simp only[go_sem]
         exact Fin.keep (h _ _ _ _ _ (Eff.run_of r1 (Eff.run_of r2 rfl)) (by omega) A)
       refine x_memory _ _ _ _ ?_
       simp only[go_sem]
       refine⟨fun em=>?_,fun em=>?_⟩ <;> simp only[em,if_true,if_false,Bool.false_eq_true] at h
       · refine x_by A b 4 7 15 ?_
         simp only[go_sem]
         exact Fin.keep (h _ _ _ _ _ (Eff.run_of r1 (Eff.run_of r2 rfl)) (by omega) A)
       · refine x_by A a 4 7 15 ?_
         simp only[go_sem]
         exact Fin.keep (h _ _ _ _ _ (Eff.run_of r1 (Eff.run_of r2 rfl)) (by omega) A))
    | (first
         | rw[okT_bc ‹(b==[40#8,66#8,67#8,41#8])=true›] at h ⊢
         | rw[okT_de ‹(b==[40#8,68#8,69#8,41#8])=true›] at h ⊢
       refine x_get A _ (by decide) ?_
       simp only[go_sem,ofInt16]
       refine z_move _ _ _ _ _ ?_
       have hb:=A.blk29
       simp only[go_sem,hb]
       refine x_byte M A.put29 b (by unfold okT; simp only[*,Bool.or_true,Bool.true_or,Bool.or_false,Bool.false_or,Bool.and_true,Bool.true_and,Bool.and_false,Bool.false_and,if_true,if_false,Bool.false_eq_true,Bool.not_true,Bool.not_false]) (by omega) fun v c1 s1 H1 n1 r1 lf1 A=>?_
       have hb:=A.blk29
       simp only[go_sem,hb]
       exact Fin.keep (h _ _ _ _ _ (Eff.run_of r1 rfl) (by omega) A.put29))
    | (have hm2:okN a=true∧okN b=true:=by
         rw[← Bool.and_eq_true]
         simp only[*,Bool.or_true,Bool.true_or,Bool.or_false,Bool.false_or,Bool.and_true,Bool.true_and,Bool.and_false,Bool.false_and,if_true,if_false,Bool.false_eq_true,Bool.not_true,Bool.not_false] at hm; exact hm
       refine x_get A b hm2.2 ?_
       simp only[go_sem]
       refine x_set A a hm2.1 _ ⟨by have:=nat_b (getB c.r b); omega,by have:=nat_b (getB c.r b); omega⟩ fun H n A=>?_
       rw[ofInt16,setIR c.r a b (by simp[*]) hm2.1 hm2.2] at A
       have hb:=A.blk29
       rcases Bool.eq_false_or_eq_true (a==[65#8]) with ea | ea <;> simp only[ea,if_true,if_false,Bool.false_eq_true] at h <;> simp only[go_sem,hb,ea]
       · refine z_shape _ _ _ _ ?_
         have hu:∀(H:Heap) (b:Option Blk),H.upd n b k=H k:=fun H b=>Heap.upd_ne _ _ (Nat.ne_of_lt A.kn)
         simp only[go_sem,hb,hu]
         refine z_byte _ _ _ _ _ _ _ _ _ _ _ ?_
         rw[ldai_plain]
         simp only[go_sem,hb,hu]
         refine Fin.keep (h _ _ _ _ _ rfl (by omega) (AX.put29 (A.mono (Heap.wf_upd A.wf (by simp[AV.ok])) (Nat.le_succ _) fun i hi=>Heap.upd_ne _ _ (Nat.ne_of_lt hi))))
       · exact Fin.keep (h _ _ _ _ _ rfl (by omega) A))
end
end Go.Proofs.Joy
namespace Go.Proofs.Joy
open Go.Ab Go.Proofs
set_option maxHeartbeats 4000000
set_option maxRecDepth 20000
section
variable {σ:Type} {W:WC Tryz.prog σ} {H0:Heap} {n0:Nat} {F0:Nat→Prop} {k:Nat} {c:XC} {s:σ} {H:Heap} {n:Nat} {K:AV→Heap→Nat→Prop} (M:MX W)
include M
def okCount (a:Str):Bool:=if pairB a then okN a else okT a&&!(a==[110#8])
theorem x_count (A:AXC W H0 n0 F0 k c s H n) (m a:Str) (hm:okCount a=true) (hl:2≤W.left s) (h:∀v c' s' H' n',(xCount m a c).run W.O s=((v,c'),s')→W.left s≤W.left s'+2→AXC W H0 n0 F0 k c' s' H' n'→K (.i64 (v:Nat)) H' n'):ACalls Tryz.prog 74 [.pt k 0,.st m,.st a] H n K:=by
  unfold xCount at h
  unfold okCount at hm
  refine ACalls.of_awp Tryz.func74 rfl (by decide +kernel) (show 3≤65 by decide) (by simp) fun wf=>?_
  refine awp_ev dr0 (by decide +kernel) ?_
  simp only[go_sem,Tryz.f74]
  refine z_pair _ _ _ _ ?_
  simp only[go_sem]
  refine⟨fun e=>?_,fun e=>?_⟩ <;> simp only[e,if_true,if_false,Bool.false_eq_true,Bool.and_eq_true,Bool.not_eq_true'] at h hm
  · have b0:=nat_b (getB c.r a)
    refine⟨fun e2=>?_,fun e2=>?_⟩ <;> simp only[e2,if_true,if_false,Bool.false_eq_true] at h
    · refine x_get A a hm ?_
      simp only[go_sem]
      rw[wrap_up _ 1 ⟨by decide,by decide⟩]
      refine x_set A a hm _ ⟨by omega,by omega⟩ fun H n A=>?_
      rw[int_up1] at A
      simp only[go_sem]
      exact Fin.keep (h _ _ _ _ _ rfl (by omega) A)
    · refine x_get A a hm ?_
      simp only[go_sem]
      rw[wrap_dn _ 1 ⟨by decide,by decide⟩]
      refine x_set A a hm _ ⟨by omega,by omega⟩ fun H n A=>?_
      rw[int_dn1,← up_dn] at A
      simp only[go_sem]
      exact Fin.keep (h _ _ _ _ _ rfl (by omega) A)
  · refine x_byte M A a hm.1 (by omega) fun v c1 s1 H1 n1 r1 lf1 A=>?_
    have hb:=A.blk29
    simp only[go_sem,hb]
    refine z_inc _ _ _ _ _ ?_
    simp only[go_sem,hb]
    refine⟨fun e2=>?_,fun e2=>?_⟩ <;> simp only[e2,if_true,if_false,Bool.false_eq_true] at h
    · refine z_dec _ _ _ _ _ ?_
      simp only[go_sem]
      refine x_put M A a _ hm.1 hm.2 (by omega) fun c2 s2 H2 n2 r2 lf2 A=>?_
      have hb:=A.blk29
      simp only[go_sem,hb]
      refine x_by A.put29 a 4 11 19 ?_
      simp only[go_sem]
      exact Fin.keep (h _ _ _ _ _ (Eff.run_of r1 (Eff.run_of r2 rfl)) (by omega) A.put29)
    · refine x_put M A a _ hm.1 hm.2 (by omega) fun c2 s2 H2 n2 r2 lf2 A=>?_
      have hb:=A.blk29
      simp only[go_sem,hb]
      refine x_by A.put29 a 4 11 19 ?_
      simp only[go_sem]
      exact Fin.keep (h _ _ _ _ _ (Eff.run_of r1 (Eff.run_of r2 rfl)) (by omega) A.put29)
omit M in
theorem xByte_af {O:Ops σ} {m:Str} {v:BitVec 8} {c c':XC} {s s':σ} (r:(xByte m c).run O s=((v,c'),s')):c'.r.a=c.r.a∧c'.r.f=c.r.f:=by
  unfold xByte xNext at r
  split at r
  · cases r; exact⟨rfl,rfl⟩
  split at r
  · cases r; exact⟨rfl,rfl⟩
  split at r
  · cases r; exact⟨rfl,rfl⟩
  · cases r; exact⟨rfl,rfl⟩
def sums8:List Str:=[[65#8,68#8,68#8],[65#8,68#8,67#8],[83#8,85#8,66#8],[83#8,66#8,67#8],[65#8,78#8,68#8],[88#8,79#8,82#8],[79#8,82#8],[67#8,80#8]]
def okSum (m a b:Str):Bool:=if pairB a then okN a&&okN b else sums8.any (· ==m)&&okT (if b !=[] then b else a)
theorem x_sum (A:AXC W H0 n0 F0 k c s H n) (m a b:Str) (hm:okSum m a b=true) (hl:2≤W.left s) (h:∀v c' s' H' n',(xSum m a b c).run W.O s=((v,c'),s')→W.left s≤W.left s'+2→AXC W H0 n0 F0 k c' s' H' n'→K (.i64 (v:Nat)) H' n'):ACalls Tryz.prog 75 [.pt k 0,.st m,.st a,.st b] H n K:=by
  unfold xSum at h
  unfold okSum at hm
  refine ACalls.of_awp Tryz.func75 rfl (by decide +kernel) (show 4≤154 by decide) (by simp) fun wf=>?_
  rcases Bool.eq_false_or_eq_true (pairB a) with ep | ep <;> simp only[ep,if_true,if_false,Bool.false_eq_true,Bool.and_eq_true] at h hm
  · refine awp_step dr75 (by decide +kernel) ?_
    simp only[go_sem,Tryz.f75]
    refine awp_step dr75 (by decide +kernel) ?_
    simp only[go_sem]
    refine z_pair _ _ _ _ ?_
    simp only[go_sem,ep]
    refine x_get A a hm.1 ?_
    simp only[go_sem]
    refine x_get A b hm.2 ?_
    simp only[go_sem,ofInt16]
    refine z_move _ _ _ _ _ ?_
    have hb:=A.blk29
    simp only[go_sem,hb]
    refine⟨fun e=>?_,fun e=>?_⟩
    · simp only[e,if_true] at h
      refine z_add16 _ _ _ _ _ _ ?_
      simp only[go_sem]
      have b0:=nat_b (add16 (getB c.r a) (getB c.r b) c.r.f).1
      refine x_set A.put29 a hm.1 _ ⟨by omega,by omega⟩ fun H n A=>?_
      rw[ofInt16] at A
      have hb:=A.blk29
      simp only[go_sem,hb]
      exact Fin.keep (h _ _ _ _ _ rfl (by omega) A.put29)
    simp only[e,if_false,Bool.false_eq_true] at h
    refine⟨fun e=>?_,fun e=>?_⟩ <;> simp only[e,if_true,if_false,Bool.false_eq_true] at h
    · refine z_adc16 _ _ _ _ _ _ ?_
      simp only[go_sem]
      have b0:=nat_b (adc16 (getB c.r a) (getB c.r b) c.r.f).1
      refine x_set A.put29 a hm.1 _ ⟨by omega,by omega⟩ fun H n A=>?_
      rw[ofInt16] at A
      have hb:=A.blk29
      simp only[go_sem,hb]
      exact Fin.keep (h _ _ _ _ _ rfl (by omega) A.put29)
    · refine z_sbc16 _ _ _ _ _ _ ?_
      simp only[go_sem]
      have b0:=nat_b (sbc16 (getB c.r a) (getB c.r b) c.r.f).1
      refine x_set A.put29 a hm.1 _ ⟨by omega,by omega⟩ fun H n A=>?_
      rw[ofInt16] at A
      have hb:=A.blk29
      simp only[go_sem,hb]
      exact Fin.keep (h _ _ _ _ _ rfl (by omega) A.put29)
  · refine awp_step dr75 (by decide +kernel) ?_
    simp only[go_sem,Tryz.f75]
    refine awp_step dr75 (by decide +kernel) ?_
    simp only[go_sem]
    refine z_pair _ _ _ _ ?_
    simp only[go_sem,ep]
    refine awp_step dr75 (by decide +kernel) ?_
    simp only[go_sem]
    refine awp_step dr75 (by decide +kernel) ?_
    simp only[go_sem]
    have A1:AXC W H0 n0 F0 k c s (H.upd n (some ⟨sums8.map .st,9,false⟩)) (n+1):=A.mono (Heap.wf_upd wf (fun v hv=>by obtain⟨s,-,rfl⟩:=List.mem_map.1 hv; rfl)) (Nat.le_succ _) fun i hi=>Heap.upd_ne _ _ (Nat.ne_of_lt hi)
    have hkn:k<n:=A.kn
    have hb:=A.blk29
    have hu:∀(H:Heap) (b:Option Blk),H.upd n b k=H k:=fun H b=>Heap.upd_ne _ _ (Nat.ne_of_lt A.kn)
    refine⟨fun e=>?_,fun e=>?_⟩
    all_goals
      refine awp_seq ?_
      refine awp_step dr75 (by decide +kernel) ?_
      simp only[go_sem]
      refine awp_block ?_
      refine awp_loopF (S:=Nat) (fun j=>[(0,.pt k 0),(1,.st m),(17,.st (if(b !=[])=true then b else a)),(110,.sl n 0 8 8),(111,.i64 8),(112,.i64 j)]) (fun _=>H.upd n (some ⟨sums8.map .st,9,false⟩)) (fun _=>n+1) (fun j=>j≤8∧(sums8.drop j).any (· ==m)=true) (fun j=>8-j)
        (fun j _=>⟨A1.wf,Env.okAt_of2 (by simp[AV.ok]; omega)⟩) ?_ 0 ⟨Nat.zero_le _,hm.1⟩ (by simp only[e,if_true,if_false,Bool.false_eq_true]; exact(by repeat (first | exact Env.le_nil _ | refine Env.le_cons rfl ?_))) (fun _ _=>rfl) rfl
      clear e
      generalize (if(b !=[])=true then b else a)=t at h hm ⊢
      rintro j ⟨hj,hp⟩
      refine awp_step dr75 (by decide +kernel) ?_
      simp only[go_sem]
      refine awp_step dr75 (by decide +kernel) ?_
      simp only[go_sem]
      refine⟨fun hlt=>?_,fun hge=>?_⟩
      · rcases (by omega:j=0∨j=1∨j=2∨j=3∨j=4∨j=5∨j=6∨j=7) with rfl | rfl | rfl | rfl | rfl | rfl | rfl | rfl
        all_goals
          simp only[sums8,List.drop,List.any_cons] at hp
          refine awp_step dr75 (by decide +kernel) ?_
          simp only[go_sem,sums8,List.map]
          refine⟨fun e=>?_,fun e=>?_⟩
          · obtain rfl:=eq_of_beq e
            simp +decide only[sumI,if_true,if_false] at h
            simp only[go_sem,hu,hb]
            refine x_byte M A1 t hm.2 (by omega) fun v c1 s1 H1 n1 r1 lf1 A=>?_
            obtain⟨ea,ef⟩:=xByte_af r1
            have hb:=A.blk29
            simp only[go_sem,hb,ea,ef]
            first
              | refine z_do 0 (by decide) _ _ _ _ _ _ ?_
              | refine z_do 1 (by decide) _ _ _ _ _ _ ?_
              | refine z_do 2 (by decide) _ _ _ _ _ _ ?_
              | refine z_do 3 (by decide) _ _ _ _ _ _ ?_
              | refine z_do 4 (by decide) _ _ _ _ _ _ ?_
              | refine z_do 5 (by decide) _ _ _ _ _ _ ?_
              | refine z_do 6 (by decide) _ _ _ _ _ _ ?_
              | refine z_do 7 (by decide) _ _ _ _ _ _ ?_
            simp only[go_sem,hb]
            refine awp_ev dr75 (by decide +kernel) ?_
            simp only[go_sem]
            refine⟨fun e=>?_,fun e=>?_⟩ <;> simp only[e,if_true,if_false,Bool.false_eq_true] at h
            · exact Fin.keep (h _ _ _ _ _ (Eff.run_of r1 rfl) (by omega) A.put29)
            · refine x_by A.put29 t 4 7 15 ?_
              simp only[go_sem]
              exact Fin.keep (h _ _ _ _ _ (Eff.run_of r1 rfl) (by omega) A.put29)
          · rw[e,Bool.false_or] at hp
            refine awp_ev dr75 (by decide +kernel) ?_
            simp only[go_sem]
            first
              | exact Ends.mk 1 ⟨by omega,by omega,hp⟩ (by repeat (first | exact Env.le_nil _ | refine Env.le_cons rfl ?_)) (fun _ _=>rfl) (Nat.le_refl _) (Nat.le_refl _)
              | exact Ends.mk 2 ⟨by omega,by omega,hp⟩ (by repeat (first | exact Env.le_nil _ | refine Env.le_cons rfl ?_)) (fun _ _=>rfl) (Nat.le_refl _) (Nat.le_refl _)
              | exact Ends.mk 3 ⟨by omega,by omega,hp⟩ (by repeat (first | exact Env.le_nil _ | refine Env.le_cons rfl ?_)) (fun _ _=>rfl) (Nat.le_refl _) (Nat.le_refl _)
              | exact Ends.mk 4 ⟨by omega,by omega,hp⟩ (by repeat (first | exact Env.le_nil _ | refine Env.le_cons rfl ?_)) (fun _ _=>rfl) (Nat.le_refl _) (Nat.le_refl _)
              | exact Ends.mk 5 ⟨by omega,by omega,hp⟩ (by repeat (first | exact Env.le_nil _ | refine Env.le_cons rfl ?_)) (fun _ _=>rfl) (Nat.le_refl _) (Nat.le_refl _)
              | exact Ends.mk 6 ⟨by omega,by omega,hp⟩ (by repeat (first | exact Env.le_nil _ | refine Env.le_cons rfl ?_)) (fun _ _=>rfl) (Nat.le_refl _) (Nat.le_refl _)
              | exact Ends.mk 7 ⟨by omega,by omega,hp⟩ (by repeat (first | exact Env.le_nil _ | refine Env.le_cons rfl ?_)) (fun _ _=>rfl) (Nat.le_refl _) (Nat.le_refl _)
              | exact Ends.mk 8 ⟨by omega,by omega,hp⟩ (by repeat (first | exact Env.le_nil _ | refine Env.le_cons rfl ?_)) (fun _ _=>rfl) (Nat.le_refl _) (Nat.le_refl _)
      · obtain rfl:j=8:=by omega
        simp[sums8] at hp
end
end Go.Proofs.Joy
namespace Go.Proofs.Joy
open Go.Ab Go.Proofs
set_option maxHeartbeats 4000000
set_option maxRecDepth 20000
section
variable {σ:Type} {W:WC Tryz.prog σ} {H0:Heap} {n0:Nat} {F0:Nat→Prop} {k:Nat} {c:XC} {s:σ} {H:Heap} {n:Nat} {K:AV→Heap→Nat→Prop} (M:MX W)
include M
def okWhere (w:Str):Bool:=w==[110#8,110#8]||(decide (3≤w.length)&&okN ((w.drop 1).take 2))
omit M in
theorem okWhere_of {w:Str} (h:okWhere w=true) (e:(w !=[110#8,110#8])=true):3≤w.length∧okN ((w.drop 1).take 2)=true:=by
  unfold okWhere at h
  have e':(w==[110#8,110#8])=false:=by simpa using e
  rw[e',Bool.false_or,Bool.and_eq_true,decide_eq_true_eq] at h
  exact h
def okDig (a:Str):Bool:=decide (a.length≤3)&&a.all (fun x=>decide (48≤x.toNat)&&decide (x.toNat≤57))
omit M in
theorem okDig_of {a:Str} (h:okDig a=true):a.length≤3∧∀x∈a,48≤x.toNat∧x.toNat≤57:=by
  unfold okDig at h
  rw[Bool.and_eq_true,decide_eq_true_eq] at h
  refine⟨h.1,fun x hx=>?_⟩
  have:=List.all_eq_true.1 h.2 x hx
  simpa using this
theorem x_jp (A:AXC W H0 n0 F0 k c s H n) (a b:Str) (hm:okWhere (if(b !=[])=true then b else a)=true) (hl:4≤W.left s) (h:∀v c' s' H' n',(xJump [74#8,80#8] a b c).run W.O s=((v,c'),s')→W.left s≤W.left s'+4→AXC W H0 n0 F0 k c' s' H' n'→K (.i64 (v:Nat)) H' n'):ACalls Tryz.prog 76 [.pt k 0,.st [74#8,80#8],.st a,.st b] H n K:=by
  unfold xJump at h
  simp +decide only[if_true,if_false] at h
  have hb:=A.blk29
  refine ACalls.of_awp Tryz.func76 rfl (by decide +kernel) (show 4≤172 by decide) (by simp) fun wf=>?_
  rcases Bool.eq_false_or_eq_true (b !=[]) with eb | eb <;> try simp only[eb,if_true,if_false,Bool.false_eq_true] at h hm
  all_goals
    refine awp_ev dr0 (by decide +kernel) ?_
    simp +decide only[go_sem,Tryz.f76,hb,eb]
    try (refine z_met _ _ _ _ _ ?_; rw[met_eq]; simp +decide only[go_sem,hb])
    refine⟨fun e=>?_,fun e=>?_⟩ <;> simp only[e,if_true,if_false,Bool.false_eq_true] at h
    · have hm2:=okWhere_of hm e
      refine⟨by have:=hm2.1; omega,?_⟩
      refine x_get A _ hm2.2 ?_
      simp only[go_sem,ofInt16,hb]
      exact Fin.keep (h _ _ _ _ _ rfl (by omega) A.put29)
    · refine x_word M A (by omega) fun w c1 s1 H1 n1 r1 e1 e2 e3 lf1 A=>?_
      have hb:=A.blk29
      simp only[go_sem,ofInt16,hb]
      first
        | (refine⟨fun e=>?_,fun e=>?_⟩ <;> simp only[e,if_true,if_false,Bool.false_eq_true] at h <;> exact Fin.keep (h _ _ _ _ _ (Eff.run_of r1 rfl) (by omega) A.put29))
        | exact Fin.keep (h _ _ _ _ _ (Eff.run_of r1 rfl) (by omega) A.put29)
theorem x_call (A:AXC W H0 n0 F0 k c s H n) (a b:Str) (hl:4≤W.left s) (h:∀v c' s' H' n',(xJump [67#8,65#8,76#8,76#8] a b c).run W.O s=((v,c'),s')→W.left s≤W.left s'+4→AXC W H0 n0 F0 k c' s' H' n'→K (.i64 (v:Nat)) H' n'):ACalls Tryz.prog 76 [.pt k 0,.st [67#8,65#8,76#8,76#8],.st a,.st b] H n K:=by
  unfold xJump at h
  simp +decide only[if_true,if_false] at h
  have hb:=A.blk29
  refine ACalls.of_awp Tryz.func76 rfl (by decide +kernel) (show 4≤172 by decide) (by simp) fun wf=>?_
  rcases Bool.eq_false_or_eq_true (b !=[]) with eb | eb <;> try simp only[eb,if_true,if_false,Bool.false_eq_true] at h
  all_goals
    refine awp_ev dr0 (by decide +kernel) ?_
    simp +decide only[go_sem,Tryz.f76,hb,eb]
    try (refine z_met _ _ _ _ _ ?_; rw[met_eq]; simp +decide only[go_sem,hb])
    refine x_word M A (by omega) fun w c1 s1 H1 n1 r1 e1 e2 e3 lf1 A=>?_
    have hb:=A.blk29
    simp only[go_sem,ofInt16,hb]
    try (refine⟨fun e=>?_,fun e=>?_⟩ <;> simp only[Bool.not_eq_true',Bool.not_eq_false'] at e)
    all_goals try simp only[e,if_true,if_false] at h
    all_goals try simp only[if_true,if_false,Bool.true_eq_false] at h
    all_goals first
      | exact Fin.keep (h _ _ _ _ _ (Eff.run_of r1 rfl) (by omega) A.put29)
      | (refine x_get16 A.put29 ?_
         simp only[go_sem]
         refine x_push M A.put29 _ (by omega) fun c2 s2 H2 n2 r2 lf2 A=>?_
         have hb:=A.blk29
         simp only[go_sem,hb]
         exact Fin.keep (h _ _ _ _ _ (Eff.run_of r1 (Eff.run_of r2 rfl)) (by omega) A.put29))
theorem x_jr (A:AXC W H0 n0 F0 k c s H n) (a b:Str) (hl:4≤W.left s) (h:∀v c' s' H' n',(xJump [74#8,82#8] a b c).run W.O s=((v,c'),s')→W.left s≤W.left s'+4→AXC W H0 n0 F0 k c' s' H' n'→K (.i64 (v:Nat)) H' n'):ACalls Tryz.prog 76 [.pt k 0,.st [74#8,82#8],.st a,.st b] H n K:=by
  unfold xJump at h
  simp +decide only[if_true,if_false] at h
  have hb:=A.blk29
  refine ACalls.of_awp Tryz.func76 rfl (by decide +kernel) (show 4≤172 by decide) (by simp) fun wf=>?_
  rcases Bool.eq_false_or_eq_true (b !=[]) with eb | eb <;> try simp only[eb,if_true,if_false,Bool.false_eq_true] at h
  all_goals
    refine awp_ev dr0 (by decide +kernel) ?_
    simp +decide only[go_sem,Tryz.f76,hb,eb]
    try (refine z_met _ _ _ _ _ ?_; rw[met_eq]; simp +decide only[go_sem,hb])
    refine x_next M A (by omega) fun v c1 s1 H1 n1 r1 e1 e2 e3 lf1 A=>?_
    have hb:=A.blk29
    simp only[go_sem,hb]
    try (refine⟨fun e=>?_,fun e=>?_⟩ <;> simp only[Bool.not_eq_true',Bool.not_eq_false'] at e)
    all_goals try simp only[e,if_true,if_false] at h
    all_goals try simp only[if_true,if_false,Bool.true_eq_false] at h
    all_goals first
      | exact Fin.keep (h _ _ _ _ _ (Eff.run_of r1 rfl) (by omega) A)
      | (refine z_move _ _ _ _ _ ?_
         simp only[go_sem]
         refine x_to A _ _ (ofInt16 _) fun H n A=>?_
         simp only[go_sem]
         exact Fin.keep (h _ _ _ _ _ (Eff.run_of r1 rfl) (by omega) A))
theorem x_djnz (A:AXC W H0 n0 F0 k c s H n) (a b:Str) (hl:4≤W.left s) (h:∀v c' s' H' n',(xJump [68#8,74#8,78#8,90#8] a b c).run W.O s=((v,c'),s')→W.left s≤W.left s'+4→AXC W H0 n0 F0 k c' s' H' n'→K (.i64 (v:Nat)) H' n'):ACalls Tryz.prog 76 [.pt k 0,.st [68#8,74#8,78#8,90#8],.st a,.st b] H n K:=by
  unfold xJump at h
  simp +decide only[if_true,if_false] at h
  have hb:=A.blk29
  refine ACalls.of_awp Tryz.func76 rfl (by decide +kernel) (show 4≤172 by decide) (by simp) fun wf=>?_
  rcases Bool.eq_false_or_eq_true (b !=[]) with eb | eb <;> try simp only[eb,if_true,if_false,Bool.false_eq_true] at h
  all_goals
    refine awp_ev dr0 (by decide +kernel) ?_
    simp +decide only[go_sem,Tryz.f76,hb,eb]
    try (refine z_met _ _ _ _ _ ?_; rw[met_eq]; simp +decide only[go_sem,hb])
    refine x_get A _ (by decide) ?_
    simp only[go_sem]
    rw[getB8,dec_b]
    refine x_set A _ (by decide) _ ⟨by have:=nat_b8 (c.r.b-1#8); omega,by have:=nat_b8 (c.r.b-1#8); omega⟩ fun H n A=>?_
    rw[setB8] at A
    have hb:=A.blk29
    simp only[go_sem,hb]
    refine x_next M A (by omega) fun v c1 s1 H1 n1 r1 e1 e2 e3 lf1 A=>?_
    have hb:=A.blk29
    simp only[go_sem,hb]
    rw[pos8]
    refine⟨fun e=>?_,fun e=>?_⟩ <;> simp only[Bool.not_eq_true',Bool.not_eq_false'] at e <;> simp only[e,if_true,if_false,Bool.true_eq_false] at h
    · exact Fin.keep (h _ _ _ _ _ (Eff.run_of r1 rfl) (by omega) A)
    · refine z_move _ _ _ _ _ ?_
      simp only[go_sem]
      refine x_to A _ _ (ofInt16 _) fun H n A=>?_
      simp only[go_sem]
      exact Fin.keep (h _ _ _ _ _ (Eff.run_of r1 rfl) (by omega) A)
theorem x_retn (A:AXC W H0 n0 F0 k c s H n) (a b:Str) (hl:4≤W.left s) (h:∀v c' s' H' n',(xJump [82#8,69#8,84#8,78#8] a b c).run W.O s=((v,c'),s')→W.left s≤W.left s'+4→AXC W H0 n0 F0 k c' s' H' n'→K (.i64 (v:Nat)) H' n'):ACalls Tryz.prog 76 [.pt k 0,.st [82#8,69#8,84#8,78#8],.st a,.st b] H n K:=by
  unfold xJump at h
  simp +decide only[if_true,if_false] at h
  have hb:=A.blk29
  refine ACalls.of_awp Tryz.func76 rfl (by decide +kernel) (show 4≤172 by decide) (by simp) fun wf=>?_
  rcases Bool.eq_false_or_eq_true (b !=[]) with eb | eb <;> try simp only[eb,if_true,if_false,Bool.false_eq_true] at h
  all_goals
    refine awp_ev dr0 (by decide +kernel) ?_
    simp +decide only[go_sem,Tryz.f76,hb,eb]
    try (refine z_met _ _ _ _ _ ?_; rw[met_eq]; simp +decide only[go_sem,hb])
    refine x_pop M A (by omega) fun v c1 s1 H1 n1 r1 lf1 A=>?_
    simp only[go_sem]
    refine x_to A _ _ (ofInt16 _) fun H n A=>?_
    have hb:=A.blk29
    simp only[go_sem,hb]
    exact Fin.keep (h _ _ _ _ _ (Eff.run_of r1 rfl) (by omega) A.put29)
theorem x_reti (A:AXC W H0 n0 F0 k c s H n) (a b:Str) (hl:4≤W.left s) (h:∀v c' s' H' n',(xJump [82#8,69#8,84#8,73#8] a b c).run W.O s=((v,c'),s')→W.left s≤W.left s'+4→AXC W H0 n0 F0 k c' s' H' n'→K (.i64 (v:Nat)) H' n'):ACalls Tryz.prog 76 [.pt k 0,.st [82#8,69#8,84#8,73#8],.st a,.st b] H n K:=by
  unfold xJump at h
  simp +decide only[if_true,if_false] at h
  have hb:=A.blk29
  refine ACalls.of_awp Tryz.func76 rfl (by decide +kernel) (show 4≤172 by decide) (by simp) fun wf=>?_
  rcases Bool.eq_false_or_eq_true (b !=[]) with eb | eb <;> try simp only[eb,if_true,if_false,Bool.false_eq_true] at h
  all_goals
    refine awp_ev dr0 (by decide +kernel) ?_
    simp +decide only[go_sem,Tryz.f76,hb,eb]
    try (refine z_met _ _ _ _ _ ?_; rw[met_eq]; simp +decide only[go_sem,hb])
    refine x_pop M A (by omega) fun v c1 s1 H1 n1 r1 lf1 A=>?_
    simp only[go_sem]
    refine x_to A _ _ (ofInt16 _) fun H n A=>?_
    have hb:=A.blk29
    simp only[go_sem,hb]
    exact Fin.keep (h _ _ _ _ _ (Eff.run_of r1 rfl) (by omega) A.put29)
theorem x_ret (A:AXC W H0 n0 F0 k c s H n) (a b:Str) (hl:4≤W.left s) (h:∀v c' s' H' n',(xJump [82#8,69#8,84#8] a b c).run W.O s=((v,c'),s')→W.left s≤W.left s'+4→AXC W H0 n0 F0 k c' s' H' n'→K (.i64 (v:Nat)) H' n'):ACalls Tryz.prog 76 [.pt k 0,.st [82#8,69#8,84#8],.st a,.st b] H n K:=by
  unfold xJump at h
  simp +decide only[if_true,if_false] at h
  have hb:=A.blk29
  refine ACalls.of_awp Tryz.func76 rfl (by decide +kernel) (show 4≤172 by decide) (by simp) fun wf=>?_
  rcases Bool.eq_false_or_eq_true (b !=[]) with eb | eb <;> try simp only[eb,if_true,if_false,Bool.false_eq_true] at h
  all_goals
    refine awp_ev dr0 (by decide +kernel) ?_
    simp +decide only[go_sem,Tryz.f76,hb,eb]
    try (refine z_met _ _ _ _ _ ?_; rw[met_eq]; simp +decide only[go_sem,hb])
    refine⟨fun e=>?_,fun e=>?_⟩ <;> simp only[e,if_true,if_false,Bool.false_eq_true] at h
    · refine x_pop M A (by omega) fun v c1 s1 H1 n1 r1 lf1 A=>?_
      simp only[go_sem]
      refine x_to A _ _ (ofInt16 _) fun H n A=>?_
      simp only[go_sem]
      exact Fin.keep (h _ _ _ _ _ (Eff.run_of r1 rfl) (by omega) A)
    refine z_met _ _ _ _ _ ?_
    rw[met_eq]
    simp only[go_sem]
    refine⟨fun e=>?_,fun e=>?_⟩ <;> simp only[Bool.not_eq_true',Bool.not_eq_false'] at e <;> simp only[e,if_true,if_false,Bool.true_eq_false] at h
    · exact Fin.keep (h _ _ _ _ _ rfl (by omega) A)
    · refine x_pop M A (by omega) fun v c1 s1 H1 n1 r1 lf1 A=>?_
      simp only[go_sem]
      refine x_to A _ _ (ofInt16 _) fun H n A=>?_
      simp only[go_sem]
      exact Fin.keep (h _ _ _ _ _ (Eff.run_of r1 rfl) (by omega) A)
theorem x_rst (A:AXC W H0 n0 F0 k c s H n) (a b:Str) (hm:okDig a=true) (hl:4≤W.left s) (h:∀v c' s' H' n',(xJump [82#8,83#8,84#8] a b c).run W.O s=((v,c'),s')→W.left s≤W.left s'+4→AXC W H0 n0 F0 k c' s' H' n'→K (.i64 (v:Nat)) H' n'):ACalls Tryz.prog 76 [.pt k 0,.st [82#8,83#8,84#8],.st a,.st b] H n K:=by
  unfold xJump at h
  simp +decide only[if_true,if_false] at h
  have hb:=A.blk29
  refine ACalls.of_awp Tryz.func76 rfl (by decide +kernel) (show 4≤172 by decide) (by simp) fun wf=>?_
  rcases Bool.eq_false_or_eq_true (b !=[]) with eb | eb <;> try simp only[eb,if_true,if_false,Bool.false_eq_true] at h hm
  all_goals
    refine awp_ev dr0 (by decide +kernel) ?_
    simp +decide only[go_sem,Tryz.f76,hb,eb]
    try (refine z_met _ _ _ _ _ ?_; rw[met_eq]; simp +decide only[go_sem,hb])
    refine x_get16 A ?_
    simp only[go_sem]
    refine x_push M A _ (by omega) fun c1 s1 H1 n1 r1 lf1 A=>?_
    simp only[go_sem]
    have kn:=A.kn
    obtain⟨hlen,hdig⟩:=okDig_of hm
    refine awp_loopF (S:=Nat) (fun j=>[(0,.pt k 0),(2,.st a),(14,.i64 (rstN (a.take j) 0:Nat)),(15,.i64 j)]) (fun _=>H1) (fun _=>n1) (fun j=>j≤a.length) (fun j=>a.length-j)
      (fun j _=>⟨A.wf,Env.okAt_of2 (by simp[AV.ok]; omega)⟩) ?_ 0 (Nat.zero_le _) (by repeat (first | exact Env.le_nil _ | refine Env.le_cons rfl ?_)) (fun _ _=>rfl) rfl
    intro j hj
    have hb1:=rstN_lt (a.take j) (fun x hx=>(hdig x (List.mem_of_mem_take hx)).2) 0
    have hp:10 ^ (a.take j).length≤10 ^ 3:=Nat.pow_le_pow_right (by decide) (by rw[List.length_take]; omega)
    have hb2:rstN (a.take j) 0<1000:=by omega
    refine awp_ev dr0 (by decide +kernel) ?_
    simp only[go_sem]
    refine⟨fun hlt=>?_,fun hge=>?_⟩
    · have hj2:j<a.length:=by omega
      refine⟨hlt,?_⟩
      have hd:=hdig _ (List.getElem_mem hj2)
      have e1:(wrap64 (wrap64 (10*((rstN (a.take j) 0:Nat):Int))+((a.getD j 0#8-48#8).toNat:Nat)))=((rstN (a.take (j+1)) 0:Nat):Int):=by
        have eg:a.getD j 0#8=a[j]:=by simp[List.getD_eq_getElem?_getD,hj2]
        rw[rstN_step hj2,eg,sub48 _ hd.1,wrap_id (10*_) (by omega) (by omega),wrap_id _ (by omega) (by omega)]
        omega
      have e2:wrap64 ((j:Int)+1)=((j+1:Nat):Int):=by rw[wrap_id _ (by omega) (by omega)]; omega
      rw[e1,e2]
      exact Ends.mk (j+1) ⟨by omega,by omega⟩ (by repeat (first | exact Env.le_nil _ | refine Env.le_cons rfl ?_)) (fun _ _=>rfl) (Nat.le_refl _) (Nat.le_refl _)
    · obtain rfl:j=a.length:=by omega
      rw[List.take_length] at hb2 ⊢
      refine x_to A (BitVec.ofNat 16 (rstN a 0)) _ rfl fun H n A=>?_
      simp only[go_sem]
      exact Fin.keep (h _ _ _ _ _ (Eff.run_of r1 rfl) (by omega) A)
end
end Go.Proofs.Joy
namespace Go.Proofs.Joy
open Go.Ab Go.Proofs
set_option maxHeartbeats 4000000
set_option maxRecDepth 20000
section
variable {σ:Type} {W:WC Tryz.prog σ} {H0:Heap} {n0:Nat} {F0:Nat→Prop} {k:Nat} {c:XC} {s:σ} {H:Heap} {n:Nat} {K:AV→Heap→Nat→Prop} (M:MX W)
include M
def jumps8:List Str:=[[74#8,80#8],[74#8,82#8],[68#8,74#8,78#8,90#8],[67#8,65#8,76#8,76#8],[82#8,69#8,84#8],[82#8,83#8,84#8],[82#8,69#8,84#8,78#8],[82#8,69#8,84#8,73#8]]
def okJump (m a b:Str):Bool:=jumps8.any (· ==m)&&(if m==[74#8,80#8] then okWhere (if(b !=[])=true then b else a) else if m==[82#8,83#8,84#8] then okDig a else true)
theorem x_jump (A:AXC W H0 n0 F0 k c s H n) (m a b:Str) (hm:okJump m a b=true) (hl:4≤W.left s) (h:∀v c' s' H' n',(xJump m a b c).run W.O s=((v,c'),s')→W.left s≤W.left s'+4→AXC W H0 n0 F0 k c' s' H' n'→K (.i64 (v:Nat)) H' n'):ACalls Tryz.prog 76 [.pt k 0,.st m,.st a,.st b] H n K:=by
  unfold okJump at hm
  rw[Bool.and_eq_true,List.any_eq_true] at hm
  obtain⟨⟨x,hx,e⟩,hm⟩:=hm
  obtain rfl:=eq_of_beq e
  simp only[jumps8,List.mem_cons,List.not_mem_nil,or_false] at hx
  rcases hx with rfl | rfl | rfl | rfl | rfl | rfl | rfl | rfl
  · exact x_jp M A a b hm hl h
  · exact x_jr M A a b hl h
  · exact x_djnz M A a b hl h
  · exact x_call M A a b hl h
  · exact x_ret M A a b hl h
  · exact x_rst M A a b hm hl h
  · exact x_retn M A a b hl h
  · exact x_reti M A a b hl h
def okSwap (m a b:Str):Bool:=m==[69#8,88#8,88#8]||a==[65#8,70#8]||a==[68#8,69#8]||okN b
theorem x_swap (A:AXC W H0 n0 F0 k c s H n) (m a b:Str) (hm:okSwap m a b=true) (hl:4≤W.left s) (h:∀v c' s' H' n',(xSwap m a b c).run W.O s=((v,c'),s')→W.left s≤W.left s'+4→AXC W H0 n0 F0 k c' s' H' n'→K (.i64 (v:Nat)) H' n'):ACalls Tryz.prog 79 [.pt k 0,.st m,.st a,.st b] H n K:=by
  unfold xSwap at h
  unfold okSwap at hm
  have hb:=A.blk29
  have hs:=fun all=>z_swap c.r all
  simp only[Rg.cells] at hs
  refine ACalls.of_awp Tryz.func79 rfl (by decide +kernel) (show 4≤66 by decide) (by simp) fun wf=>?_
  refine awp_ev dr0 (by decide +kernel) ?_
  simp only[go_sem,Tryz.f79,hb]
  refine⟨fun e=>?_,fun e=>?_⟩ <;> simp only[e,if_true,if_false,Bool.false_eq_true,Bool.false_or] at h hm
  · refine hs true _ _ _ ?_
    simp only[go_sem,hb]
    exact Fin.keep (h _ _ _ _ _ rfl (by omega) A.put29)
  refine⟨fun e=>?_,fun e=>?_⟩ <;> simp only[e,if_true,if_false,Bool.false_eq_true,Bool.false_or] at h hm
  · refine hs false _ _ _ ?_
    simp only[go_sem,hb]
    exact Fin.keep (h _ _ _ _ _ rfl (by omega) A.put29)
  refine⟨fun e=>?_,fun e=>?_⟩ <;> simp only[e,if_true,if_false,Bool.false_eq_true,Bool.false_or] at h hm
  · refine x_get A _ (by decide) ?_
    simp only[go_sem]
    refine x_get A _ (by decide) ?_
    simp only[go_sem]
    have b0:=nat_b (getB c.r [72#8,76#8])
    refine x_set A _ (by decide) _ ⟨by omega,by omega⟩ fun H n A=>?_
    rw[ofInt16] at A
    simp only[go_sem]
    have b1:=nat_b (getB c.r [68#8,69#8])
    refine x_set A _ (by decide) _ ⟨by omega,by omega⟩ fun H n A=>?_
    rw[ofInt16] at A
    simp only[go_sem]
    refine Fin.keep (h _ _ _ _ _ rfl (by omega) ?_)
    have e:=swapDE c.r
    simp only[e] at A
    exact A
  · refine x_get A _ (by decide) ?_
    simp only[go_sem]
    refine x_load M A _ (by omega) fun v s1 H1 n1 r1 lf1 A=>?_
    simp only[go_sem]
    refine x_get A _ (by decide) ?_
    simp only[go_sem]
    refine x_get A _ hm ?_
    simp only[go_sem]
    refine x_store M A _ _ (by omega) fun s2 H2 n2 r2 lf2 A=>?_
    simp only[go_sem]
    have b1:=nat_b v
    refine x_set A _ hm _ ⟨by omega,by omega⟩ fun H n A=>?_
    rw[ofInt16] at A
    have hb:=A.blk29
    simp only[go_sem,hb,ofInt16]
    exact Fin.keep (h _ _ _ _ _ (Eff.run_of r1 (Eff.run_of r2 rfl)) (by omega) A.put29)
def okPort (m a b:Str):Bool:=a==[40#8,110#8,41#8]||b==[40#8,110#8,41#8]||(if m==[79#8,85#8,84#8] then b==[48#8]||okN b else b==[]||okN a)
theorem x_port (A:AXC W H0 n0 F0 k c s H n) (m a b:Str) (hm:okPort m a b=true) (hl:4≤W.left s) (h:∀v c' s' H' n',(xPort m a b c).run W.O s=((v,c'),s')→W.left s≤W.left s'+4→AXC W H0 n0 F0 k c' s' H' n'→K (.i64 (v:Nat)) H' n'):ACalls Tryz.prog 80 [.pt k 0,.st m,.st a,.st b] H n K:=by
  unfold xPort at h
  unfold okPort at hm
  have hb:=A.blk29
  refine ACalls.of_awp Tryz.func80 rfl (by decide +kernel) (show 4≤130 by decide) (by simp) fun wf=>?_
  refine awp_ev dr80 (by decide +kernel) ?_
  simp only[go_sem,Tryz.f80,hb]
  repeat' first
    | with_reducible refine And.intro ?_ ?_
    | intro e
  all_goals simp only[*,Bool.or_true,Bool.true_or,Bool.or_false,Bool.false_or,Bool.and_true,Bool.true_and,Bool.and_false,Bool.false_and,if_true,if_false,Bool.false_eq_true,Bool.not_true,Bool.not_false] at h hm
  all_goals first
    | (refine x_next M A (by omega) fun v c1 s1 H1 n1 r1 e1 e2 e3 lf1 A=>?_
       have hb:=A.blk29
       simp only[go_sem,hb]
       refine z_join _ _ _ _ _ ?_
       simp only[go_sem,hb]
       refine⟨fun e=>?_,fun e=>?_⟩ <;> simp only[e,if_true,if_false,Bool.false_eq_true] at h
       · refine x_out M A _ _ 8 (by decide) (by omega) fun s2 H2 n2 r2 lf2 A=>?_
         have hb:=A.blk29
         simp only[go_sem,hb,lo_next8]
         refine z_join _ _ _ _ _ ?_
         simp only[go_sem,hb]
         exact Fin.keep (h _ _ _ _ _ (Eff.run_of r1 (Eff.run_of r2 rfl)) (by omega) A.put29)
       · refine z_move _ _ _ _ _ ?_
         simp only[go_sem,hb]
         refine x_in M A.put29 _ 8 (by decide) (by omega) fun v2 s2 H2 n2 r2 lf2 A=>?_
         have hb:=A.blk29
         simp only[go_sem,hb]
         exact Fin.keep (h _ _ _ _ _ (Eff.run_of r1 (Eff.run_of r2 rfl)) (by omega) A.put29))
    | (refine x_get A _ (by decide) ?_
       simp only[go_sem,ofInt16,hb]
       refine z_move _ _ _ _ _ ?_
       simp only[go_sem,hb]
       refine⟨fun e=>?_,fun e=>?_⟩ <;> simp only[e,if_true,if_false,Bool.false_eq_true] at h hm
       · refine⟨fun e=>?_,fun e=>?_⟩
         · have e':(b==[48#8])=false:=by simpa using e
           simp only[e,e',if_true,if_false,Bool.false_eq_true,Bool.false_or] at h hm
           refine x_get A.put29 _ hm ?_
           simp only[go_sem,byte_lo]
           rw[getO_eq _ _ hm]
           refine x_out M A.put29 _ _ 9 (by decide) (by omega) fun s2 H2 n2 r2 lf2 A=>?_
           simp only[go_sem]
           exact Fin.keep (h _ _ _ _ _ (Eff.run_of r2 rfl) (by omega) A)
         · simp only[e,if_true,if_false,Bool.false_eq_true] at h
           refine x_out M A.put29 _ _ 9 (by decide) (by omega) fun s2 H2 n2 r2 lf2 A=>?_
           simp only[go_sem]
           exact Fin.keep (h _ _ _ _ _ (Eff.run_of r2 rfl) (by omega) A)
       · refine x_in M A.put29 _ 9 (by decide) (by omega) fun v s2 H2 n2 r2 lf2 A=>?_
         have hb:=A.blk29
         simp only[go_sem,hb]
         refine z_shape _ _ _ _ ?_
         have hu:∀(H:Heap) (b:Option Blk),H.upd n2 b k=H k:=fun H b=>Heap.upd_ne _ _ (Nat.ne_of_lt A.kn)
         simp only[go_sem,hb,hu]
         refine z_parity _ _ _ _ ?_
         simp only[go_sem,hb,hu]
         refine z_byte _ _ _ _ _ _ _ _ _ _ _ ?_
         rw[ldai_plain]
         simp only[go_sem,hb,hu]
         have A3:=A.mono (Heap.wf_upd (blk:=⟨[.bo (decide (128#8≤v)),.bo (v==0#8),.bo (v / 32#8%2#8==1#8),.bo false,.bo (v / 8#8%2#8==1#8),.bo (parityS v),.bo false,.bo (c.r.f%2#8==1#8)],139,false⟩) A.wf (by simp[AV.ok])) (Nat.le_succ _) fun i hi=>Heap.upd_ne _ _ (Nat.ne_of_lt hi)
         refine⟨fun e=>?_,fun e=>?_⟩
         · have e':(b==[])=false:=by simpa using e
           simp only[e,e',if_true,if_false,Bool.false_eq_true,Bool.false_or] at h hm
           have b1:=nat_b8 v
           refine x_set A3.put29 a hm _ ⟨by omega,by omega⟩ fun H n A=>?_
           rw[int_w8,setO_eq _ _ _ hm] at A
           simp only[go_sem]
           exact Fin.keep (h _ _ _ _ _ (Eff.run_of r2 rfl) (by omega) A)
         · simp only[e,if_true,if_false,Bool.false_eq_true] at h
           exact Fin.keep (h _ _ _ _ _ (Eff.run_of r2 rfl) (by omega) A3.put29))
end
end Go.Proofs.Joy
namespace Go.Proofs.Joy
open Go.Ab Go.Proofs
set_option maxHeartbeats 4000000
set_option maxRecDepth 20000
section
variable {σ:Type} {W:WC Tryz.prog σ} {H0:Heap} {n0:Nat} {F0:Nat→Prop} {k:Nat} {c:XC} {s:σ} {H:Heap} {n:Nat} {K:AV→Heap→Nat→Prop} (M:MX W)
include M
omit M in
theorem x_alone (A:AXC W H0 n0 F0 k c s H n) (m:Str) (h:∀v c' s' H' n',(xAlone m c).run W.O s=((v,c'),s')→W.left s≤W.left s'+4→AXC W H0 n0 F0 k c' s' H' n'→K (.i64 (v:Nat)) H' n'):ACalls Tryz.prog 83 [.pt k 0,.st m] H n K:=by
  unfold xAlone at h
  have hb:=A.blk29
  refine ACalls.of_awp Tryz.func83 rfl (by decide +kernel) (show 2≤119 by decide) (by simp) fun wf=>?_
  refine awp_ev dr83 (by decide +kernel) ?_
  simp only[go_sem,Tryz.f83,hb]
  repeat' first
    | with_reducible refine And.intro ?_ ?_
    | intro e
    | (refine z_quick _ (by decide) _ _ _ _ _ ?_; simp only[go_sem,hb])
    | (refine z_quick 0 (by decide) _ _ _ _ _ ?_; simp only[go_sem,hb])
    | (refine z_quick 1 (by decide) _ _ _ _ _ ?_; simp only[go_sem,hb])
    | (refine z_quick 2 (by decide) _ _ _ _ _ ?_; simp only[go_sem,hb])
    | (refine z_quick 3 (by decide) _ _ _ _ _ ?_; simp only[go_sem,hb])
    | (refine z_daa _ _ _ _ _ ?_; simp only[go_sem,hb])
    | (refine z_flip 0 (by decide) _ _ _ _ _ ?_; simp only[go_sem,hb])
    | (refine z_flip 1 (by decide) _ _ _ _ _ ?_; simp only[go_sem,hb])
    | (refine z_flip 2 (by decide) _ _ _ _ _ ?_; simp only[go_sem,hb])
  all_goals simp only[*,Bool.or_true,Bool.true_or,Bool.or_false,Bool.false_or,Bool.and_true,Bool.true_and,Bool.and_false,Bool.false_and,if_true,if_false,Bool.false_eq_true,Bool.not_true,Bool.not_false] at h
  all_goals first
    | exact Fin.keep (h _ _ _ _ _ rfl (by omega) A.put29)
    | (obtain rfl:=eq_of_beq ‹(m==[68#8,73#8])=true›
       try simp +decide only[if_true,if_false] at h
       exact Fin.keep (h _ _ _ _ _ rfl (by omega) A.put29))
    | (obtain rfl:=eq_of_beq ‹(m==[69#8,73#8])=true›
       try simp +decide only[if_true,if_false] at h
       exact Fin.keep (h _ _ _ _ _ rfl (by omega) A.put29))
    | exact absurd (‹(m==[68#8,73#8])=true›.symm.trans ‹(m==[68#8,73#8])=false›) (by decide)
    | trace_state
end
end Go.Proofs.Joy
namespace Go.Proofs.Joy
open Go.Ab
set_option maxHeartbeats 1000000
def biI (d:Bool):Int:=if d then-1 else 1
def byW (d:Bool):BitVec 16:=if d then ~~~0#16 else 1#16
theorem by_add (a:BitVec 16) (d:Bool):BitVec.ofInt 16 (wrap64 ((a.toNat:Int)+biI d))=a+byW d:=by
  have:=a.isLt
  cases d
  · exact a_next a
  · show BitVec.ofInt 16 (wrap64 ((a.toNat:Int)+ -1))=a+ ~~~0#16
    rw[wrap_id _ (by omega) (by omega)]
    apply BitVec.eq_of_toNat_eq
    rw[BitVec.toNat_ofInt,BitVec.toNat_add,show(~~~0#16).toNat=65535 from rfl]
    omega
theorem by_bound (a:BitVec 16) (d:Bool): -1000000≤wrap64 ((a.toNat:Int)+biI d)∧wrap64 ((a.toNat:Int)+biI d)≤1000000:=by
  have:=a.isLt
  cases d
  · rw[show biI false=1 from rfl,wrap_id _ (by omega) (by omega)]; omega
  · rw[show biI true= -1 from rfl,wrap_id _ (by omega) (by omega)]; omega
theorem by_mod (a:BitVec 16) (d:Bool):BitVec.ofInt 16 ((wrap64 (wrap64 ((a.toNat:Int)+biI d)+65536)).tmod 65536)=a+byW d:=by
  have:=a.isLt
  have h1:=by_add a d
  have h2:=by_bound a d
  rw[← h1]
  have hn:0≤wrap64 ((a.toNat:Int)+biI d)+65536:=by
    cases d
    · rw[show biI false=1 from rfl,wrap_id _ (by omega) (by omega)]; omega
    · rw[show biI true= -1 from rfl,wrap_id _ (by omega) (by omega)]; omega
  generalize wrap64 ((a.toNat:Int)+biI d)=x at h2 hn ⊢
  rw[wrap_id _ (by omega) (by omega),Int.tmod_eq_emod_of_nonneg hn]
  apply BitVec.eq_of_toNat_eq
  rw[BitVec.toNat_ofInt,BitVec.toNat_ofInt]
  omega
theorem by_lo (a:BitVec 16) (d:Bool):BitVec.ofInt 8 ((wrap64 (wrap64 ((a.toNat:Int)+biI d)+65536)).tmod 256)=loS (a+byW d):=by
  have:=a.isLt
  have h1:=by_add a d
  have h2:=by_bound a d
  rw[← h1]
  have hn:0≤wrap64 ((a.toNat:Int)+biI d)+65536:=by
    cases d
    · rw[show biI false=1 from rfl,wrap_id _ (by omega) (by omega)]; omega
    · rw[show biI true= -1 from rfl,wrap_id _ (by omega) (by omega)]; omega
  generalize wrap64 ((a.toNat:Int)+biI d)=x at h2 hn ⊢
  rw[wrap_id _ (by omega) (by omega),Int.tmod_eq_emod_of_nonneg hn]
  unfold loS
  apply BitVec.eq_of_toNat_eq
  rw[BitVec.toNat_ofInt,BitVec.toNat_setWidth,BitVec.toNat_ofInt]
  omega
theorem by_c (a:BitVec 8) (d:Bool):BitVec.ofInt 8 ((wrap64 (wrap64 ((a.toNat:Int)+biI d)+256)).tmod 256)=a+loS (byW d):=by
  have:=a.isLt
  have e1:(loS (byW true)).toNat=255:=by decide
  have e2:(loS (byW false)).toNat=1:=by decide
  cases d
  · rw[show biI false=1 from rfl,wrap_id ((a.toNat:Int)+1) (by omega) (by omega),wrap_id _ (by omega) (by omega),Int.tmod_eq_emod_of_nonneg (by omega)]
    apply BitVec.eq_of_toNat_eq
    rw[BitVec.toNat_ofInt,BitVec.toNat_add,e2]
    omega
  · rw[show biI true= -1 from rfl,wrap_id ((a.toNat:Int)+ -1) (by omega) (by omega),wrap_id _ (by omega) (by omega),Int.tmod_eq_emod_of_nonneg (by omega)]
    apply BitVec.eq_of_toNat_eq
    rw[BitVec.toNat_ofInt,BitVec.toNat_add,e1]
    omega
theorem dn_word (a:BitVec 16):BitVec.ofInt 16 (wrap64 ((a.toNat:Int)-1))=a-1#16:=by
  rw[wrap_dn a 1 (by decide),int_dn1]
theorem dn_bound (a:BitVec 16): -1000000≤wrap64 ((a.toNat:Int)-1)∧wrap64 ((a.toNat:Int)-1)≤1000000:=by
  have:=a.isLt
  rw[wrap_dn a 1 (by decide)]; omega
theorem on_bc (a:BitVec 16):decide ((0:Int)<((a-1#16).toNat:Int))=(a !=1#16):=by
  have h:=a.isLt
  by_cases e:a=1#16
  · subst e; rfl
  · have e1:(a !=1#16)=true:=by simpa using e
    rw[e1,decide_eq_true_eq]
    have e2:a.toNat≠1:=fun q=>e (BitVec.eq_of_toNat_eq q)
    rw[BitVec.toNat_sub]
    simp only[BitVec.toNat_ofNat]
    omega
theorem move254 (a:BitVec 16):moveS a 254#8=a-2#16:=by
  unfold moveS
  apply BitVec.eq_of_toNat_eq
  have:=a.isLt
  simp +decide [BitVec.toNat_add,BitVec.toNat_sub,Nat.add_comm]
theorem getBCj (r:Rg):getB r [66#8,67#8]=joinS r.b r.c:=rfl
theorem getC8 (r:Rg):(getB r [67#8]).toNat=r.c.toNat:=by
  show(r.c.setWidth 16).toNat=_
  have:=r.c.isLt
  rw[BitVec.toNat_setWidth]
  omega
theorem setBC (r:Rg) (v:BitVec 16):setB r [66#8,67#8] v={ r with b:=hiS v,c:=loS v}:=rfl
theorem setDE (r:Rg) (v:BitVec 16):setB r [68#8,69#8] v={ r with d:=hiS v,e:=loS v}:=rfl
theorem setHL (r:Rg) (v:BitVec 16):setB r [72#8,76#8] v={ r with h:=hiS v,l:=loS v}:=rfl
end Go.Proofs.Joy
namespace Go.Proofs.Joy
open Go.Ab Go.Proofs
set_option maxHeartbeats 4000000
set_option maxRecDepth 20000
section
variable {σ:Type} {W:WC Tryz.prog σ} {H0:Heap} {n0:Nat} {F0:Nat→Prop} {k:Nat} {c:XC} {s:σ} {H:Heap} {n:Nat} {K:AV→Heap→Nat→Prop} (M:MX W)
include M
def downs8:List Str:=[[76#8,68#8,68#8],[76#8,68#8,68#8,82#8],[67#8,80#8,68#8],[67#8,80#8,68#8,82#8],[73#8,78#8,68#8],[73#8,78#8,68#8,82#8],[79#8,85#8,84#8,68#8],[79#8,84#8,68#8,82#8]]
omit M in
theorem down_any (m:Str):downs8.any (· ==m)=downB m:=by
  simp only[downs8,List.any_cons,List.any_nil,Bool.or_false,downB,Bool.beq_comm,Bool.or_assoc]
theorem x_many (A:AXC W H0 n0 F0 k c s H n) (m:Str) (hm:2≤m.length∧m.length≤1000) (hl:4≤W.left s) (h:∀v c' s' H' n',(xMany m c).run W.O s=((v,c'),s')→W.left s≤W.left s'+4→AXC W H0 n0 F0 k c' s' H' n'→K (.i64 (v:Nat)) H' n'):ACalls Tryz.prog 152 [.pt k 0,.st m] H n K:=by
  unfold xMany manyI at h
  refine ACalls.of_awp Tryz.func152 rfl (by decide +kernel) (show 2≤296 by decide) (by simp) fun wf=>?_
  have A1:AXC W H0 n0 F0 k c s (H.upd n (some ⟨downs8.map .st,9,false⟩)) (n+1):=A.mono (Heap.wf_upd wf (fun v hv=>by obtain⟨s,-,rfl⟩:=List.mem_map.1 hv; rfl)) (Nat.le_succ _) fun i hi=>Heap.upd_ne _ _ (Nat.ne_of_lt hi)
  have hkn:k<n:=A.kn
  refine awp_step dr152 (by decide +kernel) ?_
  simp only[go_sem,Tryz.f152]
  refine awp_step dr152 (by decide +kernel) ?_
  simp only[go_sem]
  refine awp_seq ?_
  refine awp_step dr152 (by decide +kernel) ?_
  simp only[go_sem]
  refine awp_block ?_
  refine awp_loopF (S:=Nat) (fun j=>[(0,.pt k 0),(1,.st m),(5,.i64 (biI ((downs8.take j).any (· ==m)))),(19,.sl n 0 8 8),(20,.i64 8),(21,.i64 j)]) (fun _=>H.upd n (some ⟨downs8.map .st,9,false⟩)) (fun _=>n+1) (fun j=>j≤8) (fun j=>8-j)
    (fun j _=>⟨A1.wf,Env.okAt_of2 (by simp[AV.ok]; omega)⟩) ?_ 0 (Nat.zero_le _) (by repeat (first | exact Env.le_nil _ | refine Env.le_cons rfl ?_)) (fun _ _=>rfl) rfl
  intro j hj
  refine awp_step dr152 (by decide +kernel) ?_
  simp only[go_sem]
  refine awp_step dr152 (by decide +kernel) ?_
  simp only[go_sem]
  refine⟨fun hlt=>?_,fun hge=>?_⟩
  · have fin:∀(q:Bool) (X:Env),((downs8.getD j [])==m)=q→Env.le [(0,.pt k 0),(1,.st m),(5,.i64 (if q then-1 else biI ((downs8.take j).any (· ==m)))),(19,.sl n 0 8 8),(20,.i64 8),(21,.i64 ((j+1:Nat):Int))] X→Go.Ab.Ends (fun j:Nat=>[(0,.pt k 0),(1,.st m),(5,.i64 (biI ((downs8.take j).any (· ==m)))),(19,.sl n 0 8 8),(20,.i64 8),(21,.i64 j)]) (fun _=>H.upd n (some ⟨downs8.map .st,9,false⟩)) (fun _=>n+1) (fun s'=>8-s'<8-j∧s'≤8) (n+1) X (H.upd n (some ⟨downs8.map .st,9,false⟩)) (n+1):=by
      intro q X hq hX
      refine Ends.mk (j+1) ⟨by omega,by omega⟩ ?_ (fun _ _=>rfl) (Nat.le_refl _) (Nat.le_refl _)
      have e:(downs8.take (j+1)).any (· ==m)=((downs8.take j).any (· ==m)||q):=by
        have hj8:j<downs8.length:=by simp only[downs8,List.length]; omega
        rw[List.take_succ_eq_append_getElem hj8,List.any_append]
        simp only[List.any_cons,List.any_nil,Bool.or_false]
        rw[← hq]
        simp[List.getD_eq_getElem?_getD,hj8]
      rw[e]
      cases q
      · rw[Bool.or_false]; exact hX
      · rw[Bool.or_true]; exact hX
    rcases (by omega:j=0∨j=1∨j=2∨j=3∨j=4∨j=5∨j=6∨j=7) with rfl | rfl | rfl | rfl | rfl | rfl | rfl | rfl
    all_goals
      refine awp_ev dr152 (by decide +kernel) ?_
      simp only[go_sem,downs8,List.map]
      refine⟨fun e=>?_,fun e=>?_⟩
      · exact fin true _ e (by repeat (first | exact Env.le_nil _ | refine Env.le_cons rfl ?_))
      · exact fin false _ e (by repeat (first | exact Env.le_nil _ | refine Env.le_cons rfl ?_))
  · obtain rfl:j=8:=by omega
    rw[show downs8.take 8=downs8 from rfl,down_any m]
    clear hj hge
    have hby:(if downB m=true then ~~~0#16 else 1#16)=byW (downB m):=rfl
    rw[hby] at h
    generalize downB m=d at h ⊢
    generalize H.upd n (some ⟨downs8.map .st,9,false⟩)=HX at A1 ⊢
    have hb:=A1.blk29
    have elen:wrap64 ((m.length:Int)-1)=((m.length-1:Nat):Int):=by rw[wrap_id _ (by omega) (by omega)]; omega
    generalize hk:(if(m.take 2==[76#8,68#8])=true then 0 else if(m.take 2==[67#8,80#8])=true then 1 else if(m.getD 0 0#8==73#8)=true then 2 else 3:Nat)=kd at h
    refine awp_ev dr152 (by decide +kernel) ?_
    simp only[go_sem,hb]
    rw[elen]
    refine⟨by omega,by omega,?_⟩
    refine x_get A1 _ (by decide) ?_
    simp only[go_sem]
    refine x_get A1 _ (by decide) ?_
    simp only[go_sem,hb,getHL,getBCj]
    generalize (m.getD (m.length-1) 0#8==82#8)=ag at h ⊢
    refine⟨by omega,by omega,fun e=>?_,fun e=>?_⟩
    · rw[if_pos e] at hk
      subst hk
      simp +decide only[xManyP,if_true,if_false] at h
      simp only[ofInt16]
      refine x_rd M A1 _ (by omega) fun v s1 H1 n1 r1 lf1 A=>?_
      have hb:=A.blk29
      simp only[go_sem,hb]
      refine x_get A _ (by decide) ?_
      simp only[go_sem,hb,getDE,ofInt16]
      refine x_wr M A _ _ (by omega) fun s2 H2 n2 r2 lf2 A=>?_
      have hb:=A.blk29
      simp only[go_sem,hb]
      refine x_get A _ (by decide) ?_
      simp only[go_sem,getDE]
      refine x_set A _ (by decide) _ (by_bound _ d) fun H n A=>?_
      rw[by_add,setDE] at A
      simp only[go_sem]
      refine x_set A _ (by decide) _ (dn_bound _) fun H n A=>?_
      rw[dn_word,setBC] at A
      have hb:=A.blk29
      simp only[go_sem,hb]
      refine x_get A _ (by decide) ?_
      simp only[go_sem,hb,getBCj,join_split,ofInt16]
      refine z_rload _ _ _ _ _ _ _ ?_
      simp only[go_sem,hb]
      refine x_get A.put29 _ (by decide) ?_
      simp only[go_sem,getBCj,join_split,on_bc]
      refine x_set A.put29 _ (by decide) _ (by_bound _ d) fun H n A=>?_
      rw[by_add,setHL] at A
      have hb:=A.blk29
      simp only[go_sem,hb]
      refine⟨fun e1=>?_,fun e1=>?_⟩ <;> simp only[Bool.not_eq_true',Bool.not_eq_false'] at e1 <;> subst e1 <;> simp only[Bool.true_eq_false,false_or,true_or,if_true] at h
      · (refine⟨fun e2=>?_,fun e2=>?_⟩ <;> try simp only[Bool.not_eq_true',Bool.not_eq_false'] at e2)
        · exact Fin.keep (h _ _ _ _ _ (Eff.run_of r1 (Eff.run_of r2 (by dsimp only[XC.wz,XC.setF]; simp only[e2,if_true,if_false,Bool.true_eq_false]; rfl))) (by omega) A)
        · refine z_move _ _ _ _ _ ?_
          rw[move254]
          simp only[go_sem,hb,e]
          refine z_move _ _ _ _ _ ?_
          simp only[go_sem,hb]
          exact Fin.keep (h _ _ _ _ _ (Eff.run_of r1 (Eff.run_of r2 (by dsimp only[XC.wz,XC.setF]; simp only[e2,if_true,if_false,Bool.true_eq_false]; rfl))) (by omega) A.put29)
      · exact Fin.keep (h _ _ _ _ _ (Eff.run_of r1 (Eff.run_of r2 rfl)) (by omega) A)
    rw[if_neg (by rw[e]; decide)] at hk
    refine⟨fun e3=>?_,fun e3=>?_⟩
    · rw[if_pos e3] at hk
      subst hk
      simp +decide only[xManyP,if_true,if_false] at h
      rw[by_mod]
      refine x_set A1.put29 _ (by decide) _ (dn_bound _) fun H n A=>?_
      rw[dn_word,setBC] at A
      have hb:=A.blk29
      simp only[go_sem,hb,ofInt16]
      refine x_rd M A _ (by omega) fun v s1 H1 n1 r1 lf1 A=>?_
      have hb:=A.blk29
      simp only[go_sem,hb]
      refine x_get A _ (by decide) ?_
      simp only[go_sem,hb,getBCj,join_split,ofInt16]
      refine z_rseek _ _ _ _ _ _ _ ?_
      simp only[go_sem,hb]
      refine x_set A.put29 _ (by decide) _ (by_bound _ d) fun H n A=>?_
      rw[by_add,setHL] at A
      have hb:=A.blk29
      simp only[go_sem,hb]
      refine⟨fun e1=>?_,fun e1=>?_⟩ <;> simp only[Bool.not_eq_true',Bool.not_eq_false'] at e1 <;> subst e1 <;> simp only[Bool.true_eq_false,false_or,true_or,if_true] at h
      · (refine⟨fun e2=>?_,fun e2=>?_⟩ <;> try simp only[Bool.not_eq_true',Bool.not_eq_false'] at e2)
        · exact Fin.keep (h _ _ _ _ _ (Eff.run_of r1 (by dsimp only[XC.wz,XC.setF]; simp only[e2,if_true,if_false,Bool.true_eq_false]; rfl)) (by omega) A)
        · refine z_move _ _ _ _ _ ?_
          rw[move254]
          simp only[go_sem,hb,e,e3]
          refine z_move _ _ _ _ _ ?_
          simp only[go_sem,hb]
          exact Fin.keep (h _ _ _ _ _ (Eff.run_of r1 (by dsimp only[XC.wz,XC.setF]; simp only[e2,if_true,if_false,Bool.true_eq_false]; rfl)) (by omega) A.put29)
      · exact Fin.keep (h _ _ _ _ _ (Eff.run_of r1 rfl) (by omega) A)
    rw[if_neg (by rw[e3]; decide)] at hk
    refine⟨by omega,fun e4=>?_,fun e4=>?_⟩
    · rw[if_pos e4] at hk
      subst hk
      simp +decide only[xManyP,if_true,if_false] at h
      rw[by_mod]
      simp only[ofInt16]
      refine x_in M A1.put29 _ 13 (by decide) (by omega) fun v s1 H1 n1 r1 lf1 A=>?_
      have hb:=A.blk29
      simp only[go_sem,hb,ofInt16]
      refine x_wr M A _ _ (by omega) fun s2 H2 n2 r2 lf2 A=>?_
      have hb:=A.blk29
      simp only[go_sem,hb]
      refine x_get A _ (by decide) ?_
      simp only[go_sem]
      rw[getB8,dec_b]
      refine x_set A _ (by decide) _ ⟨by have:=nat_b8 (c.r.b-1#8); omega,by have:=nat_b8 (c.r.b-1#8); omega⟩ fun H n A=>?_
      rw[setB8] at A
      have hb:=A.blk29
      simp only[go_sem,hb]
      refine x_get A _ (by decide) ?_
      simp only[go_sem,hb,getC8,by_c]
      refine z_rport _ _ _ _ _ _ ?_
      simp only[go_sem,hb,pos8]
      refine x_set A.put29 _ (by decide) _ (by_bound _ d) fun H n A=>?_
      rw[by_add,setHL] at A
      have hb:=A.blk29
      simp only[go_sem,hb]
      refine⟨fun e1=>?_,fun e1=>?_⟩ <;> simp only[Bool.not_eq_true',Bool.not_eq_false'] at e1 <;> subst e1 <;> simp only[Bool.true_eq_false,false_or,true_or,if_true] at h
      · (refine⟨fun e2=>?_,fun e2=>?_⟩ <;> try simp only[Bool.not_eq_true',Bool.not_eq_false'] at e2)
        · exact Fin.keep (h _ _ _ _ _ (Eff.run_of r1 (Eff.run_of r2 (by dsimp only[XC.wz,XC.setF]; simp only[e2,if_true,if_false,Bool.true_eq_false]; rfl))) (by omega) A)
        · refine z_move _ _ _ _ _ ?_
          rw[move254]
          simp only[go_sem,hb,e,e3]
          exact Fin.keep (h _ _ _ _ _ (Eff.run_of r1 (Eff.run_of r2 (by dsimp only[XC.wz,XC.setF]; simp only[e2,if_true,if_false,Bool.true_eq_false]; rfl))) (by omega) A.put29)
      · exact Fin.keep (h _ _ _ _ _ (Eff.run_of r1 (Eff.run_of r2 rfl)) (by omega) A)
    · rw[if_neg (by rw[e4]; decide)] at hk
      subst hk
      simp +decide only[xManyP,if_true,if_false] at h
      simp only[ofInt16]
      refine x_rd M A1 _ (by omega) fun v s1 H1 n1 r1 lf1 A=>?_
      have hb:=A.blk29
      simp only[go_sem,hb]
      refine x_get A _ (by decide) ?_
      simp only[go_sem]
      rw[getB8,dec_b]
      refine x_set A _ (by decide) _ ⟨by have:=nat_b8 (c.r.b-1#8); omega,by have:=nat_b8 (c.r.b-1#8); omega⟩ fun H n A=>?_
      rw[setB8] at A
      have hb:=A.blk29
      simp only[go_sem,hb]
      refine x_get A _ (by decide) ?_
      simp only[go_sem,hb,getBCj,ofInt16]
      refine x_out M A _ _ 13 (by decide) (by omega) fun s2 H2 n2 r2 lf2 A=>?_
      have hb:=A.blk29
      simp only[go_sem,hb]
      refine x_get A _ (by decide) ?_
      simp only[go_sem,hb,getBCj,by_mod,by_lo]
      refine z_rport _ _ _ _ _ _ ?_
      simp only[go_sem,hb,pos8]
      refine x_set A.put29 _ (by decide) _ (by_bound _ d) fun H n A=>?_
      rw[by_add,setHL] at A
      have hb:=A.blk29
      simp only[go_sem,hb]
      refine⟨fun e1=>?_,fun e1=>?_⟩ <;> simp only[Bool.not_eq_true',Bool.not_eq_false'] at e1 <;> subst e1 <;> simp only[Bool.true_eq_false,false_or,true_or,if_true] at h
      · (refine⟨fun e2=>?_,fun e2=>?_⟩ <;> try simp only[Bool.not_eq_true',Bool.not_eq_false'] at e2)
        · exact Fin.keep (h _ _ _ _ _ (Eff.run_of r1 (Eff.run_of r2 (by dsimp only[XC.wz,XC.setF]; simp only[e2,if_true,if_false,Bool.true_eq_false]; rfl))) (by omega) A)
        · refine z_move _ _ _ _ _ ?_
          rw[move254]
          simp only[go_sem,hb,e,e3]
          exact Fin.keep (h _ _ _ _ _ (Eff.run_of r1 (Eff.run_of r2 (by dsimp only[XC.wz,XC.setF]; simp only[e2,if_true,if_false,Bool.true_eq_false]; rfl))) (by omega) A.put29)
      · exact Fin.keep (h _ _ _ _ _ (Eff.run_of r1 (Eff.run_of r2 rfl)) (by omega) A)
end
end Go.Proofs.Joy
namespace Go.Proofs.Joy
open Go.Ab Go.Proofs
set_option maxHeartbeats 4000000
set_option maxRecDepth 20000
section
variable {σ:Type} {W:WC Tryz.prog σ} {H0:Heap} {n0:Nat} {F0:Nat→Prop} {k:Nat} {c:XC} {s:σ} {H:Heap} {n:Nat} {K:AV→Heap→Nat→Prop} (M:MX W)
include M
def okExt (m a:Str):Bool:=if m==[73#8,77#8] then decide (0<a.length) else decide (2≤m.length)&&decide (m.length≤1000)
theorem x_ext (A:AXC W H0 n0 F0 k c s H n) (m a:Str) (hm:okExt m a=true) (hl:4≤W.left s) (h:∀v c' s' H' n',(xExt m a c).run W.O s=((v,c'),s')→W.left s≤W.left s'+4→AXC W H0 n0 F0 k c' s' H' n'→K (.i64 (v:Nat)) H' n'):ACalls Tryz.prog 82 [.pt k 0,.st m,.st a] H n K:=by
  unfold xExt at h
  unfold okExt at hm
  have hb:=A.blk29
  refine ACalls.of_awp Tryz.func82 rfl (by decide +kernel) (show 3≤112 by decide) (by simp) fun wf=>?_
  refine awp_ev dr82 (by decide +kernel) ?_
  simp only[go_sem,Tryz.f82,hb]
  repeat' first
    | with_reducible refine And.intro ?_ ?_
    | intro e
  all_goals simp only[*,Bool.or_true,Bool.true_or,Bool.or_false,Bool.false_or,Bool.and_true,Bool.true_and,Bool.and_false,Bool.false_and,if_true,if_false,Bool.false_eq_true,Bool.not_true,Bool.not_false] at h hm
  all_goals first
    | exact absurd (‹(m==[82#8,82#8,68#8])=true›.symm.trans ‹(m==[82#8,82#8,68#8])=false›) (by decide)
    | (have:=of_decide_eq_true hm; omega)
    | exact Fin.keep (h _ _ _ _ _ rfl (by omega) A)
    | exact Fin.keep (h _ _ _ _ _ rfl (by omega) A.put29)
    | (refine z_sub _ _ _ _ _ _ ?_
       simp only[go_sem,hb]
       exact Fin.keep (h _ _ _ _ _ rfl (by omega) A.put29))
    | (refine x_many M A m (by simpa using hm) hl fun v c1 s1 H1 n1 r1 lf1 A=>?_
       simp only[go_sem]
       exact Fin.keep (h _ _ _ _ _ r1 lf1 A))
    | (refine x_get A _ (by decide) ?_
       simp only[go_sem,hb,getHL,ofInt16]
       refine z_move _ _ _ _ _ ?_
       simp only[go_sem,hb]
       refine x_rd M A.put29 _ (by omega) fun v s1 H1 n1 r1 lf1 A=>?_
       have hb:=A.blk29
       simp only[go_sem,hb]
       try rw[‹(m==[82#8,76#8,68#8])=true›]
       refine z_digits _ _ _ _ _ _ _ ?_
       simp only[go_sem,hb]
       refine x_wr M A _ _ (by omega) fun s2 H2 n2 r2 lf2 A=>?_
       have hb:=A.blk29
       simp only[go_sem,hb]
       exact Fin.keep (h _ _ _ _ _ (Eff.run_of r1 (Eff.run_of r2 rfl)) (by omega) A.put29))
end
end Go.Proofs.Joy
namespace Go.Proofs.Joy
open Go.Ab
set_option maxHeartbeats 1000000
variable {P:Program} {σ:Type} {W:WC P σ} {T:TypeId} {H0:Heap} {n0:Nat} {F0:Nat→Prop} {k:Nat} {c:XC} {s:σ} {H:Heap} {n:Nat}
theorem AX.rebase (A:AX W T H0 n0 F0 k c s H n) {H':Heap} {n':Nat} (hw:H'.wf n') (hn:n≤n') (he:∀i,i<n→H' i=H i):
    ∃ F1,AX W T H' n' F1 k c s H' n'∧
      ∀ {c':XC} {s':σ} {H2:Heap} {n2:Nat},AX W T H' n' F1 k c' s' H2 n2→AX W T H0 n0 F0 k c' s' H2 n2∧n'≤n2∧∀q,n≤q→q<n'→H2 q=H' q:=by
  obtain⟨F,h1,h2,h3⟩:=A.fp
  refine⟨F,⟨hw,Nat.le_refl _,by rw[he _ A.kn]; exact A.blk,⟨F,W.stable h1 (fun i hi=>he i (W.low h1 hi)) hn,h2,fun i hi=>.inl hi⟩,fun _ _ _ _=>rfl⟩,?_⟩
  intro c' s' H2 n2 B
  obtain⟨F',g1,g2,g3⟩:=B.fp
  refine⟨⟨B.wf,Nat.le_trans A.le (Nat.le_trans hn B.le),B.blk,⟨F',g1,g2,fun i hi=>?_⟩,fun i hi hk hF=>?_⟩,B.le,fun q hq hq2=>?_⟩
  · rcases g3 i hi with h | h
    · exact h3 i h
    · exact .inr (Nat.le_trans A.le (Nat.le_trans hn h))
  · have hin:i<n:=Nat.lt_of_lt_of_le hi A.le
    rw[B.fr i (Nat.lt_of_lt_of_le hin hn) hk (fun h=>by rcases h3 i h with h | h; exact hF h; omega),he i hin]
    exact A.fr i hi hk hF
  · exact B.fr q hq2 (fun e=>by have:=A.kn; omega) (fun h=>by have:=W.low h1 h; omega)
theorem AX.start {F:Nat→Prop} (hr:W.rep s H n F) (hk:n≤k) {H':Heap} {n':Nat} (hw:H'.wf n') (hn:k<n') (he:∀i,i<n→H' i=H i) (c:XC) (hb:H' k=some ⟨c.r.cells++[W.v,.u16 c.to,.bo c.idx,.i64 c.pg],T,false⟩):AX W T H' n' F k c s H' n':=
  ⟨hw,Nat.le_refl _,hb,⟨F,W.stable hr (fun i hi=>he i (W.low hr hi)) (by omega),fun h=>by have:=W.low hr h; omega,fun i hi=>.inl hi⟩,fun _ _ _ _=>rfl⟩
theorem AX.done {F:Nat→Prop} (hr:W.rep s H n F) (hk:n≤k) {H1:Heap} {n1:Nat} (hn:n≤n1) (he:∀i,i<n→H1 i=H i) {s':σ} {H':Heap} {n':Nat} (A:AX W T H1 n1 F k c s' H' n'):
    n≤n'∧∃F',W.rep s' H' n' F'∧(∀i,F' i→F i∨n≤i)∧∀i,i<n→¬F i→H' i=H i:=by
  obtain⟨F',g1,g2,g3⟩:=A.fp
  have hle:=A.le
  refine⟨by omega,F',g1,fun i hi=>?_,fun i hi hF=>?_⟩
  · rcases g3 i hi with h | h
    · exact .inl h
    · exact .inr (by omega)
  · rw[A.fr i (by omega) (by omega) hF,he i hi]
def bits3 (m:Str):Bool:=m==[66#8,73#8,84#8]||m==[82#8,69#8,83#8]||m==[83#8,69#8,84#8]
def rots8:List Str:=[[82#8,76#8,67#8],[82#8,82#8,67#8],[82#8,76#8],[82#8,82#8],[83#8,76#8,65#8],[83#8,82#8,65#8],[83#8,76#8,76#8],[83#8,82#8,76#8]]
def okThing (x:Str):Bool:=okT x&&!(x==[110#8])
def okBits (ts:List Str) (m:Str):Bool:=
  if bits3 m then decide (2≤ts.length)&&decide (ts.length≤3)&&decide (0<(ts.getD 0 []).length)&&decide (48≤((ts.getD 0 []).getD 0 0#8).toNat)&&decide (((ts.getD 0 []).getD 0 0#8).toNat≤55)&&(ts.drop 1).all okThing
  else rots8.any (· ==m)&&decide (1≤ts.length)&&decide (ts.length≤2)&&ts.all okThing
theorem xBits_eq (ts:List Str) (m:Str) (c:XC) {o nn:Nat} (ho:o=if bits3 m then 1 else 0) (hn:nn=if bits3 m then(((ts.getD 0 []).getD 0 0#8).toNat-48) else 0):
    xBits ts m c=(xByte (ts.getD o []) c).bind fun v=>
      if m==[66#8,73#8,84#8] then .ret (xBy v.2 (ts.getD o []) 8 12 16,v.2.setF (bitS8 nn v.1 v.2.r.f (if memB (ts.getD o []) then hiS v.2.r.wz else v.1)))
      else(xPuts (ts.drop o) (if bits3 m then putS8 nn v.1 (m==[83#8,69#8,84#8]) else(rotS (rotI m) v.1 v.2.r.f).1) (if bits3 m then v.2 else v.2.setF (rotS (rotI m) v.1 v.2.r.f).2)).bind fun x=>.ret (xBy x.2 (ts.getD o []) 8 15 19,x.2):=by
  have hk:(m==[66#8,73#8,84#8]||m==[82#8,69#8,83#8]||m==[83#8,69#8,84#8])=bits3 m:=rfl
  unfold xBits
  rw[hk]
  cases e:bits3 m
  · rw[e] at ho hn
    subst ho hn
    rfl
  · rw[e] at ho hn
    subst ho hn
    simp only[if_true]
    have:(ts.drop 1).getD 0 []=ts.getD 1 []:=by simp[List.getD_eq_getElem?_getD]
    rw[this]
theorem okBits_of {ts:List Str} {m:Str} (h:okBits ts m=true) {o nn:Nat} (ho:o=if bits3 m then 1 else 0) (hn:nn=if bits3 m then(((ts.getD 0 []).getD 0 0#8).toNat-48) else 0):
    o≤1∧nn<8∧1≤ts.length-o∧ts.length-o≤2∧(∀x∈ts.drop o,okThing x=true)∧(bits3 m=true→0<(ts.getD 0 []).length∧(((ts.getD 0 []).getD 0 0#8-48#8).toNat=nn))∧(bits3 m=false→rots8.any (· ==m)=true):=by
  unfold okBits at h
  cases e:bits3 m
  · simp only[e,if_false,Bool.false_eq_true,Bool.and_eq_true,decide_eq_true_eq,List.all_eq_true] at h ho hn
    subst ho hn
    refine⟨by omega,by omega,by omega,by omega,fun x hx=>h.2 x hx,fun q=>absurd q (by decide),fun _=>h.1.1.1⟩
  · simp only[e,if_true,Bool.and_eq_true,decide_eq_true_eq,List.all_eq_true] at h ho hn
    subst ho hn
    refine⟨by omega,by omega,by omega,by omega,fun x hx=>h.2 x hx,fun _=>⟨h.1.1.1.2,sub48 _ h.1.1.2⟩,fun q=>absurd q (by decide)⟩
end Go.Proofs.Joy
namespace Go.Proofs.Joy
open Go.Ab Go.Proofs
set_option maxHeartbeats 4000000
set_option maxRecDepth 20000
section
variable {σ:Type} {W:WC Tryz.prog σ} {H0:Heap} {n0:Nat} {F0:Nat→Prop} {k:Nat} {c:XC} {s:σ} {H:Heap} {n:Nat} {K:AV→Heap→Nat→Prop} (M:MX W)
include M
theorem x_bits (A:AXC W H0 n0 F0 k c s H n) (nm m:Str) (pg:Int) (hn:nm.length≤1000) (hw:2≤(wordsN nm).length) (hm:okBits (partsN nm) m=true) (hl:4≤W.left s) (h:∀v c' s' H' n',(xBits (partsN nm) m c).run W.O s=((v,c'),s')→W.left s≤W.left s'+4→AXC W H0 n0 F0 k c' s' H' n'→K (.i64 (v:Nat)) H' n'):ACalls Tryz.prog 81 [.pt k 0,.st nm,.st m,.i64 pg] H n K:=by
  refine ACalls.of_awp Tryz.func81 rfl (by decide +kernel) (show 4≤129 by decide) (by simp) fun wf=>?_
  refine awp_step dr0 (by decide +kernel) ?_
  simp only[go_sem,Tryz.f81]
  refine awp_step dr0 (by decide +kernel) ?_
  simp only[go_sem]
  refine z_split12 nm _ (by omega) _ _ _ fun H1 n1 q1 w1 l1 l2 l3 l4 l5=>?_
  simp only[go_sem,l4]
  have hw':1<(splitS nm 32#8).length:=hw
  refine⟨by omega,by rw[List.length_map]; omega,?_⟩
  rw[st_getD hw']
  have l2n:=split_le nm 32#8 (B:=1000) hn 1
  have hpl:=splitS_len ((splitS nm 32#8).getD 1 []) 44#8
  refine z_split12 _ _ (by omega) _ _ _ ?_
  have hts:splitS ((splitS nm 32#8).getD 1 []) 44#8=partsN nm:=rfl
  rw[hts] at hpl ⊢
  generalize partsN nm=ts at h hm hpl ⊢
  intro H2 n2 q w2 m1 m2 m3 m4 m5
  have hkn0:=A.kn
  obtain⟨F1,A,back⟩:=A.rebase w2 (Nat.le_trans l1 m1) (fun i hi=>by rw[m5 i (by omega),l5 i hi])
  simp only[go_sem]
  refine awp_step dr0 (by decide +kernel) ?_
  simp only[go_sem]
  obtain⟨o,ho⟩:∃o,o=if bits3 m then 1 else 0:=⟨_,rfl⟩
  obtain⟨nn,hnn⟩:∃nn,nn=if bits3 m then(((ts.getD 0 []).getD 0 0#8).toNat-48) else 0:=⟨_,rfl⟩
  have hk:=A.kn
  have facts:o≤1∧nn<8∧1≤ts.length-o∧ts.length-o≤2∧(∀x∈ts.drop o,okThing x=true)∧(bits3 m=true→0<(ts.getD 0 []).length∧(((ts.getD 0 []).getD 0 0#8-48#8).toNat=nn))∧(bits3 m=false→rots8.any (· ==m)=true):=okBits_of hm ho hnn
  obtain⟨fo,fn,f1,f2,f3,f4,f5⟩:=facts
  rw[xBits_eq ts m c ho hnn] at h
  refine awp_seqF (S:=Unit) (fun _=>[(0,.pt k 0),(2,.st m),(9,.su q o (ts.length-o) 1),(10,.i64 nn)]) (fun _=>H2) (fun _=>n2) (fun _=>True) (fun _ _=>⟨w2,Env.okAt_of2 (by simp[AV.ok]; omega)⟩) ?_ ?_
  · refine awp_ev dr0 (by decide +kernel) ?_
    simp only[go_sem,m4]
    have hts:0<ts.length:=by omega
    have e0:(ts.map AV.st).getD 0 .junk=.st (ts.getD 0 []):=st_getD hts
    repeat' first
      | with_reducible refine And.intro ?_ ?_
      | intro e
    all_goals first
      | omega
      | (rw[List.length_map]; omega)
      | (have hb3:bits3 m=true:=by simp only[bits3, *,Bool.or_true,Bool.true_or]
         rw[hb3,if_pos rfl] at ho
         subst ho
         obtain⟨g1,g2⟩:=f4 hb3
         rw[e0]
         simp only[go_sem]
         refine⟨by omega,?_⟩
         rw[m4]
         simp only[go_sem]
         refine⟨by omega,by rw[List.length_map]; exact Nat.le_refl _,?_⟩
         rw[if_pos (by omega),g2]
         exact Ends.mk () trivial (by repeat (first | exact Env.le_nil _ | refine Env.le_cons rfl ?_)) (fun _ _=>rfl) (Nat.le_refl _) (Nat.le_refl _))
      | (have hb3:bits3 m=false:=by simp only[bits3, *,Bool.or_false]
         rw[hb3,if_neg (by decide)] at ho hnn
         subst ho hnn
         exact Ends.mk () trivial (by repeat (first | exact Env.le_nil _ | refine Env.le_cons rfl ?_)) (fun _ _=>rfl) (Nat.le_refl _) (Nat.le_refl _))
  · rintro- -
    have ht:o<ts.length:=by omega
    have e0:(ts.map AV.st).getD o .junk=.st (ts.getD o []):=st_getD ht
    have e0':(ts.map AV.st).getD (o+0) .junk=.st (ts.getD o []):=e0
    have hthing:okThing (ts.getD o [])=true:=f3 _ (by rw[List.drop_eq_getElem_cons ht,show ts[o]=ts.getD o [] by simp[List.getD_eq_getElem?_getD,ht]]; exact List.mem_cons_self)
    have hth:okT (ts.getD o [])=true:=by unfold okThing at hthing; rw[Bool.and_eq_true] at hthing; exact hthing.1
    have hqn:n≤q:=by omega
    refine awp_step dr0 (by decide +kernel) ?_
    simp only[go_sem,m4]
    refine⟨by omega,by rw[List.length_map]; omega,?_⟩
    rw[e0']
    refine x_byte M A _ hth (by omega) fun v c1 s1 H3 n3 r1 lf1 A=>?_
    have hq3:=((back A).2.2 q hqn m3).trans m4
    have hb:=A.blk29
    have hk3:=A.kn
    have hn3:=(back A).2.1
    simp only[go_sem,hb]
    refine awp_step dr0 (by decide +kernel) ?_
    simp only[go_sem]
    refine awp_seqF (S:=Unit) (fun _=>[(0,.pt k 0),(2,.st m),(9,.su q o (ts.length-o) 1),(10,.i64 nn),(11,.u8 v),(12,.u8 (if memB (ts.getD o [])=true then hiS c1.r.wz else v))]) (fun _=>H3) (fun _=>n3) (fun _=>True) (fun _ _=>⟨A.wf,Env.okAt_of2 (by simp[AV.ok]; omega)⟩) ?_ ?_
    · refine awp_ev dr0 (by decide +kernel) ?_
      simp only[go_sem,hq3]
      refine⟨by omega,by rw[List.length_map]; omega,?_⟩
      rw[e0']
      refine x_memory _ _ _ _ ?_
      simp only[go_sem,hb]
      refine⟨fun e=>?_,fun e=>?_⟩ <;> simp only[e,if_true,if_false,Bool.false_eq_true]
      · rw[hi_div]
        exact Ends.mk () trivial (by repeat (first | exact Env.le_nil _ | refine Env.le_cons rfl ?_)) (fun _ _=>rfl) (Nat.le_refl _) (Nat.le_refl _)
      · exact Ends.mk () trivial (by repeat (first | exact Env.le_nil _ | refine Env.le_cons rfl ?_)) (fun _ _=>rfl) (Nat.le_refl _) (Nat.le_refl _)
    · rintro- -
      generalize hfrom:(if memB (ts.getD o [])=true then hiS c1.r.wz else v)=from_
      refine awp_step dr0 (by decide +kernel) ?_
      simp only[go_sem]
      refine⟨fun e=>?_,fun e=>?_⟩ <;> simp only[e,if_true,if_false,Bool.false_eq_true] at h
      · simp only[go_sem,hb]
        refine z_bit nn fn _ _ _ _ _ _ ?_
        have hu:∀b:Option Blk,H3.upd k b q=H3 q:=fun b=>Heap.upd_ne _ _ (fun e=>by omega)
        simp only[go_sem,hb,hu,hq3]
        refine⟨by omega,by rw[List.length_map]; omega,?_⟩
        rw[e0']
        refine x_by A.put29 _ 8 12 16 ?_
        simp only[go_sem]
        subst hfrom
        exact Fin.keep (h _ _ _ _ _ (Eff.run_of r1 rfl) (by omega) (back A.put29).1)
      · refine awp_step dr0 (by decide +kernel) ?_
        simp only[go_sem]
        refine z_put nn fn _ _ _ _ _ ?_
        simp only[go_sem]
        have A1:AXC W H2 n2 F1 k c1 s1 (H3.upd n3 (some ⟨rots8.map .st,9,false⟩)) (n3+1):=A.mono (Heap.wf_upd A.wf (fun v hv=>by obtain⟨s,-,rfl⟩:=List.mem_map.1 hv; rfl)) (Nat.le_succ _) fun i hi=>Heap.upd_ne _ _ (Nat.ne_of_lt hi)
        have hu:∀(b:Option Blk),H3.upd n3 b k=H3 k:=fun b=>Heap.upd_ne _ _ (Nat.ne_of_lt hk3)
        have hq1:H3.upd n3 (some ⟨rots8.map .st,9,false⟩) q=some ⟨ts.map .st,9,false⟩:=by rw[Heap.upd_ne _ _ (by omega)]; exact hq3
        refine awp_seqF (S:=XC×BitVec 8×Heap) (fun x=>[(0,.pt k 0),(2,.st m),(9,.su q o (ts.length-o) 1),(13,.u8 x.2.1)]) (fun x=>x.2.2) (fun _=>n3+1)
          (fun x=>AXC W H2 n2 F1 k x.1 s1 x.2.2 (n3+1)∧x.2.2 q=some ⟨ts.map .st,9,false⟩∧x.2.1=(if bits3 m=true then putS8 nn v (m==[83#8,69#8,84#8]) else(rotS (rotI m) v c1.r.f).1)∧x.1=(if bits3 m=true then c1 else c1.setF (rotS (rotI m) v c1.r.f).2))
          (fun x hx=>⟨hx.1.wf,Env.okAt_of2 (by simp[AV.ok]; omega)⟩) ?_ ?_
        · refine awp_step dr0 (by decide +kernel) ?_
          simp only[go_sem]
          refine awp_block ?_
          refine awp_loopF (S:=Nat) (fun j=>[(0,.pt k 0),(2,.st m),(9,.su q o (ts.length-o) 1),(11,.u8 v),(13,.u8 (putS8 nn v (m==[83#8,69#8,84#8]))),(85,.sl n3 0 8 8),(86,.i64 8),(87,.i64 j)]) (fun _=>H3.upd n3 (some ⟨rots8.map .st,9,false⟩)) (fun _=>n3+1) (fun j=>j≤8∧(bits3 m=false→(rots8.drop j).any (· ==m)=true)) (fun j=>8-j)
            (fun j _=>⟨A1.wf,Env.okAt_of2 (by simp[AV.ok]; omega)⟩) ?_ 0 ⟨Nat.zero_le _,f5⟩ (by repeat (first | exact Env.le_nil _ | refine Env.le_cons rfl ?_)) (fun _ _=>rfl) rfl
          rintro j ⟨hj,hp⟩
          refine awp_step dr0 (by decide +kernel) ?_
          simp only[go_sem]
          refine awp_step dr0 (by decide +kernel) ?_
          simp only[go_sem]
          refine⟨fun hlt=>?_,fun hge=>?_⟩
          · rcases (by omega:j=0∨j=1∨j=2∨j=3∨j=4∨j=5∨j=6∨j=7) with rfl | rfl | rfl | rfl | rfl | rfl | rfl | rfl
            all_goals
              simp only[rots8,List.drop,List.any_cons] at hp
              refine awp_ev dr0 (by decide +kernel) ?_
              simp only[go_sem,rots8,List.map]
              refine⟨fun e=>?_,fun e=>?_⟩
              · have hb3:bits3 m=false:=by rw[← eq_of_beq e]; rfl
                obtain⟨R,hR⟩:∃R,R=rotS (rotI m) v c1.r.f:=⟨_,rfl⟩
                simp only[go_sem,hu,hb]
                first
                  | (refine z_rot 0 (by decide) _ _ _ _ _ ?_; rw[show rotS 0 v c1.r.f=R by rw[hR,← eq_of_beq e]; rfl])
                  | (refine z_rot 1 (by decide) _ _ _ _ _ ?_; rw[show rotS 1 v c1.r.f=R by rw[hR,← eq_of_beq e]; rfl])
                  | (refine z_rot 2 (by decide) _ _ _ _ _ ?_; rw[show rotS 2 v c1.r.f=R by rw[hR,← eq_of_beq e]; rfl])
                  | (refine z_rot 3 (by decide) _ _ _ _ _ ?_; rw[show rotS 3 v c1.r.f=R by rw[hR,← eq_of_beq e]; rfl])
                  | (refine z_rot 4 (by decide) _ _ _ _ _ ?_; rw[show rotS 4 v c1.r.f=R by rw[hR,← eq_of_beq e]; rfl])
                  | (refine z_rot 5 (by decide) _ _ _ _ _ ?_; rw[show rotS 5 v c1.r.f=R by rw[hR,← eq_of_beq e]; rfl])
                  | (refine z_rot 6 (by decide) _ _ _ _ _ ?_; rw[show rotS 6 v c1.r.f=R by rw[hR,← eq_of_beq e]; rfl])
                  | (refine z_rot 7 (by decide) _ _ _ _ _ ?_; rw[show rotS 7 v c1.r.f=R by rw[hR,← eq_of_beq e]; rfl])
                simp only[go_sem,hu,hb]
                exact Ends.mk (c1.setF R.2,R.1,(H3.upd n3 (some ⟨rots8.map .st,9,false⟩)).upd k (some ⟨(c1.setF R.2).r.cells++[W.v,.u16 c1.to,.bo c1.idx,.i64 c1.pg],69,false⟩)) ⟨A1.put (c1.setF R.2),(Heap.upd_ne _ _ (by omega)).trans hq1,by rw[hb3,hR]; rfl,by rw[hb3,hR]; rfl⟩ (by repeat (first | exact Env.le_nil _ | refine Env.le_cons rfl ?_)) (fun _ _=>rfl) (Nat.le_succ _) (Nat.le_refl _)
              · rw[e] at hp
                simp only[Bool.false_or] at hp
                first
                  | exact Ends.mk 1 ⟨by omega,by omega,hp⟩ (by repeat (first | exact Env.le_nil _ | refine Env.le_cons rfl ?_)) (fun _ _=>rfl) (Nat.le_refl _) (Nat.le_refl _)
                  | exact Ends.mk 2 ⟨by omega,by omega,hp⟩ (by repeat (first | exact Env.le_nil _ | refine Env.le_cons rfl ?_)) (fun _ _=>rfl) (Nat.le_refl _) (Nat.le_refl _)
                  | exact Ends.mk 3 ⟨by omega,by omega,hp⟩ (by repeat (first | exact Env.le_nil _ | refine Env.le_cons rfl ?_)) (fun _ _=>rfl) (Nat.le_refl _) (Nat.le_refl _)
                  | exact Ends.mk 4 ⟨by omega,by omega,hp⟩ (by repeat (first | exact Env.le_nil _ | refine Env.le_cons rfl ?_)) (fun _ _=>rfl) (Nat.le_refl _) (Nat.le_refl _)
                  | exact Ends.mk 5 ⟨by omega,by omega,hp⟩ (by repeat (first | exact Env.le_nil _ | refine Env.le_cons rfl ?_)) (fun _ _=>rfl) (Nat.le_refl _) (Nat.le_refl _)
                  | exact Ends.mk 6 ⟨by omega,by omega,hp⟩ (by repeat (first | exact Env.le_nil _ | refine Env.le_cons rfl ?_)) (fun _ _=>rfl) (Nat.le_refl _) (Nat.le_refl _)
                  | exact Ends.mk 7 ⟨by omega,by omega,hp⟩ (by repeat (first | exact Env.le_nil _ | refine Env.le_cons rfl ?_)) (fun _ _=>rfl) (Nat.le_refl _) (Nat.le_refl _)
                  | exact Ends.mk 8 ⟨by omega,by omega,hp⟩ (by repeat (first | exact Env.le_nil _ | refine Env.le_cons rfl ?_)) (fun _ _=>rfl) (Nat.le_refl _) (Nat.le_refl _)
          · obtain rfl:j=8:=by omega
            have hb3:bits3 m=true:=by
              cases q:bits3 m
              · have:=hp q; simp[rots8] at this
              · rfl
            exact Ends.mk (c1,putS8 nn v (m==[83#8,69#8,84#8]),_) ⟨A1,hq1,by rw[hb3]; rfl,by rw[hb3]; rfl⟩ (by repeat (first | exact Env.le_nil _ | refine Env.le_cons rfl ?_)) (fun _ _=>rfl) (Nat.le_succ _) (Nat.le_refl _)
        · rintro⟨c2,w,HX⟩ ⟨A,hq,hw,hc⟩
          simp only at hw hc A hq ⊢
          refine awp_seq ?_
          refine awp_step dr0 (by decide +kernel) ?_
          simp only[go_sem]
          refine awp_block ?_
          refine awp_loopF (S:=Nat×XC×σ×Heap×Nat) (fun x=>[(0,.pt k 0),(9,.su q o (ts.length-o) 1),(13,.u8 w),(113,.su q o (ts.length-o) 1),(114,.i64 ((ts.length-o:Nat):Int)),(115,.i64 x.1)]) (fun x=>x.2.2.2.1) (fun x=>x.2.2.2.2)
            (fun x=>x.1≤ts.length-o∧AXC W H2 n2 F1 k x.2.1 x.2.2.1 x.2.2.2.1 x.2.2.2.2∧n3+1≤x.2.2.2.2∧W.left s1≤W.left x.2.2.1+x.1∧∀r,(xPuts (ts.drop (o+x.1)) w x.2.1).run W.O x.2.2.1=r→(xPuts (ts.drop o) w c2).run W.O s1=r) (fun x=>ts.length-o-x.1)
            (fun x hx=>⟨hx.2.1.wf,Env.okAt_of2 (by have:=hx.2.1.kn; have:=hx.2.2.1; simp[AV.ok]; omega)⟩) ?_ (0,c2,s1,HX,n3+1) ⟨Nat.zero_le _,A,Nat.le_refl _,Nat.le_refl _,fun _ h=>h⟩ (by repeat (first | exact Env.le_nil _ | refine Env.le_cons rfl ?_)) (fun _ _=>rfl) rfl
          rintro⟨j,c4,s4,H4,n4⟩ ⟨hj,A4,hn4,lf4,hrun⟩
          simp only at hj A4 hn4 lf4 hrun ⊢
          have hq4:=((back A4).2.2 q hqn m3).trans m4
          have hb4:=A4.blk29
          refine awp_step dr0 (by decide +kernel) ?_
          simp only[go_sem]
          refine awp_step dr0 (by decide +kernel) ?_
          simp only[go_sem]
          refine⟨fun hlt=>?_,fun hge=>?_⟩
          · have hj1:o+j<ts.length:=by omega
            have e1:(ts.map AV.st).getD (o+j) .junk=.st (ts.getD (o+j) []):=st_getD hj1
            have hd:ts.drop (o+j)=ts.getD (o+j) [] :: ts.drop (o+(j+1)):=by rw[List.drop_eq_getElem_cons hj1,show ts[o+j]=ts.getD (o+j) [] by simp[List.getD_eq_getElem?_getD,hj1]]; rfl
            have hmem:ts.getD (o+j) []∈ts.drop o:=by
              rw[show ts.getD (o+j) []=ts[o+j] by simp[List.getD_eq_getElem?_getD,hj1]]
              exact List.mem_drop_iff_getElem.2 ⟨j,by omega,rfl⟩
            have hok:=f3 _ hmem
            unfold okThing at hok
            rw[Bool.and_eq_true,Bool.not_eq_true'] at hok
            refine awp_ev dr0 (by decide +kernel) ?_
            simp only[go_sem,hq4]
            refine⟨hlt,by rw[List.length_map]; omega,?_⟩
            rw[e1]
            obtain⟨F2,B,back2⟩:=A4.rebase A4.wf (Nat.le_refl _) (fun _ _=>rfl)
            refine x_put M B _ w hok.1 hok.2 (by omega) fun c5 s5 H5 n5 r5 lf5 A5=>?_
            obtain⟨A5,hn5,-⟩:=back2 A5
            have e2:wrap64 ((j:Int)+1)=((j+1:Nat):Int):=by rw[wrap_id _ (by omega) (by omega)]; omega
            simp only[go_sem]
            rw[e2]
            refine Ends.mk (j+1,c5,s5,H5,n5) ⟨by simp only; omega,by simp only; omega,A5,?_,by simp only; omega,fun r hr=>hrun r ?_⟩ (by repeat (first | exact Env.le_nil _ | refine Env.le_cons rfl ?_)) (fun _ _=>rfl) ?_ (Nat.le_refl _)
            · simp only; omega
            · simp only at hr ⊢
              rw[hd]
              exact Eff.run_of r5 hr
            · exact hn5
          · obtain rfl:j=ts.length-o:=by omega
            refine awp_ev dr0 (by decide +kernel) ?_
            simp only[go_sem,hq4]
            refine⟨by omega,by rw[List.length_map]; omega,?_⟩
            rw[e0']
            refine x_by A4 _ 8 15 19 ?_
            simp only[go_sem]
            have hend:(xPuts (ts.drop o) w c2).run W.O s1=(((),c4),s4):=hrun _ (by rw[show o+(ts.length-o)=ts.length by omega,List.drop_length]; rfl)
            subst hc hw
            exact Fin.keep (h _ _ _ _ _ (Eff.run_of r1 (by simp only[e,if_false,Bool.false_eq_true]; exact Eff.run_of hend rfl)) (by omega) (back A4).1)
end
end Go.Proofs.Joy
namespace Go.Proofs.Joy
open Go.Ab Go.Proofs
set_option maxHeartbeats 4000000
set_option maxRecDepth 20000
def mN (nm:Str):Str:=(wordsN nm).getD 0 []
def aN (nm:Str):Str:=if 1<(wordsN nm).length then(partsN nm).getD 0 [] else []
def bN (nm:Str):Str:=if 1<(wordsN nm).length then(partsN nm).getD 1 [] else []
def okRun2 (nm m a b:Str) (pg:Nat):Bool:=
  if m==[76#8,68#8] then okLd a b else if m==[73#8,78#8,67#8]||m==[68#8,69#8,67#8] then okCount a
  else if m==[65#8,68#8,68#8]||m==[65#8,68#8,67#8]||m==[83#8,85#8,66#8]||m==[83#8,66#8,67#8]||m==[65#8,78#8,68#8]||m==[88#8,79#8,82#8]||m==[79#8,82#8]||m==[67#8,80#8] then okSum m a b
  else if m==[74#8,80#8]||m==[74#8,82#8]||m==[68#8,74#8,78#8,90#8]||m==[67#8,65#8,76#8,76#8]||m==[82#8,69#8,84#8]||m==[82#8,83#8,84#8]||m==[82#8,69#8,84#8,78#8]||m==[82#8,69#8,84#8,73#8] then okJump m a b
  else if m==[80#8,85#8,83#8,72#8] then okN a
  else if m==[80#8,79#8,80#8] then okN a
  else if m==[69#8,88#8]||m==[69#8,88#8,88#8] then okSwap m a b else if m==[73#8,78#8]||m==[79#8,85#8,84#8] then okPort m a b
  else if m==[82#8,76#8,67#8]||m==[82#8,82#8,67#8]||m==[82#8,76#8]||m==[82#8,82#8]||m==[83#8,76#8,65#8]||m==[83#8,82#8,65#8]||m==[83#8,76#8,76#8]||m==[83#8,82#8,76#8]||m==[66#8,73#8,84#8]||m==[82#8,69#8,83#8]||m==[83#8,69#8,84#8] then decide (2≤(wordsN nm).length)&&okBits (partsN nm) m
  else if pg=2 then okExt m a else true
def okRun (nm:Str) (pg:Nat):Bool:=decide (nm.length≤100)&&okRun2 nm (mN nm) (aN nm) (bN nm) pg
def xRun2 (nm m a b:Str) (pg:Nat):XM Nat:=fun c=>
  if m==[76#8,68#8] then xLd a b c else if m==[73#8,78#8,67#8]||m==[68#8,69#8,67#8] then xCount m a c
  else if m==[65#8,68#8,68#8]||m==[65#8,68#8,67#8]||m==[83#8,85#8,66#8]||m==[83#8,66#8,67#8]||m==[65#8,78#8,68#8]||m==[88#8,79#8,82#8]||m==[79#8,82#8]||m==[67#8,80#8] then xSum m a b c
  else if m==[74#8,80#8]||m==[74#8,82#8]||m==[68#8,74#8,78#8,90#8]||m==[67#8,65#8,76#8,76#8]||m==[82#8,69#8,84#8]||m==[82#8,83#8,84#8]||m==[82#8,69#8,84#8,78#8]||m==[82#8,69#8,84#8,73#8] then xJump m a b c
  else if m==[80#8,85#8,83#8,72#8] then(xPush (getB c.r a) c).bind fun x=>.ret (11,x.2)
  else if m==[80#8,79#8,80#8] then(xPop c).bind fun v=>.ret (10,v.2.reg (setB v.2.r a v.1))
  else if m==[69#8,88#8]||m==[69#8,88#8,88#8] then xSwap m a b c else if m==[73#8,78#8]||m==[79#8,85#8,84#8] then xPort m a b c
  else if m==[82#8,76#8,67#8]||m==[82#8,82#8,67#8]||m==[82#8,76#8]||m==[82#8,82#8]||m==[83#8,76#8,65#8]||m==[83#8,82#8,65#8]||m==[83#8,76#8,76#8]||m==[83#8,82#8,76#8]||m==[66#8,73#8,84#8]||m==[82#8,69#8,83#8]||m==[83#8,69#8,84#8] then xBits (partsN nm) m c
  else if pg=2 then xExt m a c else xAlone m c
theorem xRun_eq (nm:Str) (pg:Nat) (c:XC):xRun nm pg c=xRun2 nm (mN nm) (aN nm) (bN nm) pg { c with pg:=pg}:=rfl
section
variable {σ:Type} {W:WC Tryz.prog σ} {H0:Heap} {n0:Nat} {F0:Nat→Prop} {k:Nat} {c:XC} {s:σ} {H:Heap} {n:Nat} {K:AV→Heap→Nat→Prop} (M:MX W)
include M
theorem x_run (A:AXC W H0 n0 F0 k c s H n) (nm:Str) (pg:Nat) (hm:okRun nm pg=true) (hl:4≤W.left s) (h:∀v c' s' H' n',(xRun nm pg c).run W.O s=((v,c'),s')→W.left s≤W.left s'+4→AXC W H0 n0 F0 k c' s' H' n'→K (.i64 (v:Nat)) H' n'):ACalls Tryz.prog 30 [.pt k 0,.st nm,.i64 pg] H n K:=by
  unfold okRun at hm
  rw[Bool.and_eq_true,decide_eq_true_eq] at hm
  obtain⟨hn,hm⟩:=hm
  rw[xRun_eq] at h
  have hb:=A.blk29
  refine ACalls.of_awp Tryz.func30 rfl (by decide +kernel) (show 3≤162 by decide) (by simp) fun wf=>?_
  refine awp_step dr30 (by decide +kernel) ?_
  simp only[go_sem,Tryz.f30]
  refine awp_step dr30 (by decide +kernel) ?_
  simp only[go_sem,hb]
  have A:=A.put (c':={ c with pg:=pg})
  refine awp_step dr30 (by decide +kernel) ?_
  simp only[go_sem]
  refine z_split12 nm _ (by omega) _ _ _ fun H1 n1 q w1 l1 l2 l3 l4 l5=>?_
  have A:=A.mono w1 l1 l5
  simp only[go_sem]
  refine awp_step dr30 (by decide +kernel) ?_
  simp only[go_sem]
  have hwl:wordsN nm=splitS nm 32#8:=rfl
  rw[← hwl] at l4 ⊢
  have hlen:=splitS_len nm 32#8
  rw[← hwl] at hlen
  have hkn:=A.kn
  have hq1:∀b:Option Blk,H1.upd n1 b q=some ⟨(wordsN nm).map .st,9,false⟩:=fun b=>(Heap.upd_ne _ _ (by omega)).trans l4
  have hp0:∀a b:Str,(H1.upd n1 (some ⟨[.st a,.st b],9,false⟩)).wf (n1+1):=fun a b=>Heap.wf_upd w1 (by simp[AV.ok])
  refine awp_seqF (S:=Heap×Nat) (fun x=>[(0,.pt k 0),(1,.st nm),(2,.i64 pg),(7,.su q 0 (wordsN nm).length 1),(8,.sl n1 0 2 2)]) (fun x=>x.1) (fun x=>x.2)
    (fun x=>AXC W H0 n0 F0 k { c with pg:=pg} s x.1 x.2∧n1<x.2∧x.1 q=some ⟨(wordsN nm).map .st,9,false⟩∧x.1 n1=some ⟨[.st (aN nm),.st (bN nm)],9,false⟩)
    (fun x hx=>⟨hx.1.wf,Env.okAt_of2 (by have:=hx.1.kn; have:=hx.2.1; simp[AV.ok]; omega)⟩) ?_ ?_
  · refine awp_ev dr30 (by decide +kernel) ?_
    simp only[go_sem,hq1]
    refine⟨fun e=>?_,fun e=>?_⟩
    · have e1:1<(wordsN nm).length:=by omega
      refine⟨by omega,by rw[List.length_map]; omega,?_⟩
      rw[st_getD e1]
      have l2n:=split_le nm 32#8 (B:=100) hn 1
      rw[← hwl] at l2n
      refine z_split12 _ _ (by omega) _ _ _ ?_
      have hts:splitS ((wordsN nm).getD 1 []) 44#8=partsN nm:=rfl
      have hpl:=splitS_len ((wordsN nm).getD 1 []) 44#8
      rw[hts] at hpl ⊢
      have ea:aN nm=(partsN nm).getD 0 []:=by unfold aN; rw[if_pos e1]
      have eb:bN nm=(partsN nm).getD 1 []:=by unfold bN; rw[if_pos e1]
      rw[ea,eb]
      clear h hm ea eb hts
      generalize partsN nm=ps at hpl ⊢
      intro H2 n2 q2 w2 m1 m2 m3 m4 m5
      simp only[go_sem]
      have hkn1:=A.kn
      obtain⟨pc,hpc⟩:∃pc:Nat→List AV,pc=fun j=>[.st (if 0<j then ps.getD 0 [] else []),.st (if 1<j then ps.getD 1 [] else [])]:=⟨_,rfl⟩
      have hpok:∀j,∀v∈pc j,v.ok n2=true:=by
        intro j v hv
        rw[hpc] at hv
        simp only[List.mem_cons,List.not_mem_nil,or_false] at hv
        rcases hv with rfl | rfl <;> rfl
      have hwf:∀j,(H2.upd n1 (some ⟨pc j,9,false⟩)).wf n2:=fun j=>Heap.wf_set w2 (by omega) (hpok j)
      have h20:∀i,i<n2→H2 i=H2.upd n1 (some ⟨pc 0,9,false⟩) i:=by
        intro i hi
        by_cases e:i=n1
        · subst e
          rw[Heap.upd_same,m5 _ (Nat.lt_succ_self _),Heap.upd_same,hpc]
          rfl
        · rw[Heap.upd_ne _ _ e]
      refine awp_loopF (S:=Nat) (fun j=>[(0,.pt k 0),(1,.st nm),(2,.i64 pg),(7,.su q 0 (wordsN nm).length 1),(8,.sl n1 0 2 2),(26,.su q2 0 ps.length 1),(27,.i64 ps.length),(28,.i64 j)]) (fun j=>H2.upd n1 (some ⟨pc j,9,false⟩)) (fun _=>n2) (fun j=>j≤ps.length) (fun j=>ps.length-j)
        (fun j _=>⟨hwf j,Env.okAt_of2 (by simp[AV.ok]; omega)⟩) ?_ 0 (Nat.zero_le _) (by repeat (first | exact Env.le_nil _ | refine Env.le_cons rfl ?_)) h20 rfl
      intro j hj
      have hq2:∀b:Option Blk,H2.upd n1 b q2=some ⟨ps.map .st,9,false⟩:=fun b=>(Heap.upd_ne _ _ (by omega)).trans m4
      refine awp_step dr30 (by decide +kernel) ?_
      simp only[go_sem]
      refine awp_step dr30 (by decide +kernel) ?_
      simp only[go_sem]
      refine⟨fun hlt=>?_,fun hge=>?_⟩
      · have hj1:j<ps.length:=by omega
        have w2:wrap64 ((j:Int)+1)=((j+1:Nat):Int):=by rw[wrap_id _ (by omega) (by omega)]; omega
        have hpj:=st_getD (l:=ps) (i:=j) hj1
        refine awp_ev dr30 (by decide +kernel) ?_
        simp only[go_sem,hq2]
        rw[hpj]
        refine⟨hlt,by rw[List.length_map]; omega,fun hj2=>⟨hj2,?_⟩,fun hj2=>?_⟩
        · rcases (by omega:j=0∨j=1) with rfl | rfl
          · rw[hpc]
            simp only[go_sem]
            exact Ends.mk 1 ⟨by omega,by omega⟩ (by repeat (first | exact Env.le_nil _ | refine Env.le_cons rfl ?_)) (fun _ _=>rfl) (Nat.le_refl _) (Nat.le_refl _)
          · rw[hpc]
            simp only[go_sem]
            exact Ends.mk 2 ⟨by omega,by omega⟩ (by repeat (first | exact Env.le_nil _ | refine Env.le_cons rfl ?_)) (fun _ _=>rfl) (Nat.le_refl _) (Nat.le_refl _)
        · have ej:pc (j+1)=pc j:=by
            rw[hpc]
            simp only
            rw[if_pos (by omega),if_pos (by omega),if_pos (by omega),if_pos (by omega)]
          rw[w2]
          exact Ends.mk (j+1) ⟨by omega,by omega⟩ (by repeat (first | exact Env.le_nil _ | refine Env.le_cons rfl ?_)) (fun _ _=>by rw[ej]) (Nat.le_refl _) (Nat.le_refl _)
      · obtain rfl:j=ps.length:=by omega
        have ep:pc ps.length=[.st (ps.getD 0 []),.st (ps.getD 1 [])]:=by
          rw[hpc]
          simp only
          rw[if_pos (by omega)]
          by_cases e2:1<ps.length
          · rw[if_pos e2]
          · rw[if_neg e2,List.getD_eq_getElem?_getD (l:=ps) (i:=1),List.getElem?_eq_none (by omega)]; rfl
        exact Ends.mk (_,n2) ⟨A.mono (hwf ps.length) (by omega) (fun i hi=>(Heap.upd_ne _ _ (Nat.ne_of_lt hi)).trans ((m5 i (by omega)).trans (Heap.upd_ne _ _ (Nat.ne_of_lt hi)))),by omega,(Heap.upd_ne _ _ (by omega)).trans ((m5 q (by omega)).trans (hq1 _)),by rw[ep]; exact Heap.upd_same _ _ _⟩ (by repeat (first | exact Env.le_nil _ | refine Env.le_cons rfl ?_)) (fun _ _=>rfl) (by omega) (Nat.le_refl _)
    · have e1:¬1<(wordsN nm).length:=by omega
      have ea:aN nm=[]:=by unfold aN; rw[if_neg e1]
      have eb:bN nm=[]:=by unfold bN; rw[if_neg e1]
      exact Ends.mk (_,n1+1) ⟨A.mono (hp0 [] []) (Nat.le_succ _) (fun i hi=>Heap.upd_ne _ _ (Nat.ne_of_lt hi)),Nat.lt_succ_self _,hq1 _,by rw[ea,eb]; exact Heap.upd_same _ _ _⟩ (by repeat (first | exact Env.le_nil _ | refine Env.le_cons rfl ?_)) (fun _ _=>rfl) (Nat.le_refl _) (Nat.le_refl _)
  · rintro⟨HX,nX⟩ ⟨A,hnX,hq,hpt⟩
    simp only at A hnX hq hpt ⊢
    have e0:((wordsN nm).map AV.st).getD 0 .junk=.st (mN nm):=st_getD (by omega)
    unfold xRun2 at h
    unfold okRun2 at hm
    refine awp_step dr30 (by decide +kernel) ?_
    simp only[go_sem,hpt]
    refine awp_seq ?_
    refine awp_step dr30 (by decide +kernel) ?_
    simp only[go_sem,hq]
    refine⟨by omega,by rw[List.length_map]; omega,?_⟩
    rw[e0]
    generalize mN nm=m at h hm e0 ⊢
    generalize aN nm=a at h hm hpt ⊢
    generalize bN nm=b at h hm hpt ⊢
    refine awp_block ?_
    have hkx:=A.kn
    have hqx:q<nX:=by omega
    refine awp_seqF (S:=Unit) (fun _=>[(0,.pt k 0),(1,.st nm),(2,.i64 pg),(7,.su q 0 (wordsN nm).length 1),(11,.st a),(12,.st b),(48,.st m),(49,.bo (m==[76#8,68#8]))]) (fun _=>HX) (fun _=>nX) (fun _=>True) (fun _ _=>⟨A.wf,Env.okAt_of2 (by simp[AV.ok]; omega)⟩) ?_ ?_
    · refine awp_ev dr30 (by decide +kernel) ?_
      simp only[go_sem]
      repeat' first
        | with_reducible refine And.intro ?_ ?_
        | intro e
      all_goals exact Ends.mk () trivial (by simp only[*,Bool.or_true,Bool.true_or,Bool.or_false,Bool.false_or]; exact(by repeat (first | exact Env.le_nil _ | refine Env.le_cons rfl ?_))) (fun _ _=>rfl) (Nat.le_refl _) (Nat.le_refl _)
    rintro- -
    refine awp_cond (t:=m==[76#8,68#8]) rfl (fun e=>?_) (fun e=>?_)
    · simp only[e,if_true] at h hm
      refine awp_ev dr30 (by decide +kernel) ?_
      simp only[go_sem,hq]
      refine x_ld M A a b hm hl fun v c1 s1 H1 n1 r lf A=>?_
      simp only[go_sem]
      exact Fin.keep (h _ _ _ _ _ r (by omega) A)
    simp only[e,if_false,Bool.false_eq_true] at h hm
    refine awp_seqF (S:=Unit) (fun _=>[(0,.pt k 0),(1,.st nm),(2,.i64 pg),(7,.su q 0 (wordsN nm).length 1),(11,.st a),(12,.st b),(48,.st m),(55,.bo (m==[73#8,78#8,67#8]||m==[68#8,69#8,67#8]))]) (fun _=>HX) (fun _=>nX) (fun _=>True) (fun _ _=>⟨A.wf,Env.okAt_of2 (by simp[AV.ok]; omega)⟩) ?_ ?_
    · refine awp_ev dr30 (by decide +kernel) ?_
      simp only[go_sem]
      repeat' first
        | with_reducible refine And.intro ?_ ?_
        | intro e
      all_goals exact Ends.mk () trivial (by simp only[*,Bool.or_true,Bool.true_or,Bool.or_false,Bool.false_or]; exact(by repeat (first | exact Env.le_nil _ | refine Env.le_cons rfl ?_))) (fun _ _=>rfl) (Nat.le_refl _) (Nat.le_refl _)
    rintro- -
    refine awp_cond (t:=m==[73#8,78#8,67#8]||m==[68#8,69#8,67#8]) rfl (fun e=>?_) (fun e=>?_)
    · simp only[e,if_true] at h hm
      refine awp_ev dr30 (by decide +kernel) ?_
      simp only[go_sem,hq]
      refine⟨by omega,by rw[List.length_map]; omega,?_⟩
      rw[e0]
      refine x_count M A m a hm (by omega) fun v c1 s1 H1 n1 r lf A=>?_
      simp only[go_sem]
      exact Fin.keep (h _ _ _ _ _ r (by omega) A)
    simp only[e,if_false,Bool.false_eq_true] at h hm
    refine awp_seqF (S:=Unit) (fun _=>[(0,.pt k 0),(1,.st nm),(2,.i64 pg),(7,.su q 0 (wordsN nm).length 1),(11,.st a),(12,.st b),(48,.st m),(64,.bo (m==[65#8,68#8,68#8]||m==[65#8,68#8,67#8]||m==[83#8,85#8,66#8]||m==[83#8,66#8,67#8]||m==[65#8,78#8,68#8]||m==[88#8,79#8,82#8]||m==[79#8,82#8]||m==[67#8,80#8]))]) (fun _=>HX) (fun _=>nX) (fun _=>True) (fun _ _=>⟨A.wf,Env.okAt_of2 (by simp[AV.ok]; omega)⟩) ?_ ?_
    · refine awp_ev dr30 (by decide +kernel) ?_
      simp only[go_sem]
      repeat' first
        | with_reducible refine And.intro ?_ ?_
        | intro e
      all_goals exact Ends.mk () trivial (by simp only[*,Bool.or_true,Bool.true_or,Bool.or_false,Bool.false_or]; exact(by repeat (first | exact Env.le_nil _ | refine Env.le_cons rfl ?_))) (fun _ _=>rfl) (Nat.le_refl _) (Nat.le_refl _)
    rintro- -
    refine awp_cond (t:=m==[65#8,68#8,68#8]||m==[65#8,68#8,67#8]||m==[83#8,85#8,66#8]||m==[83#8,66#8,67#8]||m==[65#8,78#8,68#8]||m==[88#8,79#8,82#8]||m==[79#8,82#8]||m==[67#8,80#8]) rfl (fun e=>?_) (fun e=>?_)
    · simp only[e,if_true] at h hm
      refine awp_ev dr30 (by decide +kernel) ?_
      simp only[go_sem,hq]
      refine⟨by omega,by rw[List.length_map]; omega,?_⟩
      rw[e0]
      refine x_sum M A m a b hm (by omega) fun v c1 s1 H1 n1 r lf A=>?_
      simp only[go_sem]
      exact Fin.keep (h _ _ _ _ _ r (by omega) A)
    simp only[e,if_false,Bool.false_eq_true] at h hm
    refine awp_seqF (S:=Unit) (fun _=>[(0,.pt k 0),(1,.st nm),(2,.i64 pg),(7,.su q 0 (wordsN nm).length 1),(11,.st a),(12,.st b),(48,.st m),(80,.bo (m==[74#8,80#8]||m==[74#8,82#8]||m==[68#8,74#8,78#8,90#8]||m==[67#8,65#8,76#8,76#8]||m==[82#8,69#8,84#8]||m==[82#8,83#8,84#8]||m==[82#8,69#8,84#8,78#8]||m==[82#8,69#8,84#8,73#8]))]) (fun _=>HX) (fun _=>nX) (fun _=>True) (fun _ _=>⟨A.wf,Env.okAt_of2 (by simp[AV.ok]; omega)⟩) ?_ ?_
    · refine awp_ev dr30 (by decide +kernel) ?_
      simp only[go_sem]
      repeat' first
        | with_reducible refine And.intro ?_ ?_
        | intro e
      all_goals exact Ends.mk () trivial (by simp only[*,Bool.or_true,Bool.true_or,Bool.or_false,Bool.false_or]; exact(by repeat (first | exact Env.le_nil _ | refine Env.le_cons rfl ?_))) (fun _ _=>rfl) (Nat.le_refl _) (Nat.le_refl _)
    rintro- -
    refine awp_cond (t:=m==[74#8,80#8]||m==[74#8,82#8]||m==[68#8,74#8,78#8,90#8]||m==[67#8,65#8,76#8,76#8]||m==[82#8,69#8,84#8]||m==[82#8,83#8,84#8]||m==[82#8,69#8,84#8,78#8]||m==[82#8,69#8,84#8,73#8]) rfl (fun e=>?_) (fun e=>?_)
    · simp only[e,if_true] at h hm
      refine awp_ev dr30 (by decide +kernel) ?_
      simp only[go_sem,hq]
      refine⟨by omega,by rw[List.length_map]; omega,?_⟩
      rw[e0]
      refine x_jump M A m a b hm hl fun v c1 s1 H1 n1 r lf A=>?_
      simp only[go_sem]
      exact Fin.keep (h _ _ _ _ _ r (by omega) A)
    simp only[e,if_false,Bool.false_eq_true] at h hm
    refine awp_seqF (S:=Unit) (fun _=>[(0,.pt k 0),(1,.st nm),(2,.i64 pg),(7,.su q 0 (wordsN nm).length 1),(11,.st a),(12,.st b),(48,.st m),(96,.bo (m==[80#8,85#8,83#8,72#8]))]) (fun _=>HX) (fun _=>nX) (fun _=>True) (fun _ _=>⟨A.wf,Env.okAt_of2 (by simp[AV.ok]; omega)⟩) ?_ ?_
    · refine awp_ev dr30 (by decide +kernel) ?_
      simp only[go_sem]
      repeat' first
        | with_reducible refine And.intro ?_ ?_
        | intro e
      all_goals exact Ends.mk () trivial (by simp only[*,Bool.or_true,Bool.true_or,Bool.or_false,Bool.false_or]; exact(by repeat (first | exact Env.le_nil _ | refine Env.le_cons rfl ?_))) (fun _ _=>rfl) (Nat.le_refl _) (Nat.le_refl _)
    rintro- -
    refine awp_cond (t:=m==[80#8,85#8,83#8,72#8]) rfl (fun e=>?_) (fun e=>?_)
    · simp only[e,if_true] at h hm
      refine awp_ev dr30 (by decide +kernel) ?_
      simp only[go_sem,hq]
      refine x_get A a hm ?_
      simp only[go_sem]
      refine x_push M A _ (by omega) fun c1 s1 H1 n1 r lf A=>?_
      simp only[go_sem]
      exact Fin.keep (h _ _ _ _ _ (Eff.run_of r rfl) (by omega) A)
    simp only[e,if_false,Bool.false_eq_true] at h hm
    refine awp_seqF (S:=Unit) (fun _=>[(0,.pt k 0),(1,.st nm),(2,.i64 pg),(7,.su q 0 (wordsN nm).length 1),(11,.st a),(12,.st b),(48,.st m),(103,.bo (m==[80#8,79#8,80#8]))]) (fun _=>HX) (fun _=>nX) (fun _=>True) (fun _ _=>⟨A.wf,Env.okAt_of2 (by simp[AV.ok]; omega)⟩) ?_ ?_
    · refine awp_ev dr30 (by decide +kernel) ?_
      simp only[go_sem]
      repeat' first
        | with_reducible refine And.intro ?_ ?_
        | intro e
      all_goals exact Ends.mk () trivial (by simp only[*,Bool.or_true,Bool.true_or,Bool.or_false,Bool.false_or]; exact(by repeat (first | exact Env.le_nil _ | refine Env.le_cons rfl ?_))) (fun _ _=>rfl) (Nat.le_refl _) (Nat.le_refl _)
    rintro- -
    refine awp_cond (t:=m==[80#8,79#8,80#8]) rfl (fun e=>?_) (fun e=>?_)
    · simp only[e,if_true] at h hm
      refine awp_ev dr30 (by decide +kernel) ?_
      simp only[go_sem,hq]
      refine x_pop M A (by omega) fun v c1 s1 H1 n1 r lf A=>?_
      simp only[go_sem]
      have b1:=nat_b v
      refine x_set A a hm _ ⟨by omega,by omega⟩ fun H n A=>?_
      rw[ofInt16] at A
      simp only[go_sem]
      exact Fin.keep (h _ _ _ _ _ (Eff.run_of r rfl) (by omega) A)
    simp only[e,if_false,Bool.false_eq_true] at h hm
    refine awp_seqF (S:=Unit) (fun _=>[(0,.pt k 0),(1,.st nm),(2,.i64 pg),(7,.su q 0 (wordsN nm).length 1),(11,.st a),(12,.st b),(48,.st m),(110,.bo (m==[69#8,88#8]||m==[69#8,88#8,88#8]))]) (fun _=>HX) (fun _=>nX) (fun _=>True) (fun _ _=>⟨A.wf,Env.okAt_of2 (by simp[AV.ok]; omega)⟩) ?_ ?_
    · refine awp_ev dr30 (by decide +kernel) ?_
      simp only[go_sem]
      repeat' first
        | with_reducible refine And.intro ?_ ?_
        | intro e
      all_goals exact Ends.mk () trivial (by simp only[*,Bool.or_true,Bool.true_or,Bool.or_false,Bool.false_or]; exact(by repeat (first | exact Env.le_nil _ | refine Env.le_cons rfl ?_))) (fun _ _=>rfl) (Nat.le_refl _) (Nat.le_refl _)
    rintro- -
    refine awp_cond (t:=m==[69#8,88#8]||m==[69#8,88#8,88#8]) rfl (fun e=>?_) (fun e=>?_)
    · simp only[e,if_true] at h hm
      refine awp_ev dr30 (by decide +kernel) ?_
      simp only[go_sem,hq]
      refine⟨by omega,by rw[List.length_map]; omega,?_⟩
      rw[e0]
      refine x_swap M A m a b hm hl fun v c1 s1 H1 n1 r lf A=>?_
      simp only[go_sem]
      exact Fin.keep (h _ _ _ _ _ r (by omega) A)
    simp only[e,if_false,Bool.false_eq_true] at h hm
    refine awp_seqF (S:=Unit) (fun _=>[(0,.pt k 0),(1,.st nm),(2,.i64 pg),(7,.su q 0 (wordsN nm).length 1),(11,.st a),(12,.st b),(48,.st m),(120,.bo (m==[73#8,78#8]||m==[79#8,85#8,84#8]))]) (fun _=>HX) (fun _=>nX) (fun _=>True) (fun _ _=>⟨A.wf,Env.okAt_of2 (by simp[AV.ok]; omega)⟩) ?_ ?_
    · refine awp_ev dr30 (by decide +kernel) ?_
      simp only[go_sem]
      repeat' first
        | with_reducible refine And.intro ?_ ?_
        | intro e
      all_goals exact Ends.mk () trivial (by simp only[*,Bool.or_true,Bool.true_or,Bool.or_false,Bool.false_or]; exact(by repeat (first | exact Env.le_nil _ | refine Env.le_cons rfl ?_))) (fun _ _=>rfl) (Nat.le_refl _) (Nat.le_refl _)
    rintro- -
    refine awp_cond (t:=m==[73#8,78#8]||m==[79#8,85#8,84#8]) rfl (fun e=>?_) (fun e=>?_)
    · simp only[e,if_true] at h hm
      refine awp_ev dr30 (by decide +kernel) ?_
      simp only[go_sem,hq]
      refine⟨by omega,by rw[List.length_map]; omega,?_⟩
      rw[e0]
      refine x_port M A m a b hm hl fun v c1 s1 H1 n1 r lf A=>?_
      simp only[go_sem]
      exact Fin.keep (h _ _ _ _ _ r (by omega) A)
    simp only[e,if_false,Bool.false_eq_true] at h hm
    refine awp_seqF (S:=Unit) (fun _=>[(0,.pt k 0),(1,.st nm),(2,.i64 pg),(7,.su q 0 (wordsN nm).length 1),(11,.st a),(12,.st b),(48,.st m),(130,.bo (m==[82#8,76#8,67#8]||m==[82#8,82#8,67#8]||m==[82#8,76#8]||m==[82#8,82#8]||m==[83#8,76#8,65#8]||m==[83#8,82#8,65#8]||m==[83#8,76#8,76#8]||m==[83#8,82#8,76#8]||m==[66#8,73#8,84#8]||m==[82#8,69#8,83#8]||m==[83#8,69#8,84#8]))]) (fun _=>HX) (fun _=>nX) (fun _=>True) (fun _ _=>⟨A.wf,Env.okAt_of2 (by simp[AV.ok]; omega)⟩) ?_ ?_
    · refine awp_ev dr30 (by decide +kernel) ?_
      simp only[go_sem]
      repeat' first
        | with_reducible refine And.intro ?_ ?_
        | intro e
      all_goals exact Ends.mk () trivial (by simp only[*,Bool.or_true,Bool.true_or,Bool.or_false,Bool.false_or]; exact(by repeat (first | exact Env.le_nil _ | refine Env.le_cons rfl ?_))) (fun _ _=>rfl) (Nat.le_refl _) (Nat.le_refl _)
    rintro- -
    refine awp_cond (t:=m==[82#8,76#8,67#8]||m==[82#8,82#8,67#8]||m==[82#8,76#8]||m==[82#8,82#8]||m==[83#8,76#8,65#8]||m==[83#8,82#8,65#8]||m==[83#8,76#8,76#8]||m==[83#8,82#8,76#8]||m==[66#8,73#8,84#8]||m==[82#8,69#8,83#8]||m==[83#8,69#8,84#8]) rfl (fun e=>?_) (fun e=>?_)
    · simp only[e,if_true] at h hm
      refine awp_ev dr30 (by decide +kernel) ?_
      simp only[go_sem,hq]
      refine⟨by omega,by rw[List.length_map]; omega,?_⟩
      rw[e0]
      rw[Bool.and_eq_true,decide_eq_true_eq] at hm
      refine x_bits M A nm m _ (by omega) hm.1 hm.2 hl fun v c1 s1 H1 n1 r lf A=>?_
      simp only[go_sem]
      exact Fin.keep (h _ _ _ _ _ r (by omega) A)
    simp only[e,if_false,Bool.false_eq_true] at h hm
    refine awp_skip ?_
    refine awp_step dr30 (by decide +kernel) ?_
    simp only[go_sem]
    refine⟨fun e=>?_,fun e=>?_⟩
    · have ep:pg=2:=by have:=eq_of_beq e; omega
      simp only[if_pos ep] at h hm
      simp only[go_sem,hq]
      refine⟨by omega,by rw[List.length_map]; omega,?_⟩
      rw[e0]
      refine x_ext M A m a hm hl fun v c1 s1 H1 n1 r lf A=>?_
      simp only[go_sem]
      exact Fin.keep (h _ _ _ _ _ r (by omega) A)
    · have ep:¬pg=2:=fun q=>by subst q; exact absurd e (by decide)
      simp only[if_neg ep] at h
      refine awp_ev dr30 (by decide +kernel) ?_
      simp only[go_sem,hq]
      refine⟨by omega,by rw[List.length_map]; omega,?_⟩
      rw[e0]
      refine x_alone A m fun v c1 s1 H1 n1 r lf A=>?_
      simp only[go_sem]
      exact Fin.keep (h _ _ _ _ _ r (by omega) A)
end
end Go.Proofs.Joy
namespace Go.Proofs.Joy
open Go.Ab Go.Proofs
set_option maxHeartbeats 4000000
set_option maxRecDepth 20000
def preOp (pg:Nat) (op:Nat):Bool:=(pg==0||pg==3||pg==4)&&(op==0xCB||op==0xDD||op==0xED||op==0xFD)
theorem runs_ok:∀pg,pg<7→∀op,op<256→preOp pg op=false→okRun (patS pg (BitVec.ofNat 8 op)) pg=true:=by
  decide +kernel
end Go.Proofs.Joy
namespace Go.Proofs.Joy
open Go.Ab
set_option maxHeartbeats 4000000
set_option maxRecDepth 20000
def outX (e:Eff (Nat×XC)):Eff (Rg×Nat):=e.bind fun x=>.ret (x.2.r,x.1)
def outC (e:Eff (Nat×Core)):Eff (Rg×Nat):=e.bind fun x=>.ret (x.2.r,x.1)
theorem b16 {Q:Nat→Prop} (h0:Q 0) (h1:Q 1) (h2:Q 2) (h3:Q 3) (h4:Q 4) (h5:Q 5) (h6:Q 6) (h7:Q 7) (h8:Q 8) (h9:Q 9) (h10:Q 10) (h11:Q 11) (h12:Q 12) (h13:Q 13) (h14:Q 14) (h15:Q 15):∀k,k<16→Q k
  | 0,_=>h0
  | 1,_=>h1
  | 2,_=>h2
  | 3,_=>h3
  | 4,_=>h4
  | 5,_=>h5
  | 6,_=>h6
  | 7,_=>h7
  | 8,_=>h8
  | 9,_=>h9
  | 10,_=>h10
  | 11,_=>h11
  | 12,_=>h12
  | 13,_=>h13
  | 14,_=>h14
  | 15,_=>h15
  | k+16,h=>absurd h (by omega)
theorem b256 {P:BitVec 8→Prop} (h:∀i,i<16→∀j,j<16→P (BitVec.ofNat 8 (16*i+j))) (x:BitVec 8):P x:=by
  have hx:=x.isLt
  have:=h (x.toNat / 16) (by omega) (x.toNat%16) (by omega)
  rw[show 16*(x.toNat / 16)+x.toNat%16=x.toNat by omega,BitVec.ofNat_toNat,BitVec.setWidth_eq] at this
  exact this
section
variable (r:Rg) (t:BitVec 16) (i:Bool) (p:Nat) (pr:BitVec 8) (b:Bool)
theorem j_jr (s:Nat):outX ((xNext ⟨r,t,i,p⟩).bind fun e=>if b=false then .ret (s,e.2) else .ret (s+5,e.2.go (moveS e.2.r.pc e.1)))=outC ((nextM ⟨r,pr⟩).bind fun e=>if b=false then .ret (s,e.2) else .ret (s+5,e.2.to (moveS e.2.r.pc e.1))):=by cases b <;> rfl
theorem j_jp:outX ((xWord ⟨r,t,i,p⟩).bind fun w=>.ret (10,if b then { (w.2.wz w.1) with r:={ (w.2.wz w.1).r with pc:=w.1}} else w.2.wz w.1))=outC ((jumpToM b ⟨r,pr⟩).bind fun x=>.ret (10,x.2)):=by cases b <;> rfl
theorem j_ret:outX (if b=false then .ret (5,⟨r,t,i,p⟩) else(xPop ⟨r,t,i,p⟩).bind fun v=>.ret (11,v.2.go v.1))=outC (if b=false then .ret (5,⟨r,pr⟩) else(popM ⟨r,pr⟩).bind fun v=>.ret (11,v.2.to v.1)):=by cases b <;> rfl
theorem j_call:outX ((xWord ⟨r,t,i,p⟩).bind fun w=>if b=false then .ret (10,w.2.wz w.1) else(xPush (w.2.wz w.1).r.pc (w.2.wz w.1)).bind fun x=>.ret (17,{ x.2 with r:={ x.2.r with pc:=x.2.r.wz}}))=outC (callM b ⟨r,pr⟩):=by cases b <;> rfl
end
def manyP (k:Nat) (by_:BitVec 16) (y:Nat):CM Nat:=fun c=>
  let hl:=joinS c.r.h c.r.l
  let bc:=joinS c.r.b c.r.c
  let fin:Bool→Bool→Core→Eff (Nat×Core):=fun ls on c=>
    let c1:Core:={ c with r:={ c.r with h:=hiS (hl+by_),l:=loS (hl+by_)}}
    if y<6∨on=false then .ret (16,c1)
    else
      let c2:Core:={ c1 with r:={ c1.r with pc:=c1.r.pc-2#16}}
      .ret (21,if ls then c2.wz (c2.r.pc+1#16) else c2)
  if k=0 then(rdE hl).bind fun v=>(wrE (joinS c.r.d c.r.e) v).bind fun _=>
    let c1:Core:={ c with r:={ c.r with d:=hiS (joinS c.r.d c.r.e+by_),e:=loS (joinS c.r.d c.r.e+by_),b:=hiS (bc-1#16),c:=loS (bc-1#16)}}
    fin true (bc !=1#16) (c1.setF (repLoad c1.r.a v c1.r.f (bc-1#16)))
  else if k=1 then
    let c1:Core:={ c with r:={ c.r with wz:=c.r.wz+by_,b:=hiS (bc-1#16),c:=loS (bc-1#16)}}
    (rdE hl).bind fun v=>fin true (repSeek c1.r.a v c1.r.f (bc-1#16)).2 (c1.setF (repSeek c1.r.a v c1.r.f (bc-1#16)).1)
  else if k=2 then
    let c1:=c.wz (bc+by_)
    (inE bc 13).bind fun v=>(wrE hl v).bind fun _=>
      let c2:Core:={ c1 with r:={ c1.r with b:=c1.r.b-1#8}}
      fin false (c2.r.b !=0#8) (c2.setF (repPort v (c2.r.c+loS by_) c2.r.b))
  else(rdE hl).bind fun v=>
    let c2:Core:={ c with r:={ c.r with b:=c.r.b-1#8}}
    (outE (joinS c2.r.b c2.r.c) v 13).bind fun _=>
      let c3:=c2.wz (joinS c2.r.b c2.r.c+by_)
      fin false (c3.r.b !=0#8) (c3.setF (repPort v (loS (hl+by_)) c3.r.b))
theorem fin_eq (r:Rg) (t:BitVec 16) (i:Bool) (p y:Nat) (again ls on:Bool) (hy:again=decide (6≤y)):
    (if again=false∨on=false then(.ret (16,⟨r,t,i,p⟩):Eff (Nat×XC)) else .ret (21,if ls then XC.wz ⟨{ r with pc:=r.pc-2#16},t,i,p⟩ (r.pc-2#16+1#16) else⟨{ r with pc:=r.pc-2#16},t,i,p⟩)).bind (fun x=>.ret (x.2.r,x.1))=
    (if y<6∨on=false then(.ret (16,⟨r,0#8⟩):Eff (Nat×Core)) else .ret (21,if ls then Core.wz ⟨{ r with pc:=r.pc-2#16},0#8⟩ (r.pc-2#16+1#16) else⟨{ r with pc:=r.pc-2#16},0#8⟩)).bind (fun x=>.ret (x.2.r,x.1)):=by
  have h:(again=false∨on=false)↔(y<6∨on=false):=by rw[hy,decide_eq_false_iff_not,Nat.not_le]
  by_cases e:again=false∨on=false
  · rw[if_pos e,if_pos (h.1 e)]; rfl
  · rw[if_neg e,if_neg (mt h.2 e)]; cases ls <;> rfl
theorem many_eq (k:Nat) (hk:k<4) (by_:BitVec 16) (again:Bool) (y:Nat) (hy:again=decide (6≤y)) (r:Rg) (t:BitVec 16) (i:Bool) (p:Nat):outX (xManyP k by_ again ⟨r,t,i,p⟩)=outC (manyP k by_ y ⟨r,0#8⟩):=by
  rcases (by omega:k=0∨k=1∨k=2∨k=3) with rfl | rfl | rfl | rfl
  · show Eff.rd _ (fun v=>Eff.wr _ _ _)=Eff.rd _ (fun v=>Eff.wr _ _ _)
    congr 1; funext v; congr 1
    exact fin_eq _ t i p y again true _ hy
  · show Eff.rd _ (fun v=>_)=Eff.rd _ (fun v=>_)
    congr 1; funext v
    exact fin_eq _ t i p y again true _ hy
  · show Eff.inp _ _ (fun v=>Eff.wr _ _ _)=Eff.inp _ _ (fun v=>Eff.wr _ _ _)
    congr 1; funext v; congr 1
    exact fin_eq _ t i p y again false _ hy
  · show Eff.rd _ (fun v=>Eff.out _ _ _ _)=Eff.rd _ (fun v=>Eff.out _ _ _ _)
    congr 1; funext v; congr 1
    exact fin_eq _ t i p y again false _ hy
end Go.Proofs.Joy
namespace Go.Proofs.Joy
open Go.Ab
set_option maxHeartbeats 4000000
set_option maxRecDepth 20000
def q0P (op:BitVec 8):Prop:=op≠0xDD#8∧op≠0xFD#8∧op≠0xED#8∧op≠0xCB#8→∀r:Rg,outX (xDo 0 op ⟨r,0#16,false,0⟩)=outC (plainM op ⟨r,0#8⟩)
theorem q0_0:∀j,j<16→q0P (BitVec.ofNat 8 (16*0+j)):=b16 (fun _ _=>rfl) (fun _ _=>rfl) (fun _ _=>rfl) (fun _ _=>rfl) (fun _ _=>rfl) (fun _ _=>rfl) (fun _ _=>rfl) (fun _ _=>rfl) (fun _ _=>rfl) (fun _ _=>rfl) (fun _ _=>rfl) (fun _ _=>rfl) (fun _ _=>rfl) (fun _ _=>rfl) (fun _ _=>rfl) (fun _ _=>rfl)
theorem q0_1:∀j,j<16→q0P (BitVec.ofNat 8 (16*1+j)):=b16 (fun _ r=>j_jr { r with b:=r.b-1#8} _ _ _ 0#8 (r.b-1#8 !=0#8) 8) (fun _ _=>rfl) (fun _ _=>rfl) (fun _ _=>rfl) (fun _ _=>rfl) (fun _ _=>rfl) (fun _ _=>rfl) (fun _ _=>rfl) (fun _ _=>rfl) (fun _ _=>rfl) (fun _ _=>rfl) (fun _ _=>rfl) (fun _ _=>rfl) (fun _ _=>rfl) (fun _ _=>rfl) (fun _ _=>rfl)
theorem q0_2:∀j,j<16→q0P (BitVec.ofNat 8 (16*2+j)):=b16 (fun _ r=>j_jr r _ _ _ 0#8 (metR r.f 0) 7) (fun _ _=>rfl) (fun _ _=>rfl) (fun _ _=>rfl) (fun _ _=>rfl) (fun _ _=>rfl) (fun _ _=>rfl) (fun _ _=>rfl) (fun _ r=>j_jr r _ _ _ 0#8 (metR r.f 1) 7) (fun _ _=>rfl) (fun _ _=>rfl) (fun _ _=>rfl) (fun _ _=>rfl) (fun _ _=>rfl) (fun _ _=>rfl) (fun _ _=>rfl)
theorem q0_3:∀j,j<16→q0P (BitVec.ofNat 8 (16*3+j)):=b16 (fun _ r=>j_jr r _ _ _ 0#8 (metR r.f 2) 7) (fun _ _=>rfl) (fun _ _=>rfl) (fun _ _=>rfl) (fun _ _=>rfl) (fun _ _=>rfl) (fun _ _=>rfl) (fun _ _=>rfl) (fun _ r=>j_jr r _ _ _ 0#8 (metR r.f 3) 7) (fun _ _=>rfl) (fun _ _=>rfl) (fun _ _=>rfl) (fun _ _=>rfl) (fun _ _=>rfl) (fun _ _=>rfl) (fun _ _=>rfl)
theorem q0_4:∀j,j<16→q0P (BitVec.ofNat 8 (16*4+j)):=b16 (fun _ _=>rfl) (fun _ _=>rfl) (fun _ _=>rfl) (fun _ _=>rfl) (fun _ _=>rfl) (fun _ _=>rfl) (fun _ _=>rfl) (fun _ _=>rfl) (fun _ _=>rfl) (fun _ _=>rfl) (fun _ _=>rfl) (fun _ _=>rfl) (fun _ _=>rfl) (fun _ _=>rfl) (fun _ _=>rfl) (fun _ _=>rfl)
theorem q0_5:∀j,j<16→q0P (BitVec.ofNat 8 (16*5+j)):=b16 (fun _ _=>rfl) (fun _ _=>rfl) (fun _ _=>rfl) (fun _ _=>rfl) (fun _ _=>rfl) (fun _ _=>rfl) (fun _ _=>rfl) (fun _ _=>rfl) (fun _ _=>rfl) (fun _ _=>rfl) (fun _ _=>rfl) (fun _ _=>rfl) (fun _ _=>rfl) (fun _ _=>rfl) (fun _ _=>rfl) (fun _ _=>rfl)
theorem q0_6:∀j,j<16→q0P (BitVec.ofNat 8 (16*6+j)):=b16 (fun _ _=>rfl) (fun _ _=>rfl) (fun _ _=>rfl) (fun _ _=>rfl) (fun _ _=>rfl) (fun _ _=>rfl) (fun _ _=>rfl) (fun _ _=>rfl) (fun _ _=>rfl) (fun _ _=>rfl) (fun _ _=>rfl) (fun _ _=>rfl) (fun _ _=>rfl) (fun _ _=>rfl) (fun _ _=>rfl) (fun _ _=>rfl)
theorem q0_7:∀j,j<16→q0P (BitVec.ofNat 8 (16*7+j)):=b16 (fun _ _=>rfl) (fun _ _=>rfl) (fun _ _=>rfl) (fun _ _=>rfl) (fun _ _=>rfl) (fun _ _=>rfl) (fun _ _=>rfl) (fun _ _=>rfl) (fun _ _=>rfl) (fun _ _=>rfl) (fun _ _=>rfl) (fun _ _=>rfl) (fun _ _=>rfl) (fun _ _=>rfl) (fun _ _=>rfl) (fun _ _=>rfl)
theorem q0_8:∀j,j<16→q0P (BitVec.ofNat 8 (16*8+j)):=b16 (fun _ _=>rfl) (fun _ _=>rfl) (fun _ _=>rfl) (fun _ _=>rfl) (fun _ _=>rfl) (fun _ _=>rfl) (fun _ _=>rfl) (fun _ _=>rfl) (fun _ _=>rfl) (fun _ _=>rfl) (fun _ _=>rfl) (fun _ _=>rfl) (fun _ _=>rfl) (fun _ _=>rfl) (fun _ _=>rfl) (fun _ _=>rfl)
theorem q0_9:∀j,j<16→q0P (BitVec.ofNat 8 (16*9+j)):=b16 (fun _ _=>rfl) (fun _ _=>rfl) (fun _ _=>rfl) (fun _ _=>rfl) (fun _ _=>rfl) (fun _ _=>rfl) (fun _ _=>rfl) (fun _ _=>rfl) (fun _ _=>rfl) (fun _ _=>rfl) (fun _ _=>rfl) (fun _ _=>rfl) (fun _ _=>rfl) (fun _ _=>rfl) (fun _ _=>rfl) (fun _ _=>rfl)
theorem q0_A:∀j,j<16→q0P (BitVec.ofNat 8 (16*10+j)):=b16 (fun _ _=>rfl) (fun _ _=>rfl) (fun _ _=>rfl) (fun _ _=>rfl) (fun _ _=>rfl) (fun _ _=>rfl) (fun _ _=>rfl) (fun _ _=>rfl) (fun _ _=>rfl) (fun _ _=>rfl) (fun _ _=>rfl) (fun _ _=>rfl) (fun _ _=>rfl) (fun _ _=>rfl) (fun _ _=>rfl) (fun _ _=>rfl)
theorem q0_B:∀j,j<16→q0P (BitVec.ofNat 8 (16*11+j)):=b16 (fun _ _=>rfl) (fun _ _=>rfl) (fun _ _=>rfl) (fun _ _=>rfl) (fun _ _=>rfl) (fun _ _=>rfl) (fun _ _=>rfl) (fun _ _=>rfl) (fun _ _=>rfl) (fun _ _=>rfl) (fun _ _=>rfl) (fun _ _=>rfl) (fun _ _=>rfl) (fun _ _=>rfl) (fun _ _=>rfl) (fun _ _=>rfl)
theorem q0_C:∀j,j<16→q0P (BitVec.ofNat 8 (16*12+j)):=b16 (fun _ r=>j_ret r _ _ _ 0#8 (metR r.f 0)) (fun _ _=>rfl) (fun _ r=>j_jp r _ _ _ 0#8 (metR r.f 0)) (fun _ _=>rfl) (fun _ r=>j_call r _ _ _ 0#8 (metR r.f 0)) (fun _ _=>rfl) (fun _ _=>rfl) (fun _ _=>rfl) (fun _ r=>j_ret r _ _ _ 0#8 (metR r.f 1)) (fun _ _=>rfl) (fun _ r=>j_jp r _ _ _ 0#8 (metR r.f 1)) (fun h=>absurd rfl h.2.2.2) (fun _ r=>j_call r _ _ _ 0#8 (metR r.f 1)) (fun _ _=>rfl) (fun _ _=>rfl) (fun _ _=>rfl)
theorem q0_D:∀j,j<16→q0P (BitVec.ofNat 8 (16*13+j)):=b16 (fun _ r=>j_ret r _ _ _ 0#8 (metR r.f 2)) (fun _ _=>rfl) (fun _ r=>j_jp r _ _ _ 0#8 (metR r.f 2)) (fun _ _=>rfl) (fun _ r=>j_call r _ _ _ 0#8 (metR r.f 2)) (fun _ _=>rfl) (fun _ _=>rfl) (fun _ _=>rfl) (fun _ r=>j_ret r _ _ _ 0#8 (metR r.f 3)) (fun _ _=>rfl) (fun _ r=>j_jp r _ _ _ 0#8 (metR r.f 3)) (fun _ _=>rfl) (fun _ r=>j_call r _ _ _ 0#8 (metR r.f 3)) (fun h=>absurd rfl h.1) (fun _ _=>rfl) (fun _ _=>rfl)
theorem q0_E:∀j,j<16→q0P (BitVec.ofNat 8 (16*14+j)):=b16 (fun _ r=>j_ret r _ _ _ 0#8 (metR r.f 4)) (fun _ _=>rfl) (fun _ r=>j_jp r _ _ _ 0#8 (metR r.f 4)) (fun _ _=>rfl) (fun _ r=>j_call r _ _ _ 0#8 (metR r.f 4)) (fun _ _=>rfl) (fun _ _=>rfl) (fun _ _=>rfl) (fun _ r=>j_ret r _ _ _ 0#8 (metR r.f 5)) (fun _ _=>rfl) (fun _ r=>j_jp r _ _ _ 0#8 (metR r.f 5)) (fun _ _=>rfl) (fun _ r=>j_call r _ _ _ 0#8 (metR r.f 5)) (fun h=>absurd rfl h.2.2.1) (fun _ _=>rfl) (fun _ _=>rfl)
theorem q0_F:∀j,j<16→q0P (BitVec.ofNat 8 (16*15+j)):=b16 (fun _ r=>j_ret r _ _ _ 0#8 (metR r.f 6)) (fun _ _=>rfl) (fun _ r=>j_jp r _ _ _ 0#8 (metR r.f 6)) (fun _ _=>rfl) (fun _ r=>j_call r _ _ _ 0#8 (metR r.f 6)) (fun _ _=>rfl) (fun _ _=>rfl) (fun _ _=>rfl) (fun _ r=>j_ret r _ _ _ 0#8 (metR r.f 7)) (fun _ _=>rfl) (fun _ r=>j_jp r _ _ _ 0#8 (metR r.f 7)) (fun _ _=>rfl) (fun _ r=>j_call r _ _ _ 0#8 (metR r.f 7)) (fun h=>absurd rfl h.2.1) (fun _ _=>rfl) (fun _ _=>rfl)
theorem q0 (op:BitVec 8):q0P op:=b256 (b16 q0_0 q0_1 q0_2 q0_3 q0_4 q0_5 q0_6 q0_7 q0_8 q0_9 q0_A q0_B q0_C q0_D q0_E q0_F) op
end Go.Proofs.Joy
namespace Go.Proofs.Joy
open Go.Ab
set_option maxHeartbeats 4000000
set_option maxRecDepth 20000
def turnB (op:BitVec 8):CM Nat:=fun c=>
  if zO op=6 then(pointedM c).bind fun a=>(rdE a.1).bind fun v=>
    let t:=bitsS op v (hiS a.2.r.wz) a.2.r.f
    let c1:=a.2.setF t.2.2
    if t.2.1=false then .ret (12,c1) else(wrE a.1 t.1).bind fun _=>.ret (15,c1)
  else
    let v:=c.one (zO op)
    let t:=bitsS op v v c.r.f
    let c1:=c.setF t.2.2
    .ret (8,if t.2.1=false then c1 else c1.setOne (zO op) t.1)
def farB (op:BitVec 8) (a:BitVec 16):CM Nat:=fun c=>(rdE a).bind fun v=>
  let t:=bitsS op v (hiS c.r.wz) c.r.f
  let c1:=c.setF t.2.2
  if t.2.1=false then .ret (16,c1) else(wrE a t.1).bind fun _=>.ret (19,if zO op=6 then c1 else c1.setOne (zO op) t.1)
def q1P (op:BitVec 8):Prop:=∀r:Rg,outX (xDo 1 op ⟨r,0#16,false,0⟩)=outC (turnB op ⟨r,0#8⟩)
theorem q1_0:∀j,j<16→q1P (BitVec.ofNat 8 (16*0+j)):=b16 (fun _=>rfl) (fun _=>rfl) (fun _=>rfl) (fun _=>rfl) (fun _=>rfl) (fun _=>rfl) (fun _=>rfl) (fun _=>rfl) (fun _=>rfl) (fun _=>rfl) (fun _=>rfl) (fun _=>rfl) (fun _=>rfl) (fun _=>rfl) (fun _=>rfl) (fun _=>rfl)
theorem q1_1:∀j,j<16→q1P (BitVec.ofNat 8 (16*1+j)):=b16 (fun _=>rfl) (fun _=>rfl) (fun _=>rfl) (fun _=>rfl) (fun _=>rfl) (fun _=>rfl) (fun _=>rfl) (fun _=>rfl) (fun _=>rfl) (fun _=>rfl) (fun _=>rfl) (fun _=>rfl) (fun _=>rfl) (fun _=>rfl) (fun _=>rfl) (fun _=>rfl)
theorem q1_2:∀j,j<16→q1P (BitVec.ofNat 8 (16*2+j)):=b16 (fun _=>rfl) (fun _=>rfl) (fun _=>rfl) (fun _=>rfl) (fun _=>rfl) (fun _=>rfl) (fun _=>rfl) (fun _=>rfl) (fun _=>rfl) (fun _=>rfl) (fun _=>rfl) (fun _=>rfl) (fun _=>rfl) (fun _=>rfl) (fun _=>rfl) (fun _=>rfl)
theorem q1_3:∀j,j<16→q1P (BitVec.ofNat 8 (16*3+j)):=b16 (fun _=>rfl) (fun _=>rfl) (fun _=>rfl) (fun _=>rfl) (fun _=>rfl) (fun _=>rfl) (fun _=>rfl) (fun _=>rfl) (fun _=>rfl) (fun _=>rfl) (fun _=>rfl) (fun _=>rfl) (fun _=>rfl) (fun _=>rfl) (fun _=>rfl) (fun _=>rfl)
theorem q1_4:∀j,j<16→q1P (BitVec.ofNat 8 (16*4+j)):=b16 (fun _=>rfl) (fun _=>rfl) (fun _=>rfl) (fun _=>rfl) (fun _=>rfl) (fun _=>rfl) (fun _=>rfl) (fun _=>rfl) (fun _=>rfl) (fun _=>rfl) (fun _=>rfl) (fun _=>rfl) (fun _=>rfl) (fun _=>rfl) (fun _=>rfl) (fun _=>rfl)
theorem q1_5:∀j,j<16→q1P (BitVec.ofNat 8 (16*5+j)):=b16 (fun _=>rfl) (fun _=>rfl) (fun _=>rfl) (fun _=>rfl) (fun _=>rfl) (fun _=>rfl) (fun _=>rfl) (fun _=>rfl) (fun _=>rfl) (fun _=>rfl) (fun _=>rfl) (fun _=>rfl) (fun _=>rfl) (fun _=>rfl) (fun _=>rfl) (fun _=>rfl)
theorem q1_6:∀j,j<16→q1P (BitVec.ofNat 8 (16*6+j)):=b16 (fun _=>rfl) (fun _=>rfl) (fun _=>rfl) (fun _=>rfl) (fun _=>rfl) (fun _=>rfl) (fun _=>rfl) (fun _=>rfl) (fun _=>rfl) (fun _=>rfl) (fun _=>rfl) (fun _=>rfl) (fun _=>rfl) (fun _=>rfl) (fun _=>rfl) (fun _=>rfl)
theorem q1_7:∀j,j<16→q1P (BitVec.ofNat 8 (16*7+j)):=b16 (fun _=>rfl) (fun _=>rfl) (fun _=>rfl) (fun _=>rfl) (fun _=>rfl) (fun _=>rfl) (fun _=>rfl) (fun _=>rfl) (fun _=>rfl) (fun _=>rfl) (fun _=>rfl) (fun _=>rfl) (fun _=>rfl) (fun _=>rfl) (fun _=>rfl) (fun _=>rfl)
theorem q1_8:∀j,j<16→q1P (BitVec.ofNat 8 (16*8+j)):=b16 (fun _=>rfl) (fun _=>rfl) (fun _=>rfl) (fun _=>rfl) (fun _=>rfl) (fun _=>rfl) (fun _=>rfl) (fun _=>rfl) (fun _=>rfl) (fun _=>rfl) (fun _=>rfl) (fun _=>rfl) (fun _=>rfl) (fun _=>rfl) (fun _=>rfl) (fun _=>rfl)
theorem q1_9:∀j,j<16→q1P (BitVec.ofNat 8 (16*9+j)):=b16 (fun _=>rfl) (fun _=>rfl) (fun _=>rfl) (fun _=>rfl) (fun _=>rfl) (fun _=>rfl) (fun _=>rfl) (fun _=>rfl) (fun _=>rfl) (fun _=>rfl) (fun _=>rfl) (fun _=>rfl) (fun _=>rfl) (fun _=>rfl) (fun _=>rfl) (fun _=>rfl)
theorem q1_A:∀j,j<16→q1P (BitVec.ofNat 8 (16*10+j)):=b16 (fun _=>rfl) (fun _=>rfl) (fun _=>rfl) (fun _=>rfl) (fun _=>rfl) (fun _=>rfl) (fun _=>rfl) (fun _=>rfl) (fun _=>rfl) (fun _=>rfl) (fun _=>rfl) (fun _=>rfl) (fun _=>rfl) (fun _=>rfl) (fun _=>rfl) (fun _=>rfl)
theorem q1_B:∀j,j<16→q1P (BitVec.ofNat 8 (16*11+j)):=b16 (fun _=>rfl) (fun _=>rfl) (fun _=>rfl) (fun _=>rfl) (fun _=>rfl) (fun _=>rfl) (fun _=>rfl) (fun _=>rfl) (fun _=>rfl) (fun _=>rfl) (fun _=>rfl) (fun _=>rfl) (fun _=>rfl) (fun _=>rfl) (fun _=>rfl) (fun _=>rfl)
theorem q1_C:∀j,j<16→q1P (BitVec.ofNat 8 (16*12+j)):=b16 (fun _=>rfl) (fun _=>rfl) (fun _=>rfl) (fun _=>rfl) (fun _=>rfl) (fun _=>rfl) (fun _=>rfl) (fun _=>rfl) (fun _=>rfl) (fun _=>rfl) (fun _=>rfl) (fun _=>rfl) (fun _=>rfl) (fun _=>rfl) (fun _=>rfl) (fun _=>rfl)
theorem q1_D:∀j,j<16→q1P (BitVec.ofNat 8 (16*13+j)):=b16 (fun _=>rfl) (fun _=>rfl) (fun _=>rfl) (fun _=>rfl) (fun _=>rfl) (fun _=>rfl) (fun _=>rfl) (fun _=>rfl) (fun _=>rfl) (fun _=>rfl) (fun _=>rfl) (fun _=>rfl) (fun _=>rfl) (fun _=>rfl) (fun _=>rfl) (fun _=>rfl)
theorem q1_E:∀j,j<16→q1P (BitVec.ofNat 8 (16*14+j)):=b16 (fun _=>rfl) (fun _=>rfl) (fun _=>rfl) (fun _=>rfl) (fun _=>rfl) (fun _=>rfl) (fun _=>rfl) (fun _=>rfl) (fun _=>rfl) (fun _=>rfl) (fun _=>rfl) (fun _=>rfl) (fun _=>rfl) (fun _=>rfl) (fun _=>rfl) (fun _=>rfl)
theorem q1_F:∀j,j<16→q1P (BitVec.ofNat 8 (16*15+j)):=b16 (fun _=>rfl) (fun _=>rfl) (fun _=>rfl) (fun _=>rfl) (fun _=>rfl) (fun _=>rfl) (fun _=>rfl) (fun _=>rfl) (fun _=>rfl) (fun _=>rfl) (fun _=>rfl) (fun _=>rfl) (fun _=>rfl) (fun _=>rfl) (fun _=>rfl) (fun _=>rfl)
theorem q1 (op:BitVec 8):q1P op:=b256 (b16 q1_0 q1_1 q1_2 q1_3 q1_4 q1_5 q1_6 q1_7 q1_8 q1_9 q1_A q1_B q1_C q1_D q1_E q1_F) op
end Go.Proofs.Joy
namespace Go.Proofs.Joy
open Go.Ab
set_option maxHeartbeats 4000000
set_option maxRecDepth 20000
def q2P (op:BitVec 8):Prop:=∀r:Rg,outX (xDo 2 op ⟨r,0#16,false,0⟩)=outC (extendedM op ⟨r,0#8⟩)
theorem q2_0:∀j,j<16→q2P (BitVec.ofNat 8 (16*0+j)):=b16 (fun _=>rfl) (fun _=>rfl) (fun _=>rfl) (fun _=>rfl) (fun _=>rfl) (fun _=>rfl) (fun _=>rfl) (fun _=>rfl) (fun _=>rfl) (fun _=>rfl) (fun _=>rfl) (fun _=>rfl) (fun _=>rfl) (fun _=>rfl) (fun _=>rfl) (fun _=>rfl)
theorem q2_1:∀j,j<16→q2P (BitVec.ofNat 8 (16*1+j)):=b16 (fun _=>rfl) (fun _=>rfl) (fun _=>rfl) (fun _=>rfl) (fun _=>rfl) (fun _=>rfl) (fun _=>rfl) (fun _=>rfl) (fun _=>rfl) (fun _=>rfl) (fun _=>rfl) (fun _=>rfl) (fun _=>rfl) (fun _=>rfl) (fun _=>rfl) (fun _=>rfl)
theorem q2_2:∀j,j<16→q2P (BitVec.ofNat 8 (16*2+j)):=b16 (fun _=>rfl) (fun _=>rfl) (fun _=>rfl) (fun _=>rfl) (fun _=>rfl) (fun _=>rfl) (fun _=>rfl) (fun _=>rfl) (fun _=>rfl) (fun _=>rfl) (fun _=>rfl) (fun _=>rfl) (fun _=>rfl) (fun _=>rfl) (fun _=>rfl) (fun _=>rfl)
theorem q2_3:∀j,j<16→q2P (BitVec.ofNat 8 (16*3+j)):=b16 (fun _=>rfl) (fun _=>rfl) (fun _=>rfl) (fun _=>rfl) (fun _=>rfl) (fun _=>rfl) (fun _=>rfl) (fun _=>rfl) (fun _=>rfl) (fun _=>rfl) (fun _=>rfl) (fun _=>rfl) (fun _=>rfl) (fun _=>rfl) (fun _=>rfl) (fun _=>rfl)
theorem q2_4:∀j,j<16→q2P (BitVec.ofNat 8 (16*4+j)):=b16 (fun _=>rfl) (fun _=>rfl) (fun _=>rfl) (fun _=>rfl) (fun _=>rfl) (fun _=>rfl) (fun _=>rfl) (fun _=>rfl) (fun _=>rfl) (fun _=>rfl) (fun _=>rfl) (fun _=>rfl) (fun _=>rfl) (fun _=>rfl) (fun _=>rfl) (fun _=>rfl)
theorem q2_5:∀j,j<16→q2P (BitVec.ofNat 8 (16*5+j)):=b16 (fun _=>rfl) (fun _=>rfl) (fun _=>rfl) (fun _=>rfl) (fun _=>rfl) (fun _=>rfl) (fun _=>rfl) (fun _=>rfl) (fun _=>rfl) (fun _=>rfl) (fun _=>rfl) (fun _=>rfl) (fun _=>rfl) (fun _=>rfl) (fun _=>rfl) (fun _=>rfl)
theorem q2_6:∀j,j<16→q2P (BitVec.ofNat 8 (16*6+j)):=b16 (fun _=>rfl) (fun _=>rfl) (fun _=>rfl) (fun _=>rfl) (fun _=>rfl) (fun _=>rfl) (fun _=>rfl) (fun _=>rfl) (fun _=>rfl) (fun _=>rfl) (fun _=>rfl) (fun _=>rfl) (fun _=>rfl) (fun _=>rfl) (fun _=>rfl) (fun _=>rfl)
theorem q2_7:∀j,j<16→q2P (BitVec.ofNat 8 (16*7+j)):=b16 (fun _=>rfl) (fun _=>rfl) (fun _=>rfl) (fun _=>rfl) (fun _=>rfl) (fun _=>rfl) (fun _=>rfl) (fun _=>rfl) (fun _=>rfl) (fun _=>rfl) (fun _=>rfl) (fun _=>rfl) (fun _=>rfl) (fun _=>rfl) (fun _=>rfl) (fun _=>rfl)
theorem q2_8:∀j,j<16→q2P (BitVec.ofNat 8 (16*8+j)):=b16 (fun _=>rfl) (fun _=>rfl) (fun _=>rfl) (fun _=>rfl) (fun _=>rfl) (fun _=>rfl) (fun _=>rfl) (fun _=>rfl) (fun _=>rfl) (fun _=>rfl) (fun _=>rfl) (fun _=>rfl) (fun _=>rfl) (fun _=>rfl) (fun _=>rfl) (fun _=>rfl)
theorem q2_9:∀j,j<16→q2P (BitVec.ofNat 8 (16*9+j)):=b16 (fun _=>rfl) (fun _=>rfl) (fun _=>rfl) (fun _=>rfl) (fun _=>rfl) (fun _=>rfl) (fun _=>rfl) (fun _=>rfl) (fun _=>rfl) (fun _=>rfl) (fun _=>rfl) (fun _=>rfl) (fun _=>rfl) (fun _=>rfl) (fun _=>rfl) (fun _=>rfl)
theorem q2_A:∀j,j<16→q2P (BitVec.ofNat 8 (16*10+j)):=b16 (fun r=>many_eq 0 (by decide) (1#16) false 4 rfl r _ _ _) (fun r=>many_eq 1 (by decide) (1#16) false 4 rfl r _ _ _) (fun r=>many_eq 2 (by decide) (1#16) false 4 rfl r _ _ _) (fun r=>many_eq 3 (by decide) (1#16) false 4 rfl r _ _ _) (fun _=>rfl) (fun _=>rfl) (fun _=>rfl) (fun _=>rfl) (fun r=>(show outX (xDo 2 (BitVec.ofNat 8 (16*10+8)) ⟨r,0#16,false,0⟩)=outX (xManyP 0 (~~~0#16) false ⟨r,0#16,false,2⟩) by kernel_rfl).trans ((many_eq 0 (by decide) (~~~0#16) false 5 rfl r _ _ _).trans (show outC (manyP 0 (~~~0#16) 5 ⟨r,0#8⟩)=outC (extendedM (BitVec.ofNat 8 (16*10+8)) ⟨r,0#8⟩) by kernel_rfl))) (fun r=>(show outX (xDo 2 (BitVec.ofNat 8 (16*10+9)) ⟨r,0#16,false,0⟩)=outX (xManyP 1 (~~~0#16) false ⟨r,0#16,false,2⟩) by kernel_rfl).trans ((many_eq 1 (by decide) (~~~0#16) false 5 rfl r _ _ _).trans (show outC (manyP 1 (~~~0#16) 5 ⟨r,0#8⟩)=outC (extendedM (BitVec.ofNat 8 (16*10+9)) ⟨r,0#8⟩) by kernel_rfl))) (fun r=>(show outX (xDo 2 (BitVec.ofNat 8 (16*10+10)) ⟨r,0#16,false,0⟩)=outX (xManyP 2 (~~~0#16) false ⟨r,0#16,false,2⟩) by kernel_rfl).trans ((many_eq 2 (by decide) (~~~0#16) false 5 rfl r _ _ _).trans (show outC (manyP 2 (~~~0#16) 5 ⟨r,0#8⟩)=outC (extendedM (BitVec.ofNat 8 (16*10+10)) ⟨r,0#8⟩) by kernel_rfl))) (fun r=>(show outX (xDo 2 (BitVec.ofNat 8 (16*10+11)) ⟨r,0#16,false,0⟩)=outX (xManyP 3 (~~~0#16) false ⟨r,0#16,false,2⟩) by kernel_rfl).trans ((many_eq 3 (by decide) (~~~0#16) false 5 rfl r _ _ _).trans (show outC (manyP 3 (~~~0#16) 5 ⟨r,0#8⟩)=outC (extendedM (BitVec.ofNat 8 (16*10+11)) ⟨r,0#8⟩) by kernel_rfl))) (fun _=>rfl) (fun _=>rfl) (fun _=>rfl) (fun _=>rfl)
theorem q2_B:∀j,j<16→q2P (BitVec.ofNat 8 (16*11+j)):=b16 (fun r=>many_eq 0 (by decide) (1#16) true 6 rfl r _ _ _) (fun r=>many_eq 1 (by decide) (1#16) true 6 rfl r _ _ _) (fun r=>many_eq 2 (by decide) (1#16) true 6 rfl r _ _ _) (fun r=>many_eq 3 (by decide) (1#16) true 6 rfl r _ _ _) (fun _=>rfl) (fun _=>rfl) (fun _=>rfl) (fun _=>rfl) (fun r=>(show outX (xDo 2 (BitVec.ofNat 8 (16*11+8)) ⟨r,0#16,false,0⟩)=outX (xManyP 0 (~~~0#16) true ⟨r,0#16,false,2⟩) by kernel_rfl).trans ((many_eq 0 (by decide) (~~~0#16) true 7 rfl r _ _ _).trans (show outC (manyP 0 (~~~0#16) 7 ⟨r,0#8⟩)=outC (extendedM (BitVec.ofNat 8 (16*11+8)) ⟨r,0#8⟩) by kernel_rfl))) (fun r=>(show outX (xDo 2 (BitVec.ofNat 8 (16*11+9)) ⟨r,0#16,false,0⟩)=outX (xManyP 1 (~~~0#16) true ⟨r,0#16,false,2⟩) by kernel_rfl).trans ((many_eq 1 (by decide) (~~~0#16) true 7 rfl r _ _ _).trans (show outC (manyP 1 (~~~0#16) 7 ⟨r,0#8⟩)=outC (extendedM (BitVec.ofNat 8 (16*11+9)) ⟨r,0#8⟩) by kernel_rfl))) (fun r=>(show outX (xDo 2 (BitVec.ofNat 8 (16*11+10)) ⟨r,0#16,false,0⟩)=outX (xManyP 2 (~~~0#16) true ⟨r,0#16,false,2⟩) by kernel_rfl).trans ((many_eq 2 (by decide) (~~~0#16) true 7 rfl r _ _ _).trans (show outC (manyP 2 (~~~0#16) 7 ⟨r,0#8⟩)=outC (extendedM (BitVec.ofNat 8 (16*11+10)) ⟨r,0#8⟩) by kernel_rfl))) (fun r=>(show outX (xDo 2 (BitVec.ofNat 8 (16*11+11)) ⟨r,0#16,false,0⟩)=outX (xManyP 3 (~~~0#16) true ⟨r,0#16,false,2⟩) by kernel_rfl).trans ((many_eq 3 (by decide) (~~~0#16) true 7 rfl r _ _ _).trans (show outC (manyP 3 (~~~0#16) 7 ⟨r,0#8⟩)=outC (extendedM (BitVec.ofNat 8 (16*11+11)) ⟨r,0#8⟩) by kernel_rfl))) (fun _=>rfl) (fun _=>rfl) (fun _=>rfl) (fun _=>rfl)
theorem q2_C:∀j,j<16→q2P (BitVec.ofNat 8 (16*12+j)):=b16 (fun _=>rfl) (fun _=>rfl) (fun _=>rfl) (fun _=>rfl) (fun _=>rfl) (fun _=>rfl) (fun _=>rfl) (fun _=>rfl) (fun _=>rfl) (fun _=>rfl) (fun _=>rfl) (fun _=>rfl) (fun _=>rfl) (fun _=>rfl) (fun _=>rfl) (fun _=>rfl)
theorem q2_D:∀j,j<16→q2P (BitVec.ofNat 8 (16*13+j)):=b16 (fun _=>rfl) (fun _=>rfl) (fun _=>rfl) (fun _=>rfl) (fun _=>rfl) (fun _=>rfl) (fun _=>rfl) (fun _=>rfl) (fun _=>rfl) (fun _=>rfl) (fun _=>rfl) (fun _=>rfl) (fun _=>rfl) (fun _=>rfl) (fun _=>rfl) (fun _=>rfl)
theorem q2_E:∀j,j<16→q2P (BitVec.ofNat 8 (16*14+j)):=b16 (fun _=>rfl) (fun _=>rfl) (fun _=>rfl) (fun _=>rfl) (fun _=>rfl) (fun _=>rfl) (fun _=>rfl) (fun _=>rfl) (fun _=>rfl) (fun _=>rfl) (fun _=>rfl) (fun _=>rfl) (fun _=>rfl) (fun _=>rfl) (fun _=>rfl) (fun _=>rfl)
theorem q2_F:∀j,j<16→q2P (BitVec.ofNat 8 (16*15+j)):=b16 (fun _=>rfl) (fun _=>rfl) (fun _=>rfl) (fun _=>rfl) (fun _=>rfl) (fun _=>rfl) (fun _=>rfl) (fun _=>rfl) (fun _=>rfl) (fun _=>rfl) (fun _=>rfl) (fun _=>rfl) (fun _=>rfl) (fun _=>rfl) (fun _=>rfl) (fun _=>rfl)
theorem q2 (op:BitVec 8):q2P op:=b256 (b16 q2_0 q2_1 q2_2 q2_3 q2_4 q2_5 q2_6 q2_7 q2_8 q2_9 q2_A q2_B q2_C q2_D q2_E q2_F) op
end Go.Proofs.Joy
namespace Go.Proofs.Joy
open Go.Ab
set_option maxHeartbeats 4000000
set_option maxRecDepth 20000
def q3P (op:BitVec 8):Prop:=op≠0xDD#8∧op≠0xFD#8∧op≠0xED#8∧op≠0xCB#8→∀r:Rg,outX (xDo 3 op ⟨r,0#16,false,0⟩)=outC (plainM op ⟨r,0xDD#8⟩)
theorem q3_0:∀j,j<16→q3P (BitVec.ofNat 8 (16*0+j)):=b16 (fun _ _=>rfl) (fun _ _=>rfl) (fun _ _=>rfl) (fun _ _=>rfl) (fun _ _=>rfl) (fun _ _=>rfl) (fun _ _=>rfl) (fun _ _=>rfl) (fun _ _=>rfl) (fun _ _=>rfl) (fun _ _=>rfl) (fun _ _=>rfl) (fun _ _=>rfl) (fun _ _=>rfl) (fun _ _=>rfl) (fun _ _=>rfl)
theorem q3_1:∀j,j<16→q3P (BitVec.ofNat 8 (16*1+j)):=b16 (fun _ r=>j_jr { r with b:=r.b-1#8} _ _ _ 0xDD#8 (r.b-1#8 !=0#8) 8) (fun _ _=>rfl) (fun _ _=>rfl) (fun _ _=>rfl) (fun _ _=>rfl) (fun _ _=>rfl) (fun _ _=>rfl) (fun _ _=>rfl) (fun _ _=>rfl) (fun _ _=>rfl) (fun _ _=>rfl) (fun _ _=>rfl) (fun _ _=>rfl) (fun _ _=>rfl) (fun _ _=>rfl) (fun _ _=>rfl)
theorem q3_2:∀j,j<16→q3P (BitVec.ofNat 8 (16*2+j)):=b16 (fun _ r=>j_jr r _ _ _ 0xDD#8 (metR r.f 0) 7) (fun _ _=>rfl) (fun _ _=>rfl) (fun _ _=>rfl) (fun _ _=>rfl) (fun _ _=>rfl) (fun _ _=>rfl) (fun _ _=>rfl) (fun _ r=>j_jr r _ _ _ 0xDD#8 (metR r.f 1) 7) (fun _ _=>rfl) (fun _ _=>rfl) (fun _ _=>rfl) (fun _ _=>rfl) (fun _ _=>rfl) (fun _ _=>rfl) (fun _ _=>rfl)
theorem q3_3:∀j,j<16→q3P (BitVec.ofNat 8 (16*3+j)):=b16 (fun _ r=>j_jr r _ _ _ 0xDD#8 (metR r.f 2) 7) (fun _ _=>rfl) (fun _ _=>rfl) (fun _ _=>rfl) (fun _ _=>rfl) (fun _ _=>rfl) (fun _ _=>rfl) (fun _ _=>rfl) (fun _ r=>j_jr r _ _ _ 0xDD#8 (metR r.f 3) 7) (fun _ _=>rfl) (fun _ _=>rfl) (fun _ _=>rfl) (fun _ _=>rfl) (fun _ _=>rfl) (fun _ _=>rfl) (fun _ _=>rfl)
theorem q3_4:∀j,j<16→q3P (BitVec.ofNat 8 (16*4+j)):=b16 (fun _ _=>rfl) (fun _ _=>rfl) (fun _ _=>rfl) (fun _ _=>rfl) (fun _ _=>rfl) (fun _ _=>rfl) (fun _ _=>rfl) (fun _ _=>rfl) (fun _ _=>rfl) (fun _ _=>rfl) (fun _ _=>rfl) (fun _ _=>rfl) (fun _ _=>rfl) (fun _ _=>rfl) (fun _ _=>rfl) (fun _ _=>rfl)
theorem q3_5:∀j,j<16→q3P (BitVec.ofNat 8 (16*5+j)):=b16 (fun _ _=>rfl) (fun _ _=>rfl) (fun _ _=>rfl) (fun _ _=>rfl) (fun _ _=>rfl) (fun _ _=>rfl) (fun _ _=>rfl) (fun _ _=>rfl) (fun _ _=>rfl) (fun _ _=>rfl) (fun _ _=>rfl) (fun _ _=>rfl) (fun _ _=>rfl) (fun _ _=>rfl) (fun _ _=>rfl) (fun _ _=>rfl)
theorem q3_6:∀j,j<16→q3P (BitVec.ofNat 8 (16*6+j)):=b16 (fun _ _=>rfl) (fun _ _=>rfl) (fun _ _=>rfl) (fun _ _=>rfl) (fun _ _=>rfl) (fun _ _=>rfl) (fun _ _=>rfl) (fun _ _=>rfl) (fun _ _=>rfl) (fun _ _=>rfl) (fun _ _=>rfl) (fun _ _=>rfl) (fun _ _=>rfl) (fun _ _=>rfl) (fun _ _=>rfl) (fun _ _=>rfl)
theorem q3_7:∀j,j<16→q3P (BitVec.ofNat 8 (16*7+j)):=b16 (fun _ _=>rfl) (fun _ _=>rfl) (fun _ _=>rfl) (fun _ _=>rfl) (fun _ _=>rfl) (fun _ _=>rfl) (fun _ _=>rfl) (fun _ _=>rfl) (fun _ _=>rfl) (fun _ _=>rfl) (fun _ _=>rfl) (fun _ _=>rfl) (fun _ _=>rfl) (fun _ _=>rfl) (fun _ _=>rfl) (fun _ _=>rfl)
theorem q3_8:∀j,j<16→q3P (BitVec.ofNat 8 (16*8+j)):=b16 (fun _ _=>rfl) (fun _ _=>rfl) (fun _ _=>rfl) (fun _ _=>rfl) (fun _ _=>rfl) (fun _ _=>rfl) (fun _ _=>rfl) (fun _ _=>rfl) (fun _ _=>rfl) (fun _ _=>rfl) (fun _ _=>rfl) (fun _ _=>rfl) (fun _ _=>rfl) (fun _ _=>rfl) (fun _ _=>rfl) (fun _ _=>rfl)
theorem q3_9:∀j,j<16→q3P (BitVec.ofNat 8 (16*9+j)):=b16 (fun _ _=>rfl) (fun _ _=>rfl) (fun _ _=>rfl) (fun _ _=>rfl) (fun _ _=>rfl) (fun _ _=>rfl) (fun _ _=>rfl) (fun _ _=>rfl) (fun _ _=>rfl) (fun _ _=>rfl) (fun _ _=>rfl) (fun _ _=>rfl) (fun _ _=>rfl) (fun _ _=>rfl) (fun _ _=>rfl) (fun _ _=>rfl)
theorem q3_A:∀j,j<16→q3P (BitVec.ofNat 8 (16*10+j)):=b16 (fun _ _=>rfl) (fun _ _=>rfl) (fun _ _=>rfl) (fun _ _=>rfl) (fun _ _=>rfl) (fun _ _=>rfl) (fun _ _=>rfl) (fun _ _=>rfl) (fun _ _=>rfl) (fun _ _=>rfl) (fun _ _=>rfl) (fun _ _=>rfl) (fun _ _=>rfl) (fun _ _=>rfl) (fun _ _=>rfl) (fun _ _=>rfl)
theorem q3_B:∀j,j<16→q3P (BitVec.ofNat 8 (16*11+j)):=b16 (fun _ _=>rfl) (fun _ _=>rfl) (fun _ _=>rfl) (fun _ _=>rfl) (fun _ _=>rfl) (fun _ _=>rfl) (fun _ _=>rfl) (fun _ _=>rfl) (fun _ _=>rfl) (fun _ _=>rfl) (fun _ _=>rfl) (fun _ _=>rfl) (fun _ _=>rfl) (fun _ _=>rfl) (fun _ _=>rfl) (fun _ _=>rfl)
theorem q3_C:∀j,j<16→q3P (BitVec.ofNat 8 (16*12+j)):=b16 (fun _ r=>j_ret r _ _ _ 0xDD#8 (metR r.f 0)) (fun _ _=>rfl) (fun _ r=>j_jp r _ _ _ 0xDD#8 (metR r.f 0)) (fun _ _=>rfl) (fun _ r=>j_call r _ _ _ 0xDD#8 (metR r.f 0)) (fun _ _=>rfl) (fun _ _=>rfl) (fun _ _=>rfl) (fun _ r=>j_ret r _ _ _ 0xDD#8 (metR r.f 1)) (fun _ _=>rfl) (fun _ r=>j_jp r _ _ _ 0xDD#8 (metR r.f 1)) (fun h=>absurd rfl h.2.2.2) (fun _ r=>j_call r _ _ _ 0xDD#8 (metR r.f 1)) (fun _ _=>rfl) (fun _ _=>rfl) (fun _ _=>rfl)
theorem q3_D:∀j,j<16→q3P (BitVec.ofNat 8 (16*13+j)):=b16 (fun _ r=>j_ret r _ _ _ 0xDD#8 (metR r.f 2)) (fun _ _=>rfl) (fun _ r=>j_jp r _ _ _ 0xDD#8 (metR r.f 2)) (fun _ _=>rfl) (fun _ r=>j_call r _ _ _ 0xDD#8 (metR r.f 2)) (fun _ _=>rfl) (fun _ _=>rfl) (fun _ _=>rfl) (fun _ r=>j_ret r _ _ _ 0xDD#8 (metR r.f 3)) (fun _ _=>rfl) (fun _ r=>j_jp r _ _ _ 0xDD#8 (metR r.f 3)) (fun _ _=>rfl) (fun _ r=>j_call r _ _ _ 0xDD#8 (metR r.f 3)) (fun h=>absurd rfl h.1) (fun _ _=>rfl) (fun _ _=>rfl)
theorem q3_E:∀j,j<16→q3P (BitVec.ofNat 8 (16*14+j)):=b16 (fun _ r=>j_ret r _ _ _ 0xDD#8 (metR r.f 4)) (fun _ _=>rfl) (fun _ r=>j_jp r _ _ _ 0xDD#8 (metR r.f 4)) (fun _ _=>rfl) (fun _ r=>j_call r _ _ _ 0xDD#8 (metR r.f 4)) (fun _ _=>rfl) (fun _ _=>rfl) (fun _ _=>rfl) (fun _ r=>j_ret r _ _ _ 0xDD#8 (metR r.f 5)) (fun _ _=>rfl) (fun _ r=>j_jp r _ _ _ 0xDD#8 (metR r.f 5)) (fun _ _=>rfl) (fun _ r=>j_call r _ _ _ 0xDD#8 (metR r.f 5)) (fun h=>absurd rfl h.2.2.1) (fun _ _=>rfl) (fun _ _=>rfl)
theorem q3_F:∀j,j<16→q3P (BitVec.ofNat 8 (16*15+j)):=b16 (fun _ r=>j_ret r _ _ _ 0xDD#8 (metR r.f 6)) (fun _ _=>rfl) (fun _ r=>j_jp r _ _ _ 0xDD#8 (metR r.f 6)) (fun _ _=>rfl) (fun _ r=>j_call r _ _ _ 0xDD#8 (metR r.f 6)) (fun _ _=>rfl) (fun _ _=>rfl) (fun _ _=>rfl) (fun _ r=>j_ret r _ _ _ 0xDD#8 (metR r.f 7)) (fun _ _=>rfl) (fun _ r=>j_jp r _ _ _ 0xDD#8 (metR r.f 7)) (fun _ _=>rfl) (fun _ r=>j_call r _ _ _ 0xDD#8 (metR r.f 7)) (fun h=>absurd rfl h.2.1) (fun _ _=>rfl) (fun _ _=>rfl)
theorem q3 (op:BitVec 8):q3P op:=b256 (b16 q3_0 q3_1 q3_2 q3_3 q3_4 q3_5 q3_6 q3_7 q3_8 q3_9 q3_A q3_B q3_C q3_D q3_E q3_F) op
end Go.Proofs.Joy
namespace Go.Proofs.Joy
open Go.Ab
set_option maxHeartbeats 4000000
set_option maxRecDepth 20000
def q4P (op:BitVec 8):Prop:=op≠0xDD#8∧op≠0xFD#8∧op≠0xED#8∧op≠0xCB#8→∀r:Rg,outX (xDo 4 op ⟨r,0#16,false,0⟩)=outC (plainM op ⟨r,0xFD#8⟩)
theorem q4_0:∀j,j<16→q4P (BitVec.ofNat 8 (16*0+j)):=b16 (fun _ _=>rfl) (fun _ _=>rfl) (fun _ _=>rfl) (fun _ _=>rfl) (fun _ _=>rfl) (fun _ _=>rfl) (fun _ _=>rfl) (fun _ _=>rfl) (fun _ _=>rfl) (fun _ _=>rfl) (fun _ _=>rfl) (fun _ _=>rfl) (fun _ _=>rfl) (fun _ _=>rfl) (fun _ _=>rfl) (fun _ _=>rfl)
theorem q4_1:∀j,j<16→q4P (BitVec.ofNat 8 (16*1+j)):=b16 (fun _ r=>j_jr { r with b:=r.b-1#8} _ _ _ 0xFD#8 (r.b-1#8 !=0#8) 8) (fun _ _=>rfl) (fun _ _=>rfl) (fun _ _=>rfl) (fun _ _=>rfl) (fun _ _=>rfl) (fun _ _=>rfl) (fun _ _=>rfl) (fun _ _=>rfl) (fun _ _=>rfl) (fun _ _=>rfl) (fun _ _=>rfl) (fun _ _=>rfl) (fun _ _=>rfl) (fun _ _=>rfl) (fun _ _=>rfl)
theorem q4_2:∀j,j<16→q4P (BitVec.ofNat 8 (16*2+j)):=b16 (fun _ r=>j_jr r _ _ _ 0xFD#8 (metR r.f 0) 7) (fun _ _=>rfl) (fun _ _=>rfl) (fun _ _=>rfl) (fun _ _=>rfl) (fun _ _=>rfl) (fun _ _=>rfl) (fun _ _=>rfl) (fun _ r=>j_jr r _ _ _ 0xFD#8 (metR r.f 1) 7) (fun _ _=>rfl) (fun _ _=>rfl) (fun _ _=>rfl) (fun _ _=>rfl) (fun _ _=>rfl) (fun _ _=>rfl) (fun _ _=>rfl)
theorem q4_3:∀j,j<16→q4P (BitVec.ofNat 8 (16*3+j)):=b16 (fun _ r=>j_jr r _ _ _ 0xFD#8 (metR r.f 2) 7) (fun _ _=>rfl) (fun _ _=>rfl) (fun _ _=>rfl) (fun _ _=>rfl) (fun _ _=>rfl) (fun _ _=>rfl) (fun _ _=>rfl) (fun _ r=>j_jr r _ _ _ 0xFD#8 (metR r.f 3) 7) (fun _ _=>rfl) (fun _ _=>rfl) (fun _ _=>rfl) (fun _ _=>rfl) (fun _ _=>rfl) (fun _ _=>rfl) (fun _ _=>rfl)
theorem q4_4:∀j,j<16→q4P (BitVec.ofNat 8 (16*4+j)):=b16 (fun _ _=>rfl) (fun _ _=>rfl) (fun _ _=>rfl) (fun _ _=>rfl) (fun _ _=>rfl) (fun _ _=>rfl) (fun _ _=>rfl) (fun _ _=>rfl) (fun _ _=>rfl) (fun _ _=>rfl) (fun _ _=>rfl) (fun _ _=>rfl) (fun _ _=>rfl) (fun _ _=>rfl) (fun _ _=>rfl) (fun _ _=>rfl)
theorem q4_5:∀j,j<16→q4P (BitVec.ofNat 8 (16*5+j)):=b16 (fun _ _=>rfl) (fun _ _=>rfl) (fun _ _=>rfl) (fun _ _=>rfl) (fun _ _=>rfl) (fun _ _=>rfl) (fun _ _=>rfl) (fun _ _=>rfl) (fun _ _=>rfl) (fun _ _=>rfl) (fun _ _=>rfl) (fun _ _=>rfl) (fun _ _=>rfl) (fun _ _=>rfl) (fun _ _=>rfl) (fun _ _=>rfl)
theorem q4_6:∀j,j<16→q4P (BitVec.ofNat 8 (16*6+j)):=b16 (fun _ _=>rfl) (fun _ _=>rfl) (fun _ _=>rfl) (fun _ _=>rfl) (fun _ _=>rfl) (fun _ _=>rfl) (fun _ _=>rfl) (fun _ _=>rfl) (fun _ _=>rfl) (fun _ _=>rfl) (fun _ _=>rfl) (fun _ _=>rfl) (fun _ _=>rfl) (fun _ _=>rfl) (fun _ _=>rfl) (fun _ _=>rfl)
theorem q4_7:∀j,j<16→q4P (BitVec.ofNat 8 (16*7+j)):=b16 (fun _ _=>rfl) (fun _ _=>rfl) (fun _ _=>rfl) (fun _ _=>rfl) (fun _ _=>rfl) (fun _ _=>rfl) (fun _ _=>rfl) (fun _ _=>rfl) (fun _ _=>rfl) (fun _ _=>rfl) (fun _ _=>rfl) (fun _ _=>rfl) (fun _ _=>rfl) (fun _ _=>rfl) (fun _ _=>rfl) (fun _ _=>rfl)
theorem q4_8:∀j,j<16→q4P (BitVec.ofNat 8 (16*8+j)):=b16 (fun _ _=>rfl) (fun _ _=>rfl) (fun _ _=>rfl) (fun _ _=>rfl) (fun _ _=>rfl) (fun _ _=>rfl) (fun _ _=>rfl) (fun _ _=>rfl) (fun _ _=>rfl) (fun _ _=>rfl) (fun _ _=>rfl) (fun _ _=>rfl) (fun _ _=>rfl) (fun _ _=>rfl) (fun _ _=>rfl) (fun _ _=>rfl)
theorem q4_9:∀j,j<16→q4P (BitVec.ofNat 8 (16*9+j)):=b16 (fun _ _=>rfl) (fun _ _=>rfl) (fun _ _=>rfl) (fun _ _=>rfl) (fun _ _=>rfl) (fun _ _=>rfl) (fun _ _=>rfl) (fun _ _=>rfl) (fun _ _=>rfl) (fun _ _=>rfl) (fun _ _=>rfl) (fun _ _=>rfl) (fun _ _=>rfl) (fun _ _=>rfl) (fun _ _=>rfl) (fun _ _=>rfl)
theorem q4_A:∀j,j<16→q4P (BitVec.ofNat 8 (16*10+j)):=b16 (fun _ _=>rfl) (fun _ _=>rfl) (fun _ _=>rfl) (fun _ _=>rfl) (fun _ _=>rfl) (fun _ _=>rfl) (fun _ _=>rfl) (fun _ _=>rfl) (fun _ _=>rfl) (fun _ _=>rfl) (fun _ _=>rfl) (fun _ _=>rfl) (fun _ _=>rfl) (fun _ _=>rfl) (fun _ _=>rfl) (fun _ _=>rfl)
theorem q4_B:∀j,j<16→q4P (BitVec.ofNat 8 (16*11+j)):=b16 (fun _ _=>rfl) (fun _ _=>rfl) (fun _ _=>rfl) (fun _ _=>rfl) (fun _ _=>rfl) (fun _ _=>rfl) (fun _ _=>rfl) (fun _ _=>rfl) (fun _ _=>rfl) (fun _ _=>rfl) (fun _ _=>rfl) (fun _ _=>rfl) (fun _ _=>rfl) (fun _ _=>rfl) (fun _ _=>rfl) (fun _ _=>rfl)
theorem q4_C:∀j,j<16→q4P (BitVec.ofNat 8 (16*12+j)):=b16 (fun _ r=>j_ret r _ _ _ 0xFD#8 (metR r.f 0)) (fun _ _=>rfl) (fun _ r=>j_jp r _ _ _ 0xFD#8 (metR r.f 0)) (fun _ _=>rfl) (fun _ r=>j_call r _ _ _ 0xFD#8 (metR r.f 0)) (fun _ _=>rfl) (fun _ _=>rfl) (fun _ _=>rfl) (fun _ r=>j_ret r _ _ _ 0xFD#8 (metR r.f 1)) (fun _ _=>rfl) (fun _ r=>j_jp r _ _ _ 0xFD#8 (metR r.f 1)) (fun h=>absurd rfl h.2.2.2) (fun _ r=>j_call r _ _ _ 0xFD#8 (metR r.f 1)) (fun _ _=>rfl) (fun _ _=>rfl) (fun _ _=>rfl)
theorem q4_D:∀j,j<16→q4P (BitVec.ofNat 8 (16*13+j)):=b16 (fun _ r=>j_ret r _ _ _ 0xFD#8 (metR r.f 2)) (fun _ _=>rfl) (fun _ r=>j_jp r _ _ _ 0xFD#8 (metR r.f 2)) (fun _ _=>rfl) (fun _ r=>j_call r _ _ _ 0xFD#8 (metR r.f 2)) (fun _ _=>rfl) (fun _ _=>rfl) (fun _ _=>rfl) (fun _ r=>j_ret r _ _ _ 0xFD#8 (metR r.f 3)) (fun _ _=>rfl) (fun _ r=>j_jp r _ _ _ 0xFD#8 (metR r.f 3)) (fun _ _=>rfl) (fun _ r=>j_call r _ _ _ 0xFD#8 (metR r.f 3)) (fun h=>absurd rfl h.1) (fun _ _=>rfl) (fun _ _=>rfl)
theorem q4_E:∀j,j<16→q4P (BitVec.ofNat 8 (16*14+j)):=b16 (fun _ r=>j_ret r _ _ _ 0xFD#8 (metR r.f 4)) (fun _ _=>rfl) (fun _ r=>j_jp r _ _ _ 0xFD#8 (metR r.f 4)) (fun _ _=>rfl) (fun _ r=>j_call r _ _ _ 0xFD#8 (metR r.f 4)) (fun _ _=>rfl) (fun _ _=>rfl) (fun _ _=>rfl) (fun _ r=>j_ret r _ _ _ 0xFD#8 (metR r.f 5)) (fun _ _=>rfl) (fun _ r=>j_jp r _ _ _ 0xFD#8 (metR r.f 5)) (fun _ _=>rfl) (fun _ r=>j_call r _ _ _ 0xFD#8 (metR r.f 5)) (fun h=>absurd rfl h.2.2.1) (fun _ _=>rfl) (fun _ _=>rfl)
theorem q4_F:∀j,j<16→q4P (BitVec.ofNat 8 (16*15+j)):=b16 (fun _ r=>j_ret r _ _ _ 0xFD#8 (metR r.f 6)) (fun _ _=>rfl) (fun _ r=>j_jp r _ _ _ 0xFD#8 (metR r.f 6)) (fun _ _=>rfl) (fun _ r=>j_call r _ _ _ 0xFD#8 (metR r.f 6)) (fun _ _=>rfl) (fun _ _=>rfl) (fun _ _=>rfl) (fun _ r=>j_ret r _ _ _ 0xFD#8 (metR r.f 7)) (fun _ _=>rfl) (fun _ r=>j_jp r _ _ _ 0xFD#8 (metR r.f 7)) (fun _ _=>rfl) (fun _ r=>j_call r _ _ _ 0xFD#8 (metR r.f 7)) (fun h=>absurd rfl h.2.1) (fun _ _=>rfl) (fun _ _=>rfl)
theorem q4 (op:BitVec 8):q4P op:=b256 (b16 q4_0 q4_1 q4_2 q4_3 q4_4 q4_5 q4_6 q4_7 q4_8 q4_9 q4_A q4_B q4_C q4_D q4_E q4_F) op
end Go.Proofs.Joy
namespace Go.Proofs.Joy
open Go.Ab
set_option maxHeartbeats 4000000
set_option maxRecDepth 20000
def q5P (op:BitVec 8):Prop:=∀(r:Rg) (a:BitVec 16),outX (xDo 5 op ⟨r,a,true,0⟩)=outC (farB op a ⟨r,0#8⟩)
theorem q5_0:∀j,j<16→q5P (BitVec.ofNat 8 (16*0+j)):=b16 (fun _ _=>rfl) (fun _ _=>rfl) (fun _ _=>rfl) (fun _ _=>rfl) (fun _ _=>rfl) (fun _ _=>rfl) (fun _ _=>rfl) (fun _ _=>rfl) (fun _ _=>rfl) (fun _ _=>rfl) (fun _ _=>rfl) (fun _ _=>rfl) (fun _ _=>rfl) (fun _ _=>rfl) (fun _ _=>rfl) (fun _ _=>rfl)
theorem q5_1:∀j,j<16→q5P (BitVec.ofNat 8 (16*1+j)):=b16 (fun _ _=>rfl) (fun _ _=>rfl) (fun _ _=>rfl) (fun _ _=>rfl) (fun _ _=>rfl) (fun _ _=>rfl) (fun _ _=>rfl) (fun _ _=>rfl) (fun _ _=>rfl) (fun _ _=>rfl) (fun _ _=>rfl) (fun _ _=>rfl) (fun _ _=>rfl) (fun _ _=>rfl) (fun _ _=>rfl) (fun _ _=>rfl)
theorem q5_2:∀j,j<16→q5P (BitVec.ofNat 8 (16*2+j)):=b16 (fun _ _=>rfl) (fun _ _=>rfl) (fun _ _=>rfl) (fun _ _=>rfl) (fun _ _=>rfl) (fun _ _=>rfl) (fun _ _=>rfl) (fun _ _=>rfl) (fun _ _=>rfl) (fun _ _=>rfl) (fun _ _=>rfl) (fun _ _=>rfl) (fun _ _=>rfl) (fun _ _=>rfl) (fun _ _=>rfl) (fun _ _=>rfl)
theorem q5_3:∀j,j<16→q5P (BitVec.ofNat 8 (16*3+j)):=b16 (fun _ _=>rfl) (fun _ _=>rfl) (fun _ _=>rfl) (fun _ _=>rfl) (fun _ _=>rfl) (fun _ _=>rfl) (fun _ _=>rfl) (fun _ _=>rfl) (fun _ _=>rfl) (fun _ _=>rfl) (fun _ _=>rfl) (fun _ _=>rfl) (fun _ _=>rfl) (fun _ _=>rfl) (fun _ _=>rfl) (fun _ _=>rfl)
theorem q5_4:∀j,j<16→q5P (BitVec.ofNat 8 (16*4+j)):=b16 (fun _ _=>rfl) (fun _ _=>rfl) (fun _ _=>rfl) (fun _ _=>rfl) (fun _ _=>rfl) (fun _ _=>rfl) (fun _ _=>rfl) (fun _ _=>rfl) (fun _ _=>rfl) (fun _ _=>rfl) (fun _ _=>rfl) (fun _ _=>rfl) (fun _ _=>rfl) (fun _ _=>rfl) (fun _ _=>rfl) (fun _ _=>rfl)
theorem q5_5:∀j,j<16→q5P (BitVec.ofNat 8 (16*5+j)):=b16 (fun _ _=>rfl) (fun _ _=>rfl) (fun _ _=>rfl) (fun _ _=>rfl) (fun _ _=>rfl) (fun _ _=>rfl) (fun _ _=>rfl) (fun _ _=>rfl) (fun _ _=>rfl) (fun _ _=>rfl) (fun _ _=>rfl) (fun _ _=>rfl) (fun _ _=>rfl) (fun _ _=>rfl) (fun _ _=>rfl) (fun _ _=>rfl)
theorem q5_6:∀j,j<16→q5P (BitVec.ofNat 8 (16*6+j)):=b16 (fun _ _=>rfl) (fun _ _=>rfl) (fun _ _=>rfl) (fun _ _=>rfl) (fun _ _=>rfl) (fun _ _=>rfl) (fun _ _=>rfl) (fun _ _=>rfl) (fun _ _=>rfl) (fun _ _=>rfl) (fun _ _=>rfl) (fun _ _=>rfl) (fun _ _=>rfl) (fun _ _=>rfl) (fun _ _=>rfl) (fun _ _=>rfl)
theorem q5_7:∀j,j<16→q5P (BitVec.ofNat 8 (16*7+j)):=b16 (fun _ _=>rfl) (fun _ _=>rfl) (fun _ _=>rfl) (fun _ _=>rfl) (fun _ _=>rfl) (fun _ _=>rfl) (fun _ _=>rfl) (fun _ _=>rfl) (fun _ _=>rfl) (fun _ _=>rfl) (fun _ _=>rfl) (fun _ _=>rfl) (fun _ _=>rfl) (fun _ _=>rfl) (fun _ _=>rfl) (fun _ _=>rfl)
theorem q5_8:∀j,j<16→q5P (BitVec.ofNat 8 (16*8+j)):=b16 (fun _ _=>rfl) (fun _ _=>rfl) (fun _ _=>rfl) (fun _ _=>rfl) (fun _ _=>rfl) (fun _ _=>rfl) (fun _ _=>rfl) (fun _ _=>rfl) (fun _ _=>rfl) (fun _ _=>rfl) (fun _ _=>rfl) (fun _ _=>rfl) (fun _ _=>rfl) (fun _ _=>rfl) (fun _ _=>rfl) (fun _ _=>rfl)
theorem q5_9:∀j,j<16→q5P (BitVec.ofNat 8 (16*9+j)):=b16 (fun _ _=>rfl) (fun _ _=>rfl) (fun _ _=>rfl) (fun _ _=>rfl) (fun _ _=>rfl) (fun _ _=>rfl) (fun _ _=>rfl) (fun _ _=>rfl) (fun _ _=>rfl) (fun _ _=>rfl) (fun _ _=>rfl) (fun _ _=>rfl) (fun _ _=>rfl) (fun _ _=>rfl) (fun _ _=>rfl) (fun _ _=>rfl)
theorem q5_A:∀j,j<16→q5P (BitVec.ofNat 8 (16*10+j)):=b16 (fun _ _=>rfl) (fun _ _=>rfl) (fun _ _=>rfl) (fun _ _=>rfl) (fun _ _=>rfl) (fun _ _=>rfl) (fun _ _=>rfl) (fun _ _=>rfl) (fun _ _=>rfl) (fun _ _=>rfl) (fun _ _=>rfl) (fun _ _=>rfl) (fun _ _=>rfl) (fun _ _=>rfl) (fun _ _=>rfl) (fun _ _=>rfl)
theorem q5_B:∀j,j<16→q5P (BitVec.ofNat 8 (16*11+j)):=b16 (fun _ _=>rfl) (fun _ _=>rfl) (fun _ _=>rfl) (fun _ _=>rfl) (fun _ _=>rfl) (fun _ _=>rfl) (fun _ _=>rfl) (fun _ _=>rfl) (fun _ _=>rfl) (fun _ _=>rfl) (fun _ _=>rfl) (fun _ _=>rfl) (fun _ _=>rfl) (fun _ _=>rfl) (fun _ _=>rfl) (fun _ _=>rfl)
theorem q5_C:∀j,j<16→q5P (BitVec.ofNat 8 (16*12+j)):=b16 (fun _ _=>rfl) (fun _ _=>rfl) (fun _ _=>rfl) (fun _ _=>rfl) (fun _ _=>rfl) (fun _ _=>rfl) (fun _ _=>rfl) (fun _ _=>rfl) (fun _ _=>rfl) (fun _ _=>rfl) (fun _ _=>rfl) (fun _ _=>rfl) (fun _ _=>rfl) (fun _ _=>rfl) (fun _ _=>rfl) (fun _ _=>rfl)
theorem q5_D:∀j,j<16→q5P (BitVec.ofNat 8 (16*13+j)):=b16 (fun _ _=>rfl) (fun _ _=>rfl) (fun _ _=>rfl) (fun _ _=>rfl) (fun _ _=>rfl) (fun _ _=>rfl) (fun _ _=>rfl) (fun _ _=>rfl) (fun _ _=>rfl) (fun _ _=>rfl) (fun _ _=>rfl) (fun _ _=>rfl) (fun _ _=>rfl) (fun _ _=>rfl) (fun _ _=>rfl) (fun _ _=>rfl)
theorem q5_E:∀j,j<16→q5P (BitVec.ofNat 8 (16*14+j)):=b16 (fun _ _=>rfl) (fun _ _=>rfl) (fun _ _=>rfl) (fun _ _=>rfl) (fun _ _=>rfl) (fun _ _=>rfl) (fun _ _=>rfl) (fun _ _=>rfl) (fun _ _=>rfl) (fun _ _=>rfl) (fun _ _=>rfl) (fun _ _=>rfl) (fun _ _=>rfl) (fun _ _=>rfl) (fun _ _=>rfl) (fun _ _=>rfl)
theorem q5_F:∀j,j<16→q5P (BitVec.ofNat 8 (16*15+j)):=b16 (fun _ _=>rfl) (fun _ _=>rfl) (fun _ _=>rfl) (fun _ _=>rfl) (fun _ _=>rfl) (fun _ _=>rfl) (fun _ _=>rfl) (fun _ _=>rfl) (fun _ _=>rfl) (fun _ _=>rfl) (fun _ _=>rfl) (fun _ _=>rfl) (fun _ _=>rfl) (fun _ _=>rfl) (fun _ _=>rfl) (fun _ _=>rfl)
theorem q5 (op:BitVec 8):q5P op:=b256 (b16 q5_0 q5_1 q5_2 q5_3 q5_4 q5_5 q5_6 q5_7 q5_8 q5_9 q5_A q5_B q5_C q5_D q5_E q5_F) op
end Go.Proofs.Joy
namespace Go.Proofs.Joy
open Go.Ab
set_option maxHeartbeats 4000000
set_option maxRecDepth 20000
def q6P (op:BitVec 8):Prop:=∀(r:Rg) (a:BitVec 16),outX (xDo 6 op ⟨r,a,true,0⟩)=outC (farB op a ⟨r,0#8⟩)
theorem q6_0:∀j,j<16→q6P (BitVec.ofNat 8 (16*0+j)):=b16 (fun _ _=>rfl) (fun _ _=>rfl) (fun _ _=>rfl) (fun _ _=>rfl) (fun _ _=>rfl) (fun _ _=>rfl) (fun _ _=>rfl) (fun _ _=>rfl) (fun _ _=>rfl) (fun _ _=>rfl) (fun _ _=>rfl) (fun _ _=>rfl) (fun _ _=>rfl) (fun _ _=>rfl) (fun _ _=>rfl) (fun _ _=>rfl)
theorem q6_1:∀j,j<16→q6P (BitVec.ofNat 8 (16*1+j)):=b16 (fun _ _=>rfl) (fun _ _=>rfl) (fun _ _=>rfl) (fun _ _=>rfl) (fun _ _=>rfl) (fun _ _=>rfl) (fun _ _=>rfl) (fun _ _=>rfl) (fun _ _=>rfl) (fun _ _=>rfl) (fun _ _=>rfl) (fun _ _=>rfl) (fun _ _=>rfl) (fun _ _=>rfl) (fun _ _=>rfl) (fun _ _=>rfl)
theorem q6_2:∀j,j<16→q6P (BitVec.ofNat 8 (16*2+j)):=b16 (fun _ _=>rfl) (fun _ _=>rfl) (fun _ _=>rfl) (fun _ _=>rfl) (fun _ _=>rfl) (fun _ _=>rfl) (fun _ _=>rfl) (fun _ _=>rfl) (fun _ _=>rfl) (fun _ _=>rfl) (fun _ _=>rfl) (fun _ _=>rfl) (fun _ _=>rfl) (fun _ _=>rfl) (fun _ _=>rfl) (fun _ _=>rfl)
theorem q6_3:∀j,j<16→q6P (BitVec.ofNat 8 (16*3+j)):=b16 (fun _ _=>rfl) (fun _ _=>rfl) (fun _ _=>rfl) (fun _ _=>rfl) (fun _ _=>rfl) (fun _ _=>rfl) (fun _ _=>rfl) (fun _ _=>rfl) (fun _ _=>rfl) (fun _ _=>rfl) (fun _ _=>rfl) (fun _ _=>rfl) (fun _ _=>rfl) (fun _ _=>rfl) (fun _ _=>rfl) (fun _ _=>rfl)
theorem q6_4:∀j,j<16→q6P (BitVec.ofNat 8 (16*4+j)):=b16 (fun _ _=>rfl) (fun _ _=>rfl) (fun _ _=>rfl) (fun _ _=>rfl) (fun _ _=>rfl) (fun _ _=>rfl) (fun _ _=>rfl) (fun _ _=>rfl) (fun _ _=>rfl) (fun _ _=>rfl) (fun _ _=>rfl) (fun _ _=>rfl) (fun _ _=>rfl) (fun _ _=>rfl) (fun _ _=>rfl) (fun _ _=>rfl)
theorem q6_5:∀j,j<16→q6P (BitVec.ofNat 8 (16*5+j)):=b16 (fun _ _=>rfl) (fun _ _=>rfl) (fun _ _=>rfl) (fun _ _=>rfl) (fun _ _=>rfl) (fun _ _=>rfl) (fun _ _=>rfl) (fun _ _=>rfl) (fun _ _=>rfl) (fun _ _=>rfl) (fun _ _=>rfl) (fun _ _=>rfl) (fun _ _=>rfl) (fun _ _=>rfl) (fun _ _=>rfl) (fun _ _=>rfl)
theorem q6_6:∀j,j<16→q6P (BitVec.ofNat 8 (16*6+j)):=b16 (fun _ _=>rfl) (fun _ _=>rfl) (fun _ _=>rfl) (fun _ _=>rfl) (fun _ _=>rfl) (fun _ _=>rfl) (fun _ _=>rfl) (fun _ _=>rfl) (fun _ _=>rfl) (fun _ _=>rfl) (fun _ _=>rfl) (fun _ _=>rfl) (fun _ _=>rfl) (fun _ _=>rfl) (fun _ _=>rfl) (fun _ _=>rfl)
theorem q6_7:∀j,j<16→q6P (BitVec.ofNat 8 (16*7+j)):=b16 (fun _ _=>rfl) (fun _ _=>rfl) (fun _ _=>rfl) (fun _ _=>rfl) (fun _ _=>rfl) (fun _ _=>rfl) (fun _ _=>rfl) (fun _ _=>rfl) (fun _ _=>rfl) (fun _ _=>rfl) (fun _ _=>rfl) (fun _ _=>rfl) (fun _ _=>rfl) (fun _ _=>rfl) (fun _ _=>rfl) (fun _ _=>rfl)
theorem q6_8:∀j,j<16→q6P (BitVec.ofNat 8 (16*8+j)):=b16 (fun _ _=>rfl) (fun _ _=>rfl) (fun _ _=>rfl) (fun _ _=>rfl) (fun _ _=>rfl) (fun _ _=>rfl) (fun _ _=>rfl) (fun _ _=>rfl) (fun _ _=>rfl) (fun _ _=>rfl) (fun _ _=>rfl) (fun _ _=>rfl) (fun _ _=>rfl) (fun _ _=>rfl) (fun _ _=>rfl) (fun _ _=>rfl)
theorem q6_9:∀j,j<16→q6P (BitVec.ofNat 8 (16*9+j)):=b16 (fun _ _=>rfl) (fun _ _=>rfl) (fun _ _=>rfl) (fun _ _=>rfl) (fun _ _=>rfl) (fun _ _=>rfl) (fun _ _=>rfl) (fun _ _=>rfl) (fun _ _=>rfl) (fun _ _=>rfl) (fun _ _=>rfl) (fun _ _=>rfl) (fun _ _=>rfl) (fun _ _=>rfl) (fun _ _=>rfl) (fun _ _=>rfl)
theorem q6_A:∀j,j<16→q6P (BitVec.ofNat 8 (16*10+j)):=b16 (fun _ _=>rfl) (fun _ _=>rfl) (fun _ _=>rfl) (fun _ _=>rfl) (fun _ _=>rfl) (fun _ _=>rfl) (fun _ _=>rfl) (fun _ _=>rfl) (fun _ _=>rfl) (fun _ _=>rfl) (fun _ _=>rfl) (fun _ _=>rfl) (fun _ _=>rfl) (fun _ _=>rfl) (fun _ _=>rfl) (fun _ _=>rfl)
theorem q6_B:∀j,j<16→q6P (BitVec.ofNat 8 (16*11+j)):=b16 (fun _ _=>rfl) (fun _ _=>rfl) (fun _ _=>rfl) (fun _ _=>rfl) (fun _ _=>rfl) (fun _ _=>rfl) (fun _ _=>rfl) (fun _ _=>rfl) (fun _ _=>rfl) (fun _ _=>rfl) (fun _ _=>rfl) (fun _ _=>rfl) (fun _ _=>rfl) (fun _ _=>rfl) (fun _ _=>rfl) (fun _ _=>rfl)
theorem q6_C:∀j,j<16→q6P (BitVec.ofNat 8 (16*12+j)):=b16 (fun _ _=>rfl) (fun _ _=>rfl) (fun _ _=>rfl) (fun _ _=>rfl) (fun _ _=>rfl) (fun _ _=>rfl) (fun _ _=>rfl) (fun _ _=>rfl) (fun _ _=>rfl) (fun _ _=>rfl) (fun _ _=>rfl) (fun _ _=>rfl) (fun _ _=>rfl) (fun _ _=>rfl) (fun _ _=>rfl) (fun _ _=>rfl)
theorem q6_D:∀j,j<16→q6P (BitVec.ofNat 8 (16*13+j)):=b16 (fun _ _=>rfl) (fun _ _=>rfl) (fun _ _=>rfl) (fun _ _=>rfl) (fun _ _=>rfl) (fun _ _=>rfl) (fun _ _=>rfl) (fun _ _=>rfl) (fun _ _=>rfl) (fun _ _=>rfl) (fun _ _=>rfl) (fun _ _=>rfl) (fun _ _=>rfl) (fun _ _=>rfl) (fun _ _=>rfl) (fun _ _=>rfl)
theorem q6_E:∀j,j<16→q6P (BitVec.ofNat 8 (16*14+j)):=b16 (fun _ _=>rfl) (fun _ _=>rfl) (fun _ _=>rfl) (fun _ _=>rfl) (fun _ _=>rfl) (fun _ _=>rfl) (fun _ _=>rfl) (fun _ _=>rfl) (fun _ _=>rfl) (fun _ _=>rfl) (fun _ _=>rfl) (fun _ _=>rfl) (fun _ _=>rfl) (fun _ _=>rfl) (fun _ _=>rfl) (fun _ _=>rfl)
theorem q6_F:∀j,j<16→q6P (BitVec.ofNat 8 (16*15+j)):=b16 (fun _ _=>rfl) (fun _ _=>rfl) (fun _ _=>rfl) (fun _ _=>rfl) (fun _ _=>rfl) (fun _ _=>rfl) (fun _ _=>rfl) (fun _ _=>rfl) (fun _ _=>rfl) (fun _ _=>rfl) (fun _ _=>rfl) (fun _ _=>rfl) (fun _ _=>rfl) (fun _ _=>rfl) (fun _ _=>rfl) (fun _ _=>rfl)
theorem q6 (op:BitVec 8):q6P op:=b256 (b16 q6_0 q6_1 q6_2 q6_3 q6_4 q6_5 q6_6 q6_7 q6_8 q6_9 q6_A q6_B q6_C q6_D q6_E q6_F) op
end Go.Proofs.Joy
namespace Go.Proofs.Joy
open Go.Ab
set_option maxHeartbeats 1000000
theorem fetch_same {α β:Type} {F:BitVec 8×XC→Eff β} {G:BitVec 8×Core→Eff β} (r:Rg) (pr:BitVec 8) (h:∀v,F (v,⟨{ tickR r with pc:=r.pc+1#16},0#16,false,0⟩)=G (v,⟨{ tickR r with pc:=r.pc+1#16},pr⟩)):(xFetch ⟨r,0#16,false,0⟩).bind F=(fetchM ⟨r,pr⟩).bind G:=by
  show Eff.rd r.pc (fun v=>F _)=Eff.rd r.pc (fun v=>G _)
  congr 1; funext v; exact h v
theorem turned_zero (r:Rg):turnedM ⟨r,0#8⟩=(fetchM ⟨r,0#8⟩).bind fun op=>turnB op.1 op.2:=by
  unfold turnedM
  rw[if_neg (by show ¬((0#8:BitVec 8)!=0#8)=true; decide)]; rfl
theorem turned_far (r:Rg) (pr:BitVec 8) (hp:pr≠0#8):turnedM ⟨r,pr⟩=turnedFarM ⟨r,pr⟩:=by
  unfold turnedM
  rw[if_pos (by simpa using hp)]
theorem right_pre {r:Rg} (h:r.right=true):r.pre=0#8∨r.pre=0xDD#8∨r.pre=0xFD#8:=by
  unfold Rg.right at h
  simp only[Bool.and_eq_true,Bool.or_eq_true,beq_iff_eq] at h
  rcases h.2 with (h | h) | h
  · exact .inl h
  · exact .inr (.inl h)
  · exact .inr (.inr h)
theorem step_same (r:Rg) (hr:r.right=true):xStep r=stepE r:=by
  unfold xStep stepE
  by_cases hh:r.hlt=true
  · rw[if_pos hh,if_pos hh]
  rw[if_neg hh,if_neg hh]
  refine fetch_same (α:=Nat) { r with dly:=false,pre:=0#8} 0#8 fun v=>?_
  generalize ({ tickR { r with dly:=false,pre:=0#8} with pc:=({ r with dly:=false,pre:=0#8}:Rg).pc+1#16}:Rg)=R
  dsimp only
  by_cases h1:(v==0xDD#8||v==0xFD#8)=true
  · rw[if_pos h1,if_pos h1]
  rw[if_neg h1,if_neg h1]
  have hne:v≠0xDD#8∧v≠0xFD#8:=by
    simp only[Bool.or_eq_true,beq_iff_eq,not_or] at h1; exact h1
  by_cases h2:(v==0xED#8)=true
  · rw[if_pos h2,if_pos h2]
    refine fetch_same (α:=Nat) R 0#8 fun w=>?_
    exact q2 w _
  rw[if_neg h2,if_neg h2]
  by_cases h3:(v==0xCB#8)=true
  · rw[if_pos h3,if_pos h3]
    rcases right_pre hr with hp | hp | hp <;> rw[hp]
    · rw[if_pos (by rfl),turned_zero]
      rw[Eff.bind_assoc]
      refine fetch_same (α:=Nat) R 0#8 fun w=>?_
      exact q1 w _
    · rw[if_neg (by decide),if_pos (by rfl),if_pos (by rfl),turned_far _ _ (by decide)]
      show Eff.rd R.pc (fun d=>Eff.rd (R.pc+1#16) (fun w=>_))=Eff.rd R.pc (fun d=>Eff.rd (R.pc+1#16) (fun w=>_))
      congr 1; funext d; congr 1; funext w
      exact q5 w _ _
    · rw[if_neg (by decide),if_neg (by decide),if_neg (by decide),turned_far _ _ (by decide)]
      show Eff.rd R.pc (fun d=>Eff.rd (R.pc+1#16) (fun w=>_))=Eff.rd R.pc (fun d=>Eff.rd (R.pc+1#16) (fun w=>_))
      congr 1; funext d; congr 1; funext w
      exact q6 w _ _
  rw[if_neg h3,if_neg h3]
  have hall:v≠0xDD#8∧v≠0xFD#8∧v≠0xED#8∧v≠0xCB#8:=⟨hne.1,hne.2,by simpa using h2,by simpa using h3⟩
  rcases right_pre hr with hp | hp | hp <;> rw[hp]
  · rw[if_pos (by rfl)]; exact q0 v hall _
  · rw[if_neg (by decide),if_pos (by rfl)]; exact q3 v hall _
  · rw[if_neg (by decide),if_neg (by decide)]; exact q4 v hall _
theorem inter_same (r:Rg) (hr:r.right=true) (pause line:Bool):xInter r pause line=interE r pause line:=by
  have him:r.im=0#8∨r.im=1#8∨r.im=2#8:=by
    unfold Rg.right at hr
    simp only[Bool.and_eq_true,decide_eq_true_eq] at hr
    have h:=hr.1
    have:∀x:BitVec 8,x≤2#8→x=0#8∨x=1#8∨x=2#8:=by decide +kernel
    exact this _ h
  unfold xInter interE
  by_cases h1:(r.pre !=0#8)=true
  · rw[if_pos (by rw[h1]; rfl),if_pos h1]
  rw[if_neg h1]
  have h1':(r.pre !=0#8)=false:=by simpa using h1
  rw[h1',Bool.false_or]
  cases pause
  · rw[if_neg (by decide:¬(false=true))]
    by_cases h2:line=false∨r.iff1=false∨r.dly=true
    · rw[if_pos h2,if_pos (by rcases h2 with h | h | h <;> rw[h] <;> simp)]
    · rw[if_neg h2]
      have h3:line=true∧r.iff1=true∧r.dly=false:=by
        simp only[not_or,Bool.not_eq_false,Bool.not_eq_true] at h2; exact h2
      rw[if_neg (by rw[h3.1,h3.2.1,h3.2.2]; decide)]
      show Eff.wr _ _ (Eff.wr _ _ _)=Eff.wr _ _ (Eff.wr _ _ _)
      congr 1; congr 1
      rcases him with h | h | h
      · show(if(r.im==2#8)=true then _ else _)=if r.im<2#8 then _ else _
        rw[if_neg (by rw[h]; decide),if_pos (show r.im<2#8 by rw[h]; decide)]; rfl
      · show(if(r.im==2#8)=true then _ else _)=if r.im<2#8 then _ else _
        rw[if_neg (by rw[h]; decide),if_pos (show r.im<2#8 by rw[h]; decide)]; rfl
      · show(if(r.im==2#8)=true then _ else _)=if r.im<2#8 then _ else _
        rw[if_pos (by rw[h]; decide),if_neg (show ¬r.im<2#8 by rw[h]; decide)]; rfl
  · rw[if_neg (by rw[Bool.not_true,Bool.false_and]; decide),if_pos rfl]
    rfl
end Go.Proofs.Joy
namespace Go.Proofs.Joy
open Go.Ab Go.Proofs
set_option maxHeartbeats 1000000
set_option maxRecDepth 20000
theorem c_join (a b:BitVec 8) (H:Heap) (n:Nat) (K:AV→Heap→Nat→Prop) (h:K (.u16 (joinS a b)) H n):ACalls Tryz.prog 39 [.u8 a,.u8 b] H n K:=by
  refine ACalls.of_ev dr0 Tryz.func39 rfl (by decide +kernel) (by decide +kernel) (show 2≤11 by decide) (by simp) fun wf=>?_
  simp only[go_sem,Tryz.f39]
  exact Fin.back wf h (fun _ _=>rfl) rfl
theorem c_split (v:BitVec 16) (H:Heap) (n:Nat) (K:AV→Heap→Nat→Prop) (h:K (.tu [.u8 (hiS v),.u8 (loS v)]) H n):ACalls Tryz.prog 102 [.u16 v] H n K:=by
  refine ACalls.of_ev dr0 Tryz.func102 rfl (by decide +kernel) (by decide +kernel) (show 1≤9 by decide) (by simp) fun wf=>?_
  simp only[go_sem,Tryz.f102]
  exact Fin.back wf h (fun _ _=>rfl) rfl
theorem c_move (v:BitVec 16) (b:BitVec 8) (H:Heap) (n:Nat) (K:AV→Heap→Nat→Prop) (h:K (.u16 (moveS v b)) H n):ACalls Tryz.prog 108 [.u16 v,.u8 b] H n K:=by
  refine ACalls.of_ev dr0 Tryz.func108 rfl (by decide +kernel) (by decide +kernel) (show 2≤10 by decide) (by simp) fun wf=>?_
  simp only[go_sem,Tryz.f108]
  exact Fin.back wf h (fun _ _=>rfl) rfl
theorem c_half (a b v:BitVec 16) (H:Heap) (n:Nat) (K:AV→Heap→Nat→Prop) (h:K (.u8 (halfS a b v)) H n):ACalls Tryz.prog 162 [.u16 a,.u16 b,.u16 v] H n K:=by
  refine ACalls.of_ev dr0 Tryz.func162 rfl (by decide +kernel) (by decide +kernel) (show 3≤15 by decide) (by simp) fun wf=>?_
  simp only[go_sem,Tryz.f162]
  exact Fin.back wf h (fun _ _=>rfl) rfl
theorem c_flag (f:BitVec 8) (y:Bool) (H:Heap) (n:Nat) (K:AV→Heap→Nat→Prop) (h:K (.u8 (if y then f else 0#8)) H n):ACalls Tryz.prog 160 [.u8 f,.bo y] H n K:=by
  refine ACalls.of_ev dr0 Tryz.func160 rfl (by decide +kernel) (by decide +kernel) (show 2≤7 by decide) (by simp) fun wf=>?_
  simp only[go_sem,Tryz.f160]
  refine⟨fun e=>?_,fun e=>?_⟩
  · exact Fin.keep (by simpa [e] using h)
  · exact Fin.keep (by simpa [e] using h)
theorem c_bit (y:Bool) (H:Heap) (n:Nat) (K:AV→Heap→Nat→Prop) (h:K (.u16 (bit16 y)) H n):ACalls Tryz.prog 163 [.bo y] H n K:=by
  refine ACalls.of_ev dr0 Tryz.func163 rfl (by decide +kernel) (by decide +kernel) (show 1≤4 by decide) (by simp) fun wf=>?_
  simp only[go_sem,Tryz.f163]
  refine⟨fun e=>?_,fun e=>?_⟩
  · exact Fin.keep (by simpa [e,bit16] using h)
  · exact Fin.keep (by simpa [e,bit16] using h)
theorem c_shape (v:BitVec 8) (H:Heap) (n:Nat) (K:AV→Heap→Nat→Prop) (h:K (.u8 (shapeS v)) H n):ACalls Tryz.prog 97 [.u8 v] H n K:=by
  refine ACalls.of_ev dr0 Tryz.func97 rfl (by decide +kernel) (by decide +kernel) (show 1≤9 by decide) (by simp) fun wf=>?_
  simp only[go_sem,Tryz.f97]
  refine c_flag _ _ _ _ _ ?_
  simp only[go_sem]
  exact Fin.back wf h (fun _ _=>rfl) rfl
theorem c_ones (v:BitVec 8) (H:Heap) (n:Nat) (K:AV→Heap→Nat→Prop) (h:K (.i64 (onesS v)) H n):ACalls Tryz.prog 161 [.u8 v] H n K:=by
  refine ACalls.of_ev dr0 Tryz.func161 rfl (by decide +kernel) (by decide +kernel) (show 1≤6 by decide) (by simp) fun wf=>?_
  simp only[go_sem,Tryz.f161]
  generalize hL:List.map UInt8.toBitVec _=L
  have hT:L.length=256∧∀q:Fin 256,(L.getD q.val 0#8).toNat=onesS (BitVec.ofFin q):=by subst hL; decide +kernel
  have h1:=hT.2 ⟨v.toNat,v.isLt⟩
  have h2:BitVec.ofFin (⟨v.toNat,v.isLt⟩:Fin (2 ^ 8))=v:=rfl
  simp only at h1
  rw[h2] at h1
  have:=v.isLt
  rw[hT.1,h1]
  exact⟨by omega,Fin.back wf h (fun _ _=>rfl) rfl⟩
theorem c_parity (v:BitVec 8) (H:Heap) (n:Nat) (K:AV→Heap→Nat→Prop) (h:K (.bo (parityS v)) H n):ACalls Tryz.prog 98 [.u8 v] H n K:=by
  refine ACalls.of_ev dr0 Tryz.func98 rfl (by decide +kernel) (by decide +kernel) (show 1≤7 by decide) (by simp) fun wf=>?_
  simp only[go_sem,Tryz.f98]
  refine c_ones _ _ _ _ ?_
  have e:((((onesS v:Nat):Int)).tmod 2==0)=parityS v:=by
    rw[Int.tmod_eq_emod_of_nonneg (by omega)]; unfold parityS
    rw[Bool.eq_iff_iff,beq_iff_eq,beq_iff_eq]; omega
  simp only[go_sem,e]
  exact Fin.back wf h (fun _ _=>rfl) rfl
theorem c_add (a b:BitVec 8) (c:Bool) (H:Heap) (n:Nat) (K:AV→Heap→Nat→Prop) (h:K (.tu [.u8 (addS a b c).1,.u8 (addS a b c).2]) H n):ACalls Tryz.prog 103 [.u8 a,.u8 b,.bo c] H n K:=by
  refine ACalls.of_ev dr0 Tryz.func103 rfl (by decide +kernel) (by decide +kernel) (show 3≤49 by decide) (by simp) fun wf=>?_
  simp only[go_sem,Tryz.f103]
  refine c_bit _ _ _ _ ?_
  simp only[go_sem]
  refine c_shape _ _ _ _ ?_
  simp only[go_sem]
  exact Fin.back wf h (fun _ _=>rfl) rfl
theorem c_sub (a b:BitVec 8) (c:Bool) (H:Heap) (n:Nat) (K:AV→Heap→Nat→Prop) (h:K (.tu [.u8 (subS a b c).1,.u8 (subS a b c).2]) H n):ACalls Tryz.prog 55 [.u8 a,.u8 b,.bo c] H n K:=by
  refine ACalls.of_ev dr0 Tryz.func55 rfl (by decide +kernel) (by decide +kernel) (show 3≤23 by decide) (by simp) fun wf=>?_
  simp only[go_sem,Tryz.f55]
  refine c_add _ _ _ _ _ _ ?_
  simp only[go_sem]
  exact Fin.back wf h (fun _ _=>rfl) rfl
theorem c_logic (v:BitVec 8) (H:Heap) (n:Nat) (K:AV→Heap→Nat→Prop) (h:K (.u8 (logicS v)) H n):ACalls Tryz.prog 194 [.u8 v] H n K:=by
  refine ACalls.of_ev dr0 Tryz.func194 rfl (by decide +kernel) (by decide +kernel) (show 1≤9 by decide) (by simp) fun wf=>?_
  simp only[go_sem,Tryz.f194]
  refine c_shape _ _ _ _ ?_
  simp only[go_sem]
  refine c_parity _ _ _ _ ?_
  simp only[go_sem]
  refine c_flag _ _ _ _ _ ?_
  simp only[go_sem]
  exact Fin.back wf h (fun _ _=>rfl) rfl
theorem c_and (a b:BitVec 8) (H:Heap) (n:Nat) (K:AV→Heap→Nat→Prop) (h:K (.tu [.u8 (a&&&b),.u8 (logicS (a&&&b)|||16#8)]) H n):ACalls Tryz.prog 172 [.u8 a,.u8 b] H n K:=by
  refine ACalls.of_ev dr0 Tryz.func172 rfl (by decide +kernel) (by decide +kernel) (show 2≤14 by decide) (by simp) fun wf=>?_
  simp only[go_sem,Tryz.f172]
  refine c_logic _ _ _ _ ?_
  simp only[go_sem]
  exact Fin.back wf h (fun _ _=>rfl) rfl
theorem c_xor (a b:BitVec 8) (H:Heap) (n:Nat) (K:AV→Heap→Nat→Prop) (h:K (.tu [.u8 (a^^^b),.u8 (logicS (a^^^b))]) H n):ACalls Tryz.prog 173 [.u8 a,.u8 b] H n K:=by
  refine ACalls.of_ev dr0 Tryz.func173 rfl (by decide +kernel) (by decide +kernel) (show 2≤13 by decide) (by simp) fun wf=>?_
  simp only[go_sem,Tryz.f173]
  refine c_logic _ _ _ _ ?_
  simp only[go_sem]
  exact Fin.back wf h (fun _ _=>rfl) rfl
theorem c_or (a b:BitVec 8) (H:Heap) (n:Nat) (K:AV→Heap→Nat→Prop) (h:K (.tu [.u8 (a|||b),.u8 (logicS (a|||b))]) H n):ACalls Tryz.prog 174 [.u8 a,.u8 b] H n K:=by
  refine ACalls.of_ev dr0 Tryz.func174 rfl (by decide +kernel) (by decide +kernel) (show 2≤13 by decide) (by simp) fun wf=>?_
  simp only[go_sem,Tryz.f174]
  refine c_logic _ _ _ _ ?_
  simp only[go_sem]
  exact Fin.back wf h (fun _ _=>rfl) rfl
theorem c_compare (a b:BitVec 8) (H:Heap) (n:Nat) (K:AV→Heap→Nat→Prop) (h:K (.u8 (compareS a b)) H n):ACalls Tryz.prog 175 [.u8 a,.u8 b] H n K:=by
  refine ACalls.of_ev dr0 Tryz.func175 rfl (by decide +kernel) (by decide +kernel) (show 2≤18 by decide) (by simp) fun wf=>?_
  simp only[go_sem,Tryz.f175]
  refine c_sub _ _ _ _ _ _ ?_
  simp only[go_sem]
  exact Fin.back wf h (fun _ _=>rfl) rfl
theorem c_inc (v f:BitVec 8) (H:Heap) (n:Nat) (K:AV→Heap→Nat→Prop) (h:K (.tu [.u8 (incS v f).1,.u8 (incS v f).2]) H n):ACalls Tryz.prog 167 [.u8 v,.u8 f] H n K:=by
  refine ACalls.of_ev dr0 Tryz.func167 rfl (by decide +kernel) (by decide +kernel) (show 2≤19 by decide) (by simp) fun wf=>?_
  simp only[go_sem,Tryz.f167]
  refine c_add _ _ _ _ _ _ ?_
  simp only[go_sem]
  exact Fin.back wf h (fun _ _=>rfl) rfl
theorem c_dec (v f:BitVec 8) (H:Heap) (n:Nat) (K:AV→Heap→Nat→Prop) (h:K (.tu [.u8 (decS v f).1,.u8 (decS v f).2]) H n):ACalls Tryz.prog 168 [.u8 v,.u8 f] H n K:=by
  refine ACalls.of_ev dr0 Tryz.func168 rfl (by decide +kernel) (by decide +kernel) (show 2≤19 by decide) (by simp) fun wf=>?_
  simp only[go_sem,Tryz.f168]
  refine c_sub _ _ _ _ _ _ ?_
  simp only[go_sem]
  exact Fin.back wf h (fun _ _=>rfl) rfl
theorem and7 (k:Nat):and64 (k:Int) 7=((k%8:Nat):Int):=by
  have:=and64_mask 3 (by decide) (k:Int)
  rw[show(((2 ^ 3-1:Nat):Nat):Int)=7 from rfl] at this
  rw[this]; omega
theorem and3 (k:Nat):and64 (k:Int) 3=((k%4:Nat):Int):=by
  have:=and64_mask 2 (by decide) (k:Int)
  rw[show(((2 ^ 2-1:Nat):Nat):Int)=3 from rfl] at this
  rw[this]; omega
theorem c_do (op:Nat) (a b f:BitVec 8) (H:Heap) (n:Nat) (K:AV→Heap→Nat→Prop) (h:K (.tu [.u8 (doS op a b f).1,.u8 (doS op a b f).2]) H n):ACalls Tryz.prog 115 [.i64 op,.u8 a,.u8 b,.u8 f] H n K:=by
  refine ACalls.of_ev dr0 Tryz.func115 rfl (by decide +kernel) (by decide +kernel) (show 4≤71 by decide) (by simp) fun wf=>?_
  simp only[go_sem,Tryz.f115]
  rw[and7]
  have h8:op%8<8:=Nat.mod_lt _ (by decide)
  unfold doS at h
  generalize op%8=q at h h8 ⊢
  obtain rfl | rfl | rfl | rfl | rfl | rfl | rfl | rfl:q=0∨q=1∨q=2∨q=3∨q=4∨q=5∨q=6∨q=7:=by omega
  all_goals simp +decide only[if_true,if_false] at h
  all_goals simp only[go_sem]
  · refine c_add _ _ _ _ _ _ ?_
    simp only[go_sem]
    exact Fin.back wf h (fun _ _=>rfl) rfl
  · refine c_add _ _ _ _ _ _ ?_
    simp only[go_sem]
    exact Fin.back wf h (fun _ _=>rfl) rfl
  · refine c_sub _ _ _ _ _ _ ?_
    simp only[go_sem]
    exact Fin.back wf h (fun _ _=>rfl) rfl
  · refine c_sub _ _ _ _ _ _ ?_
    simp only[go_sem]
    exact Fin.back wf h (fun _ _=>rfl) rfl
  · refine c_and _ _ _ _ _ ?_
    simp only[go_sem]
    exact Fin.back wf h (fun _ _=>rfl) rfl
  · refine c_xor _ _ _ _ _ ?_
    simp only[go_sem]
    exact Fin.back wf h (fun _ _=>rfl) rfl
  · refine c_or _ _ _ _ _ ?_
    simp only[go_sem]
    exact Fin.back wf h (fun _ _=>rfl) rfl
  · refine c_compare _ _ _ _ _ ?_
    simp only[go_sem]
    exact Fin.back wf h (fun _ _=>rfl) rfl
theorem c_daa (a f:BitVec 8) (H:Heap) (n:Nat) (K:AV→Heap→Nat→Prop) (h:K (.tu [.u8 (daaS a f).1,.u8 (daaS a f).2]) H n):ACalls Tryz.prog 170 [.u8 a,.u8 f] H n K:=by
  refine ACalls.of_awp Tryz.func170 rfl (by decide +kernel) (show 2≤50 by decide) (by simp) fun wf=>?_
  refine awp_ev dr0 (by decide +kernel) ?_
  unfold daaS at h
  cases h1:(f&&&16#8 !=0#8) <;> cases h2:(f&&&1#8 !=0#8) <;> cases h3:(f&&&2#8 !=0#8)
  all_goals
    simp only[h1,h2,h3,Bool.true_or,Bool.false_or,Bool.false_eq_true,if_false,if_true,decide_eq_true_eq] at h
    simp only[go_sem,Tryz.f170,h1,h2,h3]
    refine c_flag _ _ _ _ _ ?_
    simp only[go_sem,h1,h2,h3]
    refine c_flag _ _ _ _ _ ?_
    simp only[go_sem,h1,h2,h3,Bool.false_eq_true,if_false,if_true]
    refine c_logic _ _ _ _ ?_
    simp only[go_sem,h1,h2,h3]
    refine c_flag _ _ _ _ _ ?_
    simp only[go_sem,h1,h2,h3]
    exact Fin.back wf h (fun _ _=>rfl) rfl
theorem c_flip (op:Nat) (a f:BitVec 8) (H:Heap) (n:Nat) (K:AV→Heap→Nat→Prop) (h:K (.tu [.u8 (flipS op a f).1,.u8 (flipS op a f).2]) H n):ACalls Tryz.prog 171 [.i64 op,.u8 a,.u8 f] H n K:=by
  refine ACalls.of_awp Tryz.func171 rfl (by decide +kernel) (show 3≤53 by decide) (by simp) fun wf=>?_
  refine awp_ev dr0 (by decide +kernel) ?_
  unfold flipS at h
  by_cases h0:op=0
  · subst h0
    simp +decide only[if_true] at h
    simp only[go_sem,Tryz.f171]
    exact Fin.back wf h (fun _ _=>rfl) rfl
  by_cases h1:op=1
  · subst h1
    simp +decide only[if_true,if_false] at h
    simp only[go_sem,Tryz.f171]
    exact Fin.back wf h (fun _ _=>rfl) rfl
  by_cases h2:op=2
  · subst h2
    simp +decide only[if_true,if_false] at h
    simp only[go_sem,Tryz.f171]
    refine c_flag _ _ _ _ _ ?_
    simp only[go_sem]
    refine c_flag _ _ _ _ _ ?_
    simp only[go_sem]
    exact Fin.back wf h (fun _ _=>rfl) rfl
  simp only[h0,h1,h2,if_false] at h
  have e0:(((op:Nat):Int)==0)=false:=by simpa using h0
  have e1:(((op:Nat):Int)==1)=false:=by rw[beq_eq_false_iff_ne]; omega
  have e2:(((op:Nat):Int)==2)=false:=by rw[beq_eq_false_iff_ne]; omega
  simp only[go_sem,Tryz.f171,e0,e1,e2]
  exact Fin.back wf h (fun _ _=>rfl) rfl
theorem c_add16 (a b:BitVec 16) (f:BitVec 8) (H:Heap) (n:Nat) (K:AV→Heap→Nat→Prop) (h:K (.tu [.u16 (add16 a b f).1,.u8 (add16 a b f).2]) H n):ACalls Tryz.prog 110 [.u16 a,.u16 b,.u8 f] H n K:=by
  refine ACalls.of_ev dr0 Tryz.func110 rfl (by decide +kernel) (by decide +kernel) (show 3≤37 by decide) (by simp) fun wf=>?_
  simp only[go_sem,Tryz.f110]
  refine c_half _ _ _ _ _ _ ?_
  simp only[go_sem]
  exact Fin.back wf h (fun _ _=>rfl) rfl
theorem c_full (a b:BitVec 16) (c:BitVec 32) (H:Heap) (n:Nat) (K:AV→Heap→Nat→Prop) (h:K (.tu [.u16 (full16 a b c).1,.u8 (full16 a b c).2]) H n):ACalls Tryz.prog 101 [.u16 a,.u16 b,.u32 c] H n K:=by
  refine ACalls.of_ev dr0 Tryz.func101 rfl (by decide +kernel) (by decide +kernel) (show 3≤52 by decide) (by simp) fun wf=>?_
  simp only[go_sem,Tryz.f101]
  refine c_half _ _ _ _ _ _ ?_
  simp only[go_sem]
  unfold full16 at h
  refine⟨fun e=>?_,fun e=>?_⟩
  · simp only[e,if_true] at h
    exact Fin.back wf h (fun _ _=>rfl) rfl
  · simp only[e,Bool.false_eq_true,if_false] at h
    exact Fin.back wf h (fun _ _=>rfl) rfl
theorem c_adc16 (a b:BitVec 16) (f:BitVec 8) (H:Heap) (n:Nat) (K:AV→Heap→Nat→Prop) (h:K (.tu [.u16 (adc16 a b f).1,.u8 (adc16 a b f).2]) H n):ACalls Tryz.prog 51 [.u16 a,.u16 b,.u8 f] H n K:=by
  refine ACalls.of_ev dr0 Tryz.func51 rfl (by decide +kernel) (by decide +kernel) (show 3≤16 by decide) (by simp) fun wf=>?_
  simp only[go_sem,Tryz.f51]
  refine c_full _ _ _ _ _ _ ?_
  simp only[go_sem]
  exact Fin.back wf h (fun _ _=>rfl) rfl
theorem c_sbc16 (a b:BitVec 16) (f:BitVec 8) (H:Heap) (n:Nat) (K:AV→Heap→Nat→Prop) (h:K (.tu [.u16 (sbc16 a b f).1,.u8 (sbc16 a b f).2]) H n):ACalls Tryz.prog 50 [.u16 a,.u16 b,.u8 f] H n K:=by
  refine ACalls.of_ev dr0 Tryz.func50 rfl (by decide +kernel) (by decide +kernel) (show 3≤25 by decide) (by simp) fun wf=>?_
  simp only[go_sem,Tryz.f50]
  refine c_full _ _ _ _ _ _ ?_
  simp only[go_sem]
  exact Fin.back wf h (fun _ _=>rfl) rfl
theorem c_said (v:BitVec 8) (H:Heap) (n:Nat) (K:AV→Heap→Nat→Prop) (h:K (.u8 (saidS v)) H n):ACalls Tryz.prog 164 [.u8 v] H n K:=by
  refine ACalls.of_ev dr0 Tryz.func164 rfl (by decide +kernel) (by decide +kernel) (show 1≤11 by decide) (by simp) fun wf=>?_
  simp only[go_sem,Tryz.f164]
  refine c_shape _ _ _ _ ?_
  simp only[go_sem]
  refine c_parity _ _ _ _ ?_
  simp only[go_sem]
  unfold saidS at h
  refine⟨fun e=>?_,fun e=>?_⟩
  · simp only[e,if_true] at h
    exact Fin.back wf h (fun _ _=>rfl) rfl
  · simp only[e,Bool.false_eq_true,if_false] at h
    exact Fin.back wf h (fun _ _=>rfl) rfl
theorem rol8:∀x:BitVec 8,(x<<<1|||x>>>7)=x.rotateLeft 1:=by decide +kernel
theorem ror8:∀x:BitVec 8,(x<<<7|||x>>>1)=x.rotateLeft 7:=by decide +kernel
theorem c_rol (x:BitVec 8) (H:Heap) (n:Nat) (K:AV→Heap→Nat→Prop) (h:K (.u8 (x.rotateLeft 1)) H n):ACalls Tryz.prog 193 [.u8 x,.i64 1] H n K:=by
  refine ACalls.of_ev dr0 Tryz.func193 rfl (by decide +kernel) (by decide +kernel) (show 2≤17 by decide) (by simp) fun wf=>?_
  simp only[go_sem,Tryz.f193]
  rw[rol8]
  exact Fin.back wf h (fun _ _=>rfl) rfl
theorem c_ror (x:BitVec 8) (H:Heap) (n:Nat) (K:AV→Heap→Nat→Prop) (h:K (.u8 (x.rotateLeft 7)) H n):ACalls Tryz.prog 193 [.u8 x,.i64 (-1)] H n K:=by
  refine ACalls.of_ev dr0 Tryz.func193 rfl (by decide +kernel) (by decide +kernel) (show 2≤17 by decide) (by simp) fun wf=>?_
  simp only[go_sem,Tryz.f193]
  rw[ror8]
  exact Fin.back wf h (fun _ _=>rfl) rfl
theorem c_turn (op:Nat) (v f:BitVec 8) (H:Heap) (n:Nat) (K:AV→Heap→Nat→Prop) (h:K (.tu [.u8 (turnS op v f).1,.u8 (turnS op v f).2]) H n):ACalls Tryz.prog 165 [.i64 op,.u8 v,.u8 f] H n K:=by
  refine ACalls.of_ev dr0 Tryz.func165 rfl (by decide +kernel) (by decide +kernel) (show 3≤67 by decide) (by simp) fun wf=>?_
  simp only[go_sem,Tryz.f165]
  rw[and7]
  have h8:op%8<8:=Nat.mod_lt _ (by decide)
  unfold turnS at h
  generalize op%8=q at h h8 ⊢
  obtain rfl | rfl | rfl | rfl | rfl | rfl | rfl | rfl:q=0∨q=1∨q=2∨q=3∨q=4∨q=5∨q=6∨q=7:=by omega
  all_goals simp +decide only[if_true,if_false] at h
  all_goals simp only[go_sem]
  · refine c_rol _ _ _ _ ?_
    simp only[go_sem]
    exact Fin.back wf h (fun _ _=>rfl) rfl
  · refine c_ror _ _ _ _ ?_
    simp only[go_sem]
    exact Fin.back wf h (fun _ _=>rfl) rfl
  all_goals exact Fin.back wf h (fun _ _=>rfl) rfl
theorem c_rot (op:Nat) (v f:BitVec 8) (H:Heap) (n:Nat) (K:AV→Heap→Nat→Prop) (h:K (.tu [.u8 (rotS op v f).1,.u8 (rotS op v f).2]) H n):ACalls Tryz.prog 105 [.i64 op,.u8 v,.u8 f] H n K:=by
  refine ACalls.of_ev dr0 Tryz.func105 rfl (by decide +kernel) (by decide +kernel) (show 3≤23 by decide) (by simp) fun wf=>?_
  simp only[go_sem,Tryz.f105]
  refine c_turn _ _ _ _ _ _ ?_
  simp only[go_sem]
  refine c_said _ _ _ _ ?_
  simp only[go_sem]
  exact Fin.back wf h (fun _ _=>rfl) rfl
theorem c_quick (op:Nat) (v f:BitVec 8) (H:Heap) (n:Nat) (K:AV→Heap→Nat→Prop) (h:K (.tu [.u8 (quickS op v f).1,.u8 (quickS op v f).2]) H n):ACalls Tryz.prog 169 [.i64 op,.u8 v,.u8 f] H n K:=by
  refine ACalls.of_ev dr0 Tryz.func169 rfl (by decide +kernel) (by decide +kernel) (show 3≤27 by decide) (by simp) fun wf=>?_
  simp only[go_sem,Tryz.f169]
  rw[and3]
  refine c_turn _ _ _ _ _ _ ?_
  simp only[go_sem]
  exact Fin.back wf h (fun _ _=>rfl) rfl
theorem c_bitt (m:Nat) (v f from_:BitVec 8) (H:Heap) (n:Nat) (K:AV→Heap→Nat→Prop) (h:K (.u8 (bitS8 m v f from_)) H n):ACalls Tryz.prog 106 [.i64 m,.u8 v,.u8 f,.u8 from_] H n K:=by
  refine ACalls.of_ev dr0 Tryz.func106 rfl (by decide +kernel) (by decide +kernel) (show 4≤31 by decide) (by simp) fun wf=>?_
  simp only[go_sem,Tryz.f106]
  simp only[go_sem,and7]
  unfold bitS8 at h
  refine⟨fun e=>?_,fun e=>?_⟩
  · simp only[e,if_true] at h
    exact Fin.back wf h (fun _ _=>rfl) rfl
  · simp only[e,Bool.false_eq_true,if_false] at h
    exact Fin.back wf h (fun _ _=>rfl) rfl
theorem c_put (m:Nat) (v:BitVec 8) (on:Bool) (H:Heap) (n:Nat) (K:AV→Heap→Nat→Prop) (h:K (.u8 (putS8 m v on)) H n):ACalls Tryz.prog 107 [.i64 m,.u8 v,.bo on] H n K:=by
  refine ACalls.of_ev dr0 Tryz.func107 rfl (by decide +kernel) (by decide +kernel) (show 3≤18 by decide) (by simp) fun wf=>?_
  simp only[go_sem,Tryz.f107]
  simp only[and7,Int.toNat_natCast]
  unfold putS8 at h
  refine⟨by omega,fun e=>?_,fun e=>?_⟩
  · simp only[e,if_true] at h
    exact Fin.back wf h (fun _ _=>rfl) rfl
  · simp only[e,Bool.false_eq_true,if_false] at h
    exact Fin.back wf h (fun _ _=>rfl) rfl
theorem c_digits (left:Bool) (a m f:BitVec 8) (H:Heap) (n:Nat) (K:AV→Heap→Nat→Prop) (h:K (.tu [.u8 (digitsS left a m f).1,.u8 (digitsS left a m f).2.1,.u8 (digitsS left a m f).2.2]) H n):ACalls Tryz.prog 104 [.bo left,.u8 a,.u8 m,.u8 f] H n K:=by
  refine ACalls.of_awp Tryz.func104 rfl (by decide +kernel) (show 4≤42 by decide) (by simp) fun wf=>?_
  refine awp_ev dr0 (by decide +kernel) ?_
  unfold digitsS at h
  cases left
  all_goals
    simp only[Bool.false_eq_true,if_false,if_true] at h
    simp only[go_sem,Tryz.f104]
    refine c_said _ _ _ _ ?_
    simp only[go_sem]
    exact Fin.back wf h (fun _ _=>rfl) rfl
theorem c_odd (x:BitVec 8) (H:Heap) (n:Nat) (K:AV→Heap→Nat→Prop) (h:K (.u8 (oddS x)) H n):ACalls Tryz.prog 158 [.u8 x] H n K:=by
  refine ACalls.of_ev dr0 Tryz.func158 rfl (by decide +kernel) (by decide +kernel) (show 1≤9 by decide) (by simp) fun wf=>?_
  simp only[go_sem,Tryz.f158]
  exact Fin.back wf h (fun _ _=>rfl) rfl
theorem c_more (x:BitVec 16) (H:Heap) (n:Nat) (K:AV→Heap→Nat→Prop) (h:K (.u8 (moreS x)) H n):ACalls Tryz.prog 157 [.u16 x] H n K:=by
  refine ACalls.of_ev dr0 Tryz.func157 rfl (by decide +kernel) (by decide +kernel) (show 1≤5 by decide) (by simp) fun wf=>?_
  simp only[go_sem,Tryz.f157]
  unfold moreS at h
  refine⟨fun e=>?_,fun e=>?_⟩
  · simp only[e,if_true] at h
    exact Fin.back wf h (fun _ _=>rfl) rfl
  · simp only[e,Bool.false_eq_true,if_false] at h
    exact Fin.back wf h (fun _ _=>rfl) rfl
theorem c_rload (a v f:BitVec 8) (l:BitVec 16) (H:Heap) (n:Nat) (K:AV→Heap→Nat→Prop) (h:K (.u8 (repLoad a v f l)) H n):ACalls Tryz.prog 91 [.u8 a,.u8 v,.u8 f,.u16 l] H n K:=by
  refine ACalls.of_ev dr0 Tryz.func91 rfl (by decide +kernel) (by decide +kernel) (show 4≤19 by decide) (by simp) fun wf=>?_
  simp only[go_sem,Tryz.f91]
  refine c_more _ _ _ _ ?_
  simp only[go_sem]
  refine c_odd _ _ _ _ ?_
  simp only[go_sem]
  exact Fin.back wf h (fun _ _=>rfl) rfl
theorem c_rseek (a v f:BitVec 8) (l:BitVec 16) (H:Heap) (n:Nat) (K:AV→Heap→Nat→Prop) (h:K (.tu [.u8 (repSeek a v f l).1,.bo (repSeek a v f l).2]) H n):ACalls Tryz.prog 92 [.u8 a,.u8 v,.u8 f,.u16 l] H n K:=by
  refine ACalls.of_ev dr0 Tryz.func92 rfl (by decide +kernel) (by decide +kernel) (show 4≤46 by decide) (by simp) fun wf=>?_
  simp only[go_sem,Tryz.f92]
  refine c_sub _ _ _ _ _ _ ?_
  simp only[go_sem]
  refine c_more _ _ _ _ ?_
  simp only[go_sem]
  refine c_odd _ _ _ _ ?_
  simp only[go_sem]
  unfold repSeek at h
  refine⟨fun e=>?_,fun e=>?_⟩
  · simp only[e,Bool.true_and] at h
    exact Fin.back wf h (fun _ _=>rfl) rfl
  · simp only[e,Bool.false_and] at h
    exact Fin.back wf h (fun _ _=>rfl) rfl
theorem c_rport (v w b:BitVec 8) (H:Heap) (n:Nat) (K:AV→Heap→Nat→Prop) (h:K (.u8 (repPort v w b)) H n):ACalls Tryz.prog 93 [.u8 v,.u8 w,.u8 b] H n K:=by
  refine ACalls.of_ev dr0 Tryz.func93 rfl (by decide +kernel) (by decide +kernel) (show 3≤33 by decide) (by simp) fun wf=>?_
  simp only[go_sem,Tryz.f93]
  refine c_shape _ _ _ _ ?_
  simp only[go_sem]
  unfold repPort at h
  refine⟨fun e=>?_,fun e=>?_⟩
  all_goals
    simp only[e,decide_true,decide_false,Bool.false_eq_true,if_true,if_false] at h
    refine c_parity _ _ _ _ ?_
    cases hp:parityS ((BitVec.setWidth 8 (BitVec.setWidth 16 v+BitVec.setWidth 16 w)&&&7#8)^^^b)
    · simp only[hp,Bool.false_eq_true,if_false] at h
      simp only[go_sem]
      exact Fin.back wf h (fun _ _=>rfl) rfl
    · simp only[hp,if_true] at h
      simp only[go_sem]
      exact Fin.back wf h (fun _ _=>rfl) rfl
end Go.Proofs.Joy
namespace Go.Proofs.Joy
open Go.Ab Go.Proofs
set_option maxHeartbeats 2000000
set_option maxRecDepth 20000
theorem c_index (p:BitVec 8) (H:Heap) (n:Nat) (K:AV→Heap→Nat→Prop) (h:K (.i64 (idxS p)) H n):ACalls Tryz.prog 159 [.u8 p] H n K:=by
  refine ACalls.of_ev dr0 Tryz.func159 rfl (by decide +kernel) (by decide +kernel) (show 1≤8 by decide) (by simp) fun wf=>?_
  simp only[go_sem,Tryz.f159]
  unfold idxS at h
  refine⟨fun e=>?_,fun e=>⟨fun e2=>?_,fun e2=>?_⟩⟩
  · simp only[e,if_true] at h
    exact Fin.back wf h (fun _ _=>rfl) rfl
  · simp only[e,e2,Bool.false_eq_true,if_false,if_true] at h
    exact Fin.back wf h (fun _ _=>rfl) rfl
  · simp only[e,e2,Bool.false_eq_true,if_false] at h
    exact Fin.back wf h (fun _ _=>rfl) rfl
theorem idxS_lt (p:BitVec 8):idxS p<7:=by unfold idxS; split <;> (try split) <;> decide
theorem rg_ok (r:Rg) (n:Nat):(AV.ag r.cells).ok n=true:=by simp[AV.ok,AV.oks,AV.one,Rg.cells]
theorem c_pair (r:Rg) (m:Nat) (hm:m<7) (H:Heap) (n:Nat) (K:AV→Heap→Nat→Prop) (h:K (.u16 (pairR r m)) H n):ACalls Tryz.prog 95 [.ag r.cells,.i64 m] H n K:=by
  refine ACalls.of_awp Tryz.func95 rfl (by decide +kernel) (show 2≤46 by decide) (by simp) fun wf=>?_
  refine awp_ev dr0 (by decide +kernel) ?_
  unfold pairR at h
  obtain rfl | rfl | rfl | rfl | rfl | rfl | rfl:m=0∨m=1∨m=2∨m=3∨m=4∨m=5∨m=6:=by omega
  all_goals simp +decide only[if_true,if_false] at h
  all_goals simp only[go_sem,Tryz.f95,Rg.cells]
  all_goals try (refine c_join _ _ _ _ _ ?_; simp only[go_sem])
  all_goals exact Fin.back wf h (fun i hi=>by rw[Heap.upd_ne _ _ (by omega)]) rfl
theorem c_setpair (r:Rg) (m:Nat) (hm:m<7) (v:BitVec 16) (H:Heap) (n:Nat) (K:AV→Heap→Nat→Prop) (h:K (.ag (setPairR r m v).cells) H n):ACalls Tryz.prog 94 [.ag r.cells,.i64 m,.u16 v] H n K:=by
  refine ACalls.of_awp Tryz.func94 rfl (by decide +kernel) (show 3≤52 by decide) (by simp) fun wf=>?_
  refine awp_ev dr0 (by decide +kernel) ?_
  unfold setPairR at h
  obtain rfl | rfl | rfl | rfl | rfl | rfl | rfl:m=0∨m=1∨m=2∨m=3∨m=4∨m=5∨m=6:=by omega
  all_goals simp +decide only[if_true,if_false] at h
  all_goals simp only[go_sem,Tryz.f94,Rg.cells]
  all_goals (refine c_split _ _ _ _ ?_; simp only[go_sem])
  all_goals exact Fin.back wf h (fun i hi=>by repeat (rw[Heap.upd_ne _ _ (by omega)])) (rg_ok _ _)
theorem c_one (r:Rg) (m:Nat) (hm:m<8) (p:BitVec 8) (H:Heap) (n:Nat) (K:AV→Heap→Nat→Prop) (h:K (.u8 (oneR r m p)) H n):ACalls Tryz.prog 100 [.ag r.cells,.i64 m,.u8 p] H n K:=by
  refine ACalls.of_awp Tryz.func100 rfl (by decide +kernel) (show 3≤44 by decide) (by simp) fun wf=>?_
  refine awp_ev dr100 (by decide +kernel) ?_
  unfold oneR at h
  have hx:∀(r:Rg),[AV.u8 r.a,.u8 r.f,.u8 r.b,.u8 r.c,.u8 r.d,.u8 r.e,.u8 r.h,.u8 r.l,.u8 r.a2,.u8 r.f2,.u8 r.b2,.u8 r.c2,.u8 r.d2,.u8 r.e2,.u8 r.h2,.u8 r.l2,.u16 r.ix,.u16 r.iy,.u16 r.sp,.u16 r.pc,.u16 r.wz,.u8 r.i,.u8 r.r,.u8 r.im,.u8 r.pre,.bo r.iff1,.bo r.iff2,.bo r.hlt,.bo r.dly]=r.cells:=fun r=>rfl
  obtain rfl | rfl | rfl | rfl | rfl | rfl | rfl | rfl:m=0∨m=1∨m=2∨m=3∨m=4∨m=5∨m=6∨m=7:=by omega
  all_goals simp +decide only[if_true,if_false] at h
  all_goals
    simp only[go_sem,Tryz.f100,Rg.cells]
    refine c_index _ _ _ _ ?_
    simp only[go_sem]
    refine c_pair r (idxS p) (idxS_lt p) _ _ _ ?_
    simp only[go_sem]
    refine c_split _ _ _ _ ?_
    simp only[go_sem]
    exact Fin.back wf h (fun i hi=>by repeat (rw[Heap.upd_ne _ _ (by omega)])) rfl
theorem c_setone (r:Rg) (m:Nat) (hm:m<8) (p v:BitVec 8) (H:Heap) (n:Nat) (K:AV→Heap→Nat→Prop) (h:K (.ag (setOneR r m p v).cells) H n):ACalls Tryz.prog 99 [.ag r.cells,.i64 m,.u8 p,.u8 v] H n K:=by
  refine ACalls.of_awp Tryz.func99 rfl (by decide +kernel) (show 4≤59 by decide) (by simp) fun wf=>?_
  refine awp_ev dr99 (by decide +kernel) ?_
  unfold setOneR at h
  obtain rfl | rfl | rfl | rfl | rfl | rfl | rfl | rfl:m=0∨m=1∨m=2∨m=3∨m=4∨m=5∨m=6∨m=7:=by omega
  all_goals simp +decide only[if_true,if_false] at h
  all_goals
    simp only[go_sem,Tryz.f99,Rg.cells]
    refine c_index _ _ _ _ ?_
    simp only[go_sem]
    refine c_pair r (idxS p) (idxS_lt p) _ _ _ ?_
    simp only[go_sem]
    refine c_split _ _ _ _ ?_
    simp only[go_sem]
  all_goals try
    refine c_join _ _ _ _ _ ?_
    simp only[go_sem]
    refine c_setpair r (idxS p) (idxS_lt p) _ _ _ _ ?_
    simp only[go_sem,Rg.cells]
  all_goals exact Fin.back wf h (fun i hi=>by repeat (rw[Heap.upd_ne _ _ (by omega)])) (rg_ok _ _)
theorem c_tick (r:Rg) (H:Heap) (n:Nat) (K:AV→Heap→Nat→Prop) (h:K (.ag (tickR r).cells) H n):ACalls Tryz.prog 18 [.ag r.cells] H n K:=by
  refine ACalls.of_awp Tryz.func18 rfl (by decide +kernel) (show 1≤13 by decide) (by simp) fun wf=>?_
  refine awp_ev dr0 (by decide +kernel) ?_
  simp only[go_sem,Tryz.f18,Rg.cells]
  exact Fin.back wf h (fun i hi=>by repeat (rw[Heap.upd_ne _ _ (by omega)])) (rg_ok _ _)
theorem mW1:wrap64 1=1:=by decide
theorem mW2:wrap64 2=2:=by decide
theorem mW3:wrap64 3=3:=by decide
theorem mA0:and64 0 7=0:=by decide
theorem mD0:wrap64 ((0:Int).tdiv 2)=0:=by decide
theorem mM0:(0:Int).tmod 2=0:=by decide
theorem mA1:and64 1 7=1:=by decide
theorem mD1:wrap64 ((1:Int).tdiv 2)=0:=by decide
theorem mM1:(1:Int).tmod 2=1:=by decide
theorem mA2:and64 2 7=2:=by decide
theorem mD2:wrap64 ((2:Int).tdiv 2)=1:=by decide
theorem mM2:(2:Int).tmod 2=0:=by decide
theorem mA3:and64 3 7=3:=by decide
theorem mD3:wrap64 ((3:Int).tdiv 2)=1:=by decide
theorem mM3:(3:Int).tmod 2=1:=by decide
theorem mA4:and64 4 7=4:=by decide
theorem mD4:wrap64 ((4:Int).tdiv 2)=2:=by decide
theorem mM4:(4:Int).tmod 2=0:=by decide
theorem mA5:and64 5 7=5:=by decide
theorem mD5:wrap64 ((5:Int).tdiv 2)=2:=by decide
theorem mM5:(5:Int).tmod 2=1:=by decide
theorem mA6:and64 6 7=6:=by decide
theorem mD6:wrap64 ((6:Int).tdiv 2)=3:=by decide
theorem mM6:(6:Int).tmod 2=0:=by decide
theorem mA7:and64 7 7=7:=by decide
theorem mD7:wrap64 ((7:Int).tdiv 2)=3:=by decide
theorem mM7:(7:Int).tmod 2=1:=by decide
theorem c_met (f:BitVec 8) (m:Nat) (hm:m<8) (H:Heap) (n:Nat) (K:AV→Heap→Nat→Prop) (h:K (.bo (metR f m)) H n):ACalls Tryz.prog 116 [.u8 f,.i64 m] H n K:=by
  refine ACalls.of_awp Tryz.func116 rfl (by decide +kernel) (show 2≤21 by decide) (by simp) fun wf=>?_
  refine awp_ev dr0 (by decide +kernel) ?_
  unfold metR flagOf at h
  obtain rfl | rfl | rfl | rfl | rfl | rfl | rfl | rfl:m=0∨m=1∨m=2∨m=3∨m=4∨m=5∨m=6∨m=7:=by omega
  all_goals simp +decide only[if_true,if_false] at h
  all_goals simp only[go_sem,Tryz.f116,mW1,mW2,mW3,mA0,mD0,mM0,mA1,mD1,mM1,mA2,mD2,mM2,mA3,mD3,mM3,mA4,mD4,mM4,mA5,mD5,mM5,mA6,mD6,mM6,mA7,mD7,mM7]
  all_goals exact Fin.back wf h (fun i hi=>by repeat (rw[Heap.upd_ne _ _ (by omega)])) rfl
end Go.Proofs.Joy
