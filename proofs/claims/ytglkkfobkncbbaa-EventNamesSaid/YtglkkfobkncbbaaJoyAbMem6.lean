import Derived.Test.YtglkkfobkncbbaaJoyAbMem5
namespace Go.Ab

/-! a slice of given elements -/
def elPl (sz : Nat) (i : Nat) : Option (Nat × Nat) := some (i * sz, sz)

theorem buildSlice_sound {P : Program} {env : Env} {H : Heap} {o : Oper} {t e : TypeId} {len sz by_ : Nat} {parts : Array (Nat × Operand)} {z l' : List AV} (ho : o.op = .buildSlice t len parts)
    (hel : elT P t = some (e, sz, by_)) (hz : zeroT P e = some z) (hzl : z.length = sz) (hsm : len * sz ≤ 16777216)
    (h : fillK (elPl sz) (fun x => x = l') (parts.toList.map fun p => (p.1, opv env p.2)) (repCells len z))
    (m : NM) (N n : Nat) (ac : Act) (w : World) (hH : HRel m H n w) (hE : ERel m N n env ac) :
    OpRes m H n w (.sl n 0 len len) (H.upd n (some ⟨l', e, false⟩)) (n + 1) ((execOp ac.eval o).run P w) := by
  obtain ⟨hu, hs, ti, hti, hby⟩ := elT_spec hel
  obtain ⟨zv, hzr, hzm, hzok⟩ := zeroT_spec hz
  have hj := fillK_junk _ _ h
  have hjo : ∀ p ∈ parts.toList, opv env p.2 ≠ .junk := fun p hp => hj (p.1, opv env p.2) (List.mem_map.2 ⟨p, hp, rfl⟩)
  obtain ⟨hpe, hpok⟩ := ok_parts (m := m) hE parts.toList hjo
  obtain ⟨l2, rfl, hlen, hok', hrun⟩ := fill_sound (n := n) (m := m) _ _ h hpok (fun v hv => ⟨(hzok v (rep_mem hv)).1 n, (hzok v (rep_mem hv)).2⟩)
  simp only [execOp, ho]
  refine OpRes.new hH (c := (l2.map (AV.toV m)).toArray) rfl hok' (fun a => .slice (some a) len len) ?_ (fun m' _ => rfl) (by simp [AV.ok])
  have hparts : (parts.map fun x => (x.1, ac.eval x.2)).toList = ((parts.toList.map fun p => (p.1, opv env p.2)).map fun p => (p.1, AV.toV m p.2)) := by
    rw [Array.toList_map]; exact hpe
  simp only [Instr.buildSlice]
  rw [run_ok_bind (run_underlying hu w)]
  dsimp only
  rw [run_ok_bind (hs w)]
  have hbig : ¬ (len * sz > 2 ^ 24) := by
    have : 2 ^ 24 = 16777216 := rfl
    omega
  rw [if_neg hbig]
  simp only [pure_bind]
  have hrep := rep_eq (hzm m) len
  rw [hzl] at hrep
  have key : ∀ zc : Array Value, ((Array.range (len * sz)).map fun i => zc[i % zc.size]!).toList = (repCells len z).map (AV.toV m) →
      Instr.fill (fun i => some (i * sz, sz)) ((Array.range (len * sz)).map fun i => zc[i % zc.size]!) (parts.map fun x => (x.1, ac.eval x.2)).toList = some (l2.map (AV.toV m)).toArray := by
    intro zc hzc
    have hzc' : ((Array.range (len * sz)).map fun i => zc[i % zc.size]!) = ((repCells len z).map (AV.toV m)).toArray := by rw [← Array.toList_inj, hzc]
    rw [hzc', hparts]
    exact hrun m
  by_cases h0 : len * sz = 0
  · rw [if_pos h0]
    rw [key #[] (by rw [← hrep, h0, Array.toList_map, Array.toList_map, Array.toList_range]; rfl)]
  · rw [if_neg h0]
    rw [run_ok_bind (hzr w)]
    rw [key zv.cells hrep]

/-! bytes as a string -/
def isU8 : AV → Bool
  | .u8 _ => true
  | _ => false
def u8Of : AV → BitVec 8
  | .u8 x => x
  | _ => 0
def strOf (l : List AV) : List (BitVec 8) := l.map u8Of

/-- A slice's place, its length, and its cells' number. -/
def slicePl (e : Nat) : AV → Option (Nat × Nat × Nat)
  | .sl b o l _ => some (b, o, l)
  | .su b o l e' => if e' = e then some (b, o, l) else none
  | _ => none

def readK (H : Heap) (e : Nat) (x : AV) (K : Nat → List AV → Prop) : Prop :=
  match x with
  | .sn => K 0 []
  | x => match slicePl e x with
    | some (b, o, l) => match H b with
      | some blk => o + l * e ≤ blk.cells.length ∧ K l ((blk.cells.drop o).take (l * e))
      | none => False
    | none => False

theorem foldl_push (l : List AV) (h : l.all isU8 = true) : ∀ s : ByteArray,
    ((l.map fun v => ((u8Of v).toNat : Int)).foldl (fun r n => r.push (UInt8.ofNat n.toNat)) s) = ⟨s.data ++ ((strOf l).map UInt8.ofBitVec).toArray⟩ := by
  induction l with
  | nil => intro s; simp [strOf]
  | cons v r ih =>
    intro s
    simp only [List.all_cons, Bool.and_eq_true] at h
    simp only [List.map_cons, List.foldl_cons]
    rw [ih h.2]
    apply ByteArray.ext
    simp only [ByteArray.data_push, strOf, List.map_cons, ← Array.toList_inj]
    simp

theorem toV_u8s (m : NM) (l : List AV) (h : l.all isU8 = true) : l.map (AV.toV m) = (l.map fun v => ((u8Of v).toNat : Int)).map (Value.int .u8) := by
  rw [List.map_map]
  refine List.map_congr_left fun v hv => ?_
  have := List.all_eq_true.1 h v hv
  cases v <;> first | (simp [isU8] at this; done) | rfl

theorem convT_b2s {P : Program} {s d : TypeId} (h : convT P s d = some .b2s) : ∃ e, P.underlying s = some (.slice e) ∧ P.underlying e = some (.int .u8) ∧ P.underlying d = some .string := by
  unfold convT at h
  cases hs : P.underlying s with
  | none => simp [hs] at h
  | some a =>
    cases hd : P.underlying d with
    | none => rw [hs, hd] at h; cases a <;> simp at h
    | some b =>
      rw [hs, hd] at h
      cases b <;> cases a <;> first | (simp at h; done) | skip
      all_goals
        dsimp only at h
        split at h
        · first | (rename_i he; exact ⟨_, rfl, he, rfl⟩) | (simp at h; done)
        · simp at h

theorem b2s_sound {P : Program} {env : Env} {H : Heap} {o : Oper} {s d : TypeId} {x : Operand} {K : AV → Prop} (ho : o.op = .convert s d x) (hc : convT P s d = some .b2s)
    (h : readK H 1 (opv env x) (fun _ cells => cells.all isU8 = true ∧ K (.st (strOf cells)))) :
    ∃ v, K v ∧ ∀ (m : NM) (N n : Nat) (ac : Act) (w : World), HRel m H n w → ERel m N n env ac → (execOp ac.eval o).run P w = .ok (.value (AV.toV m v)) w ∧ v.ok n = true := by
  generalize hx : opv env x = vx at h
  obtain ⟨e, hs, he, hd⟩ := convT_b2s hc
  unfold readK at h
  split at h
  · refine ⟨_, h.2, fun m N n ac w hH hE => ⟨?_, rfl⟩⟩
    have ex := (eval_opv hE x (by rw [hx]; simp)).1
    rw [hx] at ex
    simp only [execOp, ho]
    refine run_value ?_
    rw [ex]
    simp only [AV.toV]
    rw [run_convert_bytes_string w s d e none 0 0 hs he hd]
    rfl
  · split at h <;> try exact h.elim
    rename_i b off l hpl
    split at h <;> try exact h.elim
    rename_i blk hb
    obtain ⟨hfit, hall, hK⟩ := h
    refine ⟨_, hK, fun m N n ac w hH hE => ⟨?_, rfl⟩⟩
    have hxj : vx ≠ .junk := by rintro rfl; simp [slicePl] at hpl
    have ex := (eval_opv hE x (by rw [hx]; exact hxj)).1
    rw [hx] at ex
    have hform : ∃ c, AV.toV m vx = .slice (some ⟨m.ρ b, off, none⟩) l c := by
      cases vx <;> simp only [slicePl, Option.some.injEq, reduceCtorEq, Prod.mk.injEq] at hpl
      · obtain ⟨rfl, rfl, rfl⟩ := hpl; exact ⟨_, rfl⟩
      · split at hpl
        · simp only [Option.some.injEq, Prod.mk.injEq] at hpl; obtain ⟨rfl, rfl, rfl⟩ := hpl; exact ⟨_, rfl⟩
        · simp at hpl
    obtain ⟨c, hform⟩ := hform
    simp only [execOp, ho]
    refine run_value ?_
    rw [ex, hform, run_convert_bytes_string w s d e _ l c hs he hd]
    have hl := (hH.load_many (P := P) hb hfit).1
    rw [Nat.mul_one] at hl hall
    rw [toV_u8s m _ hall] at hl
    rw [run_bytesToString w _ l c _ hl, foldl_push _ hall]
    simp only [AV.toV, Nat.mul_one]
    congr 2
    simp [ByteArray.ext_iff]

end Go.Ab
