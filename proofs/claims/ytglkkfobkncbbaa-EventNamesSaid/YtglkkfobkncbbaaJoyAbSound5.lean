import Derived.Test.YtglkkfobkncbbaaJoyAbSound4
import Derived.Test.YtglkkfobkncbbaaJoyAbEq
namespace Go.Ab

theorem run_sliceBound {P : Program} {m : NM} {v : AV} {i : Int} {y : Nat} {c : BoundsCode} (h : idx v = some i) (h0 : 0 ≤ i) (h1 : i ≤ y) (w : World) :
    (Instr.sliceBound (AV.toV m v) y c).run P w = .ok i.toNat w := by
  simp only [Instr.sliceBound]
  rw [run_ok_bind (run_asIntOf h w)]
  dsimp only
  rw [if_pos ⟨h0, h1⟩]; rfl

/-- The bounds: 'l', 'h', 'm' as numbers; a missing one is what stands for it. -/
theorem run_sliceBounds {P : Program} {m : NM} {isSlice : Bool} {len cap : Nat} {lo hi mx : Option AV} {l h c : Int}
    (hl : (match lo with | none => some 0 | some v => idx v) = some l) (hh : (match hi with | none => some (len : Int) | some v => idx v) = some h)
    (hm : (match mx with | none => some (cap : Int) | some v => idx v) = some c) (hnone : hi = none → mx = none) (h0 : 0 ≤ l) (h1 : l ≤ h) (h2 : h ≤ c) (h3 : c ≤ cap) (w : World) :
    (Instr.sliceBounds isSlice len cap (lo.map (AV.toV m)) (hi.map (AV.toV m)) (mx.map (AV.toV m))).run P w = .ok (l.toNat, h.toNat, c.toNat) w := by
  simp only [Instr.sliceBounds]
  cases mx with
  | none =>
    simp only [Option.some.injEq] at hm; subst hm
    simp only [Option.map_none, pure_bind]
    cases hi with
    | none =>
      simp only [Option.some.injEq] at hh; subst hh
      simp only [Option.map_none, pure_bind]
      cases lo with
      | none => simp only [Option.some.injEq] at hl; subst hl; simp only [Option.map_none, pure_bind]; rfl
      | some v => simp only [Option.map_some]; rw [run_ok_bind (run_sliceBound hl h0 (by omega) w)]; rfl
    | some x =>
      simp only [Option.map_some]
      rw [run_ok_bind (run_sliceBound hh (by omega) (by omega) w)]
      cases lo with
      | none => simp only [Option.some.injEq] at hl; subst hl; simp only [Option.map_none, pure_bind]; rfl
      | some v => simp only [Option.map_some]; rw [run_ok_bind (run_sliceBound hl h0 (by omega) w)]; rfl
  | some z =>
    simp only [Option.map_some]
    rw [run_ok_bind (run_sliceBound hm (by omega) h3 w)]
    cases hi with
    | none => exact absurd (hnone rfl) (by simp)
    | some x =>
      simp only [Option.map_some]
      rw [run_ok_bind (run_sliceBound hh (by omega) (by omega) w)]
      cases lo with
      | none => simp only [Option.some.injEq] at hl; subst hl; simp only [Option.map_none, pure_bind]; rfl
      | some v => simp only [Option.map_some]; rw [run_ok_bind (run_sliceBound hl h0 (by omega) w)]; rfl

theorem bnd_spec {env : Env} {d : Nat} {x : Option Operand} {i : Int} (h : bnd env d x = some i) : (match x.map (opv env) with | none => some (d : Int) | some v => idx v) = some i := by
  cases x <;> exact h
theorem eval_bnd {m : NM} {N n : Nat} {env : Env} {a : Act} (ha : ERel m N n env a) {d : Nat} {x : Option Operand} {i : Int} (h : bnd env d x = some i) :
    x.map a.eval = (x.map (opv env)).map (AV.toV m) := by
  cases x with
  | none => rfl
  | some y => simp only [Option.map_some]; rw [(eval_opv ha y (ne_junk_of_idx (by exact h))).1]

theorem slice_of {P : Program} {env : Env} {o : Oper} {t : TypeId} {x : Operand} {lo hi mx : Option Operand} {vx v : AV} {dl dh dm : Nat} {l h c : Int} (ho : o.op = .slice t x lo hi mx)
    (hx : opv env x = vx) (hxj : vx ≠ .junk) (hl : bnd env dl lo = some l) (hh : bnd env dh hi = some h) (hm : bnd env dm mx = some c) (hok : ∀ n, vx.ok n = true → v.ok n = true)
    (hr : ∀ (m : NM) w, (Instr.sliceAt t (AV.toV m vx) ((lo.map (opv env)).map (AV.toV m)) ((hi.map (opv env)).map (AV.toV m)) ((mx.map (opv env)).map (AV.toV m))).run P w = .ok (AV.toV m v) w) :
    PureOk P env o v :=
  pureOk_of fun m N n a ha => by
    have e1 := eval_opv ha x (by rw [hx]; exact hxj)
    rw [hx] at e1
    refine ⟨fun w => ?_, hok n e1.2⟩
    simp only [execOp, ho]
    refine run_value ?_
    rw [e1.1, eval_bnd ha hl, eval_bnd ha hh, eval_bnd ha hm]; exact hr m w

theorem st_extract (s : List (BitVec 8)) (l h : Nat) :
    (⟨(s.map UInt8.ofBitVec).toArray⟩ : ByteArray).extract l h = ⟨(((s.drop l).take (h - l)).map UInt8.ofBitVec).toArray⟩ := by
  apply ByteArray.ext
  simp only [ByteArray.data_extract, List.extract_toArray, List.extract_eq_take_drop, List.map_take, List.map_drop]

theorem slice_sound {P : Program} {env : Env} {o : Oper} {t : TypeId} {x : Operand} {lo hi mx : Option Operand} {K : AV → Prop} (ho : o.op = .slice t x lo hi mx)
    (hnone : hi = none → mx = none)
    (h : sliceK P t (opv env x) (bnd env 0 lo) (fun n => bnd env n hi) (fun n => bnd env n mx) mx.isSome K) : ∃ v, K v ∧ PureOk P env o v := by
  generalize hx : opv env x = vx at h
  have hnone' : hi.map (opv env) = none → mx.map (opv env) = none := fun e => by
    cases hi with
    | none => rw [hnone rfl]; rfl
    | some _ => simp at e
  unfold sliceK at h
  cases vx <;> simp only at h <;> try exact h.elim
  case st s =>
    obtain ⟨ht, hf, h⟩ := h
    cases hlo : bnd env 0 lo with
    | none => rw [hlo] at h; exact h.elim
    | some l =>
      cases hhi : bnd env s.length hi with
      | none => rw [hlo, hhi] at h; exact h.elim
      | some hh =>
        rw [hlo, hhi] at h
        obtain ⟨h0, h1, h2, hK⟩ := h
        have hmx : mx = none := by cases mx <;> simp_all
        subst hmx
        refine ⟨_, hK, slice_of (dm := s.length) ho hx (by simp) hlo hhi rfl (fun _ _ => rfl) fun m w => ?_⟩
        have hu := isStrT_spec ht
        have hsz : (⟨(s.map UInt8.ofBitVec).toArray⟩ : ByteArray).size = s.length := by simp [ByteArray.size]
        simp only [Instr.sliceAt]
        rw [run_ok_bind (run_underlying hu w)]
        simp only [Instr.slice, AV.toV]
        rw [run_ok_bind (run_underlying hu w)]
        simp only [Option.map_none, Option.isSome_none, Bool.false_eq_true, if_false, hsz]
        have hb := run_sliceBounds (P := P) (m := m) (isSlice := false) (len := s.length) (cap := s.length) (mx := none) (bnd_spec hlo) (bnd_spec hhi) rfl (fun _ => rfl) h0 h1 h2 (Int.le_refl _) w
        simp only [Option.map_none] at hb
        rw [run_ok_bind hb]
        simp only [st_extract]
        rfl
  case pt b ob =>
    split at h <;> try exact h.elim
    rename_i n ag e ht
    split at h <;> try exact h.elim
    rename_i l hh c hlo hhi hmx
    obtain ⟨h0, h1, h2, h3, hK⟩ := h
    obtain ⟨el, hu, hte⟩ := ixT_array ht
    refine ⟨_, hK, slice_of ho hx (by simp) hlo hhi hmx (fun n hn => by simpa [AV.ok] using hn) fun m w => ?_⟩
    simp only [Instr.sliceAt]
    rw [run_ok_bind (run_underlying hu w)]
    simp only [AV.toV, Instr.sureAddr, pure_bind]
    rw [run_ok_bind (run_sliceBounds (m := m) (bnd_spec hlo) (bnd_spec hhi) (bnd_spec hmx) hnone' h0 h1 h2 h3 w)]
    dsimp only
    rw [run_ok_bind ((tyA_spec hte).2 w), run_pure]
    congr 3
    split <;> rename_i hc
    · rw [if_pos (by omega)]
    · rw [if_neg (by omega), add_addr]
  case sl b ob n c =>
    split at h <;> try exact h.elim
    rename_i ag e ht
    split at h <;> try exact h.elim
    rename_i l hh c' hlo hhi hmx
    obtain ⟨h0, h1, h2, h3, hK⟩ := h
    obtain ⟨el, hu, hte⟩ := ixT_slice ht
    refine ⟨_, hK, slice_of ho hx (by simp) hlo hhi hmx (fun n hn => by simpa [AV.ok] using hn) fun m w => ?_⟩
    simp only [Instr.sliceAt]
    rw [run_ok_bind (run_underlying hu w)]
    simp only [AV.toV, Instr.slice]
    rw [run_ok_bind (run_underlying hu w)]
    dsimp only
    rw [run_ok_bind (run_sliceBounds (m := m) (bnd_spec hlo) (bnd_spec hhi) (bnd_spec hmx) hnone' h0 h1 h2 h3 w)]
    dsimp only
    rw [run_ok_bind ((tyA_spec hte).2 w), run_pure]
    congr 3
    split <;> rename_i hc
    · rw [if_pos (by omega)]
    · rw [if_neg (by omega)]; simp only [Option.map_some, add_addr]
  case sn =>
    split at h <;> try exact h.elim
    rename_i ag e ht
    split at h <;> try exact h.elim
    rename_i l hh c' hlo hhi hmx
    obtain ⟨rfl, rfl, rfl, hK⟩ := h
    obtain ⟨el, hu, hte⟩ := ixT_slice ht
    refine ⟨_, hK, slice_of ho hx (by simp) hlo hhi hmx (fun _ _ => rfl) fun m w => ?_⟩
    simp only [Instr.sliceAt]
    rw [run_ok_bind (run_underlying hu w)]
    simp only [AV.toV, Instr.slice]
    rw [run_ok_bind (run_underlying hu w)]
    dsimp only
    rw [run_ok_bind (run_sliceBounds (m := m) (bnd_spec hlo) (bnd_spec hhi) (bnd_spec hmx) hnone' (Int.le_refl _) (Int.le_refl _) (Int.le_refl _) (Int.le_refl _) w)]
    dsimp only
    rw [run_ok_bind ((tyA_spec hte).2 w), run_pure]
    rfl

/-- WHAT LEAVES MEMORY ALONE COMES TO A VALUE. -/
theorem pure_sound {P : Program} {env : Env} {o : Oper} {K : AV → Prop} (h : pureK P env o.op K) : ∃ v, K v ∧ PureOk P env o v := by
  cases ho : o.op <;> rw [ho] at h <;> simp only [pureK] at h <;> try exact h.elim
  case move x => exact ⟨_, h, move_sound (.inl ho)⟩
  case assign x => exact ⟨_, h, move_sound (.inr ho)⟩
  case pick c a b =>
    split at h <;> try exact h.elim
    rename_i t hc
    refine ⟨_, ?_, pick_sound ho hc⟩
    cases t
    · exact h.2 rfl
    · exact h.1 rfl
  case nilCheck x =>
    split at h <;> try exact h.elim
    rename_i b off hx
    exact ⟨_, h, nilCheck_sound ho hx⟩
  case binOp op t x y yt =>
    by_cases hs : isShift op = true
    · rw [if_pos hs] at h; exact binShift_sound ho h
    · rw [if_neg hs] at h
      by_cases hsc : isScalar (opv env x) = true
      · rw [if_pos hsc] at h; exact binScalar_sound ho (by simpa using hs) h
      · rw [if_neg hsc] at h
        by_cases hag : isAg (opv env x) = true
        · rw [if_pos hag] at h; exact binAgg_sound ho h
        · rw [if_neg hag] at h; exact binPlain_sound ho h
  case unOp op t x => exact un_sound ho h
  case convert s d x =>
    split at h <;> try exact h.elim
    · rename_i k hc; exact conv_sound ho hc h
    · rename_i hc
      split at h <;> try exact h.elim
      rename_i z hx
      exact ⟨_, h, convStr_sound ho hc hx⟩
  case makeInterface t x => exact ⟨_, h.2.2, iface_sound ho h.1 h.2.1⟩
  case makeFunc fn first captured =>
    cases fn <;> simp only at h <;> try exact h.elim
    rename_i f
    obtain ⟨rfl, hj, hK⟩ := h
    exact ⟨_, hK, func_sound ho hj⟩
  case slice t x lo hi mx =>
    refine slice_sound ho ?_ h.2
    intro e; have := h.1; simp_all
  case fieldAddr s x f =>
    split at h <;> try exact h.elim
    rename_i b ob off ag sz hx hf
    exact ⟨_, h, fieldAddr_sound ho hx hf⟩
  case field s x f =>
    split at h <;> try exact h.elim
    · rename_i l off sz hx hf
      exact ⟨_, h.2, field_sound (ag := true) ho hx hf (by simp)⟩
    · rename_i l off sz hx hf
      exact ⟨_, h.2, field_sound (ag := false) ho hx hf (fun _ => h.1)⟩
  case indexAddr t x i => exact indexAddr_sound ho h
  case index t x i => exact index_sound ho h
  case extract x i =>
    split at h <;> try exact h.elim
    rename_i l hx
    exact ⟨_, h.2, extract_sound ho hx h.1⟩

end Go.Ab
