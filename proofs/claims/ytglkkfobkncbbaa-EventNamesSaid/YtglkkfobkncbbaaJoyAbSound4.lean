import Derived.Test.YtglkkfobkncbbaaJoyAbSound3
namespace Go.Ab

theorem ixT_array {P : Program} {t : TypeId} {n e : Nat} {ag : Bool} (h : ixT P t = some (some n, ag, e)) : ∃ el, P.underlying t = some (.array n el) ∧ tyA P el = some (ag, e) := by
  unfold ixT at h
  split at h <;> try (simp at h; done)
  · rename_i k el hu
    split at h <;> try (simp at h; done)
    rename_i a s ht
    simp only [Option.some.injEq, Prod.mk.injEq] at h
    obtain ⟨rfl, rfl, rfl⟩ := h
    exact ⟨el, hu, ht⟩
  · split at h <;> simp at h
theorem ixT_slice {P : Program} {t : TypeId} {e : Nat} {ag : Bool} (h : ixT P t = some (none, ag, e)) : ∃ el, P.underlying t = some (.slice el) ∧ tyA P el = some (ag, e) := by
  unfold ixT at h
  split at h <;> try (simp at h; done)
  · split at h <;> simp at h
  · rename_i el hu
    split at h <;> try (simp at h; done)
    rename_i a s ht
    simp only [Option.some.injEq, Prod.mk.injEq] at h
    obtain ⟨_, rfl, rfl⟩ := h
    exact ⟨el, hu, ht⟩

theorem run_asIntOf {P : Program} {m : NM} {v : AV} {i : Int} (h : idx v = some i) (w : World) : (asIntOf (AV.toV m v)).run P w = .ok (knd v, i) w := by
  rw [toV_idx h]; rfl

theorem indexAt_array {P : Program} {t el : TypeId} {n e b ob : Nat} {ag : Bool} {m : NM} {vi : AV} {k : Int} (hu : P.underlying t = some (.array n el)) (ht : tyA P el = some (ag, e))
    (hk : idx vi = some k) (h0 : 0 ≤ k) (hlt : k < n) (w : World) :
    (Instr.indexAt t (.pointer (some ⟨m.ρ b, ob, none⟩)) (AV.toV m vi)).run P w = .ok (.pointer (some ⟨m.ρ b, ob + k.toNat * e, none⟩)) w := by
  simp only [Instr.indexAt]
  rw [run_ok_bind (run_asIntOf hk w)]
  dsimp only
  rw [run_ok_bind (run_underlying hu w)]
  dsimp only [Instr.sureAddr]
  simp only [pure_bind]
  rw [run_ok_bind (run_underlying hu w)]
  dsimp only
  rw [if_pos ⟨h0, hlt⟩, run_ok_bind ((tyA_spec ht).2 w), add_addr]
  rfl
theorem indexAt_slice {P : Program} {t el : TypeId} {n c e b ob : Nat} {ag : Bool} {m : NM} {vi : AV} {k : Int} (hu : P.underlying t = some (.slice el)) (ht : tyA P el = some (ag, e))
    (hk : idx vi = some k) (h0 : 0 ≤ k) (hlt : k < n) (w : World) :
    (Instr.indexAt t (.slice (some ⟨m.ρ b, ob, none⟩) n c) (AV.toV m vi)).run P w = .ok (.pointer (some ⟨m.ρ b, ob + k.toNat * e, none⟩)) w := by
  simp only [Instr.indexAt]
  rw [run_ok_bind (run_asIntOf hk w)]
  dsimp only
  rw [run_ok_bind (run_underlying hu w)]
  dsimp only
  simp only [pure_bind]
  rw [run_ok_bind (run_underlying hu w)]
  dsimp only
  rw [if_pos ⟨h0, hlt⟩, run_ok_bind ((tyA_spec ht).2 w), add_addr]
  rfl

theorem indexAddr_of {P : Program} {env : Env} {o : Oper} {t : TypeId} {x i : Operand} {vx vi : AV} {b off : Nat} (ho : o.op = .indexAddr t x i)
    (hx : opv env x = vx) (hi : opv env i = vi) (hxj : vx ≠ .junk) (hij : vi ≠ .junk) (hb : ∀ n, vx.ok n = true → b < n)
    (hr : ∀ (m : NM) w, (Instr.indexAt t (AV.toV m vx) (AV.toV m vi)).run P w = .ok (.pointer (some ⟨m.ρ b, off, none⟩)) w) : PureOk P env o (.pt b off) :=
  pureOk_of fun m N n a ha => by
    have e1 := eval_opv ha x (by rw [hx]; exact hxj)
    have e2 := eval_opv ha i (by rw [hi]; exact hij)
    rw [hx] at e1; rw [hi] at e2
    refine ⟨fun w => ?_, by simp only [AV.ok, decide_eq_true_eq]; exact hb n e1.2⟩
    simp only [execOp, ho]
    refine run_value ?_
    rw [e1.1, e2.1]; exact hr m w

theorem indexAddr_sound {P : Program} {env : Env} {o : Oper} {t : TypeId} {x i : Operand} {K : AV → Prop} (ho : o.op = .indexAddr t x i)
    (h : indexAddrK P t (opv env x) (opv env i) K) : ∃ v, K v ∧ PureOk P env o v := by
  generalize hx : opv env x = vx at h
  generalize hi : opv env i = vi at h
  unfold indexAddrK at h
  split at h <;> try exact h.elim
  · rename_i n ag e k ht hk
    obtain ⟨el, hu, hte⟩ := ixT_array ht
    cases vx <;> simp only at h <;> try exact h.elim
    obtain ⟨h0, hlt, hK⟩ := h
    exact ⟨_, hK, indexAddr_of ho hx hi (by simp) (ne_junk_of_idx hk) (fun n hn => by simpa [AV.ok] using hn) fun m w => indexAt_array hu hte hk h0 hlt w⟩
  · rename_i ag e k ht hk
    obtain ⟨el, hu, hte⟩ := ixT_slice ht
    cases vx <;> simp only at h <;> try exact h.elim
    · obtain ⟨h0, hlt, hK⟩ := h
      exact ⟨_, hK, indexAddr_of ho hx hi (by simp) (ne_junk_of_idx hk) (fun n hn => by simpa [AV.ok] using hn) fun m w => indexAt_slice hu hte hk h0 hlt w⟩
    · obtain ⟨h0, hlt, hK⟩ := h
      exact ⟨_, hK, indexAddr_of ho hx hi (by simp) (ne_junk_of_idx hk) (fun n hn => by simp [AV.ok] at hn; exact hn.1) fun m w => indexAt_slice hu hte hk h0 hlt w⟩

theorem isStrT_spec {P : Program} {t : TypeId} (h : isStrT P t = true) : P.underlying t = some .string := by
  unfold isStrT at h
  split at h
  · assumption
  · simp at h

theorem st_get (s : List (BitVec 8)) (i : Nat) (h : i < s.length) : (⟨(s.map UInt8.ofBitVec).toArray⟩ : ByteArray)[i]? = some (UInt8.ofBitVec (s.getD i 0)) := by
  have hs : (⟨(s.map UInt8.ofBitVec).toArray⟩ : ByteArray).size = s.length := by simp [ByteArray.size]
  rw [getElem?_pos _ _ (by rw [hs]; exact h)]
  simp only [ByteArray.getElem_eq_getElem_data, List.getElem_toArray, List.getElem_map, List.getD_eq_getElem?_getD, List.getElem?_eq_getElem h, Option.getD_some]

theorem index_of {P : Program} {env : Env} {o : Oper} {t : TypeId} {x i : Operand} {vx vi v : AV} (ho : o.op = .index t x i)
    (hx : opv env x = vx) (hi : opv env i = vi) (hxj : vx ≠ .junk) (hij : vi ≠ .junk) (hok : ∀ n, vx.ok n = true → v.ok n = true)
    (hr : ∀ (m : NM) w, (Instr.index t (AV.toV m vx) (AV.toV m vi)).run P w = .ok (AV.toV m v) w) : PureOk P env o v :=
  pureOk_of fun m N n a ha => by
    have e1 := eval_opv ha x (by rw [hx]; exact hxj)
    have e2 := eval_opv ha i (by rw [hi]; exact hij)
    rw [hx] at e1; rw [hi] at e2
    refine ⟨fun w => ?_, hok n e1.2⟩
    simp only [execOp, ho]
    refine run_value ?_
    rw [e1.1, e2.1]; exact hr m w

theorem index_sound {P : Program} {env : Env} {o : Oper} {t : TypeId} {x i : Operand} {K : AV → Prop} (ho : o.op = .index t x i)
    (h : indexK P t (opv env x) (opv env i) K) : ∃ v, K v ∧ PureOk P env o v := by
  generalize hx : opv env x = vx at h
  generalize hi : opv env i = vi at h
  unfold indexK at h
  cases hk : idx vi with
  | none => rw [hk] at h; exact h.elim
  | some k =>
    rw [hk] at h
    have hij := ne_junk_of_idx hk
    cases vx <;> simp only at h <;> try exact h.elim
    · rename_i s
      obtain ⟨ht, h0, hlt, hK⟩ := h
      refine ⟨_, hK, index_of ho hx hi (by simp) hij (fun _ _ => rfl) fun m w => ?_⟩
      simp only [Instr.index]
      rw [run_ok_bind (run_asIntOf hk w)]
      dsimp only
      rw [run_ok_bind (run_underlying (isStrT_spec ht) w)]
      simp only [AV.toV]
      rw [if_pos h0, st_get s k.toNat (by omega)]
      rfl
    · rename_i l
      split at h <;> try exact h.elim
      · rename_i n e ht
        obtain ⟨h0, hlt, hl, hK⟩ := h
        obtain ⟨el, hu, hte⟩ := ixT_array ht
        refine ⟨_, hK, index_of ho hx hi (by simp) hij (fun n hn => ?_) fun m w => ?_⟩
        · simp only [AV.ok, Bool.and_eq_true] at hn
          exact ok_getD hn.1 _ hl
        · simp only [Instr.index]
          rw [run_ok_bind (run_asIntOf hk w)]
          dsimp only
          rw [run_ok_bind (run_underlying hu w)]
          simp only [AV.toV]
          rw [if_pos ⟨h0, hlt⟩, run_ok_bind ((tyA_spec hte).2 w), run_part hte]
          simp only [Bool.false_eq_true, if_false, toVs_get m l _ hl]
      · rename_i n e ht
        obtain ⟨h0, hlt, hl, hK⟩ := h
        obtain ⟨el, hu, hte⟩ := ixT_array ht
        refine ⟨_, hK, index_of ho hx hi (by simp) hij (fun n hn => ok_part hn _ _) fun m w => ?_⟩
        simp only [Instr.index]
        rw [run_ok_bind (run_asIntOf hk w)]
        dsimp only
        rw [run_ok_bind (run_underlying hu w)]
        simp only [AV.toV]
        rw [if_pos ⟨h0, hlt⟩, run_ok_bind ((tyA_spec hte).2 w), run_part hte]
        simp only [if_true, toVs_part]

end Go.Ab
