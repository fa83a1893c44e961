import Derived.Test.YtglkkfobkncbbaaJoyAbSound2
namespace Go.Ab

theorem conv_of {P : Program} {env : Env} {o : Oper} {s d : TypeId} {x : Operand} {vx v : AV} {i : Int} {k : IntKind} (ho : o.op = .convert s d x) (hx : opv env x = vx) (hi : idx vx = some i)
    (hc : convT P s d = some (.int k)) (hv : ∀ m, AV.toV m v = .int k (k.wrap i)) (hok : ∀ n, v.ok n = true) : PureOk P env o v :=
  pureOk_of fun m N n a ha => by
    obtain ⟨⟨sd, hs⟩, hd⟩ := convT_int hc
    have e1 := (eval_opv ha x (by rw [hx]; exact ne_junk_of_idx hi)).1
    rw [hx, toV_idx hi] at e1
    refine ⟨fun w => ?_, hok n⟩
    simp only [execOp, ho]
    refine run_value ?_
    rw [e1, hv]
    simp only [Go.convert]
    rw [run_ok_bind (run_underlying hs w), run_ok_bind (run_underlying hd w)]
    rfl

theorem setWidth_wrap {w : Nat} (k : IntKind) (hs : k.signed = false) (x : BitVec w) : ((x.setWidth k.bits).toNat : Int) = k.wrap x.toNat := by
  rw [wrap_unsigned hs, BitVec.toNat_setWidth]; simp
theorem ofInt_wrap (k : IntKind) (hs : k.signed = false) (n : Int) : ((BitVec.ofInt k.bits n).toNat : Int) = k.wrap n := by
  rw [wrap_unsigned hs, BitVec.toNat_ofInt]
  have h1 : ((2 ^ k.bits : Nat) : Int) = 2 ^ k.bits := by simp
  rw [h1]
  have : 0 ≤ n % (2 ^ k.bits : Int) := Int.emod_nonneg _ (by have := Int.pow_pos (n := 2) (m := k.bits) (by omega); omega)
  omega
theorem wrap64_small (n : Int) (h0 : -9223372036854775808 ≤ n) (h : n ≤ 9223372036854775807) : IntKind.i64.wrap n = n := by
  show (if (true && decide (n % 18446744073709551616 ≥ 9223372036854775808)) = true then n % 18446744073709551616 - 18446744073709551616 else n % 18446744073709551616) = n
  rw [Bool.true_and]
  by_cases h : n % 18446744073709551616 ≥ 9223372036854775808
  · rw [if_pos (by simpa using h)]; omega
  · rw [if_neg (by simpa using h)]; omega
theorem wrap_i8 (n : Int) : IntKind.i8.wrap n = if n % 256 ≥ 128 then n % 256 - 256 else n % 256 := by
  show (if (true && decide (n % 256 ≥ 128)) = true then n % 256 - 256 else n % 256) = _
  rw [Bool.true_and]
  by_cases h : n % 256 ≥ 128
  · rw [if_pos (by simpa using h), if_pos h]
  · rw [if_neg (by simpa using h), if_neg h]

theorem conv_sound {P : Program} {env : Env} {o : Oper} {s d : TypeId} {x : Operand} {k : IntKind} {K : AV → Prop} (ho : o.op = .convert s d x)
    (hc : convT P s d = some (.int k)) (h : convI k (opv env x) K) : ∃ v, K v ∧ PureOk P env o v := by
  generalize hx : opv env x = vx at h
  unfold convI at h
  split at h <;> try exact h.elim
  all_goals refine ⟨_, h, conv_of ho hx rfl hc (fun m => ?_) (fun _ => rfl)⟩ <;> simp only [AV.toV, Value.int.injEq, true_and]
  · rename_i z; exact (wrap_toNat (k := .u8) rfl z).symm
  · exact setWidth_wrap .u8 rfl _
  · exact setWidth_wrap .u8 rfl _
  · exact setWidth_wrap .u8 rfl _
  · exact ofInt_wrap .u8 rfl _
  · exact setWidth_wrap .u16 rfl _
  · rename_i z; exact (wrap_toNat (k := .u16) rfl z).symm
  · exact setWidth_wrap .u16 rfl _
  · exact setWidth_wrap .u16 rfl _
  · exact ofInt_wrap .u16 rfl _
  · rename_i z
    rw [wrap_unsigned rfl]
    have hb : (2 : Int) ^ IntKind.u16.bits = 65536 := rfl
    rw [hb, BitVec.toNat_signExtend, BitVec.toNat_setWidth, BitVec.toInt_eq_toNat_cond, BitVec.msb_eq_decide]
    have hz := z.isLt
    by_cases hm : 2 * z.toNat < 2 ^ 8
    · have h2 : ¬ 2 ^ (8 - 1) ≤ z.toNat := by omega
      simp only [if_pos hm, decide_eq_true_eq, if_neg h2]; omega
    · have h2 : 2 ^ (8 - 1) ≤ z.toNat := by omega
      simp only [if_neg hm, decide_eq_true_eq, if_pos h2]; omega
  · exact setWidth_wrap .u32 rfl _
  · exact setWidth_wrap .u32 rfl _
  · rename_i z; exact (wrap_toNat (k := .u32) rfl z).symm
  · exact setWidth_wrap .u32 rfl _
  · exact ofInt_wrap .u32 rfl _
  · exact setWidth_wrap .u64 rfl _
  · exact setWidth_wrap .u64 rfl _
  · exact setWidth_wrap .u64 rfl _
  · rename_i z; exact (wrap_toNat (k := .u64) rfl z).symm
  · exact ofInt_wrap .u64 rfl _
  · rename_i z
    have hz := z.isLt
    rw [BitVec.toInt_eq_toNat_cond, wrap_i8]
    split <;> split <;> omega
  · rename_i z; have hz := z.isLt; exact (wrap64_small _ (by omega) (by omega)).symm
  · rename_i z; have hz := z.isLt; exact (wrap64_small _ (by omega) (by omega)).symm
  · rename_i z; have hz := z.isLt; exact (wrap64_small _ (by omega) (by omega)).symm
  · rename_i z
    have h1 := BitVec.toInt_lt (x := z)
    have h2 := BitVec.le_toInt (x := z)
    simp at h1 h2
    exact (wrap64_small _ (by omega) (by omega)).symm
  · rfl

theorem convStr_sound {P : Program} {env : Env} {o : Oper} {s d : TypeId} {x : Operand} {z : List (BitVec 8)} (ho : o.op = .convert s d x)
    (hc : convT P s d = some .str) (hx : opv env x = .st z) : PureOk P env o (.st z) :=
  pureOk_of fun m N n a ha => by
    have hh : P.underlying s = some .string ∧ P.underlying d = some .string := by
      unfold convT at hc
      cases hs : P.underlying s with
      | none => simp [hs] at hc
      | some a =>
        cases hd : P.underlying d with
        | none => rw [hs, hd] at hc; cases a <;> simp at hc
        | some b =>
          rw [hs, hd] at hc
          cases b <;> cases a <;> first | (simp at hc; done) | exact ⟨rfl, rfl⟩ | (dsimp only at hc; split at hc <;> simp at hc)
    have e1 := (eval_opv ha x (by rw [hx]; simp)).1
    rw [hx] at e1
    refine ⟨fun w => ?_, rfl⟩
    simp only [execOp, ho]
    refine run_value ?_
    rw [e1]
    simp only [Go.convert]
    rw [run_ok_bind (run_underlying hh.1 w), run_ok_bind (run_underlying hh.2 w)]
    rfl

theorem nilCheck_sound {P : Program} {env : Env} {o : Oper} {x : Operand} {b off : Nat} (ho : o.op = .nilCheck x) (hx : opv env x = .pt b off) : PureOk P env o (.pt b off) :=
  pureOk_of fun m N n a ha => by
    have e := eval_opv ha x (by rw [hx]; simp)
    rw [hx] at e
    refine ⟨fun w => ?_, e.2⟩
    simp only [execOp, ho, e.1, AV.toV]; rfl

theorem ne_junk_of_ok {v : AV} (h : v.one = true) : v ≠ .junk := by rintro rfl; simp [AV.one] at h

theorem iface_sound {P : Program} {env : Env} {o : Oper} {t : TypeId} {x : Operand} (ho : o.op = .makeInterface t x) (ht : notIface P t = true) (hx : opv env x ≠ .junk) :
    PureOk P env o (.ifc t (opv env x)) :=
  pureOk_of fun m N n a ha => by
    have e := eval_opv ha x hx
    refine ⟨fun w => ?_, by simp only [AV.ok]; exact e.2⟩
    simp only [execOp, ho]
    refine run_value ?_
    simp only [Instr.makeInterface]
    unfold notIface at ht
    cases hu : P.underlying t with
    | none => rw [hu] at ht; simp at ht
    | some d =>
      rw [hu] at ht
      rw [run_ok_bind (run_underlying hu w), e.1]
      cases d <;> first | (simp at ht; done) | rfl

theorem func_sound {P : Program} {env : Env} {o : Oper} {f : FuncId} {captured : Array Operand} (ho : o.op = .makeFunc (.func f) #[] captured)
    (hj : (captured.toList.all fun x => match opv env x with | .junk => false | _ => true) = true) : PureOk P env o (.fn f (captured.toList.map (opv env))) :=
  pureOk_of fun m N n a ha => by
    have hall : ∀ x ∈ captured.toList, a.eval x = AV.toV m (opv env x) ∧ (opv env x).ok n = true := fun x hx => by
      have := List.all_eq_true.1 hj x hx
      exact eval_opv ha x (by intro e; rw [e] at this; simp at this)
    refine ⟨fun w => ?_, ?_⟩
    · simp only [execOp, ho, Instr.makeFunc]
      refine run_value ?_
      simp only [run_pure, AV.toV, AV.toVs_eq, List.map_map]
      have hcap : captured.map a.eval = (captured.toList.map (AV.toV m ∘ opv env)).toArray := by
        rw [← Array.toList_inj]
        simp only [Array.toList_map]
        exact List.map_congr_left fun x hx => (hall x hx).1
      rw [hcap, Array.map_empty]
    · simp only [AV.ok, AV.oks_eq, List.all_map, List.all_eq_true]
      intro x hx; exact (hall x hx).2

theorem add_addr (b o n : Nat) : (⟨b, o, none⟩ : Addr).add n = ⟨b, o + n, none⟩ := by
  unfold Addr.add; split
  · rename_i h; subst h; rfl
  · rfl

theorem fldT_spec {P : Program} {s : TypeId} {f : Nat} {off : Nat} {ag : Bool} {sz : Nat} (h : fldT P s f = some (off, ag, sz)) :
    ∃ fs fd, P.underlying s = some (.struct fs) ∧ fs[f]? = some fd ∧ tyA P fd.type = some (ag, sz) ∧ sz ≠ 0 ∧ fd.offset = off := by
  unfold fldT at h
  split at h <;> try (simp at h; done)
  rename_i fs hu
  split at h <;> try (simp at h; done)
  rename_i fd hf
  split at h <;> try (simp at h; done)
  rename_i ag' sz' ht
  split at h <;> try (simp at h; done)
  simp only [Option.some.injEq, Prod.mk.injEq] at h
  obtain ⟨rfl, rfl, rfl⟩ := h
  exact ⟨fs, fd, hu, hf, ht, ‹_›, rfl⟩

theorem fieldAddr_sound {P : Program} {env : Env} {o : Oper} {s : TypeId} {x : Operand} {f b ob off sz : Nat} {ag : Bool} (ho : o.op = .fieldAddr s x f)
    (hx : opv env x = .pt b ob) (hf : fldT P s f = some (off, ag, sz)) : PureOk P env o (.pt b (ob + off)) :=
  pureOk_of fun m N n a ha => by
    obtain ⟨fs, fd, hu, hfd, ht, hz, rfl⟩ := fldT_spec hf
    have e := eval_opv ha x (by rw [hx]; simp)
    rw [hx] at e
    refine ⟨fun w => ?_, e.2⟩
    simp only [execOp, ho]
    refine run_value ?_
    simp only [Instr.fieldAt]
    rw [run_ok_bind (run_underlying hu w)]
    simp only [hfd, e.1, AV.toV, Instr.sureAddr, pure_bind]
    rw [run_bind]
    simp only [fieldPlace]
    rw [run_ok_bind ((tyA_spec ht).2 w), if_neg hz, add_addr]
    rfl

theorem run_part {P : Program} {t : TypeId} {ag : Bool} {sz off : Nat} {cs : Array Value} (ht : tyA P t = some (ag, sz)) (w : World) :
    (part t cs off).run P w = if ag then .ok (.agg (cs.extract off (off + sz))) w else (match cs[off]? with | some v => .ok v w | none => .halt (.stuck "part: no such cell") w) := by
  simp only [part]
  rw [run_ok_bind ((tyA_spec ht).1 w)]
  cases ag
  · simp only [Bool.false_eq_true, if_false]
    cases cs[off]? <;> rfl
  · simp only [if_true]
    rw [run_ok_bind ((tyA_spec ht).2 w)]; rfl

theorem toVs_part (m : NM) (l : List AV) (off sz : Nat) : (AV.toVs m l).toArray.extract off (off + sz) = (AV.toVs m ((l.drop off).take sz)).toArray := by
  simp only [AV.toVs_eq, List.extract_toArray, List.extract_eq_take_drop, List.map_take, List.map_drop]
  congr 2; omega
theorem toVs_get (m : NM) (l : List AV) (i : Nat) (h : i < l.length) : (AV.toVs m l).toArray[i]? = some (AV.toV m (l.getD i .junk)) := by
  simp [AV.toVs_eq, List.getD_eq_getElem?_getD, List.getElem?_eq_getElem h]
theorem ok_getD {n : Nat} {l : List AV} (h : AV.oks n l = true) (i : Nat) (hi : i < l.length) : (l.getD i .junk).ok n = true := by
  rw [AV.oks_eq] at h
  rw [List.getD_eq_getElem?_getD, List.getElem?_eq_getElem hi]
  exact List.all_eq_true.1 h _ (List.getElem_mem hi)
theorem ok_part {n : Nat} {l : List AV} (h : (AV.ag l).ok n = true) (off sz : Nat) : (AV.ag ((l.drop off).take sz)).ok n = true := by
  simp only [AV.ok, Bool.and_eq_true, AV.oks_eq, List.all_eq_true] at *
  exact ⟨fun v hv => h.1 v (List.mem_of_mem_drop (List.mem_of_mem_take hv)), fun v hv => h.2 v (List.mem_of_mem_drop (List.mem_of_mem_take hv))⟩

theorem field_sound {P : Program} {env : Env} {o : Oper} {s : TypeId} {x : Operand} {f off sz : Nat} {ag : Bool} {l : List AV} (ho : o.op = .field s x f)
    (hx : opv env x = .ag l) (hf : fldT P s f = some (off, ag, sz)) (hl : ag = false → off < l.length) : PureOk P env o (if ag then .ag ((l.drop off).take sz) else l.getD off .junk) :=
  pureOk_of fun m N n a ha => by
    obtain ⟨fs, fd, hu, hfd, ht, hz, rfl⟩ := fldT_spec hf
    have e := eval_opv ha x (by rw [hx]; simp)
    rw [hx] at e
    refine ⟨fun w => ?_, ?_⟩
    · simp only [execOp, ho]
      refine run_value ?_
      simp only [Instr.field]
      rw [run_ok_bind (run_underlying hu w)]
      simp only [hfd, e.1, AV.toV, asAgg, pure_bind]
      rw [run_part ht]
      cases ag
      · simp only [Bool.false_eq_true, if_false, toVs_get m l _ (hl rfl)]
      · simp only [if_true, toVs_part, AV.toV]
    · cases ag
      · simp only [Bool.false_eq_true, if_false]
        have := e.2
        simp only [AV.ok, Bool.and_eq_true] at this
        exact ok_getD this.1 _ (hl rfl)
      · simp only [if_true]; exact ok_part e.2 _ _

theorem extract_sound {P : Program} {env : Env} {o : Oper} {x : Operand} {i : Nat} {l : List AV} (ho : o.op = .extract x i) (hx : opv env x = .tu l) (hi : i < l.length) :
    PureOk P env o (l.getD i .junk) :=
  pureOk_of fun m N n a ha => by
    have e := eval_opv ha x (by rw [hx]; simp)
    rw [hx] at e
    refine ⟨fun w => ?_, ?_⟩
    · simp only [execOp, ho]
      refine run_value ?_
      simp only [Instr.extract, e.1, AV.toV, toVs_get m l i hi]; rfl
    · have := e.2
      simp only [AV.ok] at this
      exact ok_getD this _ hi

end Go.Ab
