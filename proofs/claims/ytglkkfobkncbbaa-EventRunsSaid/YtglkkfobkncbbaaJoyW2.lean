/- Parts of the proof: the evaluator and its soundness. -/
import Derived.Test.YtglkkfobkncbbaaJoyW0
import Derived.Test.YtglkkfobkncbbaaJoyW1
import Derived.ChangeOld
namespace Go.Ab

/-- What a leaf may be: a kind of number that the evaluator knows. -/
def EK.known : EK → Bool
  | .int .u8 | .int .u16 | .int .u32 | .int .u64 | .int .i8 | .int .i64 | .bool | .str => true
  | _ => false

theorem cells_of_tyA {P : Program} {t : TypeId} {ag : Bool} {sz : Nat} (h : tyA P t = some (ag, sz)) : P.cellsOf t = sz := by
  unfold tyA at h
  cases hu : P.underlying t with
  | none => rw [hu] at h; simp at h
  | some d =>
    rw [hu] at h
    cases hi : P.info? t with
    | none => rw [hi] at h; cases d <;> simp at h
    | some i => rw [hi] at h; rw [cellsOf_eq hi]; cases d <;> simp at h <;> first | exact h.2 | exact h

/-- Numbers are within their kind. -/
def AV.inr : AV → Prop
  | .i64 n => -9223372036854775808 ≤ n ∧ n ≤ 9223372036854775807
  | _ => True
theorem av_of_int {k : IntKind} (hk : (EK.int k).known = true) {n : Int} (hw : (Lit.int k n).wf = true) : ∃ v : AV, (v.fits (.int k) = true ∧ v.inr) ∧ ∀ m, AV.toV m v = .int k n := by
  cases k <;> simp only [EK.known, Bool.false_eq_true] at hk <;> simp [Lit.wf, IntKind.min, IntKind.max, IntKind.signed, IntKind.bits] at hw
  case u8 => exact ⟨.u8 (BitVec.ofInt 8 n), ⟨rfl, trivial⟩, fun m => by simp only [AV.toV, BitVec.toNat_ofInt]; congr 1; omega⟩
  case u16 => exact ⟨.u16 (BitVec.ofInt 16 n), ⟨rfl, trivial⟩, fun m => by simp only [AV.toV, BitVec.toNat_ofInt]; congr 1; omega⟩
  case u32 => exact ⟨.u32 (BitVec.ofInt 32 n), ⟨rfl, trivial⟩, fun m => by simp only [AV.toV, BitVec.toNat_ofInt]; congr 1; omega⟩
  case u64 => exact ⟨.u64 (BitVec.ofInt 64 n), ⟨rfl, trivial⟩, fun m => by simp only [AV.toV, BitVec.toNat_ofInt]; congr 1; omega⟩
  case i8 => exact ⟨.i8 (BitVec.ofInt 8 n), ⟨rfl, trivial⟩, fun m => by simp only [AV.toV, BitVec.toInt_ofInt]; congr 1; rw [Int.bmod_def]; omega⟩
  case i64 => exact ⟨.i64 n, ⟨rfl, by simp only [AV.inr]; omega⟩, fun m => rfl⟩

theorem fits_append {a b : List EK} : ∀ {l l' : List AV}, fits a l = true → fits b l' = true → fits (a ++ b) (l ++ l') = true := by
  induction a with
  | nil => intro l l' h h'; cases l <;> simp_all [fits]
  | cons k ks ih => intro l l' h h'; cases l with
    | nil => simp [fits] at h
    | cons v r =>
      simp only [fits, Bool.and_eq_true] at h
      simp only [List.cons_append, fits, Bool.and_eq_true]
      exact ⟨h.1, ih h.2 h'⟩

def FitsR (ks : List EK) (l : List AV) : Prop := fits ks l = true ∧ ∀ x ∈ l, x.inr
theorem FitsR.nil : FitsR [] [] := ⟨rfl, by simp⟩
theorem FitsR.one {k : EK} {v : AV} (h : v.fits k = true) (hr : v.inr) : FitsR [k] [v] := ⟨by simp [fits, h], fun x hx => by rw [List.mem_singleton] at hx; subst hx; exact hr⟩
theorem FitsR.append {a b : List EK} {l l' : List AV} (h : FitsR a l) (h' : FitsR b l') : FitsR (a ++ b) (l ++ l') :=
  ⟨fits_append h.1 h'.1, fun x hx => by exact (List.mem_append.1 hx).elim (h.2 x) (h'.2 x)⟩

section
variable {Hh : Type} {enc : TypeId × Value → Hh} {P : Program} {w : World} {base : Nat} {sp : Nat → Bool} {held : Bool}

theorem mapM_cons_some {α β : Type} {f : α → Option β} {a : α} {r : List α} {ys : List β} (h : (a :: r).mapM f = some ys) : ∃ y ys', f a = some y ∧ r.mapM f = some ys' := by
  rw [List.mapM_cons] at h
  cases ha : f a with
  | none => rw [ha] at h; simp at h
  | some y =>
    cases hr : r.mapM f with
    | none => rw [ha, hr] at h; simp at h
    | some ys' => exact ⟨y, ys', rfl, rfl⟩

theorem fields_open {d fuel : Nat} (ih : ∀ t ks, leaves P d t = some ks → P.cellsOf t = ks.length → ks.all EK.known = true → ∀ cs x, DataW.trod enc P w base sp held fuel t cs = some x → ∃ l, FitsR ks l ∧ ∀ m, cs = AV.toVs m l) (cs : List Value) :
    ∀ (fs : List Field) (off : Nat) (ks : List EK) (xs : List (DataW Hh × List MemPlace)), leavesF P (leaves P d) fs off = some ks → ks.all EK.known = true → off + ks.length ≤ cs.length →
      (fs.mapM fun f => DataW.trod enc P w base sp held fuel f.type ((cs.drop f.offset).take (P.cellsOf f.type))) = some xs → ∃ l, FitsR ks l ∧ ∀ m, (cs.drop off).take ks.length = AV.toVs m l
  | [], off, ks, xs, h, _, _, _ => by
    simp only [leavesF, Option.some.injEq] at h
    subst h
    exact ⟨[], FitsR.nil, fun m => by simp [AV.toVs]⟩
  | f :: fs, off, ks, xs, h, hk, hl, hm => by
    unfold leavesF at h
    cases hg : leaves P d f.type with
    | none => rw [hg] at h; simp at h
    | some l0 =>
      cases ht : tyA P f.type with
      | none => rw [hg, ht] at h; simp at h
      | some q =>
        obtain ⟨ag, sz⟩ := q
        rw [hg, ht] at h
        simp only at h
        split at h
        · rename_i hc
          obtain ⟨c1, c2, c3⟩ := hc
          subst c2 c3
          simp only [Option.map_eq_some_iff] at h
          obtain ⟨ks', h3, rfl⟩ := h
          obtain ⟨y, ys', hy, hys⟩ := mapM_cons_some hm
          simp only [List.all_append, Bool.and_eq_true] at hk
          simp only [List.length_append] at hl
          have hcs := cells_of_tyA ht
          rw [hcs] at hy
          obtain ⟨l1, f1, e1⟩ := ih f.type l0 hg hcs hk.1 _ y hy
          obtain ⟨l2, f2, e2⟩ := fields_open ih cs fs (f.offset + l0.length) ks' ys' h3 hk.2 (by omega) hys
          refine ⟨l1 ++ l2, FitsR.append f1 f2, fun m => ?_⟩
          rw [AV.toVs_eq, List.map_append, ← AV.toVs_eq, ← AV.toVs_eq, ← e1 m, ← e2 m, List.length_append, ← List.drop_drop, ← List.take_add]
        · simp at h

theorem items_open {d fuel : Nat} {e : TypeId} {ks : List EK} (hk : ks.all EK.known = true) (ih : ∀ cs x, DataW.trod enc P w base sp held fuel e cs = some x → ∃ l, FitsR ks l ∧ ∀ m, cs = AV.toVs m l) (cs : List Value) :
    ∀ (len i : Nat) (xs : List (DataW Hh × List MemPlace)), i * ks.length + len * ks.length ≤ cs.length →
      ((List.range' i len).mapM fun i => DataW.trod enc P w base sp held fuel e ((cs.drop (i * ks.length)).take ks.length)) = some xs → ∃ l, FitsR (List.replicate len ks).flatten l ∧ ∀ m, (cs.drop (i * ks.length)).take (len * ks.length) = AV.toVs m l
  | 0, i, xs, _, _ => ⟨[], FitsR.nil, fun m => by simp [AV.toVs]⟩
  | len + 1, i, xs, hl, hm => by
    rw [List.range'_succ] at hm
    obtain ⟨y, ys', hy, hys⟩ := mapM_cons_some hm
    have e3 : i * ks.length + ks.length = (i + 1) * ks.length := by rw [Nat.add_mul, Nat.one_mul]
    have e4 : (len + 1) * ks.length = ks.length + len * ks.length := by rw [Nat.add_mul, Nat.one_mul, Nat.add_comm]
    obtain ⟨l1, f1, e1⟩ := ih _ y hy
    obtain ⟨l2, f2, e2⟩ := items_open (d := d) hk ih cs len (i + 1) ys' (by omega) hys
    refine ⟨l1 ++ l2, ?_, fun m => ?_⟩
    · simp only [List.replicate_succ, List.flatten_cons]; exact FitsR.append f1 f2
    · rw [AV.toVs_eq, List.map_append, ← AV.toVs_eq, ← AV.toVs_eq, ← e1 m, ← e2 m, e4, ← e3, ← List.drop_drop, ← List.take_add]

theorem trod_struct_eq {t : TypeId} {fs : Array Field} (hu : P.underlying t = some (.struct fs)) (n : Nat) (cs : List Value) : DataW.trod enc P w base sp held (n + 1) t cs =
    if cs.length = P.cellsOf t then (fs.toList.mapM fun f => DataW.trod enc P w base sp held n f.type ((cs.drop f.offset).take (P.cellsOf f.type))).map fun xs => (.agg (xs.map (·.1)), xs.flatMap (·.2)) else none := by
  simp only [DataW.trod, hu]
theorem trod_array_eq {t e : TypeId} {k : Nat} (hu : P.underlying t = some (.array k e)) (n : Nat) (cs : List Value) : DataW.trod enc P w base sp held (n + 1) t cs =
    if cs.length = P.cellsOf t then ((List.range k).mapM fun i => DataW.trod enc P w base sp held n e ((cs.drop (i * P.cellsOf e)).take (P.cellsOf e))).map fun xs => (.agg (xs.map (·.1)), xs.flatMap (·.2)) else none := by
  simp only [DataW.trod, hu]

theorem flat_open : ∀ (d : Nat) (t : TypeId) (ks : List EK), leaves P d t = some ks → P.cellsOf t = ks.length → ks.all EK.known = true → ∀ (fuel : Nat) (cs : List Value) (x : DataW Hh × List MemPlace),
    DataW.trod enc P w base sp held fuel t cs = some x → ∃ l, FitsR ks l ∧ ∀ m, cs = AV.toVs m l
  | 0, t, ks, h => by simp [leaves] at h
  | d + 1, t, ks, h => by
    intro hcell hk fuel cs x hx
    cases fuel with
    | zero => simp [DataW.trod] at hx
    | succ fuel =>
      have hx0 := hx
      unfold leaves at h
      unfold DataW.trod at hx
      cases hu : P.underlying t with
      | none => rw [hu] at h; simp at h
      | some dd =>
        rw [hu] at h hx
        cases dd <;> simp only [Option.some.injEq, reduceCtorEq] at h
        case bool =>
          subst h
          split at hx <;> simp_all
          rename_i b
          exact ⟨[.bo b], FitsR.one rfl trivial, fun m => by simp [AV.toVs, AV.toV]⟩
        case int k =>
          subst h
          split at hx <;> simp_all
          rename_i k' n
          obtain ⟨⟨rfl, hw⟩, _⟩ := hx
          obtain ⟨v, hv, hm⟩ := av_of_int hk hw
          exact ⟨[v], FitsR.one hv.1 hv.2, fun m => by simp [AV.toVs, hm]⟩
        case string =>
          subst h
          split at hx <;> simp_all
          rename_i s
          refine ⟨[.st (s.data.toList.map UInt8.toBitVec)], FitsR.one rfl trivial, fun m => ?_⟩
          obtain ⟨⟨s⟩⟩ := s
          simp [AV.toVs, AV.toV, Function.comp_def]
        case struct fs =>
          split at h
          · simp at h
          · rw [trod_struct_eq hu] at hx0
            split at hx0
            · rename_i hl
              simp only [Option.map_eq_some_iff] at hx0
              obtain ⟨xs, hm, _⟩ := hx0
              obtain ⟨l, hf, he⟩ := fields_open (fun t ks h1 h2 h3 cs x h4 => flat_open d t ks h1 h2 h3 fuel cs x h4) cs fs.toList 0 ks xs h hk (by omega) hm
              exact ⟨l, hf, fun m => by rw [← he m, ← hcell, ← hl]; simp⟩
            · simp at hx0
        case array len e =>
          cases hke : leaves P d e with
          | none => rw [hke] at h; simp at h
          | some kl =>
            cases hi : P.info? e with
            | none => rw [hke, hi] at h; simp at h
            | some i =>
              rw [hke, hi] at h
              simp only at h
              split at h
              · rename_i hs
                simp only [Option.some.injEq] at h
                subst h
                rw [trod_array_eq hu] at hx0
                split at hx0
                · rename_i hl
                  simp only [Option.map_eq_some_iff] at hx0
                  obtain ⟨xs, hm, _⟩ := hx0
                  have hce : P.cellsOf e = kl.length := by rw [cellsOf_eq hi, hs]
                  rw [hce, List.range_eq_range'] at hm
                  have hlen : (List.replicate len kl).flatten.length = len * kl.length := by simp
                  cases hlz : len with
                  | zero =>
                    subst hlz
                    refine ⟨[], FitsR.nil, fun m => ?_⟩
                    rw [hcell] at hl
                    simp at hl
                    simp [hl, AV.toVs]
                  | succ len' =>
                    have hkl : kl.all EK.known = true := by
                      rw [hlz, List.replicate_succ, List.flatten_cons, List.all_append, Bool.and_eq_true] at hk
                      exact hk.1
                    obtain ⟨l, hf, he⟩ := items_open (d := d) hkl (fun cs x h4 => flat_open d e kl hke hce hkl fuel cs x h4) cs len 0 xs (by rw [hl, hcell, hlen]; omega) hm
                    rw [← hlz]
                    refine ⟨l, hf, fun m => ?_⟩
                    rw [← he m, ← hlen, ← hcell, ← hl]; simp
                · simp at hx0
              · simp at h
end
end Go.Ab
namespace Go.Ab

/-! ### Arguments: numbers, bools, structs and arrays of them, and slices of such, opened -/

/-- What one cell of an argument may be. -/
inductive SK where
  | k (e : EK)
  | s (el : TypeId) (ks : List EK)

def leavesSF (P : Program) (g : TypeId → Option (List SK)) : List Field → Nat → Option (List SK)
  | [], _ => some []
  | f :: fs, off => match g f.type, tyA P f.type with
    | some l, some (_, sz) => if f.offset = off ∧ sz = l.length then (leavesSF P g fs (off + sz)).map (l ++ ·) else none
    | _, _ => none
def leavesS (P : Program) : Nat → TypeId → Option (List SK)
  | 0, _ => none
  | d + 1, t => match P.underlying t with
    | some (.slice e) => match leaves P d e with
      | some ks => if P.cellsOf e = ks.length ∧ ks.all EK.known = true then some [.s e ks] else none
      | none => none
    | some (.struct fs) => leavesSF P (leavesS P d) fs.toList 0
    | _ => match leaves P (d + 1) t with
      | some ks => if ks.all EK.known = true then some (ks.map .k) else none
      | none => none

/-- What a cell reads as. -/
def fitV (w : World) : SK → Value → Prop
  | .k e, v => ∃ a : AV, (a.fits e = true ∧ a.inr) ∧ ∀ m, v = AV.toV m a
  | .s _ ks, v => v = .slice none 0 0 ∨ ∃ (a : Addr) (len cap : Nat) (es : List AV), v = .slice (some a) len cap ∧ len ≤ cap ∧ cap ≤ maxLen ∧ FitsR (List.replicate len ks).flatten es ∧
      ∀ (q : Nat) (x : AV), es[q]? = some x → ∀ m, w.cell? (a.add q) = some (AV.toV m x)
def fitsV (w : World) : List SK → List Value → Prop
  | [], [] => True
  | k :: ks, v :: vs => fitV w k v ∧ fitsV w ks vs
  | _, _ => False

theorem fitsV_append {w : World} {a b : List SK} : ∀ {l l' : List Value}, fitsV w a l → fitsV w b l' → fitsV w (a ++ b) (l ++ l') := by
  induction a with
  | nil => intro l l' h h'; cases l <;> simp_all [fitsV]
  | cons k a ih => intro l l' h h'; cases l with
    | nil => exact h.elim
    | cons v l => exact ⟨h.1, ih h.2 h'⟩

theorem fitsV_flat {w : World} : ∀ {ks : List EK} {l : List AV}, FitsR ks l → ∀ {cs : List Value}, (∀ m, cs = AV.toVs m l) → fitsV w (ks.map .k) cs
  | [], [], _, cs, h => by have := h ⟨fun _ => 0, fun _ => 0, fun _ => 0⟩; simp only [AV.toVs] at this; subst this; trivial
  | k :: ks, v :: l, hf, cs, h => by
    obtain ⟨hf, hr⟩ := hf
    simp only [fits, Bool.and_eq_true] at hf
    cases cs with
    | nil => have := h ⟨fun _ => 0, fun _ => 0, fun _ => 0⟩; simp [AV.toVs] at this
    | cons c cs =>
      refine ⟨⟨v, ⟨hf.1, hr v List.mem_cons_self⟩, fun m => ?_⟩, fitsV_flat ⟨hf.2, fun x hx => hr x (List.mem_cons_of_mem _ hx)⟩ fun m => ?_⟩
      · have := h m; simp only [AV.toVs, List.cons.injEq] at this; exact this.1
      · have := h m; simp only [AV.toVs, List.cons.injEq] at this; exact this.2
  | [], _ :: _, h, _, _ => by simp [FitsR, fits] at h
  | _ :: _, [], h, _, _ => by simp [FitsR, fits] at h

section
variable {Hh : Type} {enc : TypeId × Value → Hh} {P : Program} {w : World} {base : Nat} {sp : Nat → Bool} {held : Bool}

theorem cells_get {a : Addr} {n : Nat} {cs : List Value} (h : w.cells? base a n = some cs) : cs.length = n ∧ ∀ j, j < n → w.cell? (a.add j) = cs[j]? := by
  unfold World.cells? at h
  split at h
  · rw [List.range_eq_range'] at h
    have key : ∀ (n s : Nat) (cs : List Value), (List.range' s n).mapM (fun i => w.cell? (a.add i)) = some cs → cs.length = n ∧ ∀ j, j < n → w.cell? (a.add (s + j)) = cs[j]? := by
      intro n
      induction n with
      | zero => intro s cs h; simp at h; subst h; exact ⟨rfl, fun j hj => absurd hj (Nat.not_lt_zero _)⟩
      | succ n ih =>
        intro s cs h
        rw [List.range'_succ] at h
        obtain ⟨y, ys, hy, hys⟩ : ∃ y ys, w.cell? (a.add s) = some y ∧ (List.range' (s + 1) n).mapM (fun i => w.cell? (a.add i)) = some ys ∧ cs = y :: ys := by
          rw [List.mapM_cons] at h
          cases hy : w.cell? (a.add s) with
          | none => rw [hy] at h; simp at h
          | some y =>
            cases hr : (List.range' (s + 1) n).mapM (fun i => w.cell? (a.add i)) with
            | none => rw [hy, hr] at h; simp at h
            | some ys => rw [hy, hr] at h; simp at h; exact ⟨y, ys, rfl, rfl, h.symm⟩
        obtain ⟨h2, rfl⟩ := hys
        obtain ⟨hl, hj⟩ := ih (s + 1) ys h2
        refine ⟨by simp [hl], fun j hjn => ?_⟩
        cases j with
        | zero => simpa using hy
        | succ j => have := hj j (by omega); rw [show s + (j + 1) = s + 1 + j by omega]; simpa using this
    obtain ⟨h1, h2⟩ := key n 0 cs h
    exact ⟨h1, fun j hj => by simpa using h2 j hj⟩
  · simp at h

theorem add_add (a : Addr) (i j : Nat) (h : a.spot = none) : (a.add i).add j = a.add (i + j) := by
  obtain ⟨b, o, s⟩ := a
  subst h
  rw [add_addr, add_addr, add_addr, Nat.add_assoc]

/-- A slice's elements, opened. -/
theorem elems_open {e : TypeId} {ks : List EK} {fuel : Nat} {a : Addr} (hs : a.spot = none) (hce : P.cellsOf e = ks.length)
    (ih : ∀ cs x, DataW.trod enc P w base sp held fuel e cs = some x → ∃ l, FitsR ks l ∧ ∀ m, cs = AV.toVs m l) : ∀ (len i : Nat) (xs : List (DataW Hh × List MemPlace)),
      ((List.range' i len).mapM fun i => (w.cells? base (a.add (i * P.cellsOf e)) (P.cellsOf e)).bind (DataW.trod enc P w base sp held fuel e)) = some xs →
      ∃ es : List AV, FitsR (List.replicate len ks).flatten es ∧ ∀ (q : Nat) (x : AV), es[q]? = some x → ∀ m, w.cell? (a.add (i * ks.length + q)) = some (AV.toV m x)
  | 0, i, xs, _ => ⟨[], FitsR.nil, fun q x h => by simp at h⟩
  | len + 1, i, xs, hm => by
    rw [List.range'_succ] at hm
    obtain ⟨y, ys', hy, hys⟩ := mapM_cons_some hm
    cases hc : w.cells? base (a.add (i * P.cellsOf e)) (P.cellsOf e) with
    | none => rw [hc] at hy; simp at hy
    | some cs =>
      rw [hc] at hy
      simp only [Option.bind_some] at hy
      obtain ⟨l1, f1, e1⟩ := ih cs y hy
      obtain ⟨l2, f2, e2⟩ := elems_open hs hce ih len (i + 1) ys' hys
      obtain ⟨hlen, hget⟩ := cells_get hc
      refine ⟨l1 ++ l2, ?_, fun q x hq m => ?_⟩
      · simp only [List.replicate_succ, List.flatten_cons]; exact FitsR.append f1 f2
      · have hl1 := fits_length f1.1
        by_cases hlt : q < l1.length
        · rw [List.getElem?_append_left hlt] at hq
          have := hget q (by omega)
          rw [add_add _ _ _ hs, hce] at this
          rw [this, e1 m, AV.toVs_eq, List.getElem?_map, hq]; rfl
        · rw [List.getElem?_append_right (by omega)] at hq
          have := e2 (q - l1.length) x hq m
          rw [← this]
          congr 2
          rw [Nat.add_mul, Nat.one_mul]; omega

theorem fieldsS_open {d fuel : Nat} (ih : ∀ t ks, leavesS P d t = some ks → P.cellsOf t = ks.length → ∀ cs x, DataW.trod enc P w base sp held fuel t cs = some x → (∀ a len cap, Value.slice (some a) len cap ∈ cs → a.spot = none) → fitsV w ks cs) (cs : List Value)
    (hsp : ∀ a len cap, Value.slice (some a) len cap ∈ cs → a.spot = none) :
    ∀ (fs : List Field) (off : Nat) (ks : List SK) (xs : List (DataW Hh × List MemPlace)), leavesSF P (leavesS P d) fs off = some ks → off + ks.length ≤ cs.length →
      (fs.mapM fun f => DataW.trod enc P w base sp held fuel f.type ((cs.drop f.offset).take (P.cellsOf f.type))) = some xs → fitsV w ks ((cs.drop off).take ks.length)
  | [], off, ks, xs, h, _, _ => by
    simp only [leavesSF, Option.some.injEq] at h
    subst h
    simp [fitsV]
  | f :: fs, off, ks, xs, h, hl, hm => by
    unfold leavesSF at h
    cases hg : leavesS P d f.type with
    | none => rw [hg] at h; simp at h
    | some l0 =>
      cases ht : tyA P f.type with
      | none => rw [hg, ht] at h; simp at h
      | some q =>
        obtain ⟨ag, sz⟩ := q
        rw [hg, ht] at h
        simp only at h
        split at h
        · rename_i hc
          obtain ⟨c2, c3⟩ := hc
          subst c2 c3
          simp only [Option.map_eq_some_iff] at h
          obtain ⟨ks', h3, rfl⟩ := h
          obtain ⟨y, ys', hy, hys⟩ := mapM_cons_some hm
          simp only [List.length_append] at hl
          have hcs := cells_of_tyA ht
          rw [hcs] at hy
          have f1 := ih f.type l0 hg hcs _ y hy (fun a len cap hmem => hsp a len cap (List.mem_of_mem_drop (List.mem_of_mem_take hmem)))
          have f2 := fieldsS_open ih cs hsp fs (f.offset + l0.length) ks' ys' h3 (by omega) hys
          have := fitsV_append f1 f2
          rwa [← List.drop_drop, ← List.take_add, ← List.length_append] at this
        · simp at h

theorem trod_slice_eq {t e : TypeId} (hu : P.underlying t = some (.slice e)) (n : Nat) (a : Addr) (len cap : Nat) : DataW.trod enc P w base sp held (n + 1) t [.slice (some a) len cap] =
      (let elemAt (i : Nat) : Option (DataW Hh × List MemPlace) := (w.cells? base (a.add (i * P.cellsOf e)) (P.cellsOf e)).bind (DataW.trod enc P w base sp held n e)
      if base ≤ a.block ∧ len ≤ cap ∧ cap ≤ maxLen then
        ((List.range len).mapM elemAt).bind fun elems =>
          (if sp a.block then (List.range (cap - len)).mapM fun j => elemAt (len + j) else some []).map fun rest =>
            (.slice (elems.map (·.1)) (rest.map (·.1)), MemPlace.row a ((elems.length + rest.length) * P.cellsOf e) ++ (elems ++ rest).flatMap (·.2))
      else none) := by
  simp only [DataW.trod, hu]

theorem slice_form {t e : TypeId} (hu : P.underlying t = some (.slice e)) {n : Nat} {cs : List Value} {x : DataW Hh × List MemPlace} (hx : DataW.trod enc P w base sp held (n + 1) t cs = some x) :
    cs = [.slice none 0 0] ∨ ∃ a len cap, cs = [.slice (some a) len cap] := by
  unfold DataW.trod at hx
  rw [hu] at hx
  split at hx <;> simp_all

theorem flat_case {d : Nat} {t : TypeId} {ks : List SK} (h : (match leaves P (d + 1) t with | some ks => if ks.all EK.known = true then some (ks.map SK.k) else none | none => none) = some ks) (hcell : P.cellsOf t = ks.length) {fuel : Nat} {cs : List Value} {x : DataW Hh × List MemPlace}
    (hx : DataW.trod enc P w base sp held fuel t cs = some x) : fitsV w ks cs := by
  cases hl : leaves P (d + 1) t with
  | none => rw [hl] at h; simp at h
  | some kl =>
    rw [hl] at h
    simp only at h
    split at h
    · rename_i hk
      simp only [Option.some.injEq] at h
      subst h
      obtain ⟨l, hf, hm⟩ := flat_open (d + 1) t kl hl (by simpa using hcell) hk fuel cs x hx
      exact fitsV_flat hf hm
    · simp at h

theorem args_cells_open : ∀ (d : Nat) (t : TypeId) (ks : List SK), leavesS P d t = some ks → P.cellsOf t = ks.length → ∀ (fuel : Nat) (cs : List Value) (x : DataW Hh × List MemPlace),
    DataW.trod enc P w base sp held fuel t cs = some x → (∀ a len cap, Value.slice (some a) len cap ∈ cs → a.spot = none) → fitsV w ks cs
  | 0, t, ks, h => by simp [leavesS] at h
  | d + 1, t, ks, h => by
    intro hcell fuel cs x hx hsp
    cases fuel with
    | zero => simp [DataW.trod] at hx
    | succ fuel =>
      unfold leavesS at h
      cases hu : P.underlying t with
      | none => rw [hu] at h; exact flat_case h hcell hx
      | some dd =>
        rw [hu] at h
        cases dd
        case slice e =>
          simp only at h
          cases hl : leaves P d e with
          | none => rw [hl] at h; simp at h
          | some kl =>
            rw [hl] at h
            simp only at h
            split at h
            · rename_i hk
              simp only [Option.some.injEq] at h
              subst h
              rcases slice_form hu hx with rfl | ⟨ad, ln, cp, rfl⟩
              · exact ⟨.inl rfl, trivial⟩
              · rw [trod_slice_eq hu] at hx
                dsimp only at hx
                split at hx
                · rename_i hc
                  obtain ⟨hb, hlc, hcm⟩ := hc
                  simp only [Option.bind_eq_some_iff] at hx
                  obtain ⟨elems, hel, _⟩ := hx
                  rw [List.range_eq_range'] at hel
                  obtain ⟨es, hf, hq⟩ := elems_open (P := P) (e := e) (ks := kl) (fuel := fuel) (a := ad) (enc := enc) (sp := sp) (held := held) (base := base) (w := w) (hsp ad ln cp (List.mem_singleton.2 rfl)) hk.1 (fun cs x h4 => flat_open d e kl hl hk.1 hk.2 fuel cs x h4) _ 0 elems hel
                  exact ⟨.inr ⟨ad, _, _, es, rfl, hlc, hcm, hf, fun q x hx m => by simpa using hq q x hx m⟩, trivial⟩
                · simp at hx
            · simp at h
        case struct fs =>
          simp only at h
          rw [trod_struct_eq hu] at hx
          split at hx
          · rename_i hl
            simp only [Option.map_eq_some_iff] at hx
            obtain ⟨xs, hm, _⟩ := hx
            have := fieldsS_open (fun t ks h1 h2 cs x h3 h4 => args_cells_open d t ks h1 h2 fuel cs x h3 h4) cs hsp fs.toList 0 ks xs h (by omega) hm
            rwa [List.drop_zero, List.take_of_length_le (by omega)] at this
          · simp at hx
        all_goals exact flat_case h hcell hx
end
end Go.Ab
namespace Go.Ab

def RO (H : Heap) : Prop := ∀ i b, H i = some b → b.ro = true

/-- A slice's place is a place of the memory. -/
def slOk (w : World) (v : Value) : Prop := ∀ a len cap, v = .slice (some a) len cap → a.spot = none ∧ ∃ (c : Array Value) (el : TypeId) (fz : Nat × Nat), w.heap[a.block]? = some (.cells c el fz) ∧ a.off ≤ c.size

theorem rowAt_le {p : Program} {fits : TypeId → Bool} : ∀ {d : Nat} {e : TypeId} {count off n : Nat}, rowAt p fits d e count off n = true → off ≤ count * p.cellsOf e
  | 0, _, _, _, _, h => by simp [rowAt] at h
  | d + 1, e, count, off, n, h => by
    unfold rowAt at h
    simp only at h
    split at h
    · simp at h
    · rename_i hs
      have hdm := Nat.div_add_mod off (p.cellsOf e)
      have hml := Nat.mod_lt off (Nat.pos_of_ne_zero hs)
      have key : ∀ i, i + 1 ≤ count → p.cellsOf e * i + p.cellsOf e ≤ count * p.cellsOf e := fun i hi => by
        have := Nat.mul_le_mul_right (p.cellsOf e) hi
        rw [Nat.add_mul, Nat.one_mul, Nat.mul_comm i] at this; exact this
      simp only [Bool.or_eq_true, Bool.and_eq_true, beq_iff_eq, decide_eq_true_eq] at h
      rcases h with ⟨⟨h1, h2⟩, _⟩ | ⟨h1, _⟩
      · have := Nat.mul_le_mul_right (p.cellsOf e) (show off / p.cellsOf e ≤ count by omega)
        rw [Nat.mul_comm (off / p.cellsOf e)] at this
        omega
      · have := key _ h1
        omega

theorem liesAt_le {p : Program} {e : TypeId} {count off : Nat} : ∀ {d : Nat} {u : TypeId} {n : Nat}, liesAt p d e count off u n = true → off ≤ count * p.cellsOf e
  | 0, _, _, h => by simp [liesAt] at h
  | d + 1, u, n, h => by
    unfold liesAt at h
    simp only [Bool.or_eq_true] at h
    rcases h with h | h
    · exact rowAt_le h
    · split at h
      · exact liesAt_le h
      · simp at h

theorem slOk_of_cell {P : Program} {w : World} {r : Reach} {base : Nat} {u : TypeId} {v : Value} (h : Cell.okWide P w r base u v) : slOk w v := by
  rintro a len cap rfl
  unfold Cell.okWide at h
  split at h <;> try (rename_i h1 h2; simp at h2; done)
  rename_i h1 h2 h3 h4 h5 h6 h7 h8
  unfold Cell.ok at h
  split at h <;> try (rename_i q1 q2; simp at q2; done)
  · rename_i q1 q2
    simp only [Value.slice.injEq, Option.some.injEq] at q2
    obtain ⟨rfl, rfl, rfl⟩ := q2
    obtain ⟨_, _, _, hsp, row, cells, hsh, hl⟩ := h
    refine ⟨hsp, ?_⟩
    unfold World.shape? at hsh
    split at hsh
    · rename_i c el fz hc
      simp only [Option.some.injEq, Prod.mk.injEq] at hsh
      obtain ⟨rfl, rfl⟩ := hsh
      exact ⟨c, el, fz, hc, Nat.le_trans (liesAt_le hl) (Nat.div_mul_le_self _ _)⟩
    · simp at hsh
  · exact h.elim

theorem fits_ok : ∀ {ks : List EK} {l : List AV}, fits ks l = true → ∀ v ∈ l, (∀ n, v.ok n = true) ∧ v.one = true
  | [], [], _, v, hv => by simp at hv
  | [], _ :: _, h, _, _ => by simp [fits] at h
  | _ :: _, [], h, _, _ => by simp [fits] at h
  | k :: ks, x :: l, h, v, hv => by
    simp only [fits, Bool.and_eq_true] at h
    rcases List.mem_cons.1 hv with rfl | hv
    · have := h.1
      unfold AV.fits at this
      split at this <;> first | exact ⟨fun _ => rfl, rfl⟩ | simp at this
    · exact fits_ok h.2 v hv

def fitL (H : Heap) : SK → AV → Prop
  | .k e, v => v.fits e = true ∧ v.inr
  | .s _ ks, v => v = .sn ∨ ∃ (b len cap : Nat) (es : List AV) (el : TypeId), v = .sl b 0 len cap ∧ len ≤ cap ∧ cap ≤ maxLen ∧ FitsR (List.replicate len ks).flatten es ∧ H b = some ⟨es, el, true⟩
def fitsL (H : Heap) : List SK → List AV → Prop
  | [], [] => True
  | k :: ks, v :: vs => fitL H k v ∧ fitsL H ks vs
  | _, _ => False

theorem fitL.mono {H H' : Heap} {n : Nat} (h : ∀ i, i < n → H' i = H i) {k : SK} {v : AV} (ho : v.ok n = true) (hf : fitL H k v) : fitL H' k v := by
  cases k with
  | k e => exact hf
  | s el ks =>
    rcases hf with hf | ⟨b, len, cap, es, el, rfl, h1, h2, h3, h4⟩
    · exact .inl hf
    · simp only [AV.ok, decide_eq_true_eq] at ho
      exact .inr ⟨b, len, cap, es, el, rfl, h1, h2, h3, by rw [h b ho]; exact h4⟩
theorem fitsL.mono {H H' : Heap} {n : Nat} (h : ∀ i, i < n → H' i = H i) : ∀ {ks : List SK} {l : List AV}, (∀ v ∈ l, v.ok n = true) → fitsL H ks l → fitsL H' ks l
  | [], [], _, _ => trivial
  | [], _ :: _, _, hf => hf.elim
  | _ :: _, [], _, hf => hf.elim
  | k :: ks, x :: l, ho, hf => ⟨fitL.mono h (ho x List.mem_cons_self) hf.1, fitsL.mono h (fun v hv => ho v (List.mem_cons_of_mem _ hv)) hf.2⟩

/-- What naming more leaves. -/
structure More (w : World) (m : NM) (H : Heap) (n : Nat) (m' : NM) (H' : Heap) (n' : Nat) : Prop where
  rel : HRel m' H' n' w
  ro : RO H'
  le : n ≤ n'
  ag : NM.agree n m m'
  old : ∀ i, i < n → H' i = H i

theorem More.trans {w : World} {m m' m'' : NM} {H H' H'' : Heap} {n n' n'' : Nat} (h : More w m H n m' H' n') (h' : More w m' H' n' m'' H'' n'') : More w m H n m'' H'' n'' :=
  ⟨h'.rel, h'.ro, Nat.le_trans h.le h'.le, h.ag.trans h'.ag h.le, fun i hi => by rw [h'.old i (by have := h.le; omega), h.old i hi]⟩

theorem name_cell {w : World} {k : SK} {v : Value} (hf : fitV w k v) (ho : slOk w v) {m : NM} {H : Heap} {n : Nat} (hH : HRel m H n w) (hr : RO H) :
    ∃ m' H' n' x, More w m H n m' H' n' ∧ v = AV.toV m' x ∧ x.ok n' = true ∧ x.one = true ∧ fitL H' k x := by
  cases k with
  | k e =>
    obtain ⟨a, ha, hv⟩ := hf
    have := fits_ok (ks := [e]) (l := [a]) (by simp [fits, ha.1]) a List.mem_cons_self
    exact ⟨m, H, n, a, ⟨hH, hr, Nat.le_refl _, NM.agree.refl _ _, fun _ _ => rfl⟩, hv m, this.1 n, this.2, ha⟩
  | s el ks =>
    rcases hf with rfl | ⟨a, len, cap, es, rfl, h1, h2, h3, h4⟩
    · exact ⟨m, H, n, .sn, ⟨hH, hr, Nat.le_refl _, NM.agree.refl _ _, fun _ _ => rfl⟩, rfl, rfl, rfl, .inl rfl⟩
    · obtain ⟨hsp, c, el', fz, hc, hoff⟩ := ho a len cap rfl
      have hag : NM.agree n m ⟨fun i => if i = n then a.block else m.ρ i, fun i => if i = n then c.size - a.off else m.κ i, fun i => if i = n then a.off else m.β i⟩ := fun i hi => by
        simp only [if_neg (Nat.ne_of_lt hi)]; exact ⟨trivial, trivial, trivial⟩
      have hcell : ∀ q, w.cell? (a.add q) = c[a.off + q]? := fun q => by
        obtain ⟨b, o, s⟩ := a
        simp only at hsp; subst hsp
        rw [add_addr]; simp only [World.cell?, hc]; simp
      have hes := fits_ok h3.1
      refine ⟨_, H.upd n (some ⟨es, el', true⟩), n + 1, .sl n 0 len cap, ⟨⟨?_, ?_, ?_, ?_⟩, ?_, Nat.le_succ _, hag, fun i hi => Heap.upd_ne _ _ (Nat.ne_of_lt hi)⟩, ?_, by simp [AV.ok], rfl, .inr ⟨n, len, cap, es, el', rfl, h1, h2, h3, Heap.upd_same _ _ _⟩⟩
      · intro i b hi
        by_cases hn : i = n
        · omega
        · rw [Heap.upd_ne _ _ hn] at hi; have := hH.dom i b hi; omega
      · intro i b hi
        by_cases hn : i = n
        · subst hn
          rw [Heap.upd_same] at hi
          simp only [Option.some.injEq] at hi; subst hi
          refine ⟨c, fz, by simpa using hc, by simp; omega, fun h0 => by simp at h0, fun q x hq => ?_⟩
          simp only [if_true]
          rw [← hcell q]
          exact h4 q x hq _
        · rw [Heap.upd_ne _ _ hn] at hi
          obtain ⟨c', fz', hc', hk', hf', hv'⟩ := hH.blk i b hi
          refine ⟨c', fz', by simpa [hn] using hc', by simpa [hn] using hk', fun h0 => by simpa [hn] using hf' h0, fun q x hq => ?_⟩
          simp only [if_neg hn]
          rw [hv' q x hq, AV.toV_agree hag x (hH.ok i b hi x (List.mem_of_getElem? hq)).1]
      · intro i j bi bj hi hj hne hro
        by_cases hn : i = n
        · subst hn; rw [Heap.upd_same] at hi; simp only [Option.some.injEq] at hi; subst hi; simp at hro
        · rw [Heap.upd_ne _ _ hn] at hi; rw [hr i bi hi] at hro; simp at hro
      · intro i b hi x hx
        by_cases hn : i = n
        · subst hn
          rw [Heap.upd_same] at hi
          simp only [Option.some.injEq] at hi; subst hi
          exact ⟨(hes x hx).1 _, (hes x hx).2⟩
        · rw [Heap.upd_ne _ _ hn] at hi
          have := hH.ok i b hi x hx
          exact ⟨AV.ok_mono (Nat.le_succ _) x this.1, this.2⟩
      · intro i b hi
        by_cases hn : i = n
        · subst hn; rw [Heap.upd_same] at hi; simp only [Option.some.injEq] at hi; subst hi; rfl
        · rw [Heap.upd_ne _ _ hn] at hi; exact hr i b hi
      · obtain ⟨b, o, s⟩ := a
        simp only at hsp; subst hsp
        simp [AV.toV]

theorem name_cells {w : World} : ∀ {ks : List SK} {cs : List Value}, fitsV w ks cs → (∀ v ∈ cs, slOk w v) → ∀ {m : NM} {H : Heap} {n : Nat}, HRel m H n w → RO H →
    ∃ m' H' n' l, More w m H n m' H' n' ∧ cs = l.map (AV.toV m') ∧ (∀ x ∈ l, x.ok n' = true ∧ x.one = true) ∧ fitsL H' ks l
  | [], [], _, _, m, H, n, hH, hr => ⟨m, H, n, [], ⟨hH, hr, Nat.le_refl _, NM.agree.refl _ _, fun _ _ => rfl⟩, rfl, by simp, trivial⟩
  | [], _ :: _, h, _, _, _, _, _, _ => h.elim
  | _ :: _, [], h, _, _, _, _, _, _ => h.elim
  | k :: ks, v :: cs, hf, ho, m, H, n, hH, hr => by
    obtain ⟨m1, H1, n1, x, M1, e1, o1, p1, f1⟩ := name_cell hf.1 (ho v List.mem_cons_self) hH hr
    obtain ⟨m2, H2, n2, l, M2, e2, o2, f2⟩ := name_cells hf.2 (fun v hv => ho v (List.mem_cons_of_mem _ hv)) M1.rel M1.ro
    refine ⟨m2, H2, n2, x :: l, M1.trans M2, ?_, ?_, fitL.mono M2.old o1 f1, f2⟩
    · rw [List.map_cons, e1, e2, AV.toV_agree M2.ag x o1]
    · intro y hy
      rcases List.mem_cons.1 hy with rfl | hy
      · exact ⟨AV.ok_mono M2.le _ o1, p1⟩
      · exact o2 y hy

/-- A parameter's kind: one cell, or a struct or an array. -/
inductive AK where
  | one (k : SK)
  | ag (ks : List SK)
def argT (P : Program) (t : TypeId) : Option AK :=
  match leavesS P 20 t, tyA P t with
  | some ks, some (true, sz) => if sz = ks.length then some (.ag ks) else none
  | some [k], some (false, 1) => some (.one k)
  | _, _ => none
def fitA (H : Heap) : AK → AV → Prop
  | .one k, v => fitL H k v
  | .ag ks, v => ∃ l, v = .ag l ∧ fitsL H ks l
def fitAs (H : Heap) : List AK → List AV → Prop
  | [], [] => True
  | k :: ks, v :: vs => fitA H k v ∧ fitAs H ks vs
  | _, _ => False

theorem fitA.mono {H H' : Heap} {n : Nat} (h : ∀ i, i < n → H' i = H i) {k : AK} {v : AV} (ho : v.ok n = true) (hf : fitA H k v) : fitA H' k v := by
  cases k with
  | one k => exact fitL.mono h ho hf
  | ag ks =>
    obtain ⟨l, rfl, hf⟩ := hf
    simp only [AV.ok, Bool.and_eq_true, AV.oks_eq, List.all_eq_true] at ho
    exact ⟨l, rfl, fitsL.mono h ho.1 hf⟩

theorem one_cells {v : Value} (h : ∀ cs, v ≠ .agg cs) : v.cells.toList = [v] := by
  unfold Value.cells
  split
  · rename_i cs; exact absurd rfl (h cs)
  · rfl

section
variable {Hh : Type} {enc : TypeId × Value → Hh} {P : Program} {w : World} {base : Nat} {sp : Nat → Bool} {held : Bool}

theorem cell_not_agg {r : Reach} {u : TypeId} {v : Value} (h : Cell.okWide P w r base u v) : ∀ cs, v ≠ .agg cs := by
  rintro cs rfl
  unfold Cell.okWide at h
  split at h <;> try (rename_i h1 h2; simp at h2; done)
  unfold Cell.ok at h
  split at h <;> first | exact h.elim | (rename_i q1 q2; simp at q2)

theorem name_arg {r : Reach} {b0 : Nat} {t : TypeId} {v : Value} {d : DataW Hh} {ps : List MemPlace} {k : AK} (ht : argT P t = some k) (hval : Value.okWide P w r b0 t v) (hd : DataW.Trod enc P w base sp held t v d ps)
    {m : NM} {H : Heap} {n : Nat} (hH : HRel m H n w) (hr : RO H) : ∃ m' H' n' x, More w m H n m' H' n' ∧ v = AV.toV m' x ∧ x.ok n' = true ∧ x ≠ .junk ∧ fitA H' k x := by
  obtain ⟨fuel, hd⟩ := hd
  unfold argT at ht
  split at ht
  · rename_i ks sz hl hty
    split at ht
    · rename_i hsz
      simp only [Option.some.injEq] at ht; subst ht
      have hcell := cells_of_tyA hty
      have hform : ∃ cs, v = .agg cs ∧ cs.size = P.cellsOf t ∧ Row.okWide P w r b0 t cs := by
        rcases (tyA_ag hty).1 rfl with ⟨fs, hu⟩ | ⟨q, e, hu⟩ <;> simpa [Value.okWide, hu] using hval
      obtain ⟨cs, rfl, hcs, ts, _, _, hrow⟩ := hform
      have hok : ∀ v ∈ cs.toList, slOk w v := fun v hv => by
        obtain ⟨i, hi, rfl⟩ := List.getElem_of_mem hv
        obtain ⟨u, _, hu⟩ := hrow i cs.toList[i] (by simp at hi; simp [hi])
        exact slOk_of_cell hu
      have hfit := args_cells_open 20 t ks hl (by rw [hcell, hsz]) fuel cs.toList (d, ps) hd (fun a len cap hm => (hok _ hm a len cap rfl).1)
      obtain ⟨m', H', n', l, M, e, o, f⟩ := name_cells hfit hok hH hr
      refine ⟨m', H', n', .ag l, M, ?_, ?_, by simp, l, rfl, f⟩
      · simp only [AV.toV, AV.toVs_eq, ← e]
      · simp only [AV.ok, AV.oks_eq, Bool.and_eq_true, List.all_eq_true]
        exact ⟨fun x hx => (o x hx).1, fun x hx => (o x hx).2⟩
    · simp at ht
  · rename_i k' hl hty
    simp only [Option.some.injEq] at ht; subst ht
    have hcell := cells_of_tyA hty
    have hc : Cell.okWide P w r b0 t v := by
      have hna : ¬ ((∃ fs, P.underlying t = some (.struct fs)) ∨ ∃ n e, P.underlying t = some (.array n e)) := fun h => by
        have := (tyA_ag hty).2 h; simp at this
      unfold Value.okWide at hval
      split at hval
      · rename_i fs hu; exact absurd (.inl ⟨_, hu⟩) hna
      · rename_i q e hu; exact absurd (.inr ⟨_, _, hu⟩) hna
      · exact hval
    have hv := one_cells (cell_not_agg hc)
    rw [hv] at hd
    have hok := slOk_of_cell hc
    have hfit := args_cells_open 20 t [k'] hl (by rw [hcell]; rfl) fuel [v] (d, ps) hd (fun a len cap hm => by
      rw [List.mem_singleton] at hm; exact (hok a len cap hm.symm).1)
    obtain ⟨m', H', n', x, M, e, o, o1, f⟩ := name_cell hfit.1 hok hH hr
    exact ⟨m', H', n', x, M, e, o, by rintro rfl; simp [AV.one] at o1, f⟩
  · simp at ht

/-- ALL ARGUMENTS, NAMED. -/
theorem name_args {r : Reach} {b0 : Nat} : ∀ {ts : List TypeId} {vs : List Value} {ds : List (DataW Hh)} {ps : List MemPlace} {sh : List AK}, DataW.TrodAll enc P w base sp held ts vs ds ps → ts.map (argT P) = sh.map some →
    (∀ (j : Nat) t v, ts[j]? = some t → vs[j]? = some v → Value.okWide P w r b0 t v) → ∀ {m : NM} {H : Heap} {n : Nat}, HRel m H n w → RO H →
    ∃ m' H' n' L, More w m H n m' H' n' ∧ vs = L.map (AV.toV m') ∧ (∀ x ∈ L, x.ok n' = true ∧ x ≠ .junk) ∧ fitAs H' sh L
  | [], vs, ds, ps, sh, h, hs, _, m, H, n, hH, hr => by
    have hvs : vs = [] := by
      cases vs with
      | nil => rfl
      | cons a b => cases ds <;> exact h.elim
    subst hvs
    cases sh with
    | nil => exact ⟨m, H, n, [], ⟨hH, hr, Nat.le_refl _, NM.agree.refl _ _, fun _ _ => rfl⟩, rfl, by simp, trivial⟩
    | cons a b => simp at hs
  | t :: ts, vs, ds, ps, sh, h, hs, hval, m, H, n, hH, hr => by
    cases sh with
    | nil => simp at hs
    | cons k sh =>
      simp only [List.map_cons, List.cons.injEq] at hs
      cases vs with
      | nil => cases ds <;> exact h.elim
      | cons v vs =>
        cases ds with
        | nil => exact h.elim
        | cons d ds =>
          obtain ⟨p, q, h1, h2, _⟩ := h
          obtain ⟨m1, H1, n1, x, M1, e1, o1, j1, f1⟩ := name_arg hs.1 (hval 0 t v rfl rfl) h1 hH hr
          obtain ⟨m2, H2, n2, l, M2, e2, o2, f2⟩ := name_args h2 hs.2 (fun j t v ht hv => hval (j + 1) t v (by simpa using ht) (by simpa using hv)) M1.rel M1.ro
          refine ⟨m2, H2, n2, x :: l, M1.trans M2, ?_, ?_, fitA.mono M2.old o1 f1, f2⟩
          · rw [List.map_cons, e1, e2, AV.toV_agree M2.ag x o1]
          · intro y hy
            rcases List.mem_cons.1 hy with rfl | hy
            · exact ⟨AV.ok_mono M2.le _ o1, j1⟩
            · exact o2 y hy
end
end Go.Ab
namespace Go.Ab
open Go.RowKit

section
variable {Hh : Type} {enc : TypeId × Value → Hh}
theorem trodAll_len {P : Program} {w : World} {base : Nat} {sp : Nat → Bool} {held : Bool} : ∀ {ts : List TypeId} {vs : List Value} {ds : List (DataW Hh)} {ps : List MemPlace}, DataW.TrodAll enc P w base sp held ts vs ds ps → ds.length = ts.length
  | [], vs, ds, ps, h => by
    cases vs with
    | nil => cases ds with
      | nil => rfl
      | cons a b => exact h.elim
    | cons a b => cases ds <;> exact h.elim
  | t :: ts, vs, ds, ps, h => by
    cases vs with
    | nil => cases ds <;> exact h.elim
    | cons v vs => cases ds with
      | nil => exact h.elim
      | cons d ds =>
        obtain ⟨p, q, _, h2, _⟩ := h
        simp [trodAll_len h2]

/-- A law of whatever arguments that comes to true. -/
theorem law_calls_args {P : Program} {f : FuncId} {fn : Func} (hf : P.funcs[f]? = some fn) (hname : (fn.name == "runtime.NumGoroutine") = false) (hb : fn.body.isNone = false) {ts : List TypeId} {sh : List AK}
    (hs : ts.map (argT P) = sh.map some) (h : ∀ (H : Heap) (n : Nat) (L : List AV), RO H → H.wf n → (∀ x ∈ L, x.ok n = true) → fitAs H sh L → ACalls P f L H n fun v _ _ => v = .bo true)
    {w : World} {r : Reach} {base b0 : Nat} {sp : Nat → Bool} {held : Bool} {args : Array Value} {ds : List (DataW Hh)} {ps : List MemPlace} (hA : DataW.TrodAll enc P w base sp held ts args.toList ds ps)
    (hval : ∀ (j : Nat) t v, ts[j]? = some t → args.toList[j]? = some v → Value.okWide P w r b0 t v) :
    Calls P f args w fun e w' => e = .returned (.bool true) ∧ Below w.heap.size w w' := by
  obtain ⟨m, H, n, L, M, e, o, fit⟩ := name_args hA hs hval (nilH_rel ⟨fun _ => 0, fun _ => 0, fun _ => 0⟩ 0 w) (fun i b hi => by simp [nilH] at hi)
  have hargs : args = (L.map (AV.toV m)).toArray := by rw [← e]
  rw [hargs]
  exact law_calls hf hname hb (h H n L M.ro M.rel.wf (fun x hx => (o x hx).1) fit) M.ro M.rel (fun x hx => (o x hx).1)
end
end Go.Ab
namespace Go.Ab
attribute [go_sem] BitVec.reduceToNat Int.cast_ofNat_Int Nat.zero_add Nat.mul_one Nat.one_mul beq_self_eq_true bne_self_eq_false
@[go_sem] theorem nat_nonneg (i : Nat) : (0 ≤ (i : Int)) = True := eq_true (Int.natCast_nonneg i)

@[go_sem] theorem binB_shl_u8_u64 {P : Program} {t : TypeId} {x : BitVec 8} {y : BitVec 64} {K : AV → Prop} : (binB .shl P t (.u8 x) (.u64 y) K) = (K (.u8 (x <<< y.toNat))) := by simp [binB, isShift, binShift, idx, shU]
@[go_sem] theorem binB_shr_u8_u64 {P : Program} {t : TypeId} {x : BitVec 8} {y : BitVec 64} {K : AV → Prop} : (binB .shr P t (.u8 x) (.u64 y) K) = (K (.u8 (x >>> y.toNat))) := by simp [binB, isShift, binShift, idx, shU]
@[go_sem] theorem binB_shl_u16_u64 {P : Program} {t : TypeId} {x : BitVec 16} {y : BitVec 64} {K : AV → Prop} : (binB .shl P t (.u16 x) (.u64 y) K) = (K (.u16 (x <<< y.toNat))) := by simp [binB, isShift, binShift, idx, shU]
@[go_sem] theorem binB_shr_u16_u64 {P : Program} {t : TypeId} {x : BitVec 16} {y : BitVec 64} {K : AV → Prop} : (binB .shr P t (.u16 x) (.u64 y) K) = (K (.u16 (x >>> y.toNat))) := by simp [binB, isShift, binShift, idx, shU]
@[go_sem] theorem binB_shl_u32_u64 {P : Program} {t : TypeId} {x : BitVec 32} {y : BitVec 64} {K : AV → Prop} : (binB .shl P t (.u32 x) (.u64 y) K) = (K (.u32 (x <<< y.toNat))) := by simp [binB, isShift, binShift, idx, shU]
@[go_sem] theorem binB_shr_u32_u64 {P : Program} {t : TypeId} {x : BitVec 32} {y : BitVec 64} {K : AV → Prop} : (binB .shr P t (.u32 x) (.u64 y) K) = (K (.u32 (x >>> y.toNat))) := by simp [binB, isShift, binShift, idx, shU]
@[go_sem] theorem binB_shl_u64_u64 {P : Program} {t : TypeId} {x : BitVec 64} {y : BitVec 64} {K : AV → Prop} : (binB .shl P t (.u64 x) (.u64 y) K) = (K (.u64 (x <<< y.toNat))) := by simp [binB, isShift, binShift, idx, shU]
@[go_sem] theorem binB_shr_u64_u64 {P : Program} {t : TypeId} {x : BitVec 64} {y : BitVec 64} {K : AV → Prop} : (binB .shr P t (.u64 x) (.u64 y) K) = (K (.u64 (x >>> y.toNat))) := by simp [binB, isShift, binShift, idx, shU]
@[go_sem] theorem binB_shl_i64_u8 {P : Program} {t : TypeId} {x : Int} {y : BitVec 8} {K : AV → Prop} : (binB .shl P t (.i64 x) (.u8 y) K) = (K (.i64 (wrap64 (x * 2 ^ min y.toNat 64)))) := by simp [binB, isShift, binShift, idx, shI]
@[go_sem] theorem binB_shr_i64_u8 {P : Program} {t : TypeId} {x : Int} {y : BitVec 8} {K : AV → Prop} : (binB .shr P t (.i64 x) (.u8 y) K) = (K (.i64 (x / 2 ^ min y.toNat 64))) := by simp [binB, isShift, binShift, idx, shI]
@[go_sem] theorem binB_shl_i64_u16 {P : Program} {t : TypeId} {x : Int} {y : BitVec 16} {K : AV → Prop} : (binB .shl P t (.i64 x) (.u16 y) K) = (K (.i64 (wrap64 (x * 2 ^ min y.toNat 64)))) := by simp [binB, isShift, binShift, idx, shI]
@[go_sem] theorem binB_shr_i64_u16 {P : Program} {t : TypeId} {x : Int} {y : BitVec 16} {K : AV → Prop} : (binB .shr P t (.i64 x) (.u16 y) K) = (K (.i64 (x / 2 ^ min y.toNat 64))) := by simp [binB, isShift, binShift, idx, shI]
@[go_sem] theorem binB_shl_i64_u32 {P : Program} {t : TypeId} {x : Int} {y : BitVec 32} {K : AV → Prop} : (binB .shl P t (.i64 x) (.u32 y) K) = (K (.i64 (wrap64 (x * 2 ^ min y.toNat 64)))) := by simp [binB, isShift, binShift, idx, shI]
@[go_sem] theorem binB_shr_i64_u32 {P : Program} {t : TypeId} {x : Int} {y : BitVec 32} {K : AV → Prop} : (binB .shr P t (.i64 x) (.u32 y) K) = (K (.i64 (x / 2 ^ min y.toNat 64))) := by simp [binB, isShift, binShift, idx, shI]
@[go_sem] theorem binB_shl_i64_u64 {P : Program} {t : TypeId} {x : Int} {y : BitVec 64} {K : AV → Prop} : (binB .shl P t (.i64 x) (.u64 y) K) = (K (.i64 (wrap64 (x * 2 ^ min y.toNat 64)))) := by simp [binB, isShift, binShift, idx, shI]
@[go_sem] theorem binB_shr_i64_u64 {P : Program} {t : TypeId} {x : Int} {y : BitVec 64} {K : AV → Prop} : (binB .shr P t (.i64 x) (.u64 y) K) = (K (.i64 (x / 2 ^ min y.toNat 64))) := by simp [binB, isShift, binShift, idx, shI]

/-- What is known behind a piece of code: it stands as at some state. -/
def Ends {S : Type} (E : S → Env) (G : S → Heap) (nn : S → Nat) (I : S → Prop) (n : Nat) (env' : Env) (H' : Heap) (n' : Nat) : Prop :=
  ∃ s, I s ∧ (E s).le env' ∧ (∀ i, i < nn s → H' i = G s i) ∧ n ≤ nn s ∧ nn s ≤ n'
theorem Ends.mk {S : Type} {E : S → Env} {G : S → Heap} {nn : S → Nat} {I : S → Prop} {n : Nat} {env' : Env} {H' : Heap} {n' : Nat} (s : S) (hI : I s) (he : (E s).le env') (hh : ∀ i, i < nn s → H' i = G s i) (hn : n ≤ nn s) (hn' : nn s ≤ n') :
    Ends E G nn I n env' H' n' := ⟨s, hI, he, hh, hn, hn'⟩

/-- A LOOP by states of a kind of one's own: slots, memory and the count of names are functions of the state. What a round makes beyond that count is given up. -/
theorem awp_loopF {P : Program} {N : Nat} {c : Code} {K : Exit → Env → Heap → Nat → Prop} {S : Type} (E : S → Env) (G : S → Heap) (nn : S → Nat) (I : S → Prop) (μ : S → Nat)
    (hwf : ∀ s, I s → (G s).wf (nn s) ∧ (E s).okAt (nn s))
    (round : ∀ s, I s → awp P N c (seqK (Ends E G nn (fun s' => μ s' < μ s ∧ I s') (nn s)) K) (E s) (G s) (nn s))
    {env : Env} {H : Heap} {n : Nat} (s0 : S) (h0 : I s0) (he : (E s0).le env) (hh : ∀ i, i < nn s0 → H i = G s0 i) (hn : n = nn s0) : awp P N (.loop c) K env H n := by
  have hle : ∀ s, I s → ∀ H', (∀ i, i < nn s → H' i = G s i) → (G s).le H' := fun s hs H' h => Heap.le_on (hwf s hs).1 h
  intro m0 H0 n0 w0 m a w hI hE b k cs
  have key : ∀ (j : Nat) (s : S) (m : NM) (a : Act) (w : World), μ s = j → I s → Inv m0 H0 n0 w0 m (G s) (nn s) w → ERel m N (nn s) (E s) a →
      ∃ e a' w', (∃ m' env' H' n', Inv m0 H0 n0 w0 m' H' n' w' ∧ ERel m' N n' env' a' ∧ K e env' H' n') ∧ Arrives P (lone (b.at a (.code c :: .inLoop c :: k)) cs w) b k cs e a' w' := by
    intro j
    induction j using Nat.strongRecOn with
    | _ j ih =>
      intro s m a w hj hs hI hE
      obtain ⟨e, a₁, w₁, ⟨m₁, env₁, H₁, n₁, hI₁, hE₁, hq⟩, harr⟩ := round s hs m0 H0 n0 w0 m a w hI hE b (.inLoop c :: k) cs
      cases e with
      | normal =>
        obtain ⟨s', ⟨hlt, hs'⟩, he, hh, hn, hn'⟩ := hq
        have hI2 : Inv m0 H0 n0 w0 m₁ (G s') (nn s') w₁ :=
          ⟨(hI₁.rel.weaken (hle s' hs' _ hh)).cut (hwf s' hs').1, Nat.le_trans hI.le hn, hI₁.ag, hI₁.fr.weaken (hle s' hs' _ hh)⟩
        have hE2 : ERel m₁ N (nn s') (E s') a₁ := by
          have := hE₁.weaken he
          exact ⟨this.size, this.defers, fun t ht => ⟨(this.get t ht).1, (hwf s' hs').2 t ht⟩⟩
        obtain ⟨e₂, a₂, w₂, hq₂, harr₂⟩ := ih (μ s') (hj ▸ hlt) s' m₁ a₁ w₁ rfl hs' hI2 hE2
        exact ⟨e₂, a₂, w₂, hq₂, .of_steps (Steps.trans harr (.one step_inLoop)) harr₂⟩
      | exit id => exact ⟨_, a₁, w₁, ⟨m₁, env₁, H₁, n₁, hI₁, hE₁, hq⟩, .pass (x := .inLoop c) rfl (fun _ _ => .inl (by simp)) harr⟩
      | goto l => exact ⟨_, a₁, w₁, ⟨m₁, env₁, H₁, n₁, hI₁, hE₁, hq⟩, .pass (x := .inLoop c) rfl (fun _ _ => .inl (by simp)) harr⟩
      | ret => exact ⟨_, a₁, w₁, ⟨m₁, env₁, H₁, n₁, hI₁, hE₁, hq⟩, .pass (x := .inLoop c) rfl (fun _ _ => .inl (by simp)) harr⟩
      | panic ch => exact ⟨_, a₁, w₁, ⟨m₁, env₁, H₁, n₁, hI₁, hE₁, hq⟩, .pass (x := .inLoop c) rfl (fun _ _ => .inl (by simp)) harr⟩
      | outgrown => exact ⟨_, a₁, w₁, ⟨m₁, env₁, H₁, n₁, hI₁, hE₁, hq⟩, .pass (x := .inLoop c) rfl (fun _ _ => .inl (by simp)) harr⟩
  subst hn
  obtain ⟨e, a', w', hq, harr⟩ := key _ s0 m a w rfl h0 ⟨hI.rel.weaken (hle s0 h0 _ hh), hI.le, hI.ag, hI.fr.weaken (hle s0 h0 _ hh)⟩ (hE.weaken he)
  exact ⟨e, a', w', hq, .of_steps (.one step_loop) harr⟩

theorem awp_ev {P : Program} {N : Nat} (T : Nat → Draw) {c : Code} {K : Exit → Env → Heap → Nat → Prop} {env : Env} {H : Heap} {n : Nat} (hok : codeOk P N T c = true) (h : ev P N T c K env H n) : awp P N c K env H n :=
  ev_sound c K env H n hok h

/-- A statement, its meaning told; what is known behind it is chosen anew, and what it made beyond nn is given up. -/
theorem awp_seqF {P : Program} {N : Nat} {S : Type} (E : S → Env) (G : S → Heap) (nn : S → Nat) (I : S → Prop) (hwf : ∀ s, I s → (G s).wf (nn s) ∧ (E s).okAt (nn s)) {a b : Code} {K : Exit → Env → Heap → Nat → Prop} {env : Env} {H : Heap} {n : Nat}
    (h1 : awp P N a (seqK (Ends E G nn I n) K) env H n)
    (h2 : ∀ s, I s → awp P N b K (E s) (G s) (nn s)) : awp P N (.seq a b) K env H n := by
  intro m0 H0 n0 w0 m ac w hI hE
  refine wp_seq (wp_mono (h1 m0 H0 n0 w0 m ac w hI hE) ?_)
  rintro e a' w' ⟨m', env', H', n', hI', hE', hq⟩
  cases e with
  | normal =>
    obtain ⟨s, hs, he, hh, hn, hn'⟩ := hq
    have hl : (G s).le H' := Heap.le_on (hwf s hs).1 hh
    have h3 := hE'.weaken he
    exact h2 s hs m0 H0 n0 w0 m' a' w' ⟨(hI'.rel.weaken hl).cut (hwf s hs).1, Nat.le_trans hI.le hn, hI'.ag, hI'.fr.weaken hl⟩ ⟨h3.size, h3.defers, fun t ht => ⟨(h3.get t ht).1, (hwf s hs).2 t ht⟩⟩
  | exit id => exact ⟨m', env', H', n', hI', hE', hq⟩
  | goto l => exact ⟨m', env', H', n', hI', hE', hq⟩
  | ret => exact ⟨m', env', H', n', hI', hE', hq⟩
  | panic ch => exact ⟨m', env', H', n', hI', hE', hq⟩
  | outgrown => exact ⟨m', env', H', n', hI', hE', hq⟩

theorem Env.okAt_of {e : Env} {n : Nat} (h : e.all (fun p => p.2.ok n) = true) : e.okAt n := by
  induction e with
  | nil => exact Env.okAt_nil n
  | cons p e ih =>
    simp only [List.all_cons, Bool.and_eq_true] at h
    obtain ⟨t, v⟩ := p
    exact Env.okAt_cons h.1 (ih h.2)
end Go.Ab
namespace Go.Ab

/-- A slice that was handed in: nil, or one whose first cells are known. -/
def slz (z : Bool) (b l c : Nat) : AV := if z = true ∧ l = 0 then .sn else .sl b 0 l c

theorem slz_pos {z : Bool} {b l c : Nat} (h : 0 < l) : slz z b l c = .sl b 0 l c := if_neg (by omega)
@[go_sem] theorem lenB_slz (z : Bool) (b l c : Nat) (K : AV → Prop) : lenB (some .slice) (slz z b l c) K = K (.i64 l) := by
  by_cases hc : z = true ∧ l = 0
  · obtain ⟨rfl, rfl⟩ := hc; simp [slz, lenB]
  · simp only [slz, if_neg hc, lenB]
@[go_sem] theorem partOk_slz (z : Bool) (b l c : Nat) : partOk (slz z b l c) = true := by unfold slz; split <;> rfl
@[go_sem] theorem cellsOf_slz (z : Bool) (b l c : Nat) : cellsOf (slz z b l c) = [slz z b l c] := by unfold slz; split <;> rfl
theorem slz_ne (z : Bool) (b l c : Nat) : slz z b l c ≠ .junk := by unfold slz; split <;> simp
theorem slz_ok {n b : Nat} (h : b < n) (z : Bool) (l c : Nat) : (slz z b l c).ok n = true := by unfold slz; split <;> simp [AV.ok, h]
theorem slz_ok' {n b l : Nat} (h : 0 < l → b < n) (z : Bool) (c : Nat) (hz : z = false → b < n) : (slz z b l c).ok n = true := by
  unfold slz; split
  · rfl
  · rename_i hn
    have : b < n := by
      cases z
      · exact hz rfl
      · exact h (by simp at hn; omega)
    simp [AV.ok, this]

theorem flat_split {ks : List EK} : ∀ {len : Nat} {es : List AV}, FitsR (List.replicate len ks).flatten es → ∃ ls : List (List AV), ls.length = len ∧ es = ls.flatten ∧ ∀ l ∈ ls, FitsR ks l
  | 0, es, h => by
    have := fits_length h.1
    simp at this
    subst this
    exact ⟨[], rfl, rfl, by simp⟩
  | len + 1, es, h => by
    simp only [List.replicate_succ, List.flatten_cons] at h
    obtain ⟨h1, h2⟩ := fits_take h.1
    obtain ⟨ls, hl, he, hf⟩ := flat_split (ks := ks) (len := len) (es := es.drop ks.length) ⟨h2, fun x hx => h.2 x (List.mem_of_mem_drop hx)⟩
    refine ⟨es.take ks.length :: ls, by simp [hl], by simp [← he], fun l hm => ?_⟩
    rcases List.mem_cons.1 hm with rfl | hm
    · exact ⟨h1, fun x hx => h.2 x (List.mem_of_mem_take hx)⟩
    · exact hf l hm

theorem enc_list {α : Type} {ks : List EK} (enc : α → List AV) (hconv : ∀ l, FitsR ks l → ∃ x, l = enc x) : ∀ (ls : List (List AV)), (∀ l ∈ ls, FitsR ks l) → ∃ xs : List α, xs.length = ls.length ∧ ls.flatten = xs.flatMap enc
  | [], _ => ⟨[], rfl, rfl⟩
  | l :: ls, h => by
    obtain ⟨x, hx⟩ := hconv l (h l List.mem_cons_self)
    obtain ⟨xs, h1, h2⟩ := enc_list enc hconv ls (fun l hl => h l (List.mem_cons_of_mem _ hl))
    exact ⟨x :: xs, by simp [h1], by simp [h2, hx]⟩

/-- A slice argument, as a list of things of one's own. -/
theorem fitL_slice {α : Type} {H : Heap} {el : TypeId} {ks : List EK} {v : AV} (enc : α → List AV) (hconv : ∀ l, FitsR ks l → ∃ x, l = enc x) (h : fitL H (.s el ks) v) :
    ∃ (z : Bool) (b cap : Nat) (xs : List α) (el' : TypeId), v = slz z b xs.length cap ∧ (z = false ∨ 0 < xs.length → H b = some ⟨xs.flatMap enc, el', true⟩) ∧ xs.length ≤ maxLen := by
  rcases h with rfl | ⟨b, len, cap, es, el', rfl, h1, h2, h3, h4⟩
  · exact ⟨true, 0, 0, [], 0, rfl, fun h => by simp at h, by simp⟩
  · obtain ⟨ls, hl, rfl, hf⟩ := flat_split h3
    obtain ⟨xs, hx, he⟩ := enc_list enc hconv ls hf
    exact ⟨false, b, cap, xs, el', by rw [hx, hl]; simp [slz], fun _ => by rw [← he]; exact h4, by omega⟩

theorem fitL_bytes {H : Heap} {el : TypeId} {v : AV} (h : fitL H (.s el [.int .u8]) v) :
    ∃ (z : Bool) (b cap : Nat) (bs : List (BitVec 8)) (el' : TypeId), v = slz z b bs.length cap ∧ (z = false ∨ 0 < bs.length → H b = some ⟨bs.map .u8, el', true⟩) ∧ bs.length ≤ maxLen := by
  obtain ⟨z, b, cap, xs, el', h1, h2, h3⟩ := fitL_slice (α := BitVec 8) (fun x => [.u8 x]) (fun l hl => by
    match l, hl with
    | [.u8 x], _ => exact ⟨x, rfl⟩) h
  have e : xs.flatMap (fun x => [AV.u8 x]) = xs.map .u8 := by rw [← List.flatMap_singleton' (xs.map AV.u8), List.flatMap_map]
  rw [e] at h2
  exact ⟨z, b, cap, xs, el', h1, h2, h3⟩

theorem flatMap_get {α : Type} {enc : α → List AV} {k : Nat} (hk : ∀ x, (enc x).length = k) : ∀ {xs : List α} {i j : Nat} {x : α}, xs[i]? = some x → j < k → (xs.flatMap enc)[i * k + j]? = (enc x)[j]?
  | [], i, j, x, h, _ => by simp at h
  | a :: xs, 0, j, x, h, hj => by
    simp at h; subst h
    simp only [List.flatMap_cons, Nat.zero_mul, Nat.zero_add]
    rw [List.getElem?_append_left (by rw [hk]; exact hj)]
  | a :: xs, i + 1, j, x, h, hj => by
    simp only [List.flatMap_cons]
    rw [List.getElem?_append_right (by rw [hk, Nat.add_mul]; omega), hk]
    have := flatMap_get hk (xs := xs) (i := i) (j := j) (x := x) (by simpa using h) hj
    rw [← this]; congr 1; rw [Nat.add_mul]; omega
theorem flatMap_length {α : Type} {enc : α → List AV} {k : Nat} (hk : ∀ x, (enc x).length = k) (xs : List α) : (xs.flatMap enc).length = xs.length * k := by
  induction xs with
  | nil => simp
  | cons a xs ih => simp only [List.flatMap_cons, List.length_append, hk, ih, List.length_cons, Nat.add_mul]; omega
theorem flatMap_slice {α : Type} {enc : α → List AV} {k : Nat} (hk : ∀ x, (enc x).length = k) {xs : List α} {i : Nat} {x : α} (h : xs[i]? = some x) : ((xs.flatMap enc).drop (i * k)).take k = enc x := by
  apply List.ext_getElem?
  intro j
  rw [List.getElem?_take]
  split
  · rename_i hj
    rw [List.getElem?_drop, flatMap_get hk h hj]
  · rename_i hj
    rw [List.getElem?_eq_none (by rw [hk]; omega)]
end Go.Ab
namespace Go.Ab
theorem fitsL_flat {H : Heap} : ∀ {ks : List EK} {l : List AV}, fitsL H (ks.map .k) l → FitsR ks l
  | [], [], _ => FitsR.nil
  | [], _ :: _, h => h.elim
  | _ :: _, [], h => h.elim
  | k :: ks, v :: l, h => by
    have := fitsL_flat h.2
    have h1 := h.1
    exact FitsR.append (a := [k]) (l := [v]) (FitsR.one h1.1 h1.2) this
theorem fitA_flat {H : Heap} {ks : List EK} {v : AV} (h : fitA H (.ag (ks.map .k)) v) : ∃ l, v = .ag l ∧ FitsR ks l :=
  let ⟨l, h1, h2⟩ := h; ⟨l, h1, fitsL_flat h2⟩
theorem fitA_u8 {H : Heap} {v : AV} (h : fitA H (.one (.k (.int .u8))) v) : ∃ x, v = .u8 x := by
  have h := h.1
  cases v <;> simp [AV.fits] at h
  exact ⟨_, rfl⟩
theorem fitA_u16 {H : Heap} {v : AV} (h : fitA H (.one (.k (.int .u16))) v) : ∃ x, v = .u16 x := by
  have h := h.1
  cases v <;> simp [AV.fits] at h
  exact ⟨_, rfl⟩
theorem fitA_bool {H : Heap} {v : AV} (h : fitA H (.one (.k .bool)) v) : ∃ x, v = .bo x := by
  have h := h.1
  cases v <;> simp [AV.fits] at h
  exact ⟨_, rfl⟩
theorem fitA_int {H : Heap} {v : AV} (h : fitA H (.one (.k (.int .i64))) v) : ∃ x, v = .i64 x ∧ -9223372036854775808 ≤ x ∧ x ≤ 9223372036854775807 := by
  obtain ⟨h, hr⟩ := h
  cases v <;> simp [AV.fits] at h
  exact ⟨_, rfl, hr⟩
end Go.Ab
