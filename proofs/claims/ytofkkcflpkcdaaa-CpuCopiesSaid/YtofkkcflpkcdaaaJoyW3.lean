/- Parts of the proof: the evaluator and its soundness. -/
import Derived.Test.YtofkkcflpkcdaaaJoyW2
import Derived.Scope
import Derived.Test.YtofkkcflpkcdaaaJoyW1
import Derived.Below
import Derived.Carry
import Derived.ChangeOld
set_option linter.unusedSimpArgs false
set_option linter.unusedVariables false
namespace Go.Ab

/-- A slice that was handed in: nil, or one whose first cells are known. -/
def slz (z : Bool) (b l c : Nat) : AV := if z = true ∧ l = 0 then .sn else .sl b 0 l c

theorem slz_pos {z : Bool} {b l c : Nat} (h : 0 < l) : slz z b l c = .sl b 0 l c := if_neg (by omega)
@[go_sem] theorem lenB_slz (z : Bool) (b l c : Nat) (K : AV → Prop) : lenB (some .slice) (slz z b l c) K = K (.i64 l) := by
  by_cases hc : z = true ∧ l = 0
  · obtain ⟨rfl, rfl⟩ := hc; simp [slz, lenB]
  · simp only [slz, if_neg hc, lenB]
@[go_sem] theorem partOk_slz (z : Bool) (b l c : Nat) : partOk (slz z b l c) = true := by unfold slz; split <;> rfl
@[go_sem] theorem cellsOf_slz (z : Bool) (b l c : Nat) : cellsOf (slz z b l c) = [slz z b l c] := by unfold slz; split <;> rfl
theorem slz_ne (z : Bool) (b l c : Nat) : slz z b l c ≠ .junk := by unfold slz; split <;> simp
theorem slz_ok {n b : Nat} (h : b < n) (z : Bool) (l c : Nat) : (slz z b l c).ok n = true := by unfold slz; split <;> simp [AV.ok, h]
theorem slz_ok' {n b l : Nat} (h : 0 < l → b < n) (z : Bool) (c : Nat) (hz : z = false → b < n) : (slz z b l c).ok n = true := by
  unfold slz; split
  · rfl
  · rename_i hn
    have : b < n := by
      cases z
      · exact hz rfl
      · exact h (by simp at hn; omega)
    simp [AV.ok, this]

theorem flat_split {ks : List EK} : ∀ {len : Nat} {es : List AV}, FitsR (List.replicate len ks).flatten es → ∃ ls : List (List AV), ls.length = len ∧ es = ls.flatten ∧ ∀ l ∈ ls, FitsR ks l
  | 0, es, h => by
    have := fits_length h.1
    simp at this
    subst this
    exact ⟨[], rfl, rfl, by simp⟩
  | len + 1, es, h => by
    simp only [List.replicate_succ, List.flatten_cons] at h
    obtain ⟨h1, h2⟩ := fits_take h.1
    obtain ⟨ls, hl, he, hf⟩ := flat_split (ks := ks) (len := len) (es := es.drop ks.length) ⟨h2, fun x hx => h.2 x (List.mem_of_mem_drop hx)⟩
    refine ⟨es.take ks.length :: ls, by simp [hl], by simp [← he], fun l hm => ?_⟩
    rcases List.mem_cons.1 hm with rfl | hm
    · exact ⟨h1, fun x hx => h.2 x (List.mem_of_mem_take hx)⟩
    · exact hf l hm

theorem enc_list {α : Type} {ks : List EK} (enc : α → List AV) (hconv : ∀ l, FitsR ks l → ∃ x, l = enc x) : ∀ (ls : List (List AV)), (∀ l ∈ ls, FitsR ks l) → ∃ xs : List α, xs.length = ls.length ∧ ls.flatten = xs.flatMap enc
  | [], _ => ⟨[], rfl, rfl⟩
  | l :: ls, h => by
    obtain ⟨x, hx⟩ := hconv l (h l List.mem_cons_self)
    obtain ⟨xs, h1, h2⟩ := enc_list enc hconv ls (fun l hl => h l (List.mem_cons_of_mem _ hl))
    exact ⟨x :: xs, by simp [h1], by simp [h2, hx]⟩

/-- A slice argument, as a list of things of one's own. -/
theorem fitL_slice {α : Type} {H : Heap} {el : TypeId} {ks : List EK} {v : AV} (enc : α → List AV) (hconv : ∀ l, FitsR ks l → ∃ x, l = enc x) (h : fitL H (.s el ks) v) :
    ∃ (z : Bool) (b cap : Nat) (xs : List α) (el' : TypeId), v = slz z b xs.length cap ∧ (z = false ∨ 0 < xs.length → H b = some ⟨xs.flatMap enc, el', true⟩) ∧ xs.length ≤ maxLen := by
  rcases h with rfl | ⟨b, len, cap, es, el', rfl, h1, h2, h3, h4⟩
  · exact ⟨true, 0, 0, [], 0, rfl, fun h => by simp at h, by simp⟩
  · obtain ⟨ls, hl, rfl, hf⟩ := flat_split h3
    obtain ⟨xs, hx, he⟩ := enc_list enc hconv ls hf
    exact ⟨false, b, cap, xs, el', by rw [hx, hl]; simp [slz], fun _ => by rw [← he]; exact h4, by omega⟩

theorem fitL_bytes {H : Heap} {el : TypeId} {v : AV} (h : fitL H (.s el [.int .u8]) v) :
    ∃ (z : Bool) (b cap : Nat) (bs : List (BitVec 8)) (el' : TypeId), v = slz z b bs.length cap ∧ (z = false ∨ 0 < bs.length → H b = some ⟨bs.map .u8, el', true⟩) ∧ bs.length ≤ maxLen := by
  obtain ⟨z, b, cap, xs, el', h1, h2, h3⟩ := fitL_slice (α := BitVec 8) (fun x => [.u8 x]) (fun l hl => by
    match l, hl with
    | [.u8 x], _ => exact ⟨x, rfl⟩) h
  have e : xs.flatMap (fun x => [AV.u8 x]) = xs.map .u8 := by rw [← List.flatMap_singleton' (xs.map AV.u8), List.flatMap_map]
  rw [e] at h2
  exact ⟨z, b, cap, xs, el', h1, h2, h3⟩

theorem flatMap_get {α : Type} {enc : α → List AV} {k : Nat} (hk : ∀ x, (enc x).length = k) : ∀ {xs : List α} {i j : Nat} {x : α}, xs[i]? = some x → j < k → (xs.flatMap enc)[i * k + j]? = (enc x)[j]?
  | [], i, j, x, h, _ => by simp at h
  | a :: xs, 0, j, x, h, hj => by
    simp at h; subst h
    simp only [List.flatMap_cons, Nat.zero_mul, Nat.zero_add]
    rw [List.getElem?_append_left (by rw [hk]; exact hj)]
  | a :: xs, i + 1, j, x, h, hj => by
    simp only [List.flatMap_cons]
    rw [List.getElem?_append_right (by rw [hk, Nat.add_mul]; omega), hk]
    have := flatMap_get hk (xs := xs) (i := i) (j := j) (x := x) (by simpa using h) hj
    rw [← this]; congr 1; rw [Nat.add_mul]; omega
theorem flatMap_length {α : Type} {enc : α → List AV} {k : Nat} (hk : ∀ x, (enc x).length = k) (xs : List α) : (xs.flatMap enc).length = xs.length * k := by
  induction xs with
  | nil => simp
  | cons a xs ih => simp only [List.flatMap_cons, List.length_append, hk, ih, List.length_cons, Nat.add_mul]; omega
theorem flatMap_slice {α : Type} {enc : α → List AV} {k : Nat} (hk : ∀ x, (enc x).length = k) {xs : List α} {i : Nat} {x : α} (h : xs[i]? = some x) : ((xs.flatMap enc).drop (i * k)).take k = enc x := by
  apply List.ext_getElem?
  intro j
  rw [List.getElem?_take]
  split
  · rename_i hj
    rw [List.getElem?_drop, flatMap_get hk h hj]
  · rename_i hj
    rw [List.getElem?_eq_none (by rw [hk]; omega)]
end Go.Ab
namespace Go.Ab
theorem fitsL_flat {H : Heap} : ∀ {ks : List EK} {l : List AV}, fitsL H (ks.map .k) l → FitsR ks l
  | [], [], _ => FitsR.nil
  | [], _ :: _, h => h.elim
  | _ :: _, [], h => h.elim
  | k :: ks, v :: l, h => by
    have := fitsL_flat h.2
    have h1 := h.1
    exact FitsR.append (a := [k]) (l := [v]) (FitsR.one h1.1 h1.2) this
theorem fitA_flat {H : Heap} {ks : List EK} {v : AV} (h : fitA H (.ag (ks.map .k)) v) : ∃ l, v = .ag l ∧ FitsR ks l :=
  let ⟨l, h1, h2⟩ := h; ⟨l, h1, fitsL_flat h2⟩
theorem fitA_u8 {H : Heap} {v : AV} (h : fitA H (.one (.k (.int .u8))) v) : ∃ x, v = .u8 x := by
  have h := h.1
  cases v <;> simp [AV.fits] at h
  exact ⟨_, rfl⟩
theorem fitA_u16 {H : Heap} {v : AV} (h : fitA H (.one (.k (.int .u16))) v) : ∃ x, v = .u16 x := by
  have h := h.1
  cases v <;> simp [AV.fits] at h
  exact ⟨_, rfl⟩
theorem fitA_bool {H : Heap} {v : AV} (h : fitA H (.one (.k .bool)) v) : ∃ x, v = .bo x := by
  have h := h.1
  cases v <;> simp [AV.fits] at h
  exact ⟨_, rfl⟩
theorem fitA_int {H : Heap} {v : AV} (h : fitA H (.one (.k (.int .i64))) v) : ∃ x, v = .i64 x ∧ -9223372036854775808 ≤ x ∧ x ≤ 9223372036854775807 := by
  obtain ⟨h, hr⟩ := h
  cases v <;> simp [AV.fits] at h
  exact ⟨_, rfl, hr⟩
end Go.Ab
namespace Go.Ab
/-- A slice of bytes, its capacity known or not. -/
def vw (su : Bool) (b o l c : Nat) : AV := if su then .su b o l 1 else .sl b o l c
@[go_sem] theorem vw_true (b o l c : Nat) : vw true b o l c = .su b o l 1 := rfl
@[go_sem] theorem vw_false (b o l c : Nat) : vw false b o l c = .sl b o l c := rfl
theorem vw_ok {su : Bool} {b o l c n : Nat} (h : b < n) : (vw su b o l c).ok n = true := by cases su <;> simp [vw, AV.ok, h]
theorem vw_ok' {su : Bool} {b o l c n : Nat} (h : (vw su b o l c).ok n = true) : b < n := by cases su <;> simpa [vw, AV.ok] using h
theorem vw_ne {su : Bool} {b o l c : Nat} : vw su b o l c ≠ .junk := by cases su <;> simp [vw]

/-- It reads so. -/
def bytesIn (H : Heap) (v : AV) (bs : List (BitVec 8)) : Prop :=
  (v = .sn ∧ bs = []) ∨
  (∃ su b o c blk, v = vw su b o bs.length c ∧ bs.length ≤ c ∧ H b = some blk ∧ (blk.cells.drop o).take bs.length = bs.map .u8 ∧ o + bs.length ≤ blk.cells.length)

theorem bytesIn.vw {H : Heap} {su : Bool} {b o c l : Nat} {blk : Blk} {bs : List (BitVec 8)} (hb : H b = some blk) (hl : l = bs.length) (hc : l ≤ c) (h : (blk.cells.drop o).take bs.length = bs.map .u8) (hle : o + bs.length ≤ blk.cells.length) : bytesIn H (Go.Ab.vw su b o l c) bs :=
  .inr ⟨su, b, o, c, blk, by rw [hl], by omega, hb, h, hle⟩
theorem bytesIn.sl {H : Heap} {b o c l : Nat} {blk : Blk} {bs : List (BitVec 8)} (hb : H b = some blk) (hl : l = bs.length) (hc : l ≤ c) (h : (blk.cells.drop o).take bs.length = bs.map .u8) (hle : o + bs.length ≤ blk.cells.length) : bytesIn H (.sl b o l c) bs :=
  .vw (su := false) hb hl hc h hle
theorem bytesIn.su {H : Heap} {b o l : Nat} {blk : Blk} {bs : List (BitVec 8)} (hb : H b = some blk) (hl : l = bs.length) (h : (blk.cells.drop o).take bs.length = bs.map .u8) (hle : o + bs.length ≤ blk.cells.length) : bytesIn H (.su b o l 1) bs :=
  .vw (su := true) (c := l) hb hl (Nat.le_refl _) h hle
theorem bytesIn.whole {H : Heap} {b c l : Nat} {el : TypeId} {ro : Bool} {bs : List (BitVec 8)} (hb : H b = some ⟨bs.map .u8, el, ro⟩) (hl : l = bs.length) (hc : l ≤ c) : bytesIn H (.sl b 0 l c) bs :=
  .sl hb hl hc (by rw [List.drop_zero]; exact List.take_of_length_le (by simp)) (by simp)
theorem bytesIn.wholeU {H : Heap} {b l : Nat} {el : TypeId} {ro : Bool} {bs : List (BitVec 8)} (hb : H b = some ⟨bs.map .u8, el, ro⟩) (hl : l = bs.length) : bytesIn H (.su b 0 l 1) bs :=
  .su hb hl (by rw [List.drop_zero]; exact List.take_of_length_le (by simp)) (by simp)
theorem bytesIn.mono {H H' : Heap} {n : Nat} {v : AV} {bs : List (BitVec 8)} (h : bytesIn H v bs) (hv : v.ok n = true) (he : ∀ i, i < n → H' i = H i) : bytesIn H' v bs := by
  rcases h with h | ⟨su, b, o, c, blk, rfl, h0, h1, h2, h3⟩
  · exact .inl h
  · exact .inr ⟨su, b, o, c, blk, rfl, h0, by rw [he b (vw_ok' hv)]; exact h1, h2, h3⟩
/-- What is cut out of it. -/
theorem bytesIn.cut {H : Heap} {su : Bool} {b o c l : Nat} {blk : Blk} {bs : List (BitVec 8)} (hb : H b = some blk) (hl : l = bs.length) (hc : l ≤ c) (h : (blk.cells.drop o).take bs.length = bs.map .u8) (hle : o + bs.length ≤ blk.cells.length) {lo hi : Nat} (h1 : lo ≤ hi) (h2 : hi ≤ l) :
    bytesIn H (Go.Ab.vw su b (o + lo) (hi - lo) (c - lo)) ((bs.drop lo).take (hi - lo)) := by
  have hlen : ((bs.drop lo).take (hi - lo)).length = hi - lo := by simp; omega
  refine .vw hb hlen.symm (by omega) ?_ (by rw [hlen]; omega)
  rw [hlen, List.map_take, List.map_drop, ← h, List.drop_take, List.drop_drop, List.take_take, Nat.min_eq_left (by omega)]
theorem slB_vw {P : Program} {t : TypeId} {ag : Bool} {H : Heap} {n : Nat} {K : AV → Heap → Nat → Prop} {su : Bool} {b o l c : Nat} {blk : Blk} (ht : ixT P t = some (none, ag, 1)) (hb : H b = some blk) (hle : o + l ≤ blk.cells.length) (hc : l ≤ c) (lo hi : Nat) {hif : Nat → Option Int}
    (hh : hif l = some (hi : Int)) (h1 : lo < hi) (h2 : hi ≤ l) (h : K (vw su b (o + lo) (hi - lo) (c - lo)) H n) : slB (vw su b o l c) P t (some (lo : Int)) hif (fun n => some (n : Int)) false true H n K := by
  cases su
  · simp only [vw, Bool.false_eq_true, if_false, slB, sliceK, ht, hh, true_and, atK] at h ⊢
    refine ⟨by omega, by omega, by omega, Int.le_refl _, ?_⟩
    rw [if_neg (by omega), Nat.mul_one]
    simpa using h
  · simp only [vw, if_true, slB, sliceSu, ht, hb, hh, true_and, atK] at h ⊢
    refine ⟨by omega, by omega, by simp; omega, ?_⟩
    split
    · have : lo = 0 := by omega
      subst this
      simpa using h
    · rw [if_pos (by omega)]
      simpa using h
theorem ixB_vw {ag : Bool} {su : Bool} {b o l c : Nat} {i : Nat} {K : AV → Prop} (h1 : i < l) (h : K (.pt b (o + i))) : ixB (some (none, ag, 1)) (vw su b o l c) (some (i : Int)) K := by
  cases su <;> simp [vw, ixB, h1, h]
theorem lenB_vw {su : Bool} {b o l c : Nat} {K : AV → Prop} : lenB (some .slice) (vw su b o l c) K = K (.i64 l) := by cases su <;> rfl
theorem loadB_at {blk : Blk} {o i : Nat} {bs : List (BitVec 8)} {K : AV → Prop} (h2 : (blk.cells.drop o).take bs.length = bs.map .u8) (h3 : o + bs.length ≤ blk.cells.length) (hi : i < bs.length) (h : K (.u8 (bs.getD i 0#8))) : loadB (some blk) (some (false, 1)) (o + i) K := by
  refine ⟨by omega, ?_⟩
  have e : (bs.map AV.u8).getD i .junk = .u8 (bs.getD i 0#8) := by simp [List.getD_eq_getElem?_getD, hi]
  rw [← h2] at e
  have e2 : ((blk.cells.drop o).take bs.length).getD i .junk = blk.cells.getD (o + i) .junk := by
    rw [List.getD_eq_getElem?_getD, List.getD_eq_getElem?_getD, List.getElem?_take, if_pos hi, List.getElem?_drop]
  rw [← e2, e]; exact h
theorem map_u8_ok {n : Nat} {bs : List (BitVec 8)} : ∀ v ∈ bs.map AV.u8, v.ok n = true := by
  intro v hv; obtain ⟨x, _, rfl⟩ := List.mem_map.1 hv; rfl
theorem map_u8_ren {σ : Nat → Nat} {bs : List (BitVec 8)} : (bs.map AV.u8).map (AV.ren σ) = bs.map AV.u8 := by
  rw [List.map_map]; exact List.map_congr_left fun _ _ => rfl
end Go.Ab
namespace Go.Ab
theorem rep_one (k : Nat) (x : AV) : repCells k [x] = List.replicate k x := by
  induction k with
  | zero => rfl
  | succ k ih => simp only [repCells, List.replicate_succ, List.flatten_cons, List.singleton_append] at *; rw [ih]
theorem rep_u8 (k : Nat) (x : BitVec 8) : repCells k [AV.u8 x] = (List.replicate k x).map AV.u8 := by rw [rep_one, List.map_replicate]
theorem lenB_bytes {H : Heap} {v : AV} {bs : List (BitVec 8)} (h : bytesIn H v bs) (K : AV → Prop) : lenB (some .slice) v K = K (.i64 bs.length) := by
  rcases h with ⟨rfl, rfl⟩ | ⟨su, b, o, c, blk, rfl, _⟩
  · rfl
  · exact lenB_vw
theorem appX_bytes {H : Heap} {v : AV} {bs : List (BitVec 8)} (h : bytesIn H v bs) (a : AppT) : appX a v = True := by
  rcases h with ⟨rfl, rfl⟩ | ⟨su, b, o, c, blk, rfl, _⟩
  · rfl
  · cases su <;> rfl
theorem readK_bytes {H : Heap} {v : AV} {bs : List (BitVec 8)} (h : bytesIn H v bs) (K : Nat → List AV → Prop) : readK H 1 v K = K bs.length (bs.map .u8) := by
  rcases h with ⟨rfl, rfl⟩ | ⟨su, b, o, c, blk, rfl, h0, h1, h2, h3⟩
  · rfl
  · cases su
    · simp only [vw, Bool.false_eq_true, if_false, readK, slicePl, h1, Nat.mul_one, h2, h3, true_and]
    · simp only [vw, readK, slicePl, if_true, h1, Nat.mul_one, h2, h3, true_and]
theorem srcK_bytes {H : Heap} {v : AV} {bs : List (BitVec 8)} (h : bytesIn H v bs) (K : Nat → List AV → Prop) : srcK H 1 v K = K bs.length (bs.map .u8) := by
  have := readK_bytes h K
  rcases h with ⟨rfl, rfl⟩ | ⟨su, b, o, c, blk, rfl, _⟩
  · exact this
  · cases su <;> exact this
theorem bytesIn.ne {H : Heap} {v : AV} {bs : List (BitVec 8)} (h : bytesIn H v bs) : v ≠ .junk := by
  rcases h with ⟨rfl, rfl⟩ | ⟨su, b, o, c, blk, rfl, _⟩
  · simp
  · exact vw_ne
theorem Env.okAt_of2 {e : Env} {n : Nat} (h : ∀ p ∈ e, p.2.ok n = true) : e.okAt n := Env.okAt_of (List.all_eq_true.2 h)
end Go.Ab
namespace Go.Ab
theorem cells_at {blk : Blk} {o i : Nat} {bs : List (BitVec 8)} (h2 : (blk.cells.drop o).take bs.length = bs.map .u8) (h3 : o + bs.length ≤ blk.cells.length) (hi : i < bs.length) : o + i < blk.cells.length ∧ blk.cells.getD (o + i) .junk = .u8 (bs.getD i 0#8) := by
  refine ⟨by omega, ?_⟩
  have e : (bs.map AV.u8).getD i .junk = .u8 (bs.getD i 0#8) := by simp [List.getD_eq_getElem?_getD, hi]
  rw [← h2] at e
  rw [← e, List.getD_eq_getElem?_getD, List.getD_eq_getElem?_getD, List.getElem?_take, if_pos hi, List.getElem?_drop]
end Go.Ab
namespace Go.Ab
@[go_sem] theorem ixB_vw_eq {ag : Bool} {su : Bool} {b o l c : Nat} {i : Int} {K : AV → Prop} : ixB (some (none, ag, 1)) (vw su b o l c) (some i) K = (0 ≤ i ∧ i < l ∧ K (.pt b (o + i.toNat))) := by
  cases su <;> simp [vw, ixB]
attribute [go_sem] lenB_vw
@[go_sem] theorem copyB_sl_vw {H : Heap} {K : AV → Heap → Prop} {el : TypeId} {by_ : Nat} {b o l c : Nat} {su : Bool} {b2 o2 l2 c2 : Nat} : copyB (some (el, 1, by_)) H (.sl b o l c) (vw su b2 o2 l2 c2) K = srcK H 1 (vw su b2 o2 l2 c2) (cpB (H b) b o l 1 H K) := by
  cases su
  · simp only [vw, Bool.false_eq_true, if_false, copyB, true_and]; rfl
  · simp only [vw, if_true, copyB, true_and]; rfl
end Go.Ab
namespace Go.Ab
@[go_sem] theorem rep_lit1 (x : AV) : repCells 1 [x] = [x] := rfl
@[go_sem] theorem rep_lit2 (x : AV) : repCells 2 [x] = [x, x] := rfl
@[go_sem] theorem rep_lit3 (x : AV) : repCells 3 [x] = [x, x, x] := rfl
@[go_sem] theorem rep_lit4 (x : AV) : repCells 4 [x] = [x, x, x, x] := rfl
@[go_sem] theorem rep_lit5 (x : AV) : repCells 5 [x] = [x, x, x, x, x] := rfl
@[go_sem] theorem rep_lit6 (x : AV) : repCells 6 [x] = [x, x, x, x, x, x] := rfl
@[go_sem] theorem rep_lit7 (x : AV) : repCells 7 [x] = [x, x, x, x, x, x, x] := rfl
@[go_sem] theorem rep_lit8 (x : AV) : repCells 8 [x] = [x, x, x, x, x, x, x, x] := rfl
@[go_sem] theorem rep_lit9 (x : AV) : repCells 9 [x] = [x, x, x, x, x, x, x, x, x] := rfl
@[go_sem] theorem rep_lit10 (x : AV) : repCells 10 [x] = [x, x, x, x, x, x, x, x, x, x] := rfl
@[go_sem] theorem rep_lit11 (x : AV) : repCells 11 [x] = [x, x, x, x, x, x, x, x, x, x, x] := rfl
@[go_sem] theorem rep_lit12 (x : AV) : repCells 12 [x] = [x, x, x, x, x, x, x, x, x, x, x, x] := rfl
@[go_sem] theorem rep_lit13 (x : AV) : repCells 13 [x] = [x, x, x, x, x, x, x, x, x, x, x, x, x] := rfl
@[go_sem] theorem rep_lit14 (x : AV) : repCells 14 [x] = [x, x, x, x, x, x, x, x, x, x, x, x, x, x] := rfl
@[go_sem] theorem rep_lit15 (x : AV) : repCells 15 [x] = [x, x, x, x, x, x, x, x, x, x, x, x, x, x, x] := rfl
@[go_sem] theorem rep_lit16 (x : AV) : repCells 16 [x] = [x, x, x, x, x, x, x, x, x, x, x, x, x, x, x, x] := rfl
end Go.Ab
namespace Go.Ab
@[go_sem] theorem all_u8 (bs : List (BitVec 8)) : (bs.map AV.u8).all isU8 = true := by
  rw [List.all_eq_true]; intro v hv; obtain ⟨x, _, rfl⟩ := List.mem_map.1 hv; rfl
@[go_sem] theorem strOf_u8 (bs : List (BitVec 8)) : strOf (bs.map AV.u8) = bs := by
  simp only [strOf, List.map_map]
  exact List.map_id'' (fun _ => rfl) _
@[go_sem] theorem take_map_all {k : Nat} {bs : List (BitVec 8)} (h : bs.length = k) : List.take k (bs.map AV.u8) = bs.map AV.u8 := List.take_of_length_le (by rw [List.length_map, h]; exact Nat.le_refl _)
end Go.Ab
namespace Go.Ab
theorem fits_u8s {k : Nat} : ∀ {bs : List (BitVec 8)}, bs.length = k → fits (List.replicate k (.int .u8)) (bs.map AV.u8) = true
  | [], h => by subst h; rfl
  | b :: bs, h => by
    subst h
    simp only [List.length_cons, List.replicate_succ, List.map_cons, fits, Bool.and_eq_true]
    exact ⟨rfl, fits_u8s rfl⟩
@[go_sem] theorem eqCells_u8s (a b : List (BitVec 8)) : eqCells (a.map AV.u8) (b.map AV.u8) = (a == b) := by
  induction a generalizing b with
  | nil => cases b <;> rfl
  | cons x a ih =>
    cases b with
    | nil => rfl
    | cons y b => simp only [List.map_cons, eqCells, ih]; rfl
end Go.Ab
namespace Go.Ab
theorem drop_take_nil {α : Type} (l : List α) (lo : Nat) : (l.drop lo).take (lo - lo) = [] := by simp
theorem slB_bytes {P : Program} {t : TypeId} {ag : Bool} {H : Heap} {n : Nat} {K : AV → Heap → Nat → Prop} {v : AV} {bs : List (BitVec 8)} (ht : ixT P t = some (none, ag, 1)) (hv : bytesIn H v bs) (hok : v.ok n = true) (lo hi : Nat) {hif : Nat → Option Int}
    (hh : hif bs.length = some (hi : Int)) (h1 : lo ≤ hi) (h2 : hi ≤ bs.length) (h : ∀ v', bytesIn H v' ((bs.drop lo).take (hi - lo)) → v'.ok n = true → K v' H n) : slB v P t (some (lo : Int)) hif (fun n => some (n : Int)) false true H n K := by
  rcases hv with ⟨rfl, rfl⟩ | ⟨su, b, o, c, blk, rfl, h0, hb, hc, hle⟩
  · simp only [List.length_nil, Nat.le_zero] at h2 hh
    subst h2
    obtain rfl : lo = 0 := by omega
    have := h .sn (.inl ⟨rfl, by simp⟩) rfl
    simp only [slB, sliceK, ht, hh, true_and, atK] at this ⊢
    simpa using this
  · have hbn := vw_ok' hok
    by_cases hlt : lo < hi
    · exact slB_vw ht hb hle h0 lo hi hh hlt h2 (h _ (bytesIn.cut hb rfl h0 hc hle (by omega) h2) (vw_ok hbn))
    · obtain rfl : lo = hi := by omega
      have e0 : (bs.drop lo).take (lo - lo) = [] := drop_take_nil _ _
      rw [e0] at h
      have any : ∀ (s : Bool) (o' c' : Nat), o' ≤ blk.cells.length → K (vw s b o' 0 c') H n := fun s o' c' ho => h _ (.vw hb rfl (Nat.zero_le _) (by simp) (by simpa using ho)) (vw_ok hbn)
      cases su
      · simp only [vw, Bool.false_eq_true, if_false, slB, sliceK, ht, hh, true_and, atK]
        refine ⟨by omega, by omega, by omega, Int.le_refl _, ?_⟩
        have := any false (if (c : Int) = (lo : Int) then o else o + lo) (c - lo) (by split <;> omega)
        simpa [vw, Nat.sub_self] using this
      · simp only [vw, if_true, slB, sliceSu, ht, hb, hh, true_and, atK]
        refine ⟨by omega, by omega, by simp; omega, ?_⟩
        split
        · have := any true o 0 (by omega)
          have e : lo = 0 := by omega
          subst e
          simpa [vw] using this
        · rw [if_neg (by omega)]
          refine ⟨?_, ?_⟩
          · have := any false o 0 (by omega)
            simpa [vw] using this
          · have := any true (o + lo) 0 (by omega)
            simpa [vw] using this
end Go.Ab
namespace Go.Ab
theorem copyB_bytes {H : Heap} {K : AV → Heap → Prop} {el : TypeId} {by_ : Nat} {b o l c : Nat} {v : AV} {bs : List (BitVec 8)} (h : bytesIn H v bs) : copyB (some (el, 1, by_)) H (.sl b o l c) v K = cpB (H b) b o l 1 H K bs.length (bs.map .u8) := by
  rw [← srcK_bytes h (cpB (H b) b o l 1 H K)]
  rcases h with ⟨rfl, rfl⟩ | ⟨su, b, o, c, blk, rfl, _⟩
  · simp only [copyB, true_and]; rfl
  · exact copyB_sl_vw
end Go.Ab
namespace Go.Ab

/-! Rows made of parts. -/
theorem getD_app_l {α : Type} {a b : List α} {i : Nat} {d : α} (h : i < a.length) : (a ++ b).getD i d = a.getD i d := by
  simp [List.getD_eq_getElem?_getD, List.getElem?_append_left h]
theorem getD_app_r {α : Type} {a b : List α} {i : Nat} {d : α} (h : a.length ≤ i) : (a ++ b).getD i d = b.getD (i - a.length) d := by
  simp [List.getD_eq_getElem?_getD, List.getElem?_append_right h]
theorem getD_map_u8' {bs : List (BitVec 8)} {i : Nat} (h : i < bs.length) : (bs.map AV.u8).getD i .junk = .u8 (bs.getD i 0#8) := by
  simp [List.getD_eq_getElem?_getD, h]

theorem splice_app_l {α : Type} {a b vs : List α} {off : Nat} (h : off + vs.length ≤ a.length) : splice (a ++ b) off vs = splice a off vs ++ b := by
  unfold splice
  rw [List.take_append_of_le_length (by omega), List.drop_append_of_le_length (by omega), List.append_assoc, List.append_assoc, List.append_assoc]
theorem splice_app_r {α : Type} {a b vs : List α} {off : Nat} : splice (a ++ b) (a.length + off) vs = a ++ splice b off vs := by
  unfold splice
  rw [List.take_length_add_append, Nat.add_assoc, List.drop_length_add_append, List.append_assoc, List.append_assoc, List.append_assoc]
theorem splice_whole {α : Type} {l vs : List α} (h : vs.length = l.length) : splice l 0 vs = vs := by simp [splice, h]
theorem Heap.upd_self {H : Heap} {b : Nat} {x : Option Blk} (h : H b = x) : H.upd b x = H := by
  funext i
  by_cases hi : i = b
  · subst hi; rw [Heap.upd_same, h]
  · rw [Heap.upd_ne _ _ hi]
theorem Heap.upd_swap (H : Heap) {a b : Nat} (x y : Option Blk) (h : a ≠ b) : (H.upd a x).upd b y = (H.upd b y).upd a x := by
  funext i
  by_cases h1 : i = b
  · subst h1; rw [Heap.upd_same, Heap.upd_ne _ _ (Ne.symm h), Heap.upd_same]
  · rw [Heap.upd_ne _ _ h1]
    by_cases h2 : i = a
    · subst h2; rw [Heap.upd_same, Heap.upd_same]
    · rw [Heap.upd_ne _ _ h2, Heap.upd_ne _ _ h2, Heap.upd_ne _ _ h1]
theorem Heap.wf_upd_none {H : Heap} {n k : Nat} (wf : H.wf n) : (H.upd k none).wf n := fun i b hb => by
  by_cases h : i = k
  · subst h; rw [Heap.upd_same] at hb; cases hb
  · rw [Heap.upd_ne _ _ h] at hb; exact wf i b hb
/-- The heap under a name, with what is known of it. -/
theorem awp_gen {P : Program} {N : Nat} {c : Code} {K : Exit → Env → Heap → Nat → Prop} {env : Env} {H : Heap} {n : Nat} (Q : Heap → Prop) (hQ : Q H) (h : ∀ X, Q X → awp P N c K env X n) : awp P N c K env H n := h H hQ
theorem ACalls_gen {P : Program} {f : Nat} {args : List AV} {H : Heap} {n : Nat} {K : AV → Heap → Nat → Prop} (Q : Heap → Prop) (hQ : Q H) (h : ∀ X, Q X → ACalls P f args X n K) : ACalls P f args H n K := h H hQ
end Go.Ab
namespace Go.Ab
open Go

/-- A scope through which the run goes straight. -/
def noGotoK (K : Exit → Env → Heap → Nat → Prop) : Exit → Env → Heap → Nat → Prop
  | .goto _, _, _, _ => False
  | e, env, H, n => K e env H n
@[congr] theorem noGotoK_congr {K : Exit → Env → Heap → Nat → Prop} {e e' : Exit} {env env' : Env} {H H' : Heap} {n n' : Nat} (h_e : e = e') (h_env : env = env') (h_H : H = H') (h_n : n = n') : noGotoK K e env H n = noGotoK K e' env' H' n' := by subst h_e h_env h_H h_n; rfl
@[go_sem] theorem noGotoK_normal {K : Exit → Env → Heap → Nat → Prop} {env : Env} {H : Heap} {n : Nat} : (noGotoK K .normal env H n) = (K .normal env H n) := Eq.trans rfl rfl
@[go_sem] theorem noGotoK_ret {K : Exit → Env → Heap → Nat → Prop} {env : Env} {H : Heap} {n : Nat} : (noGotoK K .ret env H n) = (K .ret env H n) := Eq.trans rfl rfl
@[go_sem] theorem noGotoK_exit {K : Exit → Env → Heap → Nat → Prop} {env : Env} {H : Heap} {n : Nat} {i : Nat} : (noGotoK K (.exit i) env H n) = (K (.exit i) env H n) := Eq.trans rfl rfl

theorem awp_scope {P : Program} {N : Nat} {c : Code} {K : Exit → Env → Heap → Nat → Prop} {env : Env} {H : Heap} {n : Nat} (h : awp P N c (noGotoK K) env H n) : awp P N (.scope c) K env H n :=
  fun m0 H0 n0 w0 m a w hI hE => wp_scope_straight (wp_mono (h m0 H0 n0 w0 m a w hI hE) fun e a' w' ⟨m', env', H', n', h1, h2, h3⟩ => by
    cases e <;> first | exact ⟨m', env', H', n', h1, h2, h3⟩ | exact h3.elim)

/-- One block of the caller's has been written. -/
theorem Fin.putb {n0 : Nat} {v : AV} {H H0 : Heap} {n b : Nat} {blk : Blk} {K : AV → Heap → Nat → Prop} (wf : H0.wf n0) (hb : b < n0) (hc : ∀ v ∈ blk.cells, v.ok n0 = true) (h : K v (H0.upd b (some blk)) n0)
    (hd : ∀ i, i < n0 → H i = (H0.upd b (some blk)) i) (hv : v.ok n0 = true) : Fin n0 v H n K := Fin.back (Heap.wf_set wf hb hc) h hd hv
end Go.Ab
namespace Go.Ab
theorem bytesIn.apart {H : Heap} {q : Nat} {v : AV} {bs : List (BitVec 8)} (h : bytesIn (H.upd q none) v bs) (X : Option Blk) : bytesIn (H.upd q X) v bs := by
  rcases h with h | ⟨su, b, o, c, blk, rfl, h0, h1, h2, h3⟩
  · exact .inl h
  · have hne : b ≠ q := by rintro rfl; rw [Heap.upd_same] at h1; cases h1
    rw [Heap.upd_ne _ _ hne] at h1
    exact .inr ⟨su, b, o, c, blk, rfl, h0, by rw [Heap.upd_ne _ _ hne]; exact h1, h2, h3⟩
theorem bytesIn.ok {H : Heap} {n : Nat} {v : AV} {bs : List (BitVec 8)} (wf : H.wf n) (h : bytesIn H v bs) : v.ok n = true := by
  rcases h with ⟨rfl, rfl⟩ | ⟨su, b, o, c, blk, rfl, h0, h1, h2, h3⟩
  · rfl
  · exact vw_ok (wf b _ h1).1

end Go.Ab
namespace Go.Ab
/-! What a heap's names are is known at each place of a run. -/
theorem awp_wf {P : Program} {N : Nat} {c : Code} {K : Exit → Env → Heap → Nat → Prop} {env : Env} {H : Heap} {n : Nat} (h : H.wf n → awp P N c K env H n) : awp P N c K env H n :=
  fun m0 H0 n0 w0 m a w hI hE => h hI.rel.wf m0 H0 n0 w0 m a w hI hE
theorem ACalls.wf {P : Program} {f : FuncId} {args : List AV} {H : Heap} {n : Nat} {K : AV → Heap → Nat → Prop} (h : ACalls P f args H n fun v H' n' => H'.wf n' → n ≤ n' → K v H' n') : ACalls P f args H n K :=
  ⟨h.1, fun m w hH ha => (h.2 m w hH ha).mono fun _ _ ⟨m', v, H', n', h1, h2, h3, h4, h5, h6⟩ => ⟨m', v, H', n', h1, h2, h3, h4, h5, h6 h2.wf h3⟩⟩
theorem ACalls.of_wf {P : Program} {f : FuncId} {args : List AV} {H : Heap} {n : Nat} {K : AV → Heap → Nat → Prop} (hj : ∀ v ∈ args, v ≠ .junk) (h : H.wf n → ACalls P f args H n K) : ACalls P f args H n K :=
  ⟨hj, fun m w hH ha => (h hH.wf).2 m w hH ha⟩
end Go.Ab
namespace Go.Ab

/-! Numbers of 64 bits. -/
theorem and64_mask (k : Nat) (hk : k ≤ 62) (x : Int) : and64 x (((2 ^ k - 1 : Nat) : Nat) : Int) = x % ((2 ^ k : Nat) : Int) := by
  have hp : 0 < 2 ^ k := Nat.two_pow_pos k
  have hle : (2 : Nat) ^ k ≤ 2 ^ 62 := Nat.pow_le_pow_right (by decide) hk
  have e1 : (BitVec.ofInt 64 x &&& BitVec.ofInt 64 (((2 ^ k - 1 : Nat) : Nat) : Int)).toNat = (BitVec.ofInt 64 x).toNat % 2 ^ k := by
    rw [BitVec.toNat_and, BitVec.ofInt_natCast, BitVec.toNat_ofNat, Nat.mod_eq_of_lt (by omega), Nat.and_two_pow_sub_one_eq_mod]
  have e2 : (((BitVec.ofInt 64 x).toNat % 2 ^ k : Nat) : Int) = x % ((2 ^ k : Nat) : Int) := by
    rw [Int.natCast_emod, BitVec.toNat_ofInt]
    have hnn : 0 ≤ x % ((2 ^ 64 : Nat) : Int) := Int.emod_nonneg _ (by decide)
    rw [Int.toNat_of_nonneg hnn]
    exact Int.emod_emod_of_dvd _ (by
      have : (2 : Nat) ^ k ∣ 2 ^ 64 := Nat.pow_dvd_pow 2 (by omega)
      exact Int.ofNat_dvd.2 this)
  unfold and64
  rw [e1]
  have hlt : (BitVec.ofInt 64 x).toNat % 2 ^ k < 2 ^ k := Nat.mod_lt _ hp
  rw [wrap_id _ (by omega) (by omega), e2]

theorem wrap_emod (x : Int) (k : Nat) (hk : k ≤ 64) : wrap64 x % ((2 ^ k : Nat) : Int) = x % ((2 ^ k : Nat) : Int) := by
  have hd : ((2 ^ k : Nat) : Int) ∣ ((2 ^ 64 : Nat) : Int) := Int.ofNat_dvd.2 (Nat.pow_dvd_pow 2 hk)
  obtain ⟨c, hc⟩ : ∃ c : Int, wrap64 x = x + c * ((2 ^ 64 : Nat) : Int) := by
    rw [show (((2 ^ 64 : Nat) : Nat) : Int) = 18446744073709551616 from rfl]
    show ∃ c : Int, (if (true && decide (x % 18446744073709551616 ≥ 9223372036854775808)) = true then x % 18446744073709551616 - 18446744073709551616 else x % 18446744073709551616) = x + c * 18446744073709551616
    rw [Bool.true_and]
    by_cases h : x % 18446744073709551616 ≥ 9223372036854775808
    · rw [if_pos (by simpa using h)]; exact ⟨-(x / 18446744073709551616) - 1, by omega⟩
    · rw [if_neg (by simpa using h)]; exact ⟨-(x / 18446744073709551616), by omega⟩
  obtain ⟨d, hd⟩ := hd
  rw [hc, hd, ← Int.mul_assoc, Int.mul_comm c, Int.mul_assoc]
  exact Int.add_mul_emod_self_left _ _ _

theorem tmod_pos (x y : Int) (hy : 0 < y) : (if x.tmod y < 0 then x.tmod y + y else x.tmod y) = x % y := by
  have h1 := Int.emod_nonneg x (show y ≠ 0 by omega)
  have h2 := Int.emod_lt_of_pos x hy
  rcases Int.lt_or_le x 0 with hx | hx
  · have e : x.tmod y = -((-x) % y) := by
      rw [show x = -(-x) by omega, Int.neg_tmod, Int.tmod_eq_emod_of_nonneg (by omega)]; simp
    rw [e]
    have h3 := Int.emod_nonneg (-x) (show y ≠ 0 by omega)
    have h4 := Int.emod_lt_of_pos (-x) hy
    by_cases hz : (-x) % y = 0
    · rw [hz]
      have hd : y ∣ x := (Int.dvd_neg).1 (Int.dvd_of_emod_eq_zero hz)
      rw [Int.emod_eq_zero_of_dvd hd]; simp
    · rw [if_pos (by omega)]
      have hq : x = y * (-((-x) / y) - 1) + (y - (-x) % y) := by
        have := Int.emod_add_mul_ediv (-x) y
        rw [Int.mul_sub, Int.mul_neg]; omega
      have := Int.emod_emod_of_dvd x (Int.dvd_refl y)
      conv => rhs; rw [hq, Int.add_comm, Int.add_mul_emod_self_left, Int.emod_eq_of_lt (by omega) (by omega)]
      omega
  · rw [Int.tmod_eq_emod_of_nonneg hx, if_neg (by omega)]
end Go.Ab
namespace Go.Ab
open Go.RowKit

/-- From a contract to the machine's own word on a call. -/
theorem calls_of_acalls {P : Program} {f : FuncId} {fn : Func} (hf : P.funcs[f]? = some fn) (hname : (fn.name == "runtime.NumGoroutine") = false) (hb : fn.body.isNone = false)
    {args : List AV} {H : Heap} {n : Nat} {K : AV → Heap → Nat → Prop} (h : ACalls P f args H n K) {m : NM} {w : World} (hH : HRel m H n w) (ha : ∀ v ∈ args, v.ok n = true) :
    Calls P f (args.map (AV.toV m)).toArray w fun e w' => ∃ x, e = .returned x ∧ ∃ (m' : NM) (v : AV) (H' : Heap) (n' : Nat), (v ≠ .junk → x = AV.toV m' v ∧ v.ok n' = true) ∧ HRel m' H' n' w' ∧ n ≤ n' ∧ NM.agree n m m' ∧ Fr m H w m' H' w' ∧ K v H' n' := by
  have := h.2 m w hH ha
  rw [run_callFunc hf hname hb] at this
  exact this

/-- A law that comes to true, of memory that it only reads. -/
theorem law_calls {P : Program} {f : FuncId} {fn : Func} (hf : P.funcs[f]? = some fn) (hname : (fn.name == "runtime.NumGoroutine") = false) (hb : fn.body.isNone = false)
    {args : List AV} {H : Heap} {n : Nat} (h : ACalls P f args H n fun v _ _ => v = .bo true) (hro : ∀ i b, H i = some b → b.ro = true) {m : NM} {w : World} (hH : HRel m H n w) (ha : ∀ v ∈ args, v.ok n = true) :
    Calls P f (args.map (AV.toV m)).toArray w fun e w' => e = .returned (.bool true) ∧ Below w.heap.size w w' :=
  (calls_of_acalls hf hname hb h hH ha).mono fun e w' ⟨x, he, m', v, H', n', hv, _, _, _, hfr, hK⟩ => by
    subst hK
    refine ⟨by rw [he, (hv (by simp)).1]; rfl, hfr.os, hfr.tape, hfr.output, hfr.size, fun k hk => hfr.keep k hk fun i b hi hr => ?_⟩
    rw [hro i b hi] at hr; cases hr

/-- Of numbers and bools alone. -/
theorem law_calls_nil {P : Program} {f : FuncId} {fn : Func} (hf : P.funcs[f]? = some fn) (hname : (fn.name == "runtime.NumGoroutine") = false) (hb : fn.body.isNone = false)
    {args : List AV} (h : ACalls P f args nilH 0 fun v _ _ => v = .bo true) (w : World) (ha : ∀ v ∈ args, v.ok 0 = true) {as : Array Value} (has : as = (args.map (AV.toV ⟨fun _ => 0, fun _ => 0, fun _ => 0⟩)).toArray) :
    Calls P f as w fun e w' => e = .returned (.bool true) ∧ Below w.heap.size w w' := by
  subst has
  exact law_calls hf hname hb h (fun i b hi => by simp [nilH] at hi) (nilH_rel _ 0 w) ha
end Go.Ab
namespace Go.Ab
open Go.RowKit
/-- All arguments read as they did. -/
theorem below_all {H : Type} {enc : TypeId × Value → H} {P : Program} (hl : laidOutB P = true) {W W' : World} (hb : Below W.heap.size W W') :
    ∀ {ts : List TypeId} {vs : List Value} {ds : List (DataW H)} {ps : List MemPlace}, (ts.all fun t => P.readableRec t && decide (t < P.types.size)) = true → DataW.TrodAll enc P W 0 (fun _ => true) true ts vs ds ps →
      (∀ x ∈ ps, x.block < W.heap.size) → DataW.TrodAll enc P W' 0 (fun b => decide (b < W.heap.size)) true ts vs ds ps
  | [], [], [], _, _, h, _ => h
  | t :: ts, v :: vs, d :: ds, ps, ha, h, hlt => by
    obtain ⟨p, q, h1, h2, rfl⟩ := h
    simp only [List.all_cons, Bool.and_eq_true, decide_eq_true_eq] at ha
    exact ⟨p, q, Below.trod hl ha.1.1 ha.1.2 h1 hb (fun x hx => hlt x (List.mem_append_left _ hx)), below_all hl hb ha.2 h2 (fun x hx => hlt x (List.mem_append_right _ hx)), rfl⟩
  | [], [], _ :: _, _, _, h, _ => h.elim
  | [], _ :: _, _, _, _, h, _ => by cases ‹List (DataW H)› <;> exact h.elim
  | _ :: _, [], _, _, _, h, _ => by cases ‹List (DataW H)› <;> exact h.elim
  | _ :: _, _ :: _, [], _, _, h, _ => h.elim
end Go.Ab
namespace Go.Ab
open Go.RowKit

section
variable {Hh : Type} {enc : TypeId × Value → Hh}
theorem trodAll_len {P : Program} {w : World} {base : Nat} {sp : Nat → Bool} {held : Bool} : ∀ {ts : List TypeId} {vs : List Value} {ds : List (DataW Hh)} {ps : List MemPlace}, DataW.TrodAll enc P w base sp held ts vs ds ps → ds.length = ts.length
  | [], vs, ds, ps, h => by
    cases vs with
    | nil => cases ds with
      | nil => rfl
      | cons a b => exact h.elim
    | cons a b => cases ds <;> exact h.elim
  | t :: ts, vs, ds, ps, h => by
    cases vs with
    | nil => cases ds <;> exact h.elim
    | cons v vs => cases ds with
      | nil => exact h.elim
      | cons d ds =>
        obtain ⟨p, q, _, h2, _⟩ := h
        simp [trodAll_len h2]

/-- A law of whatever arguments that comes to true. -/
theorem law_calls_args {P : Program} {f : FuncId} {fn : Func} (hf : P.funcs[f]? = some fn) (hname : (fn.name == "runtime.NumGoroutine") = false) (hb : fn.body.isNone = false) {ts : List TypeId} {sh : List AK}
    (hs : ts.map (argT P) = sh.map some) (h : ∀ (H : Heap) (n : Nat) (L : List AV), RO H → H.wf n → (∀ x ∈ L, x.ok n = true) → fitAs H sh L → ACalls P f L H n fun v _ _ => v = .bo true)
    {w : World} {r : Reach} {base b0 : Nat} {sp : Nat → Bool} {held : Bool} {args : Array Value} {ds : List (DataW Hh)} {ps : List MemPlace} (hA : DataW.TrodAll enc P w base sp held ts args.toList ds ps)
    (hval : ∀ (j : Nat) t v, ts[j]? = some t → args.toList[j]? = some v → Value.okWide P w r b0 t v) :
    Calls P f args w fun e w' => e = .returned (.bool true) ∧ Below w.heap.size w w' := by
  obtain ⟨m, H, n, L, M, e, o, fit⟩ := name_args hA hs hval (nilH_rel ⟨fun _ => 0, fun _ => 0, fun _ => 0⟩ 0 w) (fun i b hi => by simp [nilH] at hi)
  have hargs : args = (L.map (AV.toV m)).toArray := by rw [← e]
  rw [hargs]
  exact law_calls hf hname hb (h H n L M.ro M.rel.wf (fun x hx => (o x hx).1) fit) M.ro M.rel (fun x hx => (o x hx).1)
end
end Go.Ab
namespace Go.Ab
/-- A slice argument: nil, or a row whose cells read so. -/
theorem fitL_list {α : Type} {H : Heap} {el : TypeId} {ks : List EK} {v : AV} (enc : α → List AV) (hconv : ∀ l, FitsR ks l → ∃ x, l = enc x) (h : fitL H (.s el ks) v) :
    ∃ xs : List α, (v = .sn ∧ xs = []) ∨ ∃ b c el', v = .sl b 0 xs.length c ∧ xs.length ≤ c ∧ c ≤ maxLen ∧ H b = some ⟨xs.flatMap enc, el', true⟩ := by
  rcases h with rfl | ⟨b, len, cap, es, el', rfl, h1, h2, h3, h4⟩
  · exact ⟨[], .inl ⟨rfl, rfl⟩⟩
  · obtain ⟨ls, hl, rfl, hf⟩ := flat_split h3
    obtain ⟨xs, hx, he⟩ := enc_list enc hconv ls hf
    exact ⟨xs, .inr ⟨b, cap, el', by rw [hx, hl], by omega, h2, by rw [← he]; exact h4⟩⟩
theorem fitL_bytesIn {H : Heap} {el : TypeId} {v : AV} (h : fitL H (.s el [.int .u8]) v) : ∃ bs, bytesIn H v bs := by
  obtain ⟨xs, hx⟩ := fitL_list (α := BitVec 8) (fun x => [.u8 x]) (fun l hl => by
    match l, hl with
    | [.u8 x], _ => exact ⟨x, rfl⟩) h
  have e : ∀ xs : List (BitVec 8), xs.flatMap (fun x => [AV.u8 x]) = xs.map .u8 := fun xs => by
    induction xs with
    | nil => rfl
    | cons a r ih => rw [List.flatMap_cons, ih]; rfl
  rcases hx with ⟨rfl, rfl⟩ | ⟨b, c, el', rfl, h1, h2, h3⟩
  · exact ⟨[], .inl ⟨rfl, rfl⟩⟩
  · rw [e] at h3
    exact ⟨xs, .whole h3 rfl h1⟩
theorem fitL_int {H : Heap} {v : AV} (h : fitL H (.k (.int .i64)) v) : ∃ x, v = .i64 x ∧ -9223372036854775808 ≤ x ∧ x ≤ 9223372036854775807 := by
  obtain ⟨h, hr⟩ := h
  cases v <;> simp [AV.fits] at h
  exact ⟨_, rfl, hr⟩
theorem fitL_u8 {H : Heap} {v : AV} (h : fitL H (.k (.int .u8)) v) : ∃ x, v = .u8 x := by
  have h := h.1
  cases v <;> simp [AV.fits] at h
  exact ⟨_, rfl⟩
end Go.Ab
