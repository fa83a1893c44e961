import Derived.Test.YtglkkfobkncbbaaJoyAbMem8
namespace Go.Ab

theorem growBy_le (nl : Nat) : ∀ (r c : Nat), c ≤ 2 * nl + 1000 → Builtin.growBy nl r c ≤ 2 * nl + 1000
  | 0, c, h => h
  | r + 1, c, h => by
    simp only [Builtin.growBy]
    split
    · exact h
    · exact growBy_le nl r _ (by omega)
theorem nextslicecap_le {need cap : Nat} (h : cap < need) : Builtin.nextslicecap need cap ≤ 2 * need + 1000 := by
  unfold Builtin.nextslicecap
  split
  · omega
  · split
    · omega
    · exact growBy_le _ _ _ (by omega)

def notIntT (P : Program) (t : TypeId) : Bool := match P.underlying t with
  | some (.int _) => false
  | some _ => true
  | none => false
def isIntD : TypeDesc → Bool
  | .int _ => true
  | _ => false
theorem notIntT_spec {P : Program} {t : TypeId} (h : notIntT P t = true) : ∃ d, P.underlying t = some d ∧ isIntD d = false := by
  unfold notIntT at h
  cases hu : P.underlying t with
  | none => rw [hu] at h; simp at h
  | some d =>
    rw [hu] at h
    exact ⟨d, rfl, by cases d <;> first | rfl | simp at h⟩

structure AppT where
  el : TypeId
  e : Nat
  by_ : Nat
  z : List AV
/-- All that append asks of the types: the element, its cells, its bytes, its zero. -/
def appT (P : Program) (t : TypeId) : Option AppT :=
  match elT P t with
  | some (el, e, by_) => match zeroT P el with
    | some z => if z.length = e ∧ 0 < e ∧ by_ ≤ 1024 then some ⟨el, e, by_, z⟩ else none
    | none => none
  | none => none

theorem appT_spec {P : Program} {t : TypeId} {a : AppT} (h : appT P t = some a) : elT P t = some (a.el, a.e, a.by_) ∧ zeroT P a.el = some a.z ∧ a.z.length = a.e ∧ 0 < a.e ∧ a.by_ ≤ 1024 := by
  unfold appT at h
  split at h <;> try (simp at h; done)
  rename_i el e by_ hel
  split at h <;> try (simp at h; done)
  rename_i z hz
  split at h <;> try (simp at h; done)
  rename_i hc
  simp only [Option.some.injEq] at h; subst h
  exact ⟨hel, hz, hc⟩

/-- append, where the row must grow. -/
theorem append_grow {P : Program} {t t' ty : TypeId} {a : AppT} {base : Option Addr} {sl sc l : Nat} {X : Value} {old new : List Value} {w : World} (ha : appT P t = some a) (hni : notIntT P t' = true)
    (hgrow : sc < sl + l) (hsmall : sl + l ≤ 4294967296)
    (hlen : ∀ w, (Builtin.lenOf X).run P w = .ok l w) (hold : ∀ d, (Builtin.firstCells a.e sl (.slice base sl sc)).run P { w with drawn := d } = .ok old.toArray { w with drawn := d })
    (hnew : ∀ d, (Builtin.firstCells a.e l X).run P { w with drawn := d } = .ok new.toArray { w with drawn := d }) (ho : old.length = sl * a.e) (hn : new.length = l * a.e) :
    ∃ (cap : Nat) (rest : List Value) (d : Nat), sl + l ≤ cap ∧ (old ++ new ++ rest).length = cap * a.e ∧
      (Builtin.append_ #[t, t'] ty #[.slice base sl sc, X]).run P w = (do pure (.slice (some (← newRow a.el (old ++ new ++ rest).toArray)) (sl + l) cap) : Sem Value).run P { w with drawn := d } := by
  obtain ⟨hel, hz, hzl, he0, hby⟩ := appT_spec ha
  obtain ⟨hu, hs, ti, hti, hbt⟩ := elT_spec hel
  obtain ⟨zv, hzr, hzm, hzok⟩ := zeroT_spec hz
  obtain ⟨d', hd0, hdi⟩ := notIntT_spec hni
  have hzsz : zv.cells.size = a.e := by rw [← Array.length_toList, hzm ⟨fun _ => 0, fun _ => 0⟩]; simpa using hzl
  refine ⟨sl + l + (w.tape w.drawn (.appendCap (sl + l) sc a.el)) % (2 ^ 63 - (sl + l)), (Builtin.zeroCells zv.cells ((w.tape w.drawn (.appendCap (sl + l) sc a.el)) % (2 ^ 63 - (sl + l)))).toList, w.drawn + 1, by omega, ?_, ?_⟩
  · simp only [List.length_append, ho, hn, Builtin.zeroCells, Array.length_toList, Array.size_map, Array.size_range, hzsz]
    rw [← Nat.add_mul, ← Nat.add_mul]
  · simp only [Builtin.append_, List.getElem?_toArray, List.getElem?_cons_zero, List.getElem?_cons_succ]
    rw [run_ok_bind (run_underlying hu w)]
    dsimp only
    rw [run_ok_bind (hs w), run_ok_bind (run_underlying hd0 w)]
    have hcap : ¬ (Builtin.nextslicecap (sl + l) sc * ti.bytes > 2 ^ 48) := by
      have h1 := nextslicecap_le hgrow
      rw [hbt]
      have h2 : Builtin.nextslicecap (sl + l) sc * a.by_ ≤ (2 * (sl + l) + 1000) * 1024 := Nat.mul_le_mul h1 hby
      have h3 : (2 : Nat) ^ 48 = 281474976710656 := rfl
      omega
    have hroom : ∀ k w, (askRoom k).run P w = .ok () w := fun k w => by unfold askRoom; split <;> rfl
    have hmax : ¬ (((sl + l : Nat) : Int) > IntKind.i64.max) := by
      have : IntKind.i64.max = 9223372036854775807 := rfl
      rw [this]; omega
    have hch : ∀ w : World, (choose (.appendCap (sl + l) sc a.el)).run P w = .ok (sl + l + (w.tape w.drawn (.appendCap (sl + l) sc a.el)) % (2 ^ 63 - (sl + l))) { w with drawn := w.drawn + 1 } := fun w => rfl
    cases d' <;> first | (simp [isIntD] at hdi; done) | skip
    all_goals
      simp only [pure_bind, Bool.false_eq_true, if_false, Bool.not_false, if_true]
      rw [run_ok_bind (hlen w), if_neg (by omega), run_ok_bind (hti w), if_neg (fun h => hmax h.1), run_ok_bind (hti w), if_neg hcap, run_ok_bind (hch w), run_ok_bind (hti _), run_ok_bind (hroom _ _),
        run_ok_bind (hold _), run_ok_bind (hnew _), run_ok_bind (hzr _)]
      simp only [Nat.add_sub_cancel_left, ← List.append_toArray, Array.toArray_toList]

/-! append: where the capacity isn't known, the old name is given up -/
def appendK (P : Program) (H : Heap) (n : Nat) (t t' : TypeId) (s x : AV) (K : AV → Heap → Nat → Prop) : Prop :=
  notIntT P t' = true ∧ match appT P t with
  | none => False
  | some a => (match x with | .st _ => a.e = 1 | _ => True) ∧ srcK H a.e x fun l new =>
    match s with
    | .sn => (l = 0 → K .sn H n) ∧ (0 < l → l ≤ 4294967296 ∧ K (.su n 0 l a.e) (H.upd n (some ⟨new, a.el, false⟩)) (n + 1))
    | .sl b o sl c => match H b with
      | some blk => o + sl * a.e ≤ blk.cells.length ∧
          (sl + l ≤ c → blk.ro = false ∧ o + (sl + l) * a.e ≤ blk.cells.length ∧ K (.sl b o (sl + l) c) (H.upd b (some { blk with cells := splice blk.cells (o + sl * a.e) new })) n) ∧
          (c < sl + l → sl + l ≤ 4294967296 ∧ K (.su n 0 (sl + l) a.e) (H.upd n (some ⟨(blk.cells.drop o).take (sl * a.e) ++ new, a.el, false⟩)) (n + 1))
      | none => False
    | .su b o sl e => match H b with
      | some blk => e = a.e ∧ o = 0 ∧ blk.ro = false ∧ blk.elem = a.el ∧ sl * a.e ≤ blk.cells.length ∧ sl + l ≤ 4294967296 ∧
          K (.su n 0 (sl + l) a.e) ((H.upd b none).upd n (some ⟨blk.cells.take (sl * a.e) ++ new, a.el, false⟩)) (n + 1)
      | none => False
    | _ => False

/-- Where the row grew: a new block. -/
theorem append_new {P : Program} {m : NM} {H : Heap} {n : Nat} {w : World} (hH : HRel m H n w) {t t' ty : TypeId} {a : AppT} {base : Option Addr} {sl sc l : Nat} {X : Value} {old new : List AV} (ha : appT P t = some a) (hni : notIntT P t' = true)
    (hgrow : sc < sl + l) (hsmall : sl + l ≤ 4294967296)
    (hlen : ∀ w, (Builtin.lenOf X).run P w = .ok l w) (hold : ∀ w, HRel m H n w → (Builtin.firstCells a.e sl (.slice base sl sc)).run P w = .ok (old.map (AV.toV m)).toArray w)
    (hnew : ∀ w, HRel m H n w → (Builtin.firstCells a.e l X).run P w = .ok (new.map (AV.toV m)).toArray w) (ho : old.length = sl * a.e) (hn : new.length = l * a.e)
    (hok : ∀ v ∈ old ++ new, v.ok n = true ∧ v.one = true) :
    ∃ m' w' x, (Builtin.append_ #[t, t'] ty #[.slice base sl sc, X]).run P w = .ok x w' ∧ HRel m' (H.upd n (some ⟨old ++ new, a.el, false⟩)) (n + 1) w' ∧ NM.agree n m m' ∧
      Fr m H w m' (H.upd n (some ⟨old ++ new, a.el, false⟩)) w' ∧ x = AV.toV m' (.su n 0 (sl + l) a.e) := by
  obtain ⟨_, _, _, he0, _⟩ := appT_spec ha
  have hd : ∀ d, HRel m H n { w with drawn := d } := fun d => ⟨hH.dom, hH.blk, hH.inj, hH.ok⟩
  obtain ⟨cap, rest, d, hcap, hclen, hrun⟩ := append_grow (P := P) (t := t) (t' := t') (ty := ty) (base := base) (X := X) (old := old.map (AV.toV m)) (new := new.map (AV.toV m)) (w := w) ha hni hgrow hsmall hlen
    (fun d => hold _ (hd d)) (fun d => hnew _ (hd d)) (by simpa using ho) (by simpa using hn)
  have hA := (hd d).alloc (c := (old.map (AV.toV m) ++ new.map (AV.toV m) ++ rest).toArray) (fz := (0, 0)) (blk := ⟨old ++ new, a.el, false⟩) (fun k _ => by unfold freeAt; omega) (fun j v hj => by
    rw [List.getElem?_toArray, List.getElem?_append_left, ← List.map_append, List.getElem?_map]
    · simp only at hj; rw [hj]; rfl
    · have : j < (old ++ new).length := by
        rcases Nat.lt_or_ge j (old ++ new).length with h | h
        · exact h
        · simp only at hj; rw [List.getElem?_eq_none h] at hj; simp at hj
      simpa using this) hok
  refine ⟨_, _, _, ?_, hA.1, NM.new_agree _ _ _ _, ⟨hA.2.os, hA.2.tape, hA.2.output, hA.2.size, hA.2.keep, hA.2.own⟩, rfl⟩
  rw [hrun]
  have hdiv : cap * a.e / a.e = cap := Nat.mul_div_cancel _ he0
  simp only [newRow, newObj, AV.toV, NM.new, if_true, Nat.sub_zero, List.size_toArray, hclen, hdiv]
  rfl

end Go.Ab
