/- Parts of the proof: contracts of the seat's functions. -/
import Derived.Test.YtofkkcflpkcdaaaJoyX5
import Derived.Test.YtofkkcflpkcdaaaJoyW3
set_option linter.unusedSimpArgs false
set_option linter.unusedVariables false
namespace Go.Proofs.Joy
open Go.Ab Go
/-! Registers that are handed in -/
theorem fitsR_cons {k : EK} {ks : List EK} {l : List AV} (h : FitsR (k :: ks) l) : ∃ x l', l = x :: l' ∧ x.fits k = true ∧ FitsR ks l' := by
  match l, h with
  | [], h => simp [FitsR, fits] at h
  | x :: l', ⟨h, hr⟩ =>
    simp only [fits, Bool.and_eq_true] at h
    exact ⟨x, l', rfl, h.1, h.2, fun y hy => hr y (List.mem_cons_of_mem _ hy)⟩
theorem fits_u8 {x : AV} (h : x.fits (.int .u8) = true) : ∃ v, x = .u8 v := by cases x <;> simp [AV.fits] at h; exact ⟨_, rfl⟩
theorem fits_u16 {x : AV} (h : x.fits (.int .u16) = true) : ∃ v, x = .u16 v := by cases x <;> simp [AV.fits] at h; exact ⟨_, rfl⟩
theorem fits_bool {x : AV} (h : x.fits .bool = true) : ∃ v, x = .bo v := by cases x <;> simp [AV.fits] at h; exact ⟨_, rfl⟩
theorem fitsR_u8 {ks : List EK} {l : List AV} (h : FitsR (.int .u8 :: ks) l) : ∃ x l', l = .u8 x :: l' ∧ FitsR ks l' := by
  obtain ⟨x, l', rfl, h1, h2⟩ := fitsR_cons h
  obtain ⟨v, rfl⟩ := fits_u8 h1
  exact ⟨v, l', rfl, h2⟩
theorem fitsR_u16 {ks : List EK} {l : List AV} (h : FitsR (.int .u16 :: ks) l) : ∃ x l', l = .u16 x :: l' ∧ FitsR ks l' := by
  obtain ⟨x, l', rfl, h1, h2⟩ := fitsR_cons h
  obtain ⟨v, rfl⟩ := fits_u16 h1
  exact ⟨v, l', rfl, h2⟩
theorem fitsR_bool {ks : List EK} {l : List AV} (h : FitsR (.bool :: ks) l) : ∃ x l', l = .bo x :: l' ∧ FitsR ks l' := by
  obtain ⟨x, l', rfl, h1, h2⟩ := fitsR_cons h
  obtain ⟨v, rfl⟩ := fits_bool h1
  exact ⟨v, l', rfl, h2⟩
theorem fitsR_nil {l : List AV} (h : FitsR [] l) : l = [] := by
  match l, h with
  | [], _ => rfl
  | _ :: _, h => simp [FitsR, fits] at h
def kR : List EK := [.int .u8, .int .u8, .int .u8, .int .u8, .int .u8, .int .u8, .int .u8, .int .u8, .int .u8, .int .u8, .int .u8, .int .u8, .int .u8, .int .u8, .int .u8, .int .u8, .int .u16, .int .u16, .int .u16, .int .u16, .int .u16, .int .u8, .int .u8, .int .u8, .int .u8, .bool, .bool, .bool, .bool]
def shR : AK := .ag (kR.map .k)
theorem fitA_rg {H : Heap} {v : AV} (h00 : fitA H shR v) : ∃ r : Rg, v = .ag r.cells := by
  obtain ⟨l1, rfl, h1⟩ := fitA_flat h00
  obtain ⟨a, l2, rfl, h2⟩ := fitsR_u8 h1
  obtain ⟨f, l3, rfl, h3⟩ := fitsR_u8 h2
  obtain ⟨b, l4, rfl, h4⟩ := fitsR_u8 h3
  obtain ⟨c, l5, rfl, h5⟩ := fitsR_u8 h4
  obtain ⟨d, l6, rfl, h6⟩ := fitsR_u8 h5
  obtain ⟨e, l7, rfl, h7⟩ := fitsR_u8 h6
  obtain ⟨hh_, l8, rfl, h8⟩ := fitsR_u8 h7
  obtain ⟨ll_, l9, rfl, h9⟩ := fitsR_u8 h8
  obtain ⟨a2, l10, rfl, h10⟩ := fitsR_u8 h9
  obtain ⟨f2, l11, rfl, h11⟩ := fitsR_u8 h10
  obtain ⟨b2, l12, rfl, h12⟩ := fitsR_u8 h11
  obtain ⟨c2, l13, rfl, h13⟩ := fitsR_u8 h12
  obtain ⟨d2, l14, rfl, h14⟩ := fitsR_u8 h13
  obtain ⟨e2, l15, rfl, h15⟩ := fitsR_u8 h14
  obtain ⟨h2_, l16, rfl, h16⟩ := fitsR_u8 h15
  obtain ⟨l2_, l17, rfl, h17⟩ := fitsR_u8 h16
  obtain ⟨ix, l18, rfl, h18⟩ := fitsR_u16 h17
  obtain ⟨iy, l19, rfl, h19⟩ := fitsR_u16 h18
  obtain ⟨sp, l20, rfl, h20⟩ := fitsR_u16 h19
  obtain ⟨pc, l21, rfl, h21⟩ := fitsR_u16 h20
  obtain ⟨wz, l22, rfl, h22⟩ := fitsR_u16 h21
  obtain ⟨i, l23, rfl, h23⟩ := fitsR_u8 h22
  obtain ⟨r, l24, rfl, h24⟩ := fitsR_u8 h23
  obtain ⟨im, l25, rfl, h25⟩ := fitsR_u8 h24
  obtain ⟨pre, l26, rfl, h26⟩ := fitsR_u8 h25
  obtain ⟨x1, l27, rfl, h27⟩ := fitsR_bool h26
  obtain ⟨x2, l28, rfl, h28⟩ := fitsR_bool h27
  obtain ⟨x3, l29, rfl, h29⟩ := fitsR_bool h28
  obtain ⟨x4, l30, rfl, h30⟩ := fitsR_bool h29
  obtain rfl := fitsR_nil h30
  exact ⟨⟨a, f, b, c, d, e, hh_, ll_, a2, f2, b2, c2, d2, e2, h2_, l2_, ix, iy, sp, pc, wz, i, r, im, pre, x1, x2, x3, x4⟩, rfl⟩
end Go.Proofs.Joy
namespace Go.Proofs.Joy
open Go.Ab Go.Proofs

theorem back_all (H : Heap) (n : Nat) (L : List AV) (_ : RO H) (_ : H.wf n) (_ : ∀ x ∈ L, x.ok n = true) (hf : fitAs H [shR, .one (.k (.int .i64))] L) : ACalls Try.prog 3 L H n fun v _ _ => v = .bo true := by
  match L, hf with
  | [a, b], ⟨h1, h2, _⟩ =>
    obtain ⟨r, rfl⟩ := fitA_rg h1
    obtain ⟨t, rfl, ht⟩ := fitA_int h2
    exact back_walk _ _ _ _ _ rfl
theorem calls_all (H : Heap) (n : Nat) (L : List AV) (_ : RO H) (_ : H.wf n) (_ : ∀ x ∈ L, x.ok n = true) (hf : fitAs H [.one (.k (.int .u16)), shR] L) : ACalls Try.prog 5 L H n fun v _ _ => v = .bo true := by
  match L, hf with
  | [a, b], ⟨h1, h2, _⟩ =>
    obtain ⟨r, rfl⟩ := fitA_rg h2
    obtain ⟨t, rfl⟩ := fitA_u16 h1
    exact calls_walk _ _ _ _ _ rfl
theorem counts_all (H : Heap) (n : Nat) (L : List AV) (_ : RO H) (_ : H.wf n) (_ : ∀ x ∈ L, x.ok n = true) (hf : fitAs H [.one (.k (.int .u8)), .one (.k (.int .u8))] L) : ACalls Try.prog 6 L H n fun v _ _ => v = .bo true := by
  match L, hf with
  | [a, b], ⟨h1, h2, _⟩ =>
    obtain ⟨r, rfl⟩ := fitA_u8 h1
    obtain ⟨t, rfl⟩ := fitA_u8 h2
    exact counts_walk _ _ _ _ _ rfl
theorem prefixes_all (H : Heap) (n : Nat) (L : List AV) (_ : RO H) (_ : H.wf n) (_ : ∀ x ∈ L, x.ok n = true) (hf : fitAs H [.one (.k (.int .i64)), .one (.k .bool), .one (.k (.int .u8))] L) : ACalls Try.prog 8 L H n fun v _ _ => v = .bo true := by
  match L, hf with
  | [a, b, c], ⟨h1, h2, h3, _⟩ =>
    obtain ⟨t, rfl, ht⟩ := fitA_int h1
    obtain ⟨l, rfl⟩ := fitA_bool h2
    obtain ⟨r, rfl⟩ := fitA_u8 h3
    exact prefixes_walk _ _ _ _ _ _ rfl
theorem copies_all (H : Heap) (n : Nat) (L : List AV) (_ : RO H) (_ : H.wf n) (_ : ∀ x ∈ L, x.ok n = true) (hf : fitAs H [.one (.k (.int .u16)), .one (.k (.int .u16)), .one (.k (.int .i64))] L) : ACalls Try.prog 4 L H n fun v _ _ => v = .bo true := by
  match L, hf with
  | [a, b, c], ⟨h1, h2, h3, _⟩ =>
    obtain ⟨f, rfl⟩ := fitA_u16 h1
    obtain ⟨t, rfl⟩ := fitA_u16 h2
    obtain ⟨m, rfl, hm⟩ := fitA_int h3
    exact copies_walk _ _ _ _ _ _ rfl
end Go.Proofs.Joy
