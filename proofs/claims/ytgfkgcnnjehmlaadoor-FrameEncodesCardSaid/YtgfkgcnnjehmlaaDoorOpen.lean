/- What a slice's argument holds, read off its reading. -/
import Derived.Test.YtgfkgcnnjehmlaaDoorLaid
import Derived.Deep.Slices
import Derived.Lib.SmallJoins
namespace Go.Proofs.YtgfkgcnnjehmlaaDoor
open Go Go.RowKit Go.ChangeAt Go.ChangeShapes Go.WideShapes Go.Deep Go.Joins

theorem cells_at {w : World} {base : Nat} {a : Addr} {n : Nat} {cs : List Value} (h : w.cells? base a n = some cs) (hn : 0 < n) : a.spot = none ∧ cs.length = n ∧ ∀ j, j < n → w.cell? ⟨a.block, a.off + j, none⟩ = cs[j]? := by
  obtain ⟨-, hl, hc⟩ := World.cells?_some h
  have hsp : a.spot = none := by
    have h0 := hc 0 hn
    rw [List.getElem?_eq_getElem (by omega)] at h0
    simp only [Addr.add, if_pos] at h0
    unfold World.cell? at h0
    split at h0
    · split at h0
      · simp at h0
      · rename_i hs; simpa using hs
    · simp at h0
  refine ⟨hsp, hl, fun j hj => ?_⟩
  rw [← hc j hj]
  obtain ⟨b, o, s⟩ := a
  simp at hsp
  subst hsp
  simp only [Addr.add]
  split
  · rename_i h0; subst h0; rfl
  · rfl

/-- a slice that is read holds elements -/
theorem open_row {α : Type} [Inhabited α] (f : α → List Value) (sz : Nat) (hs : 0 < sz) (he : ∀ x, (f x).length = sz) {H : Type} {enc : TypeId × Value → H} {P : Program} {w : World} {base : Nat} {spare : Nat → Bool} {held : Bool} {t e : TypeId} (ht : P.underlying t = some (.slice e)) (hc : P.cellsOf e = sz)
    (hel : ∀ n cs y, DataW.trod enc P w base spare held n e cs = some y → ∃ x, cs = f x) {fuel : Nat} {v : Value} {y : DataW H × List MemPlace} (h : DataW.trod enc P w base spare held fuel t [v] = some y) :
    ∃ (a : Option Addr) (l : List α) (cap : Nat), v = .slice a l.length cap ∧ Row w sz a l.length (l.flatMap f) ∧ l.length ≤ maxLen := by
  rcases open_slice ht h with ⟨h1, _⟩ | ⟨a, len, cap, m, n, D, Pl, h1, hb, hl, hm, hmm, _, hx⟩
  · simp only [List.cons.injEq, and_true] at h1
    exact ⟨none, [], 0, h1, Row.nil _ _ _, by simp [maxLen]⟩
  · simp only [List.cons.injEq, and_true] at h1
    have hlm : len ≤ m := by subst hmm; split <;> omega
    obtain ⟨X, hX⟩ := choose_lt (α := α) (n := len) (p := fun i x => w.cells? base (a.add (i * sz)) sz = some (f x)) (fun i hi => by
      obtain ⟨cs', h2, h3⟩ := hx i (by omega)
      obtain ⟨x, rfl⟩ := hel _ _ _ h3
      exact ⟨x, by rw [← hc]; exact h2⟩)
    have hlen : ((List.range len).map X).length = len := by simp
    refine ⟨some a, (List.range len).map X, cap, by rw [hlen]; exact h1, ?_, by rw [hlen]; omega⟩
    rw [hlen]
    refine ⟨by rw [flat_length f sz he, hlen], fun h0 => ?_⟩
    have hlp : 0 < len := Nat.pos_of_mul_pos_right h0
    obtain ⟨hsp, -, -⟩ := cells_at (hX 0 hlp) hs
    have hsp0 : a.spot = none := by simpa [Addr.add] using hsp
    obtain ⟨b, o, s⟩ := a
    simp at hsp0
    subst hsp0
    refine ⟨b, o, rfl, fun j hj => ?_⟩
    have hi : j / sz < len := Nat.div_lt_of_lt_mul (by rw [Nat.mul_comm]; exact hj)
    have hr : j % sz < sz := Nat.mod_lt _ hs
    obtain ⟨-, -, hcell⟩ := cells_at (hX (j / sz) hi) hs
    have e1 := hcell (j % sz) hr
    have ej : j / sz * sz + j % sz = j := Nat.div_add_mod' j sz
    have e2 : (Addr.add ⟨b, o, none⟩ (j / sz * sz)) = ⟨b, o + j / sz * sz, none⟩ := by
      simp only [Addr.add]; split
      · rename_i h1; rw [h1]; rfl
      · rfl
    rw [e2] at e1
    simp only at e1
    rw [show o + j / sz * sz + j % sz = o + j by omega] at e1
    rw [e1]
    have e3 := flat_get f sz he ((List.range len).map X) (j / sz) (j % sz) (X (j / sz)) (by simp [hi]) hr
    rw [ej] at e3
    exact e3.symm


theorem Tryd.cells1U8 : Tryd.prog.cellsOf 5 = 1 := by kernel_rfl
theorem Tryd.cells1Str : Tryd.prog.cellsOf 9 = 1 := by kernel_rfl

section
variable {H : Type} {enc : TypeId × Value → H} {w : World} {base : Nat} {spare : Nat → Bool} {held : Bool}
theorem u8_form (n : Nat) (cs : List Value) (y : DataW H × List MemPlace) (h : DataW.trod enc Tryd.prog w base spare held n 5 cs = some y) : ∃ b : UInt8, cs = [.int .u8 b.toNat] := by
  obtain ⟨i, rfl, -, hw⟩ := DataW.trod_int Tryd.underlying5 h
  have hb := bounds_u8 hw
  refine ⟨UInt8.ofNat i.toNat, ?_⟩
  rw [UInt8.toNat_ofNat', Nat.mod_eq_of_lt (by omega)]
  congr 2; omega
theorem str_form (n : Nat) (cs : List Value) (y : DataW H × List MemPlace) (h : DataW.trod enc Tryd.prog w base spare held n 9 cs = some y) : ∃ x : List UInt8, cs = [strV x] := by
  obtain ⟨s, rfl, -, -⟩ := DataW.trod_string Tryd.underlying9 h
  exact ⟨s.data.toList, rfl⟩
set_option maxRecDepth 100000 in
theorem open_u8s {v : Value} {b0 : Nat} {d : DataW H} {p : List MemPlace} (hv : Value.okWide Tryd.prog w .any b0 29 v) (h : DataW.Trod enc Tryd.prog w base spare held 29 v d p) :
    ∃ (a : Option Addr) (l : List UInt8) (c : Nat), v = .slice a l.length c ∧ Row w 1 a l.length (l.map fun b => .int .u8 b.toNat) ∧ l.length ≤ maxLen := by
  obtain ⟨a0, len, cap, rfl⟩ := okWide_slice Tryd.underlying29 hv
  obtain ⟨fuel, hf⟩ := h
  have hf' : DataW.trod enc Tryd.prog w base spare held fuel 29 [Value.slice a0 len cap] = some (d, p) := by simpa [Value.cells] using hf
  obtain ⟨a, l, c, h1, h2, h3⟩ := open_row (fun b : UInt8 => [Value.int .u8 b.toNat]) 1 (by decide) (fun _ => rfl) Tryd.underlying29 Tryd.cells1U8 u8_form hf'
  exact ⟨a, l, c, h1, by rw [List.map_eq_flatMap]; exact h2, h3⟩
set_option maxRecDepth 100000 in
theorem open_strs {v : Value} {b0 : Nat} {d : DataW H} {p : List MemPlace} (hv : Value.okWide Tryd.prog w .any b0 22 v) (h : DataW.Trod enc Tryd.prog w base spare held 22 v d p) :
    ∃ (a : Option Addr) (l : List (List UInt8)) (c : Nat), v = .slice a l.length c ∧ Row w 1 a l.length (l.map strV) ∧ l.length ≤ maxLen := by
  obtain ⟨a0, len, cap, rfl⟩ := okWide_slice Tryd.underlying22 hv
  obtain ⟨fuel, hf⟩ := h
  have hf' : DataW.trod enc Tryd.prog w base spare held fuel 22 [Value.slice a0 len cap] = some (d, p) := by simpa [Value.cells] using hf
  obtain ⟨a, l, c, h1, h2, h3⟩ := open_row (fun x : List UInt8 => [strV x]) 1 (by decide) (fun _ => rfl) Tryd.underlying22 Tryd.cells1Str str_form hf'
  exact ⟨a, l, c, h1, by rw [List.map_eq_flatMap]; exact h2, h3⟩
end
end Go.Proofs.YtgfkgcnnjehmlaaDoor
