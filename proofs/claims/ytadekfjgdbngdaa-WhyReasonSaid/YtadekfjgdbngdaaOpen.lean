/- What a graph's argument holds, read off its reading. -/
import Derived.Test.YtadekfjgdbngdaaLawW
import Derived.ProofKit
import Derived.Deep.Slices
import Derived.Lib.SmallJoins
namespace Go.Proofs.Ytadekfjgdbngdaa
open Go Go.RowKit Go.ChangeAt Go.ChangeShapes Go.WideShapes Go.Deep Go.Joins

theorem cells_at {w : World} {base : Nat} {a : Addr} {n : Nat} {cs : List Value} (h : w.cells? base a n = some cs) (hn : 0 < n) : a.spot = none ∧ cs.length = n ∧ ∀ j, j < n → w.cell? ⟨a.block, a.off + j, none⟩ = cs[j]? := by
  obtain ⟨-, hl, hc⟩ := World.cells?_some h
  have hsp : a.spot = none := by
    have h0 := hc 0 hn
    rw [List.getElem?_eq_getElem (by omega)] at h0
    simp only [Addr.add, if_pos] at h0
    unfold World.cell? at h0
    split at h0
    · split at h0
      · simp at h0
      · rename_i hs; simpa using hs
    · simp at h0
  refine ⟨hsp, hl, fun j hj => ?_⟩
  rw [← hc j hj]
  obtain ⟨b, o, s⟩ := a
  simp at hsp
  subst hsp
  simp only [Addr.add]
  split
  · rename_i h0; subst h0; rfl
  · rfl

/-- a slice that is read holds elements -/
theorem open_row {α : Type} [Inhabited α] (f : α → List Value) (sz : Nat) (hs : 0 < sz) (he : ∀ x, (f x).length = sz) {H : Type} {enc : TypeId × Value → H} {P : Program} {w : World} {base : Nat} {spare : Nat → Bool} {held : Bool} {t e : TypeId} (ht : P.underlying t = some (.slice e)) (hc : P.cellsOf e = sz)
    (hel : ∀ n cs y, DataW.trod enc P w base spare held n e cs = some y → ∃ x, cs = f x) {fuel : Nat} {v : Value} {y : DataW H × List MemPlace} (h : DataW.trod enc P w base spare held fuel t [v] = some y) :
    ∃ (a : Option Addr) (l : List α) (cap : Nat), v = .slice a l.length cap ∧ Row w sz a l.length (l.flatMap f) ∧ l.length ≤ maxLen := by
  rcases open_slice ht h with ⟨h1, _⟩ | ⟨a, len, cap, m, n, D, Pl, h1, hb, hl, hm, hmm, _, hx⟩
  · simp only [List.cons.injEq, and_true] at h1
    exact ⟨none, [], 0, h1, Row.nil _ _ _, by simp [maxLen]⟩
  · simp only [List.cons.injEq, and_true] at h1
    have hlm : len ≤ m := by subst hmm; split <;> omega
    obtain ⟨X, hX⟩ := choose_lt (α := α) (n := len) (p := fun i x => w.cells? base (a.add (i * sz)) sz = some (f x)) (fun i hi => by
      obtain ⟨cs', h2, h3⟩ := hx i (by omega)
      obtain ⟨x, rfl⟩ := hel _ _ _ h3
      exact ⟨x, by rw [← hc]; exact h2⟩)
    have hlen : ((List.range len).map X).length = len := by simp
    refine ⟨some a, (List.range len).map X, cap, by rw [hlen]; exact h1, ?_, by rw [hlen]; omega⟩
    rw [hlen]
    refine ⟨by rw [flat_length f sz he, hlen], fun h0 => ?_⟩
    have hlp : 0 < len := Nat.pos_of_mul_pos_right h0
    obtain ⟨hsp, -, -⟩ := cells_at (hX 0 hlp) hs
    have hsp0 : a.spot = none := by simpa [Addr.add] using hsp
    obtain ⟨b, o, s⟩ := a
    simp at hsp0
    subst hsp0
    refine ⟨b, o, rfl, fun j hj => ?_⟩
    have hi : j / sz < len := Nat.div_lt_of_lt_mul (by rw [Nat.mul_comm]; exact hj)
    have hr : j % sz < sz := Nat.mod_lt _ hs
    obtain ⟨-, -, hcell⟩ := cells_at (hX (j / sz) hi) hs
    have e1 := hcell (j % sz) hr
    have ej : j / sz * sz + j % sz = j := Nat.div_add_mod' j sz
    have e2 : (Addr.add ⟨b, o, none⟩ (j / sz * sz)) = ⟨b, o + j / sz * sz, none⟩ := by
      simp only [Addr.add]; split
      · rename_i h1; rw [h1]; rfl
      · rfl
    rw [e2] at e1
    simp only at e1
    rw [show o + j / sz * sz + j % sz = o + j by omega] at e1
    rw [e1]
    have e3 := flat_get f sz he ((List.range len).map X) (j / sz) (j % sz) (X (j / sz)) (by simp [hi]) hr
    rw [ej] at e3
    exact e3.symm

theorem Try.cellsEdge : Try.prog.cellsOf 45 = 3 := by kernel_rfl
theorem Try.cellsLoc : Try.prog.cellsOf 65 = 5 := by kernel_rfl
theorem Try.cellsGraph : Try.prog.cellsOf 25 = 3 := by kernel_rfl

instance : Inhabited LocD := ⟨⟨ByteArray.empty, ByteArray.empty, 0, 0, 0⟩⟩

theorem list5 {α : Type} {cs : List α} (h : cs.length = 5) : ∃ a b c d e, cs = [a, b, c, d, e] := by
  match cs, h with
  | [a, b, c, d, e], _ => exact ⟨a, b, c, d, e, rfl⟩
theorem list3 {α : Type} {cs : List α} (h : cs.length = 3) : ∃ a b c, cs = [a, b, c] := by
  match cs, h with
  | [a, b, c], _ => exact ⟨a, b, c, rfl⟩

theorem Try.cells1Int : Try.prog.cellsOf 3 = 1 := by kernel_rfl
theorem Try.cells1String : Try.prog.cellsOf 9 = 1 := by kernel_rfl

section
variable {H : Type} {enc : TypeId × Value → H} {w : World} {base : Nat} {spare : Nat → Bool} {held : Bool}
theorem int_form {n : Nat} {c : Value} {y : DataW H × List MemPlace} (h : DataW.trod enc Try.prog w base spare held n 3 [c] = some y) : ∃ i, c = .int .i64 i := by
  obtain ⟨i, h1, -, -⟩ := DataW.trod_int Try.underlying3 h
  exact ⟨i, by simpa using h1⟩
theorem string_form {n : Nat} {c : Value} {y : DataW H × List MemPlace} (h : DataW.trod enc Try.prog w base spare held n 9 [c] = some y) : ∃ s, c = .string s := by
  obtain ⟨i, h1, -, -⟩ := DataW.trod_string Try.underlying9 h
  exact ⟨i, by simpa using h1⟩

theorem edge_form (n : Nat) (cs : List Value) (y : DataW H × List MemPlace) (h : DataW.trod enc Try.prog w base spare held n 45 cs = some y) : ∃ x : EdgeD, cs = x.cells := by
  obtain ⟨xs, n', -, -, hl, hn, hf⟩ := DataW.trod_struct Try.underlying45 h
  rw [Try.cellsEdge] at hl
  obtain ⟨c0, c1, c2, rfl⟩ := list3 hl
  obtain ⟨y0, y1, y2, rfl⟩ := list3 hn
  have h0 := hf 0 _ rfl
  have h1 := hf 1 _ rfl
  have h2 := hf 2 _ rfl
  simp [Try.cells1Int] at h0 h1 h2
  obtain ⟨i0, rfl⟩ := int_form h0
  obtain ⟨i1, rfl⟩ := int_form h1
  obtain ⟨i2, rfl⟩ := int_form h2
  exact ⟨⟨i0, i1, i2⟩, rfl⟩

theorem loc_form (n : Nat) (cs : List Value) (y : DataW H × List MemPlace) (h : DataW.trod enc Try.prog w base spare held n 65 cs = some y) : ∃ x : LocD, cs = x.cells := by
  obtain ⟨xs, n', -, -, hl, hn, hf⟩ := DataW.trod_struct Try.underlying65 h
  rw [Try.cellsLoc] at hl
  obtain ⟨c0, c1, c2, c3, c4, rfl⟩ := list5 hl
  obtain ⟨y0, y1, y2, y3, y4, rfl⟩ := list5 hn
  have h0 := hf 0 _ rfl
  have h1 := hf 1 _ rfl
  have h2 := hf 2 _ rfl
  have h3 := hf 3 _ rfl
  have h4 := hf 4 _ rfl
  simp [Try.cells1Int, Try.cells1String] at h0 h1 h2 h3 h4
  obtain ⟨s0, rfl⟩ := string_form h0
  obtain ⟨s1, rfl⟩ := string_form h1
  obtain ⟨i2, rfl⟩ := int_form h2
  obtain ⟨i3, rfl⟩ := int_form h3
  obtain ⟨i4, rfl⟩ := int_form h4
  exact ⟨⟨s0, s1, i2, i3, i4⟩, rfl⟩

set_option maxRecDepth 100000 in
theorem open_graph {b0 : Nat} {v : Value} {d : DataW H} {p : List MemPlace} (hv : Value.okWide Try.prog w .any b0 25 v) (h : DataW.Trod enc Try.prog w base spare held 25 v d p) :
    ∃ (aL : Option Addr) (cL : Nat) (aE : Option Addr) (cE : Nat) (k : Int) (locs : List LocD) (edges : List EdgeD), v = .agg #[.slice aL locs.length cL, .slice aE edges.length cE, .int .i64 k] ∧ Row w 5 aL locs.length (locs.flatMap LocD.cells) ∧ Row w 3 aE edges.length (edges.flatMap EdgeD.cells) ∧ locs.length ≤ maxLen ∧ edges.length ≤ maxLen := by
  obtain ⟨v0, v1, v2, y0, y1, y2, n, rfl, -, -, h0, h1, h2⟩ := open_agg3 Try.underlying25 (by kernel_rfl) Try.cellsGraph hv h
  obtain ⟨aL, locs, cL, rfl, hL, hl⟩ := open_row LocD.cells 5 (by decide) LocD.len Try.underlying22 Try.cellsLoc loc_form h0
  obtain ⟨aE, edges, cE, rfl, hE, he⟩ := open_row EdgeD.cells 3 (by decide) EdgeD.len Try.underlying23 Try.cellsEdge edge_form h1
  obtain ⟨k, rfl⟩ := int_form h2
  exact ⟨aL, cL, aE, cE, k, locs, edges, rfl, hL, hE, hl, he⟩
end
end Go.Proofs.Ytadekfjgdbngdaa
