/- What a part that comes in holds, read off its reading. -/
import Derived.Test.YtnepamdmjppglaaOpen
import Derived.Test.YtnepamdmjppglaaPartV
namespace Go.Proofs.Ytnepamdmjppglaa
open Go Go.RowKit Go.ChangeAt Go.ChangeShapes Go.WideShapes Go.Deep Go.Joins

theorem Try.cellsPart : Try.prog.cellsOf 24 = 5 := by kernel_rfl
theorem Try.cellsInt : Try.prog.cellsOf 3 = 1 := by kernel_rfl
theorem Try.cellsParts : Try.prog.cellsOf 22 = 1 := by kernel_rfl
instance : Inhabited PartD := ⟨.mk [] [] 0 0 none 0 []⟩
theorem list5 {α : Type} {cs : List α} (h : cs.length = 5) : ∃ a b c d e, cs = [a, b, c, d, e] := by
  match cs, h with
  | [a, b, c, d, e], _ => exact ⟨a, b, c, d, e, rfl⟩
section
variable {H : Type} {enc : TypeId × Value → H} {w : World} {base : Nat} {spare : Nat → Bool} {held : Bool}
theorem pres_bulk {n : Nat} {X : Nat → PartD} {D : Nat → DataW H} (h : ∀ i, i < n → weight (pre (X i)) ≤ Rows.uptoBulk (D i)) : weight (pres ((List.range n).map X)) ≤ Rows.uptoBulkAll ((List.range n).map D) := by
  induction n with
  | zero => simp [pres, weight, Rows.uptoBulkAll]
  | succ n ih =>
    rw [List.range_succ, List.map_append, List.map_append, pres_app, weight_app, bulk_app]
    have h1 := ih fun i hi => h i (by omega)
    have h2 := h n (Nat.lt_succ_self n)
    simp only [List.map_cons, List.map_nil, pres, List.append_nil, Rows.uptoBulkAll]; omega

theorem open_kids {fuel : Nat} (hel : ∀ n, n < fuel → ∀ (cs : List Value) (y : DataW H × List MemPlace), DataW.trod enc Try.prog w base spare held n 24 cs = some y → ∃ x : PartD, cs = x.cells ∧ PartAt w x ∧ weight (pre x) ≤ Rows.uptoBulk y.1)
    {v : Value} {y : DataW H × List MemPlace} (h : DataW.trod enc Try.prog w base spare held fuel 22 [v] = some y) :
    ∃ (a : Option Addr) (l : List PartD) (cap : Nat), v = .slice a l.length cap ∧ Row w 5 a l.length (l.flatMap PartD.cells) ∧ (∀ x ∈ l, PartAt w x) ∧ weight (pres l) + 1 ≤ Rows.uptoBulk y.1 := by
  rcases DataW.trod_slice Try.underlying22 h with ⟨h1, h2⟩ | ⟨a, len, cap, elems, rest, n, hfu, h1, h2, hb, hl, hm, hlen, hx, -, -⟩
  · simp only [List.cons.injEq, and_true] at h1
    exact ⟨none, [], 0, h1, Row.nil _ _ _, by simp, by rw [h2]; simp [pres, weight, Rows.uptoBulk]⟩
  · simp only [List.cons.injEq, and_true] at h1
    rw [Try.cellsPart] at hx
    obtain ⟨X, hX⟩ := choose_lt (α := PartD) (n := len) (p := fun i x => w.cells? base (a.add (i * 5)) 5 = some x.cells ∧ PartAt w x ∧ weight (pre x) ≤ Rows.uptoBulk (elems.getD i (.nil, [])).1) (fun i hi => by
      have h3 := hx i hi
      rw [List.getElem?_eq_getElem (by omega)] at h3
      obtain ⟨cs', h4, h5⟩ := Option.bind_eq_some_iff.1 h3
      obtain ⟨x, rfl, hp, hw⟩ := hel n (by omega) _ _ h5
      exact ⟨x, h4, hp, by rw [List.getD_eq_getElem?_getD, List.getElem?_eq_getElem (by omega)]; exact hw⟩)
    have hln : ((List.range len).map X).length = len := by simp
    refine ⟨some a, (List.range len).map X, cap, by rw [hln]; exact h1, ?_, fun x hx' => ?_, ?_⟩
    · rw [hln]
      refine ⟨by rw [flat_length PartD.cells 5 PartD.len, hln], fun h0 => ?_⟩
      have hlp : 0 < len := Nat.pos_of_mul_pos_right h0
      obtain ⟨hsp, -, -⟩ := cells_at (hX 0 hlp).1 (by decide)
      have hsp0 : a.spot = none := by simpa [Addr.add] using hsp
      obtain ⟨b, o, s⟩ := a
      simp at hsp0
      subst hsp0
      refine ⟨b, o, rfl, fun j hj => ?_⟩
      have hi : j / 5 < len := Nat.div_lt_of_lt_mul (by rw [Nat.mul_comm]; exact hj)
      have hr : j % 5 < 5 := Nat.mod_lt _ (by decide)
      obtain ⟨-, -, hcell⟩ := cells_at (hX (j / 5) hi).1 (by decide)
      have e1 := hcell (j % 5) hr
      have ej : j / 5 * 5 + j % 5 = j := Nat.div_add_mod' j 5
      have e2 : (Addr.add ⟨b, o, none⟩ (j / 5 * 5)) = ⟨b, o + j / 5 * 5, none⟩ := by
        simp only [Addr.add]; split
        · rename_i h1; rw [h1]; rfl
        · rfl
      rw [e2] at e1
      simp only at e1
      rw [show o + j / 5 * 5 + j % 5 = o + j by omega] at e1
      rw [e1]
      have e3 := flat_get PartD.cells 5 PartD.len ((List.range len).map X) (j / 5) (j % 5) (X (j / 5)) (by simp [hi]) hr
      rw [ej] at e3
      exact e3.symm
    · obtain ⟨i, hi, rfl⟩ := List.mem_map.1 hx'
      exact (hX i (List.mem_range.1 hi)).2.1
    · have h6 := pres_bulk (n := len) (X := X) (D := fun i => (elems.getD i (.nil, [])).1) fun i hi => (hX i hi).2.2
      have h7 := map_by_index elems (.nil, []) (·.1)
      rw [hlen] at h7
      rw [h2]
      simp only [Rows.uptoBulk]
      rw [h7]
      omega
/-- a part that comes in -/
theorem open_part : ∀ (fuel : Nat) (cs : List Value) (y : DataW H × List MemPlace), DataW.trod enc Try.prog w base spare held fuel 24 cs = some y → ∃ x : PartD, cs = x.cells ∧ PartAt w x ∧ weight (pre x) ≤ Rows.uptoBulk y.1 := by
  intro fuel
  induction fuel using Nat.strongRecOn with
  | _ fuel ih =>
    intro cs y h
    obtain ⟨xs, n', hfu, hy, hl, hn, hf⟩ := DataW.trod_struct Try.underlying24 h
    rw [Try.cellsPart] at hl
    obtain ⟨c0, c1, c2, c3, c4, rfl⟩ := list5 hl
    obtain ⟨y0, y1, y2, y3, y4, rfl⟩ := list5 hn
    have h0 := hf 0 _ rfl
    have h1 := hf 1 _ rfl
    have h2 := hf 2 _ rfl
    have h3 := hf 3 _ rfl
    have h4 := hf 4 _ rfl
    simp [Try.cells1String, Try.cellsInt, Try.cellsParts] at h0 h1 h2 h3 h4
    obtain ⟨k, hk, hkl⟩ := string_formB _ _ _ h0
    obtain ⟨t, ht, htl⟩ := string_formB _ _ _ h1
    obtain ⟨lo, hlo, hy2, -⟩ := DataW.trod_int Try.underlying3 h2
    obtain ⟨hi, hhi, hy3, -⟩ := DataW.trod_int Try.underlying3 h3
    obtain ⟨a, ks, cap, hv, hr, hks, hw⟩ := open_kids (fun n hn => ih n (by omega)) h4
    simp only [List.cons.injEq, and_true] at hk ht hlo hhi
    subst hk ht hlo hhi hv
    refine ⟨.mk k t lo hi a cap ks, rfl, .mk hr hks, ?_⟩
    rw [hy, weight_pre]
    simp only [List.map_cons, List.map_nil, Rows.uptoBulk, Rows.uptoBulkAll, PartD.text, PartD.kind, PartD.kids]
    omega
end
end Go.Proofs.Ytnepamdmjppglaa
