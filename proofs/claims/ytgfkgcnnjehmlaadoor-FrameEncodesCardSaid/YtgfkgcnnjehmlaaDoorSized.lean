/- How long the strings of an argument may be. -/
import Derived.Test.YtgfkgcnnjehmlaaDoorOpen
import Derived.SizedLaws
namespace Go.Proofs.YtgfkgcnnjehmlaaDoor
open Go Go.RowKit Go.ChangeAt Go.ChangeShapes Go.WideShapes Go.Deep Go.Joins

theorem weightsAll_mem {H : Type} {P : Program} {e : TypeId} {ds : List (DataW H)} {d : DataW H} {n : Nat} (hd : d ∈ ds) (hn : n ∈ d.weights P e) : n ∈ DataW.weightsAll P e ds := by
  induction ds with
  | nil => cases hd
  | cons x r ih =>
    rw [DataW.weightsAll, List.mem_append]
    rcases List.mem_cons.1 hd with rfl | h
    · exact .inl hn
    · exact .inr (ih h)

section
variable {H : Type} {enc : TypeId × Value → H} {w : World} {base : Nat} {spare : Nat → Bool} {held : Bool}
theorem strs_sized {fuel : Nat} {v : Value} {y : DataW H × List MemPlace} (hf : DataW.trod enc Tryd.prog w base spare held fuel 22 [v] = some y) {a : Option Addr} {l : List (List UInt8)} {c : Nat} (hv : v = .slice a l.length c) (hr : Row w 1 a l.length (l.map strV))
    (hz : ∀ n ∈ y.1.weights Tryd.prog 22, n ≤ reachBytes) : ∀ x ∈ l, x.length ≤ reachBytes := by
  intro x hx
  rcases open_slice Tryd.underlying22 hf with ⟨h1, _⟩ | ⟨a', len, cap, m, n, D, Pl, h1, hb, hl, hm, hmm, rfl, hel⟩
  · rw [hv] at h1
    simp only [List.cons.injEq, and_true, Value.slice.injEq] at h1
    have := List.length_eq_zero_iff.1 h1.2.1
    rw [this] at hx; cases hx
  · rw [hv] at h1
    simp only [List.cons.injEq, and_true, Value.slice.injEq] at h1
    obtain ⟨rfl, rfl, rfl⟩ := h1
    have hlm : l.length ≤ m := by subst hmm; split <;> omega
    obtain ⟨i, hi⟩ := List.mem_iff_getElem?.1 hx
    have hil := get_lt hi
    obtain ⟨cs', h2, h3⟩ := hel i (by omega)
    rw [Tryd.cells1Str] at h2
    obtain ⟨s, rfl, h4, -⟩ := DataW.trod_string Tryd.underlying9 h3
    obtain ⟨h5, -, h6⟩ := cells_at h2 (by decide)
    obtain ⟨b, off, ha, h7⟩ := hr.elem1 hi
    have h8 := h6 0 (by decide)
    simp only [Option.some.injEq] at ha
    subst ha
    have e2 : (Addr.add ⟨b, off, none⟩ (i * 1)) = ⟨b, off + i, none⟩ := by
      simp only [Addr.add, Nat.mul_one]; split
      · rename_i h1; rw [h1]; rfl
      · rfl
    rw [e2] at h8
    simp only [Nat.add_zero, List.getElem?_cons_zero] at h8
    rw [h7] at h8
    have hsx : s.data.toList = x := by
      have h9 := Option.some.inj h8
      unfold strV at h9
      injection h9 with h9
      rw [← h9]
    have hD : D i = .lit (.string x) := by rw [← hsx]; exact (Prod.mk.inj h4).1
    refine hz x.length ?_
    simp only [DataW.weights, Tryd.underlying22]
    refine List.mem_cons_of_mem _ (List.mem_append_left _ (weightsAll_mem (d := D i) (List.mem_map.2 ⟨i, by simpa using hil, rfl⟩) ?_))
    rw [hD]; simp [DataW.weights]
end
end Go.Proofs.YtgfkgcnnjehmlaaDoor
