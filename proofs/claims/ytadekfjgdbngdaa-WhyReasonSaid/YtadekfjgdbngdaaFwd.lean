/- The edges that lead from each location, as made gathers them: the rows of rows, outside the walk. -/
import Derived.Test.YtadekfjgdbngdaaOf
import Derived.Test.YtadekfjgdbngdaaWhyP
namespace Go.Proofs.Ytadekfjgdbngdaa
open Go Go.RowKit

/-- the edges of the first k that lead from i -/
def fk (edges : List EdgeD) (k i : Nat) : List EdgeD := (edges.take k).filter fun e => e.src == (i : Int)

theorem fk_hit {edges : List EdgeD} {k i : Nat} {x : EdgeD} (hx : edges[k]? = some x) (h : x.src = i) : fk edges (k + 1) i = fk edges k i ++ [x] := by
  obtain ⟨h1, h2⟩ := List.getElem?_eq_some_iff.1 hx
  unfold fk
  rw [List.take_succ_eq_append_getElem h1, List.filter_append, h2]
  simp [h]
theorem fk_miss {edges : List EdgeD} {k i : Nat} {x : EdgeD} (hx : edges[k]? = some x) (h : x.src ≠ i) : fk edges (k + 1) i = fk edges k i := by
  obtain ⟨h1, h2⟩ := List.getElem?_eq_some_iff.1 hx
  unfold fk
  rw [List.take_succ_eq_append_getElem h1, List.filter_append, h2]
  simp [h]
theorem fk_len (edges : List EdgeD) (k i : Nat) : (fk edges k i).length ≤ k := by
  unfold fk
  exact Nat.le_trans (List.length_filter_le _ _) (by rw [List.length_take]; omega)

structure FwdInv (w : World) (B gb n : Nat) (edges : List EdgeD) (k : Nat) (bs : Nat → Option Addr × Nat) : Prop where
  blk : ∃ cur, Blk w gb cur 33 ∧ cur.size = n ∧ ∀ i, i < n → cur[i]? = some (.slice (bs i).1 (fk edges k i).length (bs i).2)
  own : ∀ i, i < n → Own w B 48 3 (bs i).1 (fk edges k i).length (bs i).2 ((fk edges k i).flatMap EdgeD.cells)
  apart : ∀ i j, i < n → j < n → i ≠ j → 0 < (bs i).2 → 0 < (bs j).2 → blockOf (bs i).1 ≠ blockOf (bs j).1

theorem FwdInv.cell {w : World} {B gb n : Nat} {edges : List EdgeD} {k : Nat} {bs : Nat → Option Addr × Nat} (h : FwdInv w B gb n edges k bs) {i : Nat} (hi : i < n) :
    w.cell? ⟨gb, i, none⟩ = some (.slice (bs i).1 (fk edges k i).length (bs i).2) ∧ w.frozen? ⟨gb, i, none⟩ = false ∧ gb < w.heap.size := by
  obtain ⟨cur, h1, h2, h3⟩ := h.blk
  exact ⟨by rw [h1.cell, h3 i hi], h1.free i, h1.lt⟩

theorem rowOf_pos2 {a : Option Addr} {c : Nat} (h : 0 < c) : rowOf a c = blockOf a := by unfold rowOf; rw [if_neg (by omega)]

theorem FwdInv.step {w W2 w1 : World} {B gb n : Nat} {edges : List EdgeD} {k : Nat} {bs : Nat → Option Addr × Nat} (h : FwdInv w B gb n edges k bs) (hgb : gb < B) {x : EdgeD} (hx : edges[k]? = some x) {d : Nat} (hd : x.src = d) (hdn : d < n)
    (hW : ∀ g, g < w.heap.size → W2.heap[g]? = w.heap[g]?) (hWs : w.heap.size ≤ W2.heap.size) {a' : Option Addr} {c' : Nat} (hown : Own w1 B 48 3 a' ((fk edges k d).length + 1) c' ((fk edges k d).flatMap EdgeD.cells ++ x.cells))
    (hg : W2.grownBy w1 (rowOf (bs d).1 (bs d).2)) (hbk : rowOf a' c' = rowOf (bs d).1 (bs d).2 ∨ rowOf a' c' = some W2.heap.size) :
    FwdInv (w1.setCell ⟨gb, d, none⟩ (.slice a' ((fk edges k d).length + 1) c')) B gb n edges (k + 1) (fun i => if i = d then (a', c') else bs i) := by
  have hle := hown.le
  have hrow : ∀ g, rowOf (bs d).1 (bs d).2 = some g → B ≤ g := (h.own d hdn).rowBase (Nat.le_refl _)
  have hsetown : ∀ {a : Option Addr} {m c : Nat} {xs : List Value}, Own w1 B 48 3 a m c xs → Own (w1.setCell ⟨gb, d, none⟩ (.slice a' ((fk edges k d).length + 1) c')) B 48 3 a m c xs := fun ho =>
    ho.setCell_other (fun he => by have := ho.base he; simp at this; omega) _
  refine ⟨?_, fun i hi => ?_, fun i j hi hj hij h1 h2 => ?_⟩
  · obtain ⟨cur, h1, h2, h3⟩ := h.blk
    have hb1 : Blk w1 gb cur 33 := by
      have e1 : W2.heap[gb]? = w.heap[gb]? := hW gb h1.lt
      have e2 : w1.heap[gb]? = W2.heap[gb]? := hg.block gb (Nat.lt_of_lt_of_le h1.lt hWs) (fun he => by have := hrow gb he.symm; omega)
      exact (e2.trans e1).trans h1
    refine ⟨_, hb1.set d _, by simpa using h2, fun i hi => ?_⟩
    by_cases hid : i = d
    · subst hid
      simp only [if_true, Array.getElem?_setIfInBounds, h2, hi, fk_hit hx hd, List.length_append, List.length_singleton]
    · simp only [if_neg hid]
      rw [Array.getElem?_setIfInBounds_ne (fun he => hid he.symm), h3 i hi, fk_miss hx (by rw [hd]; omega)]
  · by_cases hid : i = d
    · subst hid
      simp only [if_true]
      rw [fk_hit hx hd, List.flatMap_append, List.length_append]
      simp only [List.flatMap_cons, List.flatMap_nil, List.append_nil, List.length_singleton]
      exact hsetown hown
    · simp only [if_neg hid]
      rw [fk_miss hx (by rw [hd]; omega)]
      have h0 := (h.own i hi).congr (w' := W2) fun g _ hlt => hW g hlt
      exact hsetown (h0.keptApart (h.apart i d hi hdn hid) hg)
  · by_cases hid : i = d
    · subst hid
      simp only [if_true, if_neg (fun he : j = i => hij he.symm)] at h1 h2 ⊢
      rcases hbk with q | q
      · rw [rowOf_pos2 h1] at q
        rw [q]
        unfold rowOf
        split
        · intro he
          have := (h.own j hj).addr h2
          obtain ⟨g, off, e⟩ := this
          rw [e] at he; cases he
        · rename_i hne
          exact h.apart i j hi hj hij (by omega) h2
      · rw [rowOf_pos2 h1] at q
        rw [q]
        intro he
        have := ((h.own j hj).size h2 he.symm).2; omega
    · by_cases hjd : j = d
      · subst hjd
        simp only [if_true, if_neg hid] at h1 h2 ⊢
        rcases hbk with q | q
        · rw [rowOf_pos2 h2] at q
          rw [q]
          unfold rowOf
          split
          · intro he
            obtain ⟨g, off, e⟩ := (h.own i hi).addr h1
            rw [e] at he; cases he
          · rename_i hne
            exact h.apart i j hi hj hij h1 (by omega)
        · rw [rowOf_pos2 h2] at q
          rw [q]
          intro he
          have := ((h.own i hi).size h1 he).2; omega
      · simp only [if_neg hid, if_neg hjd] at h1 h2 ⊢
        exact h.apart i j hi hj hij h1 h2


/-- the order of the edges from one location -/
def cfE (x y : EdgeD) : Int := if x.dst < y.dst then -1 else if y.dst < x.dst then 1 else if x.deref < y.deref then -1 else if y.deref < x.deref then 1 else 0
def leE (x y : EdgeD) : Prop := x.dst < y.dst ∨ (x.dst = y.dst ∧ x.deref ≤ y.deref)

/-- a made graph behind a pointer, read: the edges from each location, in order -/
structure MadeY (w : World) (gx n : Nat) (edges : List EdgeD) (F : Nat → List EdgeD) : Prop where
  cells : ∃ gb c, w.cell? ⟨gx, 3, none⟩ = some (.slice (some ⟨gb, 0, none⟩) n c) ∧
    ∀ i, i < n → ∃ a c, w.cell? ⟨gb, i, none⟩ = some (.slice a (F i).length c) ∧ Row w 3 a (F i).length ((F i).flatMap EdgeD.cells)
  mem : ∀ i, i < n → ∀ e, e ∈ F i ↔ e ∈ edges ∧ e.src = i
  sorted : ∀ i, i < n → ∀ (j k : Nat) x y, j < k → (F i)[j]? = some x → (F i)[k]? = some y → leE x y
  len : ∀ i, i < n → (F i).length ≤ edges.length

theorem MadeY.ext {w w' : World} {gx n : Nat} {edges : List EdgeD} {F : Nat → List EdgeD} (h : MadeY w gx n edges F) (hb : Below w.heap.size w w') : MadeY w' gx n edges F := by
  obtain ⟨gb, c, h1, h2⟩ := h.cells
  refine ⟨⟨gb, c, below_ext hb h1, fun i hi => ?_⟩, h.mem, h.sorted, h.len⟩
  obtain ⟨a, c, q1, q2⟩ := h2 i hi
  exact ⟨a, c, below_ext hb q1, q2.ext hb⟩
end Go.Proofs.Ytadekfjgdbngdaa
