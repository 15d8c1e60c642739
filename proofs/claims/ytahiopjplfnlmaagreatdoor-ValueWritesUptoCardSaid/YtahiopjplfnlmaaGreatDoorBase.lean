/- Small laws on worlds, rows of cells and growing slices, for any program: used by all walks of this claim. -/
import Derived.WalkKit
import Derived.WalkSpells
import Derived.WalkLawsBesides
import Derived.Deep.QuietTactic
import Derived.Deep.Upon
import Derived.Deep.LoopGhost
import Derived.BigQuiet
import Derived.Laws.EntriesVeiled
import Derived.Lib.Hide
namespace Go.Proofs.YtahiopjplfnlmaaGreatDoor
open Go Go.RowKit

/-- a slice's address a, n elements of sz cells each, reads the cells xs -/
def Row (w : World) (sz : Nat) (a : Option Addr) (n : Nat) (xs : List Value) : Prop :=
  xs.length = n * sz ∧ (0 < n * sz → ∃ b off, a = some ⟨b, off, none⟩ ∧ ∀ j, j < n * sz → w.cell? ⟨b, off + j, none⟩ = xs[j]?)

theorem cell_lt {w : World} {a : Addr} {v : Value} (h : w.cell? a = some v) : a.block < w.heap.size := World.block_lt_of_cell? w a h

theorem Row.ext {w w' : World} {sz n : Nat} {a : Option Addr} {xs : List Value} (h : Row w sz a n xs) (hb : Below w.heap.size w w') : Row w' sz a n xs := by
  refine ⟨h.1, fun h0 => ?_⟩
  obtain ⟨b, off, ha, hc⟩ := h.2 h0
  refine ⟨b, off, ha, fun j hj => ?_⟩
  have hx : j < xs.length := by rw [h.1]; exact hj
  have e := hc j hj
  rw [List.getElem?_eq_getElem hx] at e ⊢
  rw [hb.cell (p := ⟨b, off + j, none⟩) (cell_lt (a := ⟨b, off + j, none⟩) e)]
  exact e

/-- a row read through a world that is the same below B, the row's block lying below B -/
theorem Row.below {w0 w' : World} {sz n : Nat} {a : Option Addr} {xs : List Value} (h : Row w0 sz a n xs) (hb : Below w0.heap.size w0 w') : Row w' sz a n xs := h.ext hb

theorem cell_keep {B : Nat} {w w' : World} (hb : Below B w w') {p : Addr} {v : Value} (hlt : p.block < B) (h : w.cell? p = some v) : w'.cell? p = some v := (hb.cell hlt).trans h

theorem below_ext {w w' : World} {p : Addr} {v : Value} (hb : Below w.heap.size w w') (h : w.cell? p = some v) : w'.cell? p = some v := (hb.cell (cell_lt h)).trans h

theorem cell_new {w : World} {c : Array Value} {t : TypeId} {i b : Nat} (h : b = w.heap.size) : (w.alloc (.cells c t)).cell? ⟨b, i, none⟩ = c[i]? := by subst h; simp

theorem Row.drew {w : World} {sz n : Nat} {a : Option Addr} {xs : List Value} (h : Row w sz a n xs) (k : Nat) : Row (w.drewN k) sz a n xs := h

theorem Row.nil (w : World) (sz : Nat) (a : Option Addr) : Row w sz a 0 [] := ⟨by simp, fun h => by simp at h⟩

/-- the address and one cell -/
theorem Row.at {w : World} {sz n : Nat} {a : Option Addr} {xs : List Value} (h : Row w sz a n xs) (h0 : 0 < n * sz) :
    ∃ b off, a = some ⟨b, off, none⟩ ∧ ∀ j, j < n * sz → w.cell? ⟨b, off + j, none⟩ = xs[j]? := h.2 h0

/-- flat encodings of one width -/
theorem flat_length {α : Type} (enc : α → List Value) (sz : Nat) (he : ∀ x, (enc x).length = sz) (l : List α) : (l.flatMap enc).length = l.length * sz := by
  induction l with
  | nil => simp
  | cons x l ih => simp [List.flatMap_cons, he, ih, Nat.add_mul, Nat.add_comm]

theorem flat_get {α : Type} (enc : α → List Value) (sz : Nat) (he : ∀ x, (enc x).length = sz) (l : List α) (i j : Nat) (x : α) (hx : l[i]? = some x) (hj : j < sz) :
    (l.flatMap enc)[i * sz + j]? = (enc x)[j]? := by
  induction l generalizing i with
  | nil => simp at hx
  | cons y l ih =>
    cases i with
    | zero =>
      simp at hx; subst hx
      rw [List.flatMap_cons, Nat.zero_mul, Nat.zero_add, List.getElem?_append_left (by rw [he]; exact hj)]
    | succ i =>
      simp at hx
      rw [List.flatMap_cons, List.getElem?_append_right (by rw [he, Nat.add_mul, Nat.one_mul]; omega), he]
      have : (i + 1) * sz + j - sz = i * sz + j := by rw [Nat.add_mul, Nat.one_mul]; omega
      rw [this]
      exact ih i hx

theorem get_lt {α : Type} {l : List α} {i : Nat} {x : α} (h : l[i]? = some x) : i < l.length := (List.getElem?_eq_some_iff.1 h).1

theorem get_some {α : Type} {l : List α} {i : Nat} (h : i < l.length) : ∃ x, l[i]? = some x := ⟨l[i], List.getElem?_eq_getElem h⟩

/-- element i of a row of flat elements -/
theorem Row.elem {α : Type} {w : World} {sz : Nat} {a : Option Addr} {l : List α} {enc : α → List Value} (he : ∀ x, (enc x).length = sz) (hs : 0 < sz) (h : Row w sz a l.length (l.flatMap enc)) {i : Nat} {x : α} (hx : l[i]? = some x) :
    ∃ b off, a = some ⟨b, off, none⟩ ∧ ∀ j, j < sz → w.cell? ⟨b, off + i * sz + j, none⟩ = (enc x)[j]? := by
  have hi := get_lt hx
  have hlt : ∀ j, j < sz → i * sz + j < l.length * sz := fun j hj => by
    have : (i + 1) * sz ≤ l.length * sz := Nat.mul_le_mul_right _ hi
    rw [Nat.add_mul] at this; omega
  obtain ⟨b, off, ha, hc⟩ := h.2 (Nat.lt_of_le_of_lt (Nat.zero_le _) (hlt 0 hs))
  exact ⟨b, off, ha, fun j hj => by rw [Nat.add_assoc, hc _ (hlt j hj), flat_get enc sz he l i j x hx hj]⟩

/-- a row of single cells: element i -/
theorem Row.elem1 {α : Type} {w : World} {a : Option Addr} {l : List α} {f : α → Value} (h : Row w 1 a l.length (l.map f)) {i : Nat} {x : α} (hx : l[i]? = some x) :
    ∃ b off, a = some ⟨b, off, none⟩ ∧ w.cell? ⟨b, off + i, none⟩ = some (f x) := by
  have hi := get_lt hx
  obtain ⟨b, off, ha, hc⟩ := h.2 (by omega)
  exact ⟨b, off, ha, by rw [hc i (by omega), List.getElem?_map, hx]; rfl⟩

def blockOf (a : Option Addr) : Option Nat := a.map (·.block)

/-- the block that an append to it may write into -/
def rowOf (a : Option Addr) (cap : Nat) : Option Nat := if cap = 0 then none else blockOf a

/-- the slice (address a, n elements, capacity cap) is the call's own, from block base on: its cells are xs, and all of its capacity may be written -/
def Own (w : World) (base : Nat) (e : TypeId) (sz : Nat) (a : Option Addr) (n cap : Nat) (xs : List Value) : Prop :=
  xs.length = n * sz ∧ ((n = 0 ∧ cap = 0 ∧ ∀ g, blockOf a = some g → base ≤ g) ∨
    ∃ g off cur, a = some ⟨g, off, none⟩ ∧ base ≤ g ∧ w.heap[g]? = some (.cells cur e (0, 0)) ∧ n ≤ cap ∧ cap ≤ maxLen ∧ off + cap * sz ≤ cur.size ∧ (cur.toList.drop off).take (n * sz) = xs)

theorem Own.nil (w : World) (base : Nat) (e : TypeId) (sz : Nat) : Own w base e sz none 0 0 [] := ⟨by simp, .inl ⟨rfl, rfl, fun _ h => by cases h⟩⟩

theorem Own.le {w : World} {base : Nat} {e : TypeId} {sz : Nat} {a : Option Addr} {n cap : Nat} {xs : List Value} (h : Own w base e sz a n cap xs) : n ≤ cap := by
  rcases h.2 with ⟨h1, h2, _⟩ | ⟨_, _, _, _, _, _, h1, _⟩
  · omega
  · exact h1

theorem Own.mono {w : World} {base base' : Nat} {e : TypeId} {sz : Nat} {a : Option Addr} {n cap : Nat} {xs : List Value} (h : Own w base e sz a n cap xs) (hb : base' ≤ base) : Own w base' e sz a n cap xs := by
  refine ⟨h.1, ?_⟩
  rcases h.2 with ⟨h1, h2, h3⟩ | ⟨g, off, cur, h1, h2, r⟩
  · exact .inl ⟨h1, h2, fun g hg => Nat.le_trans hb (h3 g hg)⟩
  · exact .inr ⟨g, off, cur, h1, by omega, r⟩

theorem Own.ofOwns {w : World} {base : Nat} {e : TypeId} {sz : Nat} {v : Value} {n : Nat} {xs : List Value} (h : w.ownsRow base e sz v n xs) :
    ∃ a cap, v = .slice a n cap ∧ Own w base e sz a n cap xs ∧ v.ownBlock = blockOf a ∧ (∀ b off, a = some ⟨b, off, none⟩ → off = 0) ∧ (0 < n → ∃ b, a = some ⟨b, 0, none⟩) := by
  rcases h.2 with ⟨rfl, rfl⟩ | ⟨g, cap, cur, rfl, hb, hg, h1, h2, h3, h4⟩
  · exact ⟨none, 0, rfl, ⟨h.1, .inl ⟨rfl, rfl, fun _ h => by cases h⟩⟩, rfl, fun _ _ h => by simp at h, fun h => by omega⟩
  · exact ⟨_, cap, rfl, ⟨h.1, .inr ⟨g, 0, cur, rfl, hb, hg, h1, h2, by omega, by simpa using h4⟩⟩, rfl, fun _ _ h => by simp at h; exact h.2.symm, fun _ => ⟨g, rfl⟩⟩

/-- what is owned hangs on its own block alone -/
theorem Own.congr {w w' : World} {base : Nat} {e : TypeId} {sz : Nat} {a : Option Addr} {n cap : Nat} {xs : List Value} (h : Own w base e sz a n cap xs) (hb : ∀ g, blockOf a = some g → g < w.heap.size → w'.heap[g]? = w.heap[g]?) : Own w' base e sz a n cap xs := by
  refine ⟨h.1, ?_⟩
  rcases h.2 with h1 | ⟨g, off, cur, rfl, h2, h3, r⟩
  · exact .inl h1
  · exact .inr ⟨g, off, cur, rfl, h2, by rw [hb g rfl (Array.getElem?_eq_some_iff.1 h3).1]; exact h3, r⟩

theorem Own.below {w w' : World} {base : Nat} {e : TypeId} {sz : Nat} {a : Option Addr} {n cap : Nat} {xs : List Value} (h : Own w base e sz a n cap xs) (hb : Below w.heap.size w w') : Own w' base e sz a n cap xs :=
  h.congr fun g _ hg => hb.block g hg

theorem Own.ext {w w' : World} {base : Nat} {e : TypeId} {sz : Nat} {a : Option Addr} {n cap : Nat} {xs : List Value} (h : Own w base e sz a n cap xs) (hb : Below w.heap.size w w') : Own w' base e sz a n cap xs :=
  h.congr fun g _ hg => hb.block g hg

theorem Own.kept {w w' : World} {base : Nat} {e : TypeId} {sz : Nat} {a : Option Addr} {n cap : Nat} {xs : List Value} {row : Option Nat} (h : Own w base e sz a n cap xs) (hg : w.grownBy w' row) (hne : blockOf a = none ∨ blockOf a ≠ row) : Own w' base e sz a n cap xs :=
  h.congr fun g hg' hlt => hg.block g hlt (by rw [hg'] at hne; rcases hne with h1 | h1; · cases h1
                                              · exact h1)

theorem Own.alloc {w : World} {base : Nat} {e : TypeId} {sz : Nat} {a : Option Addr} {n cap : Nat} {xs : List Value} (h : Own w base e sz a n cap xs) (o : Obj) : Own (w.alloc o) base e sz a n cap xs :=
  h.congr fun g _ hg => Below.heap_alloc w o g hg

theorem Own.setCell_other {w : World} {base : Nat} {e : TypeId} {sz : Nat} {a : Option Addr} {n cap : Nat} {xs : List Value} (h : Own w base e sz a n cap xs) {p : Addr} (hp : blockOf a ≠ some p.block) (u : Value) : Own (w.setCell p u) base e sz a n cap xs :=
  h.congr fun g hg _ => Below.heap_setCell w p u g (fun e => hp (by rw [hg, e]))

theorem Own.drewN {w : World} {base : Nat} {e : TypeId} {sz : Nat} {a : Option Addr} {n cap : Nat} {xs : List Value} (h : Own w base e sz a n cap xs) (k : Nat) : Own (w.drewN k) base e sz a n cap xs := h

/-- what is owned can be read -/
theorem Own.row {w : World} {base : Nat} {e : TypeId} {sz : Nat} {a : Option Addr} {n cap : Nat} {xs : List Value} (h : Own w base e sz a n cap xs) : Row w sz a n xs := by
  refine ⟨h.1, fun h0 => ?_⟩
  rcases h.2 with ⟨rfl, _, _⟩ | ⟨g, off, cur, rfl, h2, h3, h4, h5, h6, h7⟩
  · simp at h0
  · refine ⟨g, off, rfl, fun j hj => ?_⟩
    rw [cell_of_row w g (off + j) cur e (0, 0) h3, ← h7, List.getElem?_take, if_pos hj, List.getElem?_drop]
    simp

/-- a cell of it may be written -/
theorem Own.store {w : World} {base : Nat} {e : TypeId} {sz : Nat} {g off n cap : Nat} {xs : List Value} (h : Own w base e sz (some ⟨g, off, none⟩) n cap xs) {j : Nat} (hj : j < n * sz) (u : Value) :
    w.frozen? ⟨g, off + j, none⟩ = false ∧ Own (w.setCell ⟨g, off + j, none⟩ u) base e sz (some ⟨g, off, none⟩) n cap (xs.set j u) ∧ base ≤ g ∧ g < w.heap.size := by
  rcases h.2 with ⟨rfl, _⟩ | ⟨g', off', cur, h1, h2, h3, h4, h5, h6, h7⟩
  · simp at hj
  · simp only [Option.some.injEq, Addr.mk.injEq, and_true] at h1
    obtain ⟨rfl, rfl⟩ := h1
    refine ⟨frozen_of_row w g (off + j) cur e h3, ⟨by simpa using h.1, .inr ⟨g, off, cur.setIfInBounds (off + j) u, rfl, h2, heap_setCell_same w g (off + j) cur e u h3, h4, h5, by simpa using h6, ?_⟩⟩, h2, (Array.getElem?_eq_some_iff.1 h3).1⟩
    rw [Array.toList_setIfInBounds, ← h7]
    apply List.ext_getElem?
    intro i
    simp only [List.getElem?_take, List.getElem?_drop, List.getElem?_set, List.length_take, List.length_drop, Array.length_toList]
    have hle : n * sz ≤ cap * sz := Nat.mul_le_mul_right _ h4
    by_cases hin : i < n * sz
    · by_cases hij : j = i
      · subst hij
        rw [if_pos hin, if_pos rfl, if_pos rfl, if_pos (by omega), if_pos (by omega)]
      · rw [if_pos hin, if_neg hij, if_neg (by omega), if_pos hin]
    · rw [if_neg hin]
      by_cases hij : j = i
      · omega
      · rw [if_neg hij, if_neg hin]

/-- the head cut off: s[k:] -/
theorem Own.drop {w : World} {base : Nat} {e : TypeId} {sz : Nat} {g off n cap : Nat} {xs : List Value} (h : Own w base e sz (some ⟨g, off, none⟩) n cap xs) {k : Nat} (hk : k ≤ n) :
    Own w base e sz (some ⟨g, off + k * sz, none⟩) (n - k) (cap - k) (xs.drop (k * sz)) := by
  have hlen : (xs.drop (k * sz)).length = (n - k) * sz := by rw [List.length_drop, h.1, Nat.sub_mul]
  refine ⟨hlen, ?_⟩
  rcases h.2 with ⟨h1, h2, h3⟩ | ⟨g', off', cur, h1, h2, h3, h4, h5, h6, h7⟩
  · exact .inl ⟨by omega, by omega, fun g' hg' => h3 g' (by simpa [blockOf] using hg')⟩
  · simp only [Option.some.injEq, Addr.mk.injEq, and_true] at h1
    obtain ⟨rfl, rfl⟩ := h1
    have hle : k * sz ≤ cap * sz := Nat.mul_le_mul_right _ (by omega)
    refine .inr ⟨g, off + k * sz, cur, rfl, h2, h3, by omega, by omega, by rw [Nat.sub_mul]; omega, ?_⟩
    rw [← h7, List.drop_take, List.drop_drop, Nat.sub_mul]

theorem Own.addr {w : World} {base : Nat} {e : TypeId} {sz : Nat} {a : Option Addr} {n cap : Nat} {xs : List Value} (h : Own w base e sz a n cap xs) (hn : 0 < cap) : ∃ g off, a = some ⟨g, off, none⟩ := by
  rcases h.2 with ⟨_, h2, _⟩ | ⟨g, off, cur, rfl, _⟩
  · omega
  · exact ⟨g, off, rfl⟩

theorem Own.base {w : World} {base : Nat} {e : TypeId} {sz : Nat} {a : Option Addr} {n cap : Nat} {xs : List Value} (h : Own w base e sz a n cap xs) {g : Nat} (hg : blockOf a = some g) : base ≤ g := by
  rcases h.2 with ⟨_, _, h2⟩ | ⟨g', off, cur, rfl, h2, h3, _⟩
  · exact h2 g hg
  · simp [blockOf] at hg; subst hg; exact h2

theorem Own.size {w : World} {base : Nat} {e : TypeId} {sz : Nat} {a : Option Addr} {n cap : Nat} {xs : List Value} (h : Own w base e sz a n cap xs) (hn : 0 < cap) {g : Nat} (hg : blockOf a = some g) : base ≤ g ∧ g < w.heap.size := by
  rcases h.2 with ⟨_, h2, _⟩ | ⟨g', off, cur, rfl, h2, h3, _⟩
  · omega
  · simp [blockOf] at hg; subst hg
    exact ⟨h2, (Array.getElem?_eq_some_iff.1 h3).1⟩

/-- a row that is owned in full is its whole block -/
theorem owns_full {w : World} {base : Nat} {e : TypeId} {size g n : Nat} {xs : List Value} (h : w.ownsRow base e size (.slice (some ⟨g, 0, none⟩) n n) n xs) : w.heap[g]? = some (.cells xs.toArray e (0, 0)) := by
  rcases h.2 with ⟨h1, _⟩ | ⟨g', cap, cur, h1, h2, h3, h4, h5, h6, h7⟩
  · simp at h1
  · simp only [Value.slice.injEq, Option.some.injEq, Addr.mk.injEq, and_true, true_and] at h1
    obtain ⟨rfl, rfl⟩ := h1
    rw [h3]
    have e1 : cur.toList = xs := by rw [← h7]; exact (List.take_of_length_le (by rw [Array.length_toList, h6]; exact Nat.le_refl _)).symm
    rw [← e1]

theorem Own.ofBlock {w : World} {base : Nat} {e : TypeId} {g n : Nat} {xs : List Value} (hb : base ≤ g) (hg : w.heap[g]? = some (.cells xs.toArray e (0, 0))) (hl : xs.length = n) (hn : n ≤ maxLen) : Own w base e 1 (some ⟨g, 0, none⟩) n n xs :=
  ⟨by omega, .inr ⟨g, 0, xs.toArray, rfl, hb, hg, Nat.le_refl _, hn, by simp [hl], by simp [← hl]⟩⟩

theorem splice_take {α : Type} (L N : List α) (o a : Nat) (h : o + a + N.length ≤ L.length) :
    ((L.take (o + a) ++ N ++ L.drop (o + a + N.length)).drop o).take (a + N.length) = (L.drop o).take a ++ N := by
  have h1 : (L.take (o + a)).drop o = (L.drop o).take a := by rw [List.drop_take]; congr 1; omega
  rw [List.append_assoc, List.drop_append_of_le_length (by rw [List.length_take]; omega), h1, ← List.append_assoc]
  have h2 : ((L.drop o).take a ++ N).length = a + N.length := by rw [List.length_append, List.length_take, List.length_drop]; omega
  rw [← h2]; exact List.take_left

section
variable {P : Program}

theorem run_append_Own (w : World) (base : Nat) (t ty e : TypeId) (i : TypeInfo) (z : Value) (sz bytes : Nat) (ht : P.underlying t = some (.slice e)) (hi : P.info? e = some i) (hz : i.zero = some z)
    (hsize : i.size = sz) (hby : i.bytes = bytes) (hzs : z.cells.size = sz) (hsz : 0 < sz)
    (a : Option Addr) (n cap : Nat) (xs : List Value) (hown : Own w base e sz a n cap xs)
    (ad : Option Addr) (m c : Nat) (news : List Value) (hrow : Row w sz ad m news) (h1 : ∀ u ∈ news, u.oneCell' = true)
    (h63 : n + m ≤ maxLen) (hbytes : (n + m) * bytes ≤ 140737488355328) (hbase : base ≤ w.heap.size) :
    ∃ a' cap' w', (Builtin.append_ #[t, t] ty #[.slice a n cap, .slice ad m c]).run P w = .ok (.slice a' (n + m) cap') w' ∧ Own w' base e sz a' (n + m) cap' (xs ++ news) ∧ w.grownBy w' (rowOf a cap) ∧
      (rowOf a' cap' = rowOf a cap ∨ rowOf a' cap' = some w.heap.size) := by
  have hlen : (xs ++ news).length = (n + m) * sz := by rw [List.length_append, hown.1, hrow.1, Nat.add_mul]
  have hle := hown.le
  by_cases hm : m = 0
  · subst hm
    have hn : news = [] := List.eq_nil_of_length_eq_zero (by simpa using hrow.1)
    subst hn
    refine ⟨a, cap, w, ?_, by simpa using hown, ⟨rfl, rfl, rfl, Nat.le_refl _, fun _ _ _ => rfl⟩, .inl rfl⟩
    cases a <;> cases ad <;> simp [Builtin.append_, run_underlying ht, sizeOf, typeInfo, hi, Builtin.lenOf, Builtin.firstCells, hle, storeCells, loadCells, loadCellsFrom]
  · obtain ⟨b', off', rfl, hc⟩ := hrow.2 (Nat.mul_pos (by omega) hsz)
    have hnews : ∀ j u, news[j]? = some u → w.cell? ((⟨b', off', none⟩ : Addr).add j) = some u := fun j u hj => by
      have := get_lt hj
      rw [Addr.add_lit, hc j (by rw [hrow.1] at this; exact this)]; exact hj
    by_cases hr : n + m ≤ cap
    · rcases hown.2 with ⟨h1', h2', _⟩ | ⟨g, off, cur, rfl, hb, hg, h4, h5, h6, h7⟩
      · omega
      · subst hsize
        have hle2 : (n + m) * i.size ≤ cap * i.size := Nat.mul_le_mul_right _ hr
        have hnl := hrow.1
        rw [Nat.add_mul] at hle2
        have hfc := run_firstCells_some (P := P) w i.size m ⟨b', off', none⟩ m c news hrow.1 hnews
        have hst := run_storeCells_at P g (off + n * i.size) e news 0 cur w hg (by omega) h1
        simp only [Nat.add_zero] at hst
        refine ⟨_, cap, _, by simp [Builtin.append_, run_underlying ht, sizeOf, typeInfo, hi, Builtin.lenOf, hr, hfc, Addr.add_lit, hst]; rfl, ⟨hlen, .inr ⟨g, off, _, rfl, hb, setRow_heap w g cur _ e _ hg, hr, h5, ?_, ?_⟩⟩,
          ⟨rfl, rfl, rfl, by simp, fun k _ hk => setRow_other w g k _ (fun e => hk (by unfold rowOf; rw [if_neg (by omega)]; simp [blockOf, e]))⟩, .inl rfl⟩
        · simp only [List.size_toArray, List.length_append, List.length_take, List.length_drop, Array.length_toList]
          omega
        · rw [← h7, Nat.add_mul, ← hnl]
          have e2 := splice_take cur.toList news off (n * i.size) (by have e1 : cur.toList.length = cur.size := Array.length_toList; omega)
          rw [List.append_assoc] at e2
          exact e2
    · have hsmall : n + m ≤ 9223372036854775807 := by simp only [maxLen] at h63; omega
      have hge := grownCap_ge w (n + m) cap e
      have hcm : grownCap w (n + m) cap e ≤ maxLen := grownCap_le_maxLen w (n + m) cap e h63
      have key : ∀ x : Array Value, x.toList = xs ++ news ++ (Builtin.zeroCells z.cells (grownCap w (n + m) cap e - (n + m))).toList →
          Own (w.drew.alloc (.cells x e)) base e sz (some ⟨w.heap.size, 0, none⟩) (n + m) (grownCap w (n + m) cap e) (xs ++ news) ∧ w.grownBy (w.drew.alloc (.cells x e)) (rowOf a cap) := by
        intro x hx
        have hsx : x.size = (grownCap w (n + m) cap e) * sz := by
          rw [← Array.length_toList, hx, List.length_append, hlen, Array.length_toList, size_zeroCells, hzs, ← Nat.add_mul]; congr 1; omega
        refine ⟨⟨hlen, .inr ⟨w.heap.size, 0, x, rfl, hbase, heap_alloc_new w.drew _, hge, hcm, by omega, ?_⟩⟩, ⟨rfl, rfl, rfl, by simp, fun k hk _ => heap_alloc_old w.drew _ (by exact hk)⟩⟩
        rw [List.drop_zero, hx, ← hlen]; exact List.take_left
      have hold : ∃ b, (∀ j u, xs[j]? = some u → w.cell? ((b : Addr).add j) = some u) ∧ (a = some b ∨ (a = none ∧ n = 0 ∧ cap = 0)) ∧ (b = b) := by
        cases a with
        | none =>
          rcases hown.2 with ⟨h1', h2', _⟩ | ⟨g, off, cur, h, _⟩
          · refine ⟨⟨0, 0, none⟩, fun j u hj => ?_, .inr ⟨rfl, h1', h2'⟩, rfl⟩
            have := get_lt hj; rw [hown.1, h1'] at this; simp at this
          · simp at h
        | some b =>
          refine ⟨b, fun j u hj => ?_, .inl rfl, rfl⟩
          have hj' := get_lt hj; rw [hown.1] at hj'
          obtain ⟨b2, o2, hb2, hcc⟩ := hown.row.2 (by omega)
          cases hb2
          rw [Addr.add_lit, hcc j hj']; exact hj
      obtain ⟨b, hb1, hb2, _⟩ := hold
      rcases hb2 with rfl | ⟨rfl, rfl, rfl⟩
      · subst hsize; subst hby
        have hrun := run_append_grow (P := P) w t ty e i z ht hi hz b n cap xs hown.1 hb1 ⟨b', off', none⟩ m c news hrow.1 hnews (by omega) (by omega) (growslice_fits (by omega) hbytes)
        have hk := key (xs.toArray ++ news.toArray ++ Builtin.zeroCells z.cells (grownCap w (n + m) cap e - (n + m))) (by simp)
        exact ⟨_, _, _, hrun, hk.1, hk.2, .inr (by unfold rowOf; rw [if_neg (by omega)]; rfl)⟩
      · subst hsize; subst hby
        obtain rfl : xs = [] := List.eq_nil_of_length_eq_zero (by simpa using hown.1)
        have hrun := run_append_nil (P := P) w t ty e i z ht hi hz ⟨b', off', none⟩ m c news hrow.1 hnews (by omega) (by omega) (by have hb := hbytes; simp only [Nat.zero_add] at hb; omega)
        have hk := key (news.toArray ++ Builtin.zeroCells z.cells (grownCap w (0 + m) 0 e - (0 + m))) (by simp)
        simp only [Nat.zero_add, List.nil_append] at hk hge ⊢
        exact ⟨_, _, _, hrun, hk.1, hk.2, .inr (by unfold rowOf; rw [if_neg (by omega)]; rfl)⟩

/-- append, for the walk -/
theorem wpList_append_Own {w : World} {ops : Array Oper} {rest : List Oper} {o : Oper} {act : Act} {Q : Exit → Act → World → Prop} (hgd : o.guard = none) (s x : Operand) (t : TypeId)
    (ho : o.op = .call { callee := .builtin .append, args := #[s, x], argTypes := #[t, t] })
    (base : Nat) (e : TypeId) (z : Value) (sz bytes : Nat) (ht : P.underlying t = some (.slice e)) (hinfo : (P.info? e).map (fun i => (i.zero, i.size, i.bytes)) = some (some z, sz, bytes)) (hzs : z.cells.size = sz) (hsz : 0 < sz)
    (a : Option Addr) (n cap : Nat) (xs : List Value) (hs : act.eval s = .slice a n cap) (hown : Own w base e sz a n cap xs)
    (ad : Option Addr) (m c : Nat) (news : List Value) (hx : act.eval x = .slice ad m c) (hrow : Row w sz ad m news) (h1 : ∀ u ∈ news, u.oneCell' = true)
    (h63 : n + m ≤ maxLen) (hbytes : (n + m) * bytes ≤ 140737488355328) (hbase : base ≤ w.heap.size)
    (h : ∀ a' cap' w', Own w' base e sz a' (n + m) cap' (xs ++ news) → w.grownBy w' (rowOf a cap) → (rowOf a' cap' = rowOf a cap ∨ rowOf a' cap' = some w.heap.size) → wpList P ops Q rest (act.put o.dst (.slice a' (n + m) cap')) w') : wpList P ops Q (o :: rest) act w := by
  obtain ⟨i, hi, hz, hsize, hby⟩ := info_parts hinfo
  obtain ⟨a', cap', w', hr, h2, h3, h4⟩ := run_append_Own (P := P) w base t o.type e i z sz bytes ht hi hz hsize hby hzs hsz a n cap xs hown ad m c news hrow h1 h63 hbytes hbase
  refine wpList_plain hgd fun K hK' => ?_
  unfold Oper.wp
  simp [execOp, ho, resolve, invoke, builtin, hs, hx, hr, Result.andThen]
  exact hK' _ _ (h a' cap' w' h2 h3 h4)

/-- append, as one step of a region that draws its order -/
theorem step_append_Own {w : World} {ops : Array Oper} {o : Oper} {act : Act} {K : Act → World → Prop} {Q : Exit → Act → World → Prop} {E : Prop} (hgd : o.guard = none) (s x : Operand) (t : TypeId)
    (ho : o.op = .call { callee := .builtin .append, args := #[s, x], argTypes := #[t, t] })
    (base : Nat) (e : TypeId) (z : Value) (sz bytes : Nat) (ht : P.underlying t = some (.slice e)) (hinfo : (P.info? e).map (fun i => (i.zero, i.size, i.bytes)) = some (some z, sz, bytes)) (hzs : z.cells.size = sz) (hsz : 0 < sz)
    (a : Option Addr) (n cap : Nat) (xs : List Value) (hs : act.eval s = .slice a n cap) (hown : Own w base e sz a n cap xs)
    (ad : Option Addr) (m c : Nat) (news : List Value) (hx : act.eval x = .slice ad m c) (hrow : Row w sz ad m news) (h1 : ∀ u ∈ news, u.oneCell' = true)
    (h63 : n + m ≤ maxLen) (hbytes : (n + m) * bytes ≤ 140737488355328) (hbase : base ≤ w.heap.size)
    (h : ∀ a' cap' w', Own w' base e sz a' (n + m) cap' (xs ++ news) → w.grownBy w' (rowOf a cap) → (rowOf a' cap' = rowOf a cap ∨ rowOf a' cap' = some w.heap.size) → K (act.put o.dst (.slice a' (n + m) cap')) w') :
    if Region.wanted o (yielded ops act.tmps) = true then Oper.wp P o act w K Q else E := by
  obtain ⟨i, hi, hz, hsize, hby⟩ := info_parts hinfo
  obtain ⟨a', cap', w', hr, h2, h3, h4⟩ := run_append_Own (P := P) w base t o.type e i z sz bytes ht hi hz hsize hby hzs hsz a n cap xs hown ad m c news hrow h1 h63 hbytes hbase
  have hw : Region.wanted o (yielded ops act.tmps) = true := by simp [Region.wanted, hgd]
  rw [if_pos hw]
  unfold Oper.wp
  simp [execOp, ho, resolve, invoke, builtin, hs, hx, hr, Result.andThen]
  exact h a' cap' w' h2 h3 h4
end

/-- a new one-element row: what 'append(l, x)' lays for x -/
theorem Row.new1 {w : World} {cs : Array Value} {t : TypeId} {sz b : Nat} {xs : List Value} (hb : b = w.heap.size) (hs : cs.size = sz) (hx : cs.toList = xs) : Row (w.alloc (.cells cs t)) sz (some ⟨b, 0, none⟩) 1 xs := by
  subst hb
  refine ⟨by rw [← hx, Array.length_toList, hs, Nat.one_mul], fun _ => ⟨w.heap.size, 0, rfl, fun j _ => ?_⟩⟩
  rw [Nat.zero_add, cell_new rfl, ← hx]; simp

/-- block g is the row of cells cur, of type e, none of them frozen -/
def Blk (w : World) (g : Nat) (cur : Array Value) (e : TypeId) : Prop := w.heap[g]? = some (.cells cur e (0, 0))

theorem Blk.lt {w : World} {g : Nat} {cur : Array Value} {e : TypeId} (h : Blk w g cur e) : g < w.heap.size := (Array.getElem?_eq_some_iff.1 h).1
theorem Blk.cell {w : World} {g : Nat} {cur : Array Value} {e : TypeId} (h : Blk w g cur e) (j : Nat) : w.cell? ⟨g, j, none⟩ = cur[j]? := cell_of_row w g j cur e (0, 0) h
theorem Blk.free {w : World} {g : Nat} {cur : Array Value} {e : TypeId} (h : Blk w g cur e) (j : Nat) : w.frozen? ⟨g, j, none⟩ = false := frozen_of_row w g j cur e h
theorem Blk.new {w : World} {cur : Array Value} {e : TypeId} {g : Nat} (h : g = w.heap.size) : Blk (w.alloc (.cells cur e)) g cur e := by subst h; exact heap_alloc_new w _
theorem Blk.alloc {w : World} {g : Nat} {cur : Array Value} {e : TypeId} (h : Blk w g cur e) (o : Obj) : Blk (w.alloc o) g cur e := (Below.heap_alloc w o g h.lt).trans h
theorem Blk.drew {w : World} {g : Nat} {cur : Array Value} {e : TypeId} (h : Blk w g cur e) : Blk w.drew g cur e := h
theorem Blk.drewN {w : World} {g : Nat} {cur : Array Value} {e : TypeId} (h : Blk w g cur e) (n : Nat) : Blk (w.drewN n) g cur e := h
theorem Blk.below {w w' : World} {g B : Nat} {cur : Array Value} {e : TypeId} (h : Blk w g cur e) (hb : Below B w w') (hg : g < B) : Blk w' g cur e := (hb.block g hg).trans h
theorem Blk.ext {w w' : World} {g : Nat} {cur : Array Value} {e : TypeId} (h : Blk w g cur e) (hb : Below w.heap.size w w') : Blk w' g cur e := h.below hb h.lt
theorem Blk.set {w : World} {g : Nat} {cur : Array Value} {e : TypeId} (h : Blk w g cur e) (j : Nat) (u : Value) : Blk (w.setCell ⟨g, j, none⟩ u) g (cur.setIfInBounds j u) e := heap_setCell_same w g j cur e u h
theorem Blk.other {w : World} {g : Nat} {cur : Array Value} {e : TypeId} (h : Blk w g cur e) {p : Addr} (hp : g ≠ p.block) (u : Value) : Blk (w.setCell p u) g cur e := (Below.heap_setCell w p u g hp).trans h
theorem Blk.grown {w w' : World} {g : Nat} {cur : Array Value} {e : TypeId} {row : Option Nat} (h : Blk w g cur e) (hg : w.grownBy w' row) (hne : some g ≠ row) : Blk w' g cur e := (hg.block g h.lt hne).trans h
/-- a block of whose address it is known that it lies from base on is not one below base -/
theorem Own.apart {w : World} {base : Nat} {e : TypeId} {sz : Nat} {a : Option Addr} {n cap : Nat} {xs : List Value} (h : Own w base e sz a n cap xs) {g : Nat} (hg : g < base) : some g ≠ rowOf a cap := by
  intro he
  unfold rowOf at he
  split at he
  · cases he
  · have := h.base he.symm; omega

theorem Own.rowBase {w : World} {base : Nat} {e : TypeId} {sz : Nat} {a : Option Addr} {n cap : Nat} {xs : List Value} (h : Own w base e sz a n cap xs) {B : Nat} (hB : B ≤ base) : ∀ k, rowOf a cap = some k → B ≤ k := by
  intro k hk
  unfold rowOf at hk
  split at hk
  · cases hk
  · exact Nat.le_trans hB (h.base hk)

/-- another row of the call's own, of another element type, is kept by an append -/
theorem Own.keptType {w w' : World} {base base2 : Nat} {e e2 : TypeId} {sz sz2 : Nat} {a a2 : Option Addr} {n n2 cap cap2 : Nat} {xs ys : List Value} (h : Own w base e sz a n cap xs) (h2 : Own w base2 e2 sz2 a2 n2 cap2 ys) (hne : e ≠ e2)
    (hg : w.grownBy w' (rowOf a2 cap2)) : Own w' base e sz a n cap xs := by
  refine ⟨h.1, ?_⟩
  rcases h.2 with h1 | ⟨g, off, cur, rfl, k2, k3, r⟩
  · exact .inl h1
  · refine .inr ⟨g, off, cur, rfl, k2, ?_, r⟩
    rw [hg.block g (Array.getElem?_eq_some_iff.1 k3).1 ?_]; exact k3
    intro he
    unfold rowOf at he
    split at he
    · cases he
    · rename_i hc
      rcases h2.2 with ⟨_, q, _⟩ | ⟨g', off', cur', rfl, _, q3, _⟩
      · exact hc q
      · simp [blockOf] at he; subst he
        rw [k3] at q3; simp at q3; exact hne q3.2

/-- another row of the call's own is kept by an append, if the two lie in two blocks -/
theorem Own.keptApart {w w' : World} {base : Nat} {e : TypeId} {sz : Nat} {a a2 : Option Addr} {n cap cap2 : Nat} {xs : List Value} (h : Own w base e sz a n cap xs) (hd : 0 < cap → 0 < cap2 → blockOf a ≠ blockOf a2)
    (hg : w.grownBy w' (rowOf a2 cap2)) : Own w' base e sz a n cap xs := by
  refine ⟨h.1, ?_⟩
  rcases h.2 with h1 | ⟨g, off, cur, rfl, k2, k3, k4, k5, k6, k7⟩
  · exact .inl h1
  · rcases Nat.eq_zero_or_pos cap with hc0 | hc0
    · subst hc0
      exact .inl ⟨by omega, rfl, fun g' hg' => by simp [blockOf] at hg'; omega⟩
    · refine .inr ⟨g, off, cur, rfl, k2, ?_, k4, k5, k6, k7⟩
      rw [hg.block g (Array.getElem?_eq_some_iff.1 k3).1 ?_]; exact k3
      intro he
      unfold rowOf at he
      split at he
      · cases he
      · exact hd hc0 (by omega) (by rw [← he]; rfl)

/-- a row of single cells that begins at its block's head: read and write cell j -/
theorem Own.at0 {w : World} {base : Nat} {e : TypeId} {g n cap : Nat} {xs : List Value} (h : Own w base e 1 (some ⟨g, 0, none⟩) n cap xs) {j : Nat} (hj : j < n) :
    w.frozen? ⟨g, j, none⟩ = false ∧ w.cell? ⟨g, j, none⟩ = xs[j]? ∧ base ≤ g ∧ g < w.heap.size := by
  have h1 := h.store (j := j) (by omega) (.int .i64 0)
  obtain ⟨b, off, hb, hc⟩ := h.row.2 (by omega)
  cases hb
  have := hc j (by omega)
  rw [Nat.zero_add] at this h1
  exact ⟨h1.1, this, h1.2.2.1, h1.2.2.2⟩
theorem Own.set0 {w : World} {base : Nat} {e : TypeId} {g n cap : Nat} {xs : List Value} (h : Own w base e 1 (some ⟨g, 0, none⟩) n cap xs) {j : Nat} (hj : j < n) (u : Value) :
    Own (w.setCell ⟨g, j, none⟩ u) base e 1 (some ⟨g, 0, none⟩) n cap (xs.set j u) := by
  have h1 := h.store (j := j) (by omega) u
  rw [Nat.zero_add] at h1
  exact h1.2.1

/-- behind an append: another own row that does not lie where it wrote, does not lie where the new row lies -/
theorem rowOf_apart {w : World} {a a' : Option Addr} {c c' g : Nat} (h : rowOf a c ≠ some g) (hg : g < w.heap.size) (hbk : rowOf a' c' = rowOf a c ∨ rowOf a' c' = some w.heap.size) : rowOf a' c' ≠ some g := by
  rcases hbk with h1 | h1
  · rw [h1]; exact h
  · rw [h1]; intro he; simp at he; omega

theorem Own.keptRow {w w' : World} {base : Nat} {e : TypeId} {sz : Nat} {g off n cap : Nat} {xs : List Value} (h : Own w base e sz (some ⟨g, off, none⟩) n cap xs) {row : Option Nat} (hd : row ≠ some g) (hg : w.grownBy w' row) : Own w' base e sz (some ⟨g, off, none⟩) n cap xs :=
  h.congr fun g' hg' hlt => hg.block g' hlt (by simp [blockOf] at hg'; subst hg'; exact fun he => hd he.symm)

/-- where 's[l:]' begins -/
def cutAt (a : Option Addr) (cap l sz : Nat) : Option Addr := if cap = l then a else a.map (·.add (l * sz))

section
variable {P : Program}
theorem run_slice_from (w : World) (t e : TypeId) (i : TypeInfo) (ht : P.underlying t = some (.slice e)) (hi : P.info? e = some i) (a : Option Addr) (n cap : Nat) (k : IntKind) (l : Int) (h0 : 0 ≤ l) (h1 : l ≤ n) :
    (Instr.slice t (.slice a n cap) (some (.int k l)) none none).run P w = .ok (.slice (cutAt a cap l.toNat i.size) (n - l.toNat) (cap - l.toNat)) w := by
  simp [Instr.slice, run_underlying ht, Instr.sliceBounds, run_sliceBound, h0, h1, sizeOf, typeInfo, hi, cutAt]
theorem run_slice_to (w : World) (t e : TypeId) (i : TypeInfo) (ht : P.underlying t = some (.slice e)) (hi : P.info? e = some i) (a : Option Addr) (n cap : Nat) (k : IntKind) (h : Int) (h0 : 0 ≤ h) (h1 : h ≤ cap) :
    (Instr.slice t (.slice a n cap) none (some (.int k h)) none).run P w = .ok (.slice (cutAt a cap 0 i.size) h.toNat cap) w := by
  simp [Instr.slice, run_underlying ht, Instr.sliceBounds, run_sliceBound, h0, h1, sizeOf, typeInfo, hi, cutAt]
theorem run_slice_sub (w : World) (t e : TypeId) (i : TypeInfo) (ht : P.underlying t = some (.slice e)) (hi : P.info? e = some i) (a : Option Addr) (n cap : Nat) (k k2 : IntKind) (l h : Int) (h0 : 0 ≤ l) (h1 : l ≤ h) (h2 : h ≤ cap) :
    (Instr.slice t (.slice a n cap) (some (.int k l)) (some (.int k2 h)) none).run P w = .ok (.slice (cutAt a cap l.toNat i.size) (h.toNat - l.toNat) (cap - l.toNat)) w := by
  have e1 : (h.toNat : Int) = h := by omega
  simp [Instr.slice, run_underlying ht, Instr.sliceBounds, run_sliceBound, h0, h1, h2, (show 0 ≤ h by omega), e1, sizeOf, typeInfo, hi, cutAt]

theorem wpList_slice_from {w : World} {ops : Array Oper} {rest : List Oper} {o : Oper} {act : Act} {Q : Exit → Act → World → Prop} (hgd : o.guard = none) (x lo : Operand) (t : TypeId) (ho : o.op = .slice t x (some lo) none none)
    (e : TypeId) (sz : Nat) (ht : P.underlying t = some (.slice e)) (hsz : (P.info? e).map (·.size) = some sz) (a : Option Addr) (n cap : Nat) (hs : act.eval x = .slice a n cap) (k : IntKind) (l : Int) (hl : act.eval lo = .int k l) (h0 : 0 ≤ l) (h1 : l ≤ n)
    (h : ∀ a', Hid (a' = cutAt a cap l.toNat sz) → wpList P ops Q rest (act.put o.dst (.slice a' (n - l.toNat) (cap - l.toNat))) w) : wpList P ops Q (o :: rest) act w := by
  obtain ⟨i, hi, rfl⟩ := Option.map_eq_some_iff.1 hsz
  have hr := run_slice_from (P := P) w t e i ht hi a n cap k l h0 h1
  refine wpList_plain hgd fun K hK' => ?_
  unfold Oper.wp
  simp [execOp, ho, hs, hl, hr, Result.andThen, Instr.sliceAt, run_underlying ht]
  exact hK' _ _ (h _ rfl)
end

theorem Own.cut {w : World} {base : Nat} {e : TypeId} {sz : Nat} {a : Option Addr} {n cap : Nat} {xs : List Value} (h : Own w base e sz a n cap xs) {l : Nat} (hl : l ≤ n) {a' : Option Addr} (ha : a' = cutAt a cap l sz) :
    Own w base e sz a' (n - l) (cap - l) (xs.drop (l * sz)) := by
  subst ha
  have hle := h.le
  unfold cutAt
  by_cases hc : cap = l
  · rw [if_pos hc]
    refine ⟨by rw [List.length_drop, h.1, Nat.sub_mul], .inl ⟨by omega, by omega, fun g hg => h.base hg⟩⟩
  · rw [if_neg hc]
    obtain ⟨g, off, rfl⟩ := h.addr (by omega)
    have h2 := h.drop hl
    simpa [Addr.add_lit] using h2

theorem rowOf_cut {a : Option Addr} {cap l sz g : Nat} (h : rowOf a cap ≠ some g) (hl : l ≤ cap) : rowOf (cutAt a cap l sz) (cap - l) ≠ some g := by
  unfold rowOf at h ⊢
  split
  · simp
  · rename_i h1
    unfold cutAt
    rw [if_neg (by omega)]
    rw [if_neg (by omega)] at h
    cases a with
    | none => simp [blockOf]
    | some p =>
      simp only [blockOf, Option.map_some] at h ⊢
      intro he
      apply h
      rw [← he]
      unfold Addr.add
      split <;> rfl

theorem Row.cut {w : World} {sz : Nat} {a : Option Addr} {n cap : Nat} {xs : List Value} (h : Row w sz a n xs) (hn : n ≤ cap) {l m : Nat} (hl : l ≤ m) (hm : m ≤ n) {a' : Option Addr} (ha : a' = cutAt a cap l sz) :
    Row w sz a' (m - l) ((xs.drop (l * sz)).take ((m - l) * sz)) := by
  subst ha
  have hml : (m - l) * sz + l * sz = m * sz := by rw [← Nat.add_mul]; congr 1; omega
  have hmn : m * sz ≤ n * sz := Nat.mul_le_mul_right _ hm
  refine ⟨by rw [List.length_take, List.length_drop, h.1]; omega, fun h0 => ?_⟩
  obtain ⟨b, off, rfl, hc⟩ := h.2 (by omega)
  have hcl : ¬ cap = l := by
    intro he
    have : m = l := by omega
    rw [this, Nat.sub_self, Nat.zero_mul] at h0; omega
  refine ⟨b, off + l * sz, by unfold cutAt; rw [if_neg hcl]; simp [Addr.add_lit], fun j hj => ?_⟩
  rw [Nat.add_assoc, hc (l * sz + j) (by omega), List.getElem?_take, if_pos hj, List.getElem?_drop]

theorem Own.setCell_row {w : World} {base : Nat} {e : TypeId} {sz : Nat} {a : Option Addr} {n cap : Nat} {xs : List Value} (h : Own w base e sz a n cap xs) {p : Addr} (hp : rowOf a cap ≠ some p.block) (u : Value) : Own (w.setCell p u) base e sz a n cap xs := by
  refine ⟨h.1, ?_⟩
  rcases h.2 with h1 | ⟨g, off, cur, rfl, k2, k3, k4, k5, k6, k7⟩
  · exact .inl h1
  · rcases Nat.eq_zero_or_pos cap with hc0 | hc0
    · subst hc0
      exact .inl ⟨by omega, rfl, fun g' hg' => by simp [blockOf] at hg'; omega⟩
    · refine .inr ⟨g, off, cur, rfl, k2, (Below.heap_setCell w p u g fun he => hp ?_).trans k3, k4, k5, k6, k7⟩
      unfold rowOf
      rw [if_neg (by omega), he]; simp [blockOf]

theorem Row.setCell_other {w : World} {sz n : Nat} {a : Option Addr} {xs : List Value} (h : Row w sz a n xs) {p : Addr} (hp : blockOf a ≠ some p.block) (u : Value) : Row (w.setCell p u) sz a n xs := by
  refine ⟨h.1, fun h0 => ?_⟩
  obtain ⟨b, off, rfl, hc⟩ := h.2 h0
  refine ⟨b, off, rfl, fun j hj => ?_⟩
  rw [World.cell?_setCell_other w p ⟨b, off + j, none⟩ u (fun e => hp (by rw [e]; rfl))]
  exact hc j hj

/-- below block B all but block g is as it was -/
def But (B g : Nat) (w w' : World) : Prop := ∀ k, k < B → k ≠ g → w'.heap[k]? = w.heap[k]?
theorem But.refl (B g : Nat) (w : World) : But B g w w := fun _ _ _ => rfl
theorem But.trans {B g : Nat} {a b c : World} (h : But B g a b) (k : But B g b c) : But B g a c := fun i h1 h2 => (k i h1 h2).trans (h i h1 h2)
theorem But.of {B g : Nat} {w w' : World} (h : Below B w w') : But B g w w' := fun k hk _ => h.block k hk
theorem But.set {B g : Nat} {w : World} (o : Nat) (u : Value) : But B g w (w.setCell ⟨g, o, none⟩ u) := fun k _ hk => Below.heap_setCell w _ u k hk
theorem But.grown {B g : Nat} {w w' : World} {row : Option Nat} (hg : w.grownBy w' row) (hB : B ≤ w.heap.size) (hr : ∀ k, row = some k → B ≤ k) : But B g w w' := fun k hk _ => hg.block k (by omega) (fun e => by have := hr k e.symm; omega)
theorem Row.but {w w' : World} {sz n B g : Nat} {a : Option Addr} {xs : List Value} (h : Row w sz a n xs) (hb : But B g w w') (hB : w.heap.size ≤ B) (ha : blockOf a ≠ some g) : Row w' sz a n xs := by
  refine ⟨h.1, fun h0 => ?_⟩
  obtain ⟨b, off, rfl, hc⟩ := h.2 h0
  refine ⟨b, off, rfl, fun j hj => ?_⟩
  have e := hc j hj
  rw [List.getElem?_eq_getElem (by rw [h.1]; exact hj)] at e
  have hlt : b < w.heap.size := cell_lt (a := ⟨b, off + j, none⟩) e
  rw [World.cell?_of_block (w := w) (a := ⟨b, off + j, none⟩) (hb b (by omega) (fun he => ha (by rw [← he]; rfl)))]
  exact hc j hj
theorem but_cell {w w' : World} {B g : Nat} {p : Addr} {v : Value} (hb : But B g w w') (h : w.cell? p = some v) (hB : w.heap.size ≤ B) (hp : p.block ≠ g) : w'.cell? p = some v := by
  rw [World.cell?_of_block (w := w) (hb p.block (by have := cell_lt h; omega) hp)]; exact h

theorem Row.lt {w : World} {sz n : Nat} {a : Option Addr} {xs : List Value} (h : Row w sz a n xs) (h0 : 0 < n * sz) {g : Nat} (hg : blockOf a = some g) : g < w.heap.size := by
  obtain ⟨b, off, rfl, hc⟩ := h.2 h0
  simp [blockOf] at hg
  subst hg
  have e := hc 0 h0
  rw [List.getElem?_eq_getElem (by rw [h.1]; exact h0)] at e
  exact cell_lt (a := ⟨b, off + 0, none⟩) e

/-- the first k numbers -/
def upto (k : Nat) : List Int := (List.range k).map fun (i : Nat) => (i : Int)
theorem upto_len (k : Nat) : (upto k).length = k := by simp [upto]
theorem upto_succ (k : Nat) : upto (k + 1) = upto k ++ [(k : Int)] := by simp [upto, List.range_succ]
theorem mem_upto {k : Nat} {x : Int} : x ∈ upto k ↔ 0 ≤ x ∧ x < k := by
  simp only [upto, List.mem_map, List.mem_range]
  constructor
  · rintro ⟨i, hi, rfl⟩; omega
  · intro h; exact ⟨x.toNat, by omega, by omega⟩

end Go.Proofs.YtahiopjplfnlmaaGreatDoor
