/- Small laws on worlds, rows of cells and growing slices, for any program: used by all walks of this claim. Values and their texts, plainly: what is right, its text, and what a text is read to. What a text is read to: how long what is left is; enough steps. Right texts, plainly: scalars' bytes, one behind the other. There and back, plainly: what is written of a right value is read as it. What is read is right; a right value's text is a right text; plainly. Blanks about a text change nothing; no deeper than may be; plainly. A value that lies in memory. How the document tells a right text, plainly. The document's way to tell a right text: walked. DERIVED: THE SHELF's CONTRACTS AT THIS DUMP, IN PLAIN WORDS (tools/lay-plain.mjs out of 'TryzShelf.lean', which tools/lay-shelf.mjs wrote): THE SAME DECLARATIONS UNDER THE SAME NAMES: 'import', 'namespace', 'open', 'def', 'theorem' AND NOTHING ELSE: no command of the shelf's: FOR A HAND-IN. Each laying: the table of numbers ('.._ren') and one theorem, a field a fact of the dump's own or the kernel's comparison; each contract: ONE APPLICATION. The builder's WriteString and WriteByte, laid by hand (the shelf's tool does not find a number there). DERIVED: THE SHELF's CONTRACTS AT THIS DUMP, IN PLAIN WORDS (tools/lay-plain.mjs out of 'TryzValid.lean', which tools/lay-shelf.mjs wrote): THE SAME DECLARATIONS UNDER THE SAME NAMES: 'import', 'namespace', 'open', 'def', 'theorem' AND NOTHING ELSE: no command of the shelf's: FOR A HAND-IN. Each laying: the table of numbers ('.._ren') and one theorem, a field a fact of the dump's own or the kernel's comparison; each contract: ONE APPLICATION. The scanner: skip, takes, comes; walked. Four figures of base sixteen read by the library: walked. unit: four figures; walked. escaped: what stands behind a backslash; walked. quote: a text between quotes; walked. number: one that comes; walked. made, and a value without parts: walked. A list's, or a record's, parts in the making; a key: walked. key, walked. What parts holds while it adds a value; its deferred call; walked. -/
import Derived.WalkKit
import Derived.WalkSpells
import Derived.WalkLawsBesides
import Derived.Deep.QuietTactic
import Derived.Deep.Upon
import Derived.Deep.LoopGhost
import Derived.BigQuiet
import Derived.Laws.EntriesVeiled
import Derived.Lib.Hide
import Derived.Lib.ValidLaws
import Derived.Lib.AtoiAll
import Derived.Lib.ItoaNum
import Derived.Test.YthnbeebilomchaaGreatDoorRows
import Derived.Shelf.Strings.Builder1
import Derived.Shelf.Strings.Builder2
import Derived.Shelf.Strings.OnBuilder
import Derived.Shelf.Strings.Trim
import Derived.Shelf.Small.Utf8
import Derived.Shelf.Small.Strs
import Derived.Shelf.Small.Wraps
import Derived.Shelf.Strings.Builder2Cap
import Derived.Shelf.Strconv.Atoi
import Derived.Shelf.Strconv.Itoa0
import Derived.Shelf.Strconv.Itoa1
import Derived.Shelf.LaysM
import Derived.Shelf.Strconv.Itoa2
import Derived.Shelf.Strconv.Itoa3
import Derived.Shelf.Strconv.AtoiErrFast
import Derived.Shelf.Strconv.ParseIntEmpty
import Derived.Shelf.Strconv.AtoiFail
import Derived.Shelf.Strconv.Clone
import Derived.Shelf.Strconv.SyntaxError
import Derived.Shelf.LaysC
import Derived.Shelf.Strconv.ToError
import Derived.Shelf.Strconv.Lower
import Derived.Shelf.Strconv.ParseUint10
import Derived.Shelf.Strconv.ParseUint10Empty
import Derived.Shelf.Strconv.ParseUint10Any
import Derived.Shelf.Strconv.ParseInt10
import Derived.Shelf.Strconv.AtoiLong
import Derived.Shelf.Strconv.AtoiInnerAll
import Derived.Shelf.Strconv.RangeError
import Derived.Shelf.Strconv.ToErrorRange
import Derived.Shelf.Strconv.AtoiAll
import Derived.Shelf.Strconv.ErrVarAll
import Derived.Shelf.Strings.Search1
import Derived.Shelf.Strings.Prefix
import Derived.Shelf.Strings.Runes
import Derived.Shelf.Strings.AsciiSet
import Derived.Shelf.Unicode.DecodeSlow
import Derived.Shelf.Unicode.DecodeAny
import Derived.Shelf.Slices.Turned
import Derived.Shelf.Slices.Equal
import Derived.Shelf.Slices.Empties2
import Derived.Test.YthnbeebilomchaaGreatDoorProg
import Derived.Shelf.Unicode.ValidAny
import Derived.Shelf.Strings.SlTrimAscii
import Derived.WalkSmall
import Derived.Lib.AppendIntMem
import Derived.Lib.Walk
import Derived.Lib.ConvBytes
import Derived.Laws.Strings3
import Derived.Laws.Closers25
import Derived.Laws.Closers25b
import Derived.BigCall
import Derived.BigGuard
import Derived.Defers
namespace Go.Proofs.YthnbeebilomchaaGreatDoor
open Go Go.RowKit

def Row (w : World) (sz : Nat) (a : Option Addr) (n : Nat) (xs : List Value) : Prop :=
  xs.length = n * sz ∧ (0 < n * sz → ∃ b off, a = some ⟨b, off, none⟩ ∧ ∀ j, j < n * sz → w.cell? ⟨b, off + j, none⟩ = xs[j]?)

theorem cell_lt {w : World} {a : Addr} {v : Value} (h : w.cell? a = some v) : a.block < w.heap.size := World.block_lt_of_cell? w a h

theorem Row.ext {w w' : World} {sz n : Nat} {a : Option Addr} {xs : List Value} (h : Row w sz a n xs) (hb : Below w.heap.size w w') : Row w' sz a n xs := by
  refine ⟨h.1, fun h0 => ?_⟩
  obtain ⟨b, off, ha, hc⟩ := h.2 h0
  refine ⟨b, off, ha, fun j hj => ?_⟩
  have hx : j < xs.length := by rw [h.1]; exact hj
  have e := hc j hj
  rw [List.getElem?_eq_getElem hx] at e ⊢
  rw [hb.cell (p := ⟨b, off + j, none⟩) (cell_lt (a := ⟨b, off + j, none⟩) e)]
  exact e

theorem Row.below {w0 w' : World} {sz n : Nat} {a : Option Addr} {xs : List Value} (h : Row w0 sz a n xs) (hb : Below w0.heap.size w0 w') : Row w' sz a n xs := h.ext hb

theorem below_ext {w w' : World} {p : Addr} {v : Value} (hb : Below w.heap.size w w') (h : w.cell? p = some v) : w'.cell? p = some v := (hb.cell (cell_lt h)).trans h

theorem cell_new {w : World} {c : Array Value} {t : TypeId} {i b : Nat} (h : b = w.heap.size) : (w.alloc (.cells c t)).cell? ⟨b, i, none⟩ = c[i]? := by subst h; simp

theorem Row.drew {w : World} {sz n : Nat} {a : Option Addr} {xs : List Value} (h : Row w sz a n xs) (k : Nat) : Row (w.drewN k) sz a n xs := h

theorem Row.nil (w : World) (sz : Nat) (a : Option Addr) : Row w sz a 0 [] := ⟨by simp, fun h => by simp at h⟩

theorem Row.at {w : World} {sz n : Nat} {a : Option Addr} {xs : List Value} (h : Row w sz a n xs) (h0 : 0 < n * sz) :
    ∃ b off, a = some ⟨b, off, none⟩ ∧ ∀ j, j < n * sz → w.cell? ⟨b, off + j, none⟩ = xs[j]? := h.2 h0

theorem flat_length {α : Type} (enc : α → List Value) (sz : Nat) (he : ∀ x, (enc x).length = sz) (l : List α) : (l.flatMap enc).length = l.length * sz := by
  induction l with
  | nil => simp
  | cons x l ih => simp [List.flatMap_cons, he, ih, Nat.add_mul, Nat.add_comm]

theorem flat_get {α : Type} (enc : α → List Value) (sz : Nat) (he : ∀ x, (enc x).length = sz) (l : List α) (i j : Nat) (x : α) (hx : l[i]? = some x) (hj : j < sz) :
    (l.flatMap enc)[i * sz + j]? = (enc x)[j]? := by
  induction l generalizing i with
  | nil => simp at hx
  | cons y l ih =>
    cases i with
    | zero =>
      simp at hx; subst hx
      rw [List.flatMap_cons, Nat.zero_mul, Nat.zero_add, List.getElem?_append_left (by rw [he]; exact hj)]
    | succ i =>
      simp at hx
      rw [List.flatMap_cons, List.getElem?_append_right (by rw [he, Nat.add_mul, Nat.one_mul]; omega), he]
      have : (i + 1) * sz + j - sz = i * sz + j := by rw [Nat.add_mul, Nat.one_mul]; omega
      rw [this]
      exact ih i hx

theorem get_lt {α : Type} {l : List α} {i : Nat} {x : α} (h : l[i]? = some x) : i < l.length := (List.getElem?_eq_some_iff.1 h).1

theorem get_some {α : Type} {l : List α} {i : Nat} (h : i < l.length) : ∃ x, l[i]? = some x := ⟨l[i], List.getElem?_eq_getElem h⟩

theorem Row.elem {α : Type} {w : World} {sz : Nat} {a : Option Addr} {l : List α} {enc : α → List Value} (he : ∀ x, (enc x).length = sz) (hs : 0 < sz) (h : Row w sz a l.length (l.flatMap enc)) {i : Nat} {x : α} (hx : l[i]? = some x) :
    ∃ b off, a = some ⟨b, off, none⟩ ∧ ∀ j, j < sz → w.cell? ⟨b, off + i * sz + j, none⟩ = (enc x)[j]? := by
  have hi := get_lt hx
  have hlt : ∀ j, j < sz → i * sz + j < l.length * sz := fun j hj => by
    have : (i + 1) * sz ≤ l.length * sz := Nat.mul_le_mul_right _ hi
    rw [Nat.add_mul] at this; omega
  obtain ⟨b, off, ha, hc⟩ := h.2 (Nat.lt_of_le_of_lt (Nat.zero_le _) (hlt 0 hs))
  exact ⟨b, off, ha, fun j hj => by rw [Nat.add_assoc, hc _ (hlt j hj), flat_get enc sz he l i j x hx hj]⟩

theorem Row.elem1 {α : Type} {w : World} {a : Option Addr} {l : List α} {f : α → Value} (h : Row w 1 a l.length (l.map f)) {i : Nat} {x : α} (hx : l[i]? = some x) :
    ∃ b off, a = some ⟨b, off, none⟩ ∧ w.cell? ⟨b, off + i, none⟩ = some (f x) := by
  have hi := get_lt hx
  obtain ⟨b, off, ha, hc⟩ := h.2 (by omega)
  exact ⟨b, off, ha, by rw [hc i (by omega), List.getElem?_map, hx]; rfl⟩

def blockOf (a : Option Addr) : Option Nat := a.map (·.block)

def rowOf (a : Option Addr) (cap : Nat) : Option Nat := if cap = 0 then none else blockOf a

def Own (w : World) (base : Nat) (e : TypeId) (sz : Nat) (a : Option Addr) (n cap : Nat) (xs : List Value) : Prop :=
  xs.length = n * sz ∧ ((n = 0 ∧ cap = 0 ∧ ∀ g, blockOf a = some g → base ≤ g) ∨
    ∃ g off cur, a = some ⟨g, off, none⟩ ∧ base ≤ g ∧ w.heap[g]? = some (.cells cur e (0, 0)) ∧ n ≤ cap ∧ cap ≤ maxLen ∧ off + cap * sz ≤ cur.size ∧ (cur.toList.drop off).take (n * sz) = xs)

theorem Own.nil (w : World) (base : Nat) (e : TypeId) (sz : Nat) : Own w base e sz none 0 0 [] := ⟨by simp, .inl ⟨rfl, rfl, fun _ h => by cases h⟩⟩

theorem Own.le {w : World} {base : Nat} {e : TypeId} {sz : Nat} {a : Option Addr} {n cap : Nat} {xs : List Value} (h : Own w base e sz a n cap xs) : n ≤ cap := by
  rcases h.2 with ⟨h1, h2, _⟩ | ⟨_, _, _, _, _, _, h1, _⟩
  · omega
  · exact h1

theorem Own.mono {w : World} {base base' : Nat} {e : TypeId} {sz : Nat} {a : Option Addr} {n cap : Nat} {xs : List Value} (h : Own w base e sz a n cap xs) (hb : base' ≤ base) : Own w base' e sz a n cap xs := by
  refine ⟨h.1, ?_⟩
  rcases h.2 with ⟨h1, h2, h3⟩ | ⟨g, off, cur, h1, h2, r⟩
  · exact .inl ⟨h1, h2, fun g hg => Nat.le_trans hb (h3 g hg)⟩
  · exact .inr ⟨g, off, cur, h1, by omega, r⟩

theorem Own.congr {w w' : World} {base : Nat} {e : TypeId} {sz : Nat} {a : Option Addr} {n cap : Nat} {xs : List Value} (h : Own w base e sz a n cap xs) (hb : ∀ g, blockOf a = some g → g < w.heap.size → w'.heap[g]? = w.heap[g]?) : Own w' base e sz a n cap xs := by
  refine ⟨h.1, ?_⟩
  rcases h.2 with h1 | ⟨g, off, cur, rfl, h2, h3, r⟩
  · exact .inl h1
  · exact .inr ⟨g, off, cur, rfl, h2, by rw [hb g rfl (Array.getElem?_eq_some_iff.1 h3).1]; exact h3, r⟩

theorem Own.below {w w' : World} {base : Nat} {e : TypeId} {sz : Nat} {a : Option Addr} {n cap : Nat} {xs : List Value} (h : Own w base e sz a n cap xs) (hb : Below w.heap.size w w') : Own w' base e sz a n cap xs :=
  h.congr fun g _ hg => hb.block g hg

theorem Own.ext {w w' : World} {base : Nat} {e : TypeId} {sz : Nat} {a : Option Addr} {n cap : Nat} {xs : List Value} (h : Own w base e sz a n cap xs) (hb : Below w.heap.size w w') : Own w' base e sz a n cap xs :=
  h.congr fun g _ hg => hb.block g hg

theorem Own.kept {w w' : World} {base : Nat} {e : TypeId} {sz : Nat} {a : Option Addr} {n cap : Nat} {xs : List Value} {row : Option Nat} (h : Own w base e sz a n cap xs) (hg : w.grownBy w' row) (hne : blockOf a = none ∨ blockOf a ≠ row) : Own w' base e sz a n cap xs :=
  h.congr fun g hg' hlt => hg.block g hlt (by rw [hg'] at hne; rcases hne with h1 | h1; · cases h1
                                              · exact h1)

theorem Own.alloc {w : World} {base : Nat} {e : TypeId} {sz : Nat} {a : Option Addr} {n cap : Nat} {xs : List Value} (h : Own w base e sz a n cap xs) (o : Obj) : Own (w.alloc o) base e sz a n cap xs :=
  h.congr fun g _ hg => Below.heap_alloc w o g hg

theorem Own.setCell_other {w : World} {base : Nat} {e : TypeId} {sz : Nat} {a : Option Addr} {n cap : Nat} {xs : List Value} (h : Own w base e sz a n cap xs) {p : Addr} (hp : blockOf a ≠ some p.block) (u : Value) : Own (w.setCell p u) base e sz a n cap xs :=
  h.congr fun g hg _ => Below.heap_setCell w p u g (fun e => hp (by rw [hg, e]))

theorem Own.drewN {w : World} {base : Nat} {e : TypeId} {sz : Nat} {a : Option Addr} {n cap : Nat} {xs : List Value} (h : Own w base e sz a n cap xs) (k : Nat) : Own (w.drewN k) base e sz a n cap xs := h

theorem Own.row {w : World} {base : Nat} {e : TypeId} {sz : Nat} {a : Option Addr} {n cap : Nat} {xs : List Value} (h : Own w base e sz a n cap xs) : Row w sz a n xs := by
  refine ⟨h.1, fun h0 => ?_⟩
  rcases h.2 with ⟨rfl, _, _⟩ | ⟨g, off, cur, rfl, h2, h3, h4, h5, h6, h7⟩
  · simp at h0
  · refine ⟨g, off, rfl, fun j hj => ?_⟩
    rw [cell_of_row w g (off + j) cur e (0, 0) h3, ← h7, List.getElem?_take, if_pos hj, List.getElem?_drop]
    simp

theorem Own.store {w : World} {base : Nat} {e : TypeId} {sz : Nat} {g off n cap : Nat} {xs : List Value} (h : Own w base e sz (some ⟨g, off, none⟩) n cap xs) {j : Nat} (hj : j < n * sz) (u : Value) :
  w.frozen? ⟨g, off + j, none⟩ = false ∧ Own (w.setCell ⟨g, off + j, none⟩ u) base e sz (some ⟨g, off, none⟩) n cap (xs.set j u) ∧ base ≤ g ∧ g < w.heap.size := by
 rcases h.2 with ⟨rfl, _⟩ | ⟨g', off', cur, h1, h2, h3, h4, h5, h6, h7⟩
 ·
  simp at hj
 ·
  simp only [Option.some.injEq, Addr.mk.injEq, and_true] at h1
  obtain ⟨rfl, rfl⟩ := h1
  refine ⟨frozen_of_row w g (off + j) cur e h3, ⟨by simpa using h.1, .inr ⟨g, off, cur.setIfInBounds (off + j) u, rfl, h2, heap_setCell_same w g (off + j) cur e u h3, h4, h5, by simpa using h6, ?_⟩⟩, h2, (Array.getElem?_eq_some_iff.1 h3).1⟩
  rw [Array.toList_setIfInBounds, ← h7]
  apply List.ext_getElem?
  intro i
  simp only [List.getElem?_take, List.getElem?_drop, List.getElem?_set, List.length_take, List.length_drop, Array.length_toList]
  have hle : n * sz ≤ cap * sz := Nat.mul_le_mul_right _ h4
  by_cases hin : i < n * sz
  ·
   by_cases hij : j = i
   ·
    subst hij
    rw [if_pos hin, if_pos rfl, if_pos rfl, if_pos (by omega), if_pos (by omega)]
   ·
    rw [if_pos hin, if_neg hij, if_neg (by omega), if_pos hin]
  ·
   rw [if_neg hin]
   by_cases hij : j = i
   ·
    omega
   ·
    rw [if_neg hij, if_neg hin]

theorem Own.drop {w : World} {base : Nat} {e : TypeId} {sz : Nat} {g off n cap : Nat} {xs : List Value} (h : Own w base e sz (some ⟨g, off, none⟩) n cap xs) {k : Nat} (hk : k ≤ n) :
    Own w base e sz (some ⟨g, off + k * sz, none⟩) (n - k) (cap - k) (xs.drop (k * sz)) := by
  have hlen : (xs.drop (k * sz)).length = (n - k) * sz := by rw [List.length_drop, h.1, Nat.sub_mul]
  refine ⟨hlen, ?_⟩
  rcases h.2 with ⟨h1, h2, h3⟩ | ⟨g', off', cur, h1, h2, h3, h4, h5, h6, h7⟩
  · exact .inl ⟨by omega, by omega, fun g' hg' => h3 g' (by simpa [blockOf] using hg')⟩
  · simp only [Option.some.injEq, Addr.mk.injEq, and_true] at h1
    obtain ⟨rfl, rfl⟩ := h1
    have hle : k * sz ≤ cap * sz := Nat.mul_le_mul_right _ (by omega)
    refine .inr ⟨g, off + k * sz, cur, rfl, h2, h3, by omega, by omega, by rw [Nat.sub_mul]; omega, ?_⟩
    rw [← h7, List.drop_take, List.drop_drop, Nat.sub_mul]

theorem Own.addr {w : World} {base : Nat} {e : TypeId} {sz : Nat} {a : Option Addr} {n cap : Nat} {xs : List Value} (h : Own w base e sz a n cap xs) (hn : 0 < cap) : ∃ g off, a = some ⟨g, off, none⟩ := by
  rcases h.2 with ⟨_, h2, _⟩ | ⟨g, off, cur, rfl, _⟩
  · omega
  · exact ⟨g, off, rfl⟩

theorem Own.base {w : World} {base : Nat} {e : TypeId} {sz : Nat} {a : Option Addr} {n cap : Nat} {xs : List Value} (h : Own w base e sz a n cap xs) {g : Nat} (hg : blockOf a = some g) : base ≤ g := by
  rcases h.2 with ⟨_, _, h2⟩ | ⟨g', off, cur, rfl, h2, h3, _⟩
  · exact h2 g hg
  · simp [blockOf] at hg; subst hg; exact h2

theorem Own.size {w : World} {base : Nat} {e : TypeId} {sz : Nat} {a : Option Addr} {n cap : Nat} {xs : List Value} (h : Own w base e sz a n cap xs) (hn : 0 < cap) {g : Nat} (hg : blockOf a = some g) : base ≤ g ∧ g < w.heap.size := by
  rcases h.2 with ⟨_, h2, _⟩ | ⟨g', off, cur, rfl, h2, h3, _⟩
  · omega
  · simp [blockOf] at hg; subst hg
    exact ⟨h2, (Array.getElem?_eq_some_iff.1 h3).1⟩

theorem splice_take {α : Type} (L N : List α) (o a : Nat) (h : o + a + N.length ≤ L.length) :
    ((L.take (o + a) ++ N ++ L.drop (o + a + N.length)).drop o).take (a + N.length) = (L.drop o).take a ++ N := by
  have h1 : (L.take (o + a)).drop o = (L.drop o).take a := by rw [List.drop_take]; congr 1; omega
  rw [List.append_assoc, List.drop_append_of_le_length (by rw [List.length_take]; omega), h1, ← List.append_assoc]
  have h2 : ((L.drop o).take a ++ N).length = a + N.length := by rw [List.length_append, List.length_take, List.length_drop]; omega
  rw [← h2]; exact List.take_left

section
variable {P : Program}

theorem run_append_Own (w : World) (base : Nat) (t ty e : TypeId) (i : TypeInfo) (z : Value) (sz bytes : Nat) (ht : P.underlying t = some (.slice e)) (hi : P.info? e = some i) (hz : i.zero = some z)
  (hsize : i.size = sz) (hby : i.bytes = bytes) (hzs : z.cells.size = sz) (hsz : 0 < sz)
  (a : Option Addr) (n cap : Nat) (xs : List Value) (hown : Own w base e sz a n cap xs)
  (ad : Option Addr) (m c : Nat) (news : List Value) (hrow : Row w sz ad m news) (h1 : ∀ u ∈ news, u.oneCell' = true)
  (h63 : n + m ≤ maxLen) (hbytes : (n + m) * bytes ≤ 140737488355328) (hbase : base ≤ w.heap.size) :
  ∃ a' cap' w', (Builtin.append_ #[t, t] ty #[.slice a n cap, .slice ad m c]).run P w = .ok (.slice a' (n + m) cap') w' ∧ Own w' base e sz a' (n + m) cap' (xs ++ news) ∧ w.grownBy w' (rowOf a cap) ∧
   (rowOf a' cap' = rowOf a cap ∨ rowOf a' cap' = some w.heap.size) := by
 have hlen : (xs ++ news).length = (n + m) * sz := by rw [List.length_append, hown.1, hrow.1, Nat.add_mul]
 have hle := hown.le
 by_cases hm : m = 0
 ·
  subst hm
  have hn : news = [] := List.eq_nil_of_length_eq_zero (by simpa using hrow.1)
  subst hn
  refine ⟨a, cap, w, ?_, by simpa using hown, ⟨rfl, rfl, rfl, Nat.le_refl _, fun _ _ _ => rfl⟩, .inl rfl⟩
  cases a <;> cases ad <;> simp [Builtin.append_, run_underlying ht, sizeOf, typeInfo, hi, Builtin.lenOf, Builtin.firstCells, hle, storeCells, loadCells, loadCellsFrom]
 ·
  obtain ⟨b', off', rfl, hc⟩ := hrow.2 (Nat.mul_pos (by omega) hsz)
  have hnews : ∀ j u, news[j]? = some u → w.cell? ((⟨b', off', none⟩ : Addr).add j) = some u := fun j u hj => by
   have := get_lt hj
   rw [Addr.add_lit, hc j (by rw [hrow.1] at this; exact this)]; exact hj
  by_cases hr : n + m ≤ cap
  ·
   rcases hown.2 with ⟨h1', h2', _⟩ | ⟨g, off, cur, rfl, hb, hg, h4, h5, h6, h7⟩
   ·
    omega
   ·
    subst hsize
    have hle2 : (n + m) * i.size ≤ cap * i.size := Nat.mul_le_mul_right _ hr
    have hnl := hrow.1
    rw [Nat.add_mul] at hle2
    have hfc := run_firstCells_some (P := P) w i.size m ⟨b', off', none⟩ m c news hrow.1 hnews
    have hst := run_storeCells_at P g (off + n * i.size) e news 0 cur w hg (by omega) h1
    simp only [Nat.add_zero] at hst
    refine ⟨_, cap, _, by simp [Builtin.append_, run_underlying ht, sizeOf, typeInfo, hi, Builtin.lenOf, hr, hfc, Addr.add_lit, hst]; rfl, ⟨hlen, .inr ⟨g, off, _, rfl, hb, setRow_heap w g cur _ e _ hg, hr, h5, ?_, ?_⟩⟩,
     ⟨rfl, rfl, rfl, by simp, fun k _ hk => setRow_other w g k _ (fun e => hk (by unfold rowOf; rw [if_neg (by omega)]; simp [blockOf, e]))⟩, .inl rfl⟩
    ·
     simp only [List.size_toArray, List.length_append, List.length_take, List.length_drop, Array.length_toList]
     omega
    ·
     rw [← h7, Nat.add_mul, ← hnl]
     have e2 := splice_take cur.toList news off (n * i.size) (by have e1 : cur.toList.length = cur.size := Array.length_toList; omega)
     rw [List.append_assoc] at e2
     exact e2
  ·
   have hsmall : n + m ≤ 9223372036854775807 := by simp only [maxLen] at h63; omega
   have hge := grownCap_ge w (n + m) cap e
   have hcm : grownCap w (n + m) cap e ≤ maxLen := grownCap_le_maxLen w (n + m) cap e h63
   have key : ∀ x : Array Value, x.toList = xs ++ news ++ (Builtin.zeroCells z.cells (grownCap w (n + m) cap e - (n + m))).toList →
     Own (w.drew.alloc (.cells x e)) base e sz (some ⟨w.heap.size, 0, none⟩) (n + m) (grownCap w (n + m) cap e) (xs ++ news) ∧ w.grownBy (w.drew.alloc (.cells x e)) (rowOf a cap) := by
    intro x hx
    have hsx : x.size = (grownCap w (n + m) cap e) * sz := by
     rw [← Array.length_toList, hx, List.length_append, hlen, Array.length_toList, size_zeroCells, hzs, ← Nat.add_mul]; congr 1; omega
    refine ⟨⟨hlen, .inr ⟨w.heap.size, 0, x, rfl, hbase, heap_alloc_new w.drew _, hge, hcm, by omega, ?_⟩⟩, ⟨rfl, rfl, rfl, by simp, fun k hk _ => heap_alloc_old w.drew _ (by exact hk)⟩⟩
    rw [List.drop_zero, hx, ← hlen]; exact List.take_left
   have hold : ∃ b, (∀ j u, xs[j]? = some u → w.cell? ((b : Addr).add j) = some u) ∧ (a = some b ∨ (a = none ∧ n = 0 ∧ cap = 0)) ∧ (b = b) := by
    cases a with
    | none =>
     rcases hown.2 with ⟨h1', h2', _⟩ | ⟨g, off, cur, h, _⟩
     ·
      refine ⟨⟨0, 0, none⟩, fun j u hj => ?_, .inr ⟨rfl, h1', h2'⟩, rfl⟩
      have := get_lt hj; rw [hown.1, h1'] at this; simp at this
     ·
      simp at h
    | some b =>
     refine ⟨b, fun j u hj => ?_, .inl rfl, rfl⟩
     have hj' := get_lt hj; rw [hown.1] at hj'
     obtain ⟨b2, o2, hb2, hcc⟩ := hown.row.2 (by omega)
     cases hb2
     rw [Addr.add_lit, hcc j hj']; exact hj
   obtain ⟨b, hb1, hb2, _⟩ := hold
   rcases hb2 with rfl | ⟨rfl, rfl, rfl⟩
   ·
    subst hsize; subst hby
    have hrun := run_append_grow (P := P) w t ty e i z ht hi hz b n cap xs hown.1 hb1 ⟨b', off', none⟩ m c news hrow.1 hnews (by omega) (by omega) (growslice_fits (by omega) hbytes)
    have hk := key (xs.toArray ++ news.toArray ++ Builtin.zeroCells z.cells (grownCap w (n + m) cap e - (n + m))) (by simp)
    exact ⟨_, _, _, hrun, hk.1, hk.2, .inr (by unfold rowOf; rw [if_neg (by omega)]; rfl)⟩
   ·
    subst hsize; subst hby
    obtain rfl : xs = [] := List.eq_nil_of_length_eq_zero (by simpa using hown.1)
    have hrun := run_append_nil (P := P) w t ty e i z ht hi hz ⟨b', off', none⟩ m c news hrow.1 hnews (by omega) (by omega) (by have hb := hbytes; simp only [Nat.zero_add] at hb; omega)
    have hk := key (news.toArray ++ Builtin.zeroCells z.cells (grownCap w (0 + m) 0 e - (0 + m))) (by simp)
    simp only [Nat.zero_add, List.nil_append] at hk hge ⊢
    exact ⟨_, _, _, hrun, hk.1, hk.2, .inr (by unfold rowOf; rw [if_neg (by omega)]; rfl)⟩

theorem wpList_append_Own {w : World} {ops : Array Oper} {rest : List Oper} {o : Oper} {act : Act} {Q : Exit → Act → World → Prop} (hgd : o.guard = none) (s x : Operand) (t : TypeId)
  (ho : o.op = .call { callee := .builtin .append, args := #[s, x], argTypes := #[t, t] })
  (base : Nat) (e : TypeId) (z : Value) (sz bytes : Nat) (ht : P.underlying t = some (.slice e)) (hinfo : (P.info? e).map (fun i => (i.zero, i.size, i.bytes)) = some (some z, sz, bytes)) (hzs : z.cells.size = sz) (hsz : 0 < sz)
  (a : Option Addr) (n cap : Nat) (xs : List Value) (hs : act.eval s = .slice a n cap) (hown : Own w base e sz a n cap xs)
  (ad : Option Addr) (m c : Nat) (news : List Value) (hx : act.eval x = .slice ad m c) (hrow : Row w sz ad m news) (h1 : ∀ u ∈ news, u.oneCell' = true)
  (h63 : n + m ≤ maxLen) (hbytes : (n + m) * bytes ≤ 140737488355328) (hbase : base ≤ w.heap.size)
  (h : ∀ a' cap' w', Own w' base e sz a' (n + m) cap' (xs ++ news) → w.grownBy w' (rowOf a cap) → (rowOf a' cap' = rowOf a cap ∨ rowOf a' cap' = some w.heap.size) → wpList P ops Q rest (act.put o.dst (.slice a' (n + m) cap')) w') : wpList P ops Q (o :: rest) act w := by
 obtain ⟨i, hi, hz, hsize, hby⟩ := info_parts hinfo
 obtain ⟨a', cap', w', hr, h2, h3, h4⟩ := run_append_Own (P := P) w base t o.type e i z sz bytes ht hi hz hsize hby hzs hsz a n cap xs hown ad m c news hrow h1 h63 hbytes hbase
 refine wpList_plain hgd fun K hK' => ?_
 unfold Oper.wp
 simp [execOp, ho, resolve, invoke, builtin, hs, hx, hr, Result.andThen]
 exact hK' _ _ (h a' cap' w' h2 h3 h4)

theorem step_append_Own {w : World} {ops : Array Oper} {o : Oper} {act : Act} {K : Act → World → Prop} {Q : Exit → Act → World → Prop} {E : Prop} (hgd : o.guard = none) (s x : Operand) (t : TypeId)
  (ho : o.op = .call { callee := .builtin .append, args := #[s, x], argTypes := #[t, t] })
  (base : Nat) (e : TypeId) (z : Value) (sz bytes : Nat) (ht : P.underlying t = some (.slice e)) (hinfo : (P.info? e).map (fun i => (i.zero, i.size, i.bytes)) = some (some z, sz, bytes)) (hzs : z.cells.size = sz) (hsz : 0 < sz)
  (a : Option Addr) (n cap : Nat) (xs : List Value) (hs : act.eval s = .slice a n cap) (hown : Own w base e sz a n cap xs)
  (ad : Option Addr) (m c : Nat) (news : List Value) (hx : act.eval x = .slice ad m c) (hrow : Row w sz ad m news) (h1 : ∀ u ∈ news, u.oneCell' = true)
  (h63 : n + m ≤ maxLen) (hbytes : (n + m) * bytes ≤ 140737488355328) (hbase : base ≤ w.heap.size)
  (h : ∀ a' cap' w', Own w' base e sz a' (n + m) cap' (xs ++ news) → w.grownBy w' (rowOf a cap) → (rowOf a' cap' = rowOf a cap ∨ rowOf a' cap' = some w.heap.size) → K (act.put o.dst (.slice a' (n + m) cap')) w') :
  if Region.wanted o (yielded ops act.tmps) = true then Oper.wp P o act w K Q else E := by
 obtain ⟨i, hi, hz, hsize, hby⟩ := info_parts hinfo
 obtain ⟨a', cap', w', hr, h2, h3, h4⟩ := run_append_Own (P := P) w base t o.type e i z sz bytes ht hi hz hsize hby hzs hsz a n cap xs hown ad m c news hrow h1 h63 hbytes hbase
 have hw : Region.wanted o (yielded ops act.tmps) = true := by simp [Region.wanted, hgd]
 rw [if_pos hw]
 unfold Oper.wp
 simp [execOp, ho, resolve, invoke, builtin, hs, hx, hr, Result.andThen]
 exact h a' cap' w' h2 h3 h4
end

theorem Row.new1 {w : World} {cs : Array Value} {t : TypeId} {sz b : Nat} {xs : List Value} (hb : b = w.heap.size) (hs : cs.size = sz) (hx : cs.toList = xs) : Row (w.alloc (.cells cs t)) sz (some ⟨b, 0, none⟩) 1 xs := by
  subst hb
  refine ⟨by rw [← hx, Array.length_toList, hs, Nat.one_mul], fun _ => ⟨w.heap.size, 0, rfl, fun j _ => ?_⟩⟩
  rw [Nat.zero_add, cell_new rfl, ← hx]; simp

def Blk (w : World) (g : Nat) (cur : Array Value) (e : TypeId) : Prop := w.heap[g]? = some (.cells cur e (0, 0))

theorem Blk.lt {w : World} {g : Nat} {cur : Array Value} {e : TypeId} (h : Blk w g cur e) : g < w.heap.size := (Array.getElem?_eq_some_iff.1 h).1
theorem Blk.cell {w : World} {g : Nat} {cur : Array Value} {e : TypeId} (h : Blk w g cur e) (j : Nat) : w.cell? ⟨g, j, none⟩ = cur[j]? := cell_of_row w g j cur e (0, 0) h
theorem Blk.free {w : World} {g : Nat} {cur : Array Value} {e : TypeId} (h : Blk w g cur e) (j : Nat) : w.frozen? ⟨g, j, none⟩ = false := frozen_of_row w g j cur e h
theorem Blk.new {w : World} {cur : Array Value} {e : TypeId} {g : Nat} (h : g = w.heap.size) : Blk (w.alloc (.cells cur e)) g cur e := by subst h; exact heap_alloc_new w _
theorem Blk.alloc {w : World} {g : Nat} {cur : Array Value} {e : TypeId} (h : Blk w g cur e) (o : Obj) : Blk (w.alloc o) g cur e := (Below.heap_alloc w o g h.lt).trans h
theorem Blk.drew {w : World} {g : Nat} {cur : Array Value} {e : TypeId} (h : Blk w g cur e) : Blk w.drew g cur e := h
theorem Blk.drewN {w : World} {g : Nat} {cur : Array Value} {e : TypeId} (h : Blk w g cur e) (n : Nat) : Blk (w.drewN n) g cur e := h
theorem Blk.below {w w' : World} {g B : Nat} {cur : Array Value} {e : TypeId} (h : Blk w g cur e) (hb : Below B w w') (hg : g < B) : Blk w' g cur e := (hb.block g hg).trans h
theorem Blk.ext {w w' : World} {g : Nat} {cur : Array Value} {e : TypeId} (h : Blk w g cur e) (hb : Below w.heap.size w w') : Blk w' g cur e := h.below hb h.lt
theorem Blk.set {w : World} {g : Nat} {cur : Array Value} {e : TypeId} (h : Blk w g cur e) (j : Nat) (u : Value) : Blk (w.setCell ⟨g, j, none⟩ u) g (cur.setIfInBounds j u) e := heap_setCell_same w g j cur e u h
theorem Blk.other {w : World} {g : Nat} {cur : Array Value} {e : TypeId} (h : Blk w g cur e) {p : Addr} (hp : g ≠ p.block) (u : Value) : Blk (w.setCell p u) g cur e := (Below.heap_setCell w p u g hp).trans h
theorem Blk.grown {w w' : World} {g : Nat} {cur : Array Value} {e : TypeId} {row : Option Nat} (h : Blk w g cur e) (hg : w.grownBy w' row) (hne : some g ≠ row) : Blk w' g cur e := (hg.block g h.lt hne).trans h
theorem Own.apart {w : World} {base : Nat} {e : TypeId} {sz : Nat} {a : Option Addr} {n cap : Nat} {xs : List Value} (h : Own w base e sz a n cap xs) {g : Nat} (hg : g < base) : some g ≠ rowOf a cap := by
  intro he
  unfold rowOf at he
  split at he
  · cases he
  · have := h.base he.symm; omega

theorem Own.rowBase {w : World} {base : Nat} {e : TypeId} {sz : Nat} {a : Option Addr} {n cap : Nat} {xs : List Value} (h : Own w base e sz a n cap xs) {B : Nat} (hB : B ≤ base) : ∀ k, rowOf a cap = some k → B ≤ k := by
  intro k hk
  unfold rowOf at hk
  split at hk
  · cases hk
  · exact Nat.le_trans hB (h.base hk)

theorem Own.keptType {w w' : World} {base base2 : Nat} {e e2 : TypeId} {sz sz2 : Nat} {a a2 : Option Addr} {n n2 cap cap2 : Nat} {xs ys : List Value} (h : Own w base e sz a n cap xs) (h2 : Own w base2 e2 sz2 a2 n2 cap2 ys) (hne : e ≠ e2)
    (hg : w.grownBy w' (rowOf a2 cap2)) : Own w' base e sz a n cap xs := by
  refine ⟨h.1, ?_⟩
  rcases h.2 with h1 | ⟨g, off, cur, rfl, k2, k3, r⟩
  · exact .inl h1
  · refine .inr ⟨g, off, cur, rfl, k2, ?_, r⟩
    rw [hg.block g (Array.getElem?_eq_some_iff.1 k3).1 ?_]; exact k3
    intro he
    unfold rowOf at he
    split at he
    · cases he
    · rename_i hc
      rcases h2.2 with ⟨_, q, _⟩ | ⟨g', off', cur', rfl, _, q3, _⟩
      · exact hc q
      · simp [blockOf] at he; subst he
        rw [k3] at q3; simp at q3; exact hne q3.2

theorem rowOf_apart {w : World} {a a' : Option Addr} {c c' g : Nat} (h : rowOf a c ≠ some g) (hg : g < w.heap.size) (hbk : rowOf a' c' = rowOf a c ∨ rowOf a' c' = some w.heap.size) : rowOf a' c' ≠ some g := by
  rcases hbk with h1 | h1
  · rw [h1]; exact h
  · rw [h1]; intro he; simp at he; omega

def cutAt (a : Option Addr) (cap l sz : Nat) : Option Addr := if cap = l then a else a.map (·.add (l * sz))

section
variable {P : Program}
end

theorem Own.cut {w : World} {base : Nat} {e : TypeId} {sz : Nat} {a : Option Addr} {n cap : Nat} {xs : List Value} (h : Own w base e sz a n cap xs) {l : Nat} (hl : l ≤ n) {a' : Option Addr} (ha : a' = cutAt a cap l sz) :
    Own w base e sz a' (n - l) (cap - l) (xs.drop (l * sz)) := by
  subst ha
  have hle := h.le
  unfold cutAt
  by_cases hc : cap = l
  · rw [if_pos hc]
    refine ⟨by rw [List.length_drop, h.1, Nat.sub_mul], .inl ⟨by omega, by omega, fun g hg => h.base hg⟩⟩
  · rw [if_neg hc]
    obtain ⟨g, off, rfl⟩ := h.addr (by omega)
    have h2 := h.drop hl
    simpa [Addr.add_lit] using h2

theorem Row.cut {w : World} {sz : Nat} {a : Option Addr} {n cap : Nat} {xs : List Value} (h : Row w sz a n xs) (hn : n ≤ cap) {l m : Nat} (hl : l ≤ m) (hm : m ≤ n) {a' : Option Addr} (ha : a' = cutAt a cap l sz) :
    Row w sz a' (m - l) ((xs.drop (l * sz)).take ((m - l) * sz)) := by
  subst ha
  have hml : (m - l) * sz + l * sz = m * sz := by rw [← Nat.add_mul]; congr 1; omega
  have hmn : m * sz ≤ n * sz := Nat.mul_le_mul_right _ hm
  refine ⟨by rw [List.length_take, List.length_drop, h.1]; omega, fun h0 => ?_⟩
  obtain ⟨b, off, rfl, hc⟩ := h.2 (by omega)
  have hcl : ¬ cap = l := by
    intro he
    have : m = l := by omega
    rw [this, Nat.sub_self, Nat.zero_mul] at h0; omega
  refine ⟨b, off + l * sz, by unfold cutAt; rw [if_neg hcl]; simp [Addr.add_lit], fun j hj => ?_⟩
  rw [Nat.add_assoc, hc (l * sz + j) (by omega), List.getElem?_take, if_pos hj, List.getElem?_drop]

theorem Own.setCell_row {w : World} {base : Nat} {e : TypeId} {sz : Nat} {a : Option Addr} {n cap : Nat} {xs : List Value} (h : Own w base e sz a n cap xs) {p : Addr} (hp : rowOf a cap ≠ some p.block) (u : Value) : Own (w.setCell p u) base e sz a n cap xs := by
  refine ⟨h.1, ?_⟩
  rcases h.2 with h1 | ⟨g, off, cur, rfl, k2, k3, k4, k5, k6, k7⟩
  · exact .inl h1
  · rcases Nat.eq_zero_or_pos cap with hc0 | hc0
    · subst hc0
      exact .inl ⟨by omega, rfl, fun g' hg' => by simp [blockOf] at hg'; omega⟩
    · refine .inr ⟨g, off, cur, rfl, k2, (Below.heap_setCell w p u g fun he => hp ?_).trans k3, k4, k5, k6, k7⟩
      unfold rowOf
      rw [if_neg (by omega), he]; simp [blockOf]

theorem Row.setCell_other {w : World} {sz n : Nat} {a : Option Addr} {xs : List Value} (h : Row w sz a n xs) {p : Addr} (hp : blockOf a ≠ some p.block) (u : Value) : Row (w.setCell p u) sz a n xs := by
  refine ⟨h.1, fun h0 => ?_⟩
  obtain ⟨b, off, rfl, hc⟩ := h.2 h0
  refine ⟨b, off, rfl, fun j hj => ?_⟩
  rw [World.cell?_setCell_other w p ⟨b, off + j, none⟩ u (fun e => hp (by rw [e]; rfl))]
  exact hc j hj

def But (B g : Nat) (w w' : World) : Prop := ∀ k, k < B → k ≠ g → w'.heap[k]? = w.heap[k]?
theorem But.refl (B g : Nat) (w : World) : But B g w w := fun _ _ _ => rfl
theorem But.trans {B g : Nat} {a b c : World} (h : But B g a b) (k : But B g b c) : But B g a c := fun i h1 h2 => (k i h1 h2).trans (h i h1 h2)
theorem But.of {B g : Nat} {w w' : World} (h : Below B w w') : But B g w w' := fun k hk _ => h.block k hk
theorem But.set {B g : Nat} {w : World} (o : Nat) (u : Value) : But B g w (w.setCell ⟨g, o, none⟩ u) := fun k _ hk => Below.heap_setCell w _ u k hk
theorem But.grown {B g : Nat} {w w' : World} {row : Option Nat} (hg : w.grownBy w' row) (hB : B ≤ w.heap.size) (hr : ∀ k, row = some k → B ≤ k) : But B g w w' := fun k hk _ => hg.block k (by omega) (fun e => by have := hr k e.symm; omega)
theorem Row.but {w w' : World} {sz n B g : Nat} {a : Option Addr} {xs : List Value} (h : Row w sz a n xs) (hb : But B g w w') (hB : w.heap.size ≤ B) (ha : blockOf a ≠ some g) : Row w' sz a n xs := by
  refine ⟨h.1, fun h0 => ?_⟩
  obtain ⟨b, off, rfl, hc⟩ := h.2 h0
  refine ⟨b, off, rfl, fun j hj => ?_⟩
  have e := hc j hj
  rw [List.getElem?_eq_getElem (by rw [h.1]; exact hj)] at e
  have hlt : b < w.heap.size := cell_lt (a := ⟨b, off + j, none⟩) e
  rw [World.cell?_of_block (w := w) (a := ⟨b, off + j, none⟩) (hb b (by omega) (fun he => ha (by rw [← he]; rfl)))]
  exact hc j hj
theorem Row.lt {w : World} {sz n : Nat} {a : Option Addr} {xs : List Value} (h : Row w sz a n xs) (h0 : 0 < n * sz) {g : Nat} (hg : blockOf a = some g) : g < w.heap.size := by
  obtain ⟨b, off, rfl, hc⟩ := h.2 h0
  simp [blockOf] at hg
  subst hg
  have e := hc 0 h0
  rw [List.getElem?_eq_getElem (by rw [h.1]; exact h0)] at e
  exact cell_lt (a := ⟨b, off + 0, none⟩) e

def upto (k : Nat) : List Int := (List.range k).map fun (i : Nat) => (i : Int)
end Go.Proofs.YthnbeebilomchaaGreatDoor

namespace Go.Proofs.YthnbeebilomchaaGreatDoor
open Go

abbrev Nm := List UInt8

inductive V
  | mk (sort : Int) (on : Bool) (n : Int) (text : Nm) (list : List V) (keys : List Nm)
def V.sort : V → Int | .mk s _ _ _ _ _ => s
def V.on : V → Bool | .mk _ o _ _ _ _ => o
def V.n : V → Int | .mk _ _ n _ _ _ => n
def V.text : V → Nm | .mk _ _ _ t _ _ => t
def V.list : V → List V | .mk _ _ _ _ l _ => l
def V.keys : V → List Nm | .mk _ _ _ _ _ ks => ks
instance : Inhabited V := ⟨.mk 0 false 0 [] [] []⟩
def V.null : V := .mk 0 false 0 [] [] []

mutual
theorem V.ind_go {P : V → Prop} (h : ∀ s o n t l ks, (∀ x ∈ l, P x) → P (.mk s o n t l ks)) : ∀ v, P v
  | .mk s o n t l ks => h s o n t l ks (V.ind_all h l)
theorem V.ind_all {P : V → Prop} (h : ∀ s o n t l ks, (∀ x ∈ l, P x) → P (.mk s o n t l ks)) : ∀ l : List V, ∀ x ∈ l, P x
  | [] => fun x hx => by cases hx
  | y :: l => List.forall_mem_cons.2 ⟨V.ind_go h y, V.ind_all h l⟩
end
theorem V.ind {P : V → Prop} (h : ∀ s o n t l ks, (∀ x ∈ l, P x) → P (.mk s o n t l ks)) (v : V) : P v := V.ind_go h v

/-! ### what is right -/
def distinct : List Nm → Bool
  | [] => true
  | k :: l => Lib.validD k && !l.contains k && distinct l
def headOk (s : Int) (o : Bool) (n : Int) (t : Nm) (m : Nat) (ks : List Nm) : Bool :=
  (!o || s == 1) && (n == 0 || s == 2) && (t.isEmpty || s == 3) && decide (0 ≤ s) && decide (s ≤ 5) && decide (-9007199254740992 ≤ n) && decide (n ≤ 9007199254740992) &&
  Lib.validD t && distinct ks && (if s = 5 then ks.length == m else ks.isEmpty && (s == 4 || m == 0))
mutual
def right : Nat → V → Bool
  | most, .mk s o n t l ks => headOk s o n t l.length ks && (decide (s < 4) || (decide (0 < most) && rights (most - 1) l))
def rights : Nat → List V → Bool
  | _, [] => true
  | m, v :: l => right m v && rights m l
end
/-! ### texts -/
def hexFig (n : Nat) : UInt8 := if n < 10 then UInt8.ofNat (48 + n) else UInt8.ofNat (87 + n)
def quoteB (c : UInt8) : Nm :=
  if c < 32 then [92, 117, 48, 48, hexFig (c.toNat / 16), hexFig (c.toNat % 16)] else if c = 34 ∨ c = 92 then [92, c] else [c]
def quoted (s : Nm) : Nm := 34 :: (s.flatMap quoteB ++ [34])
def trueL : Nm := [116, 114, 117, 101]
def falseL : Nm := [102, 97, 108, 115, 101]
def nullL : Nm := [110, 117, 108, 108]
def commas : List Nm → Nm
  | [] => []
  | [x] => x
  | x :: l => x ++ 44 :: commas l
mutual
def textV : V → Nm
  | .mk s o n t l ks =>
    if s = 1 then (if o then trueL else falseL) else if s = 2 then Lib.itoa n else if s = 3 then quoted t else if s = 0 then nullL
    else if s = 5 then 123 :: (commas (textKs l ks) ++ [125]) else 91 :: (commas (textsV l) ++ [93])
def textsV : List V → List Nm
  | [] => []
  | v :: l => textV v :: textsV l
def textKs : List V → List Nm → List Nm
  | [], _ => []
  | v :: l, ks => (quoted (ks.headD []) ++ 58 :: textV v) :: textKs l ks.tail
end
/-! ### what a text is read to -/
def isBlank (c : UInt8) : Bool := c == 32 || c == 9 || c == 10 || c == 13
def skip (s : Nm) : Nm := s.dropWhile isBlank
def takes (p s : Nm) : Option Nm := if s.take p.length = p then some (s.drop p.length) else none
def hexVal (c : UInt8) : Option Nat :=
  if 48 ≤ c ∧ c ≤ 57 then some (c.toNat - 48) else if 97 ≤ c ∧ c ≤ 102 then some (c.toNat - 87) else if 65 ≤ c ∧ c ≤ 70 then some (c.toNat - 55) else none
def unit4 : Nm → Option (Nat × Nm)
  | a :: b :: c :: d :: r =>
    match hexVal a, hexVal b, hexVal c, hexVal d with
    | some a, some b, some c, some d => some (((a * 16 + b) * 16 + c) * 16 + d, r)
    | _, _, _, _ => none
  | _ => none
def scalarB (n : Nat) : Nm :=
  if n < 128 then [UInt8.ofNat n]
  else if n < 2048 then [UInt8.ofNat (192 + n / 64), UInt8.ofNat (128 + n % 64)]
  else if n < 65536 then [UInt8.ofNat (224 + n / 4096), UInt8.ofNat (128 + n / 64 % 64), UInt8.ofNat (128 + n % 64)]
  else [UInt8.ofNat (240 + n / 262144), UInt8.ofNat (128 + n / 4096 % 64), UInt8.ofNat (128 + n / 64 % 64), UInt8.ofNat (128 + n % 64)]
def escB (c : UInt8) : Option UInt8 :=
  if c = 34 then some 34 else if c = 92 then some 92 else if c = 47 then some 47 else if c = 98 then some 8 else if c = 102 then some 12 else if c = 110 then some 10 else if c = 114 then some 13 else if c = 116 then some 9 else none
def pairN (a b : Nat) : Nat := (a - 55296) * 1024 + (b - 56320) + 65536
def escaped : Nm → Option (Nm × Nm)
  | [] => none
  | c :: r =>
    match escB c with
    | some x => some ([x], r)
    | none =>
      if c ≠ 117 then none
      else match unit4 r with
        | none => none
        | some (a, r) =>
          if a < 55296 ∨ 57344 ≤ a then some (scalarB a, r)
          else match takes [92, 117] r with
            | none => none
            | some r => match unit4 r with
              | none => none
              | some (b, r) => if a < 56320 ∧ 56320 ≤ b ∧ b < 57344 then some (scalarB (pairN a b), r) else none
def strL : Nat → Nm → Nm → Option (Nm × Nm)
  | 0, _, _ => none
  | _ + 1, _, [] => none
  | f + 1, acc, c :: r =>
    if c < 32 then none
    else if c = 34 then some (acc, r)
    else if c = 92 then (match escaped r with | none => none | some (x, r) => strL f (acc ++ x) r)
    else strL f (acc ++ [c]) r
def quoteL (s : Nm) : Option (Nm × Nm) := match takes [34] s with | none => none | some r => strL (r.length + 1) [] r
def isFig (c : UInt8) : Bool := decide (48 ≤ c.toNat) && decide (c.toNat ≤ 57)
theorem isFig_iff {c : UInt8} : isFig c = true ↔ 48 ≤ c.toNat ∧ c.toNat ≤ 57 := by simp [isFig]
def numRest (s : Nm) : Nm := (match takes [45] s with | some r => r | none => s).dropWhile isFig
def numHead (s : Nm) : Nm := s.take (s.length - (numRest s).length)
def numL (s : Nm) : Option (Int × Nm) :=
  match Lib.atoiAll (numHead s) with
  | .ok n => if Lib.itoa n = numHead s ∧ -9007199254740992 ≤ n ∧ n ≤ 9007199254740992 then some (n, numRest s) else none
  | _ => none

inductive Res
  | out
  | err (e : Int)
  | ok (v : V) (rest : Nm)
def comes (p : UInt8 → Bool) : Nm → Bool
  | [] => false
  | c :: _ => p c
def plainL (s : Nm) : Res :=
  if comes (· == 34) s then (match quoteL s with | none => .err 21 | some (t, r) => .ok (.mk 3 false 0 t [] []) r)
  else if comes (fun c => c == 45 || isFig c) s then (match numL s with | none => .err 21 | some (n, r) => .ok (.mk 2 false n [] [] []) r)
  else match takes trueL s with
    | some r => .ok (.mk 1 true 0 [] [] []) r
    | none => match takes falseL s with
      | some r => .ok (.mk 1 false 0 [] [] []) r
      | none => match takes nullL s with
        | some r => .ok .null r
        | none => .err 21
def keyL (s : Nm) (ks : List Nm) : Option (Nm × Nm) :=
  match quoteL (skip s) with
  | none => none
  | some (k, r) => if k ∈ ks then none else match takes [58] (skip r) with | none => none | some r => some (k, r)
mutual
def valL : Nat → Nat → Nm → Res
 | 0, _, _ => .out
 | f + 1, o, s =>
  match (match takes [123] (skip s) with
   | some r => partsL f o 5 125 r
   | none => match takes [91] (skip s) with
    | some r => partsL f o 4 93 r
    | none => plainL (skip s)) with
  | .ok v r => .ok v (skip r)
  | e => e
def partsL : Nat → Nat → Int → UInt8 → Nm → Res
 | 0, _, _, _, _ => .out
 | f + 1, o, sort, e, s =>
  if 20 ≤ o then .err 22
  else match takes [e] (skip s) with
   | some r => .ok (.mk sort false 0 [] [] []) r
   | none => loopL f (o + 1) sort e (skip s) [] []
def loopL : Nat → Nat → Int → UInt8 → Nm → List V → List Nm → Res
 | 0, _, _, _, _, _, _ => .out
 | f + 1, o, sort, e, s, vs, ks =>
  if sort = 5 then
   match keyL s ks with
   | none => .err 21
   | some (k, r) => elemL f o sort e r vs (ks ++ [k])
  else elemL f o sort e s vs ks
def elemL : Nat → Nat → Int → UInt8 → Nm → List V → List Nm → Res
 | 0, _, _, _, _, _, _ => .out
 | f + 1, o, sort, e, s, vs, ks =>
  match valL f o s with
  | .ok x r =>
   match takes [e] r with
   | some r => .ok (.mk sort false 0 [] (vs ++ [x]) ks) r
   | none => match takes [44] r with
    | some r => loopL f o sort e r (vs ++ [x]) ks
    | none => .err 21
  | r => r
end
def steps (s : Nm) : Nat := 4 * s.length + 8
def readL (s : Nm) : Res :=
  if Lib.validD s then
    match valL (steps s) 0 s with
    | .ok v r => if r = [] then .ok v [] else .err 21
    | e => e
  else .err 11
end Go.Proofs.YthnbeebilomchaaGreatDoor

namespace Go.Proofs.YthnbeebilomchaaGreatDoor
open Go

theorem takes_some {p s r : Nm} (h : takes p s = some r) : s = p ++ r := by
  unfold takes at h
  split at h
  · rename_i h1
    cases h
    have e := List.take_append_drop p.length s
    rw [h1] at e
    exact e.symm
  · cases h
theorem takes_len {p s r : Nm} (h : takes p s = some r) : s.length = p.length + r.length := by rw [takes_some h, List.length_append]
theorem skip_len (s : Nm) : (skip s).length ≤ s.length := by
  unfold skip
  induction s with
  | nil => exact Nat.le_refl _
  | cons c s ih => rw [List.dropWhile_cons]; split <;> simp <;> omega
theorem unit4_len {s r : Nm} {a : Nat} (h : unit4 s = some (a, r)) : r.length < s.length := by
  unfold unit4 at h
  split at h
  · split at h
    · cases h; simp only [List.length_cons]; omega
    · cases h
  · cases h
theorem escaped_len {s x r : Nm} (h : escaped s = some (x, r)) : r.length < s.length := by
  cases s with
  | nil => cases h
  | cons c s =>
    simp only [escaped] at h
    split at h
    · cases h; simp
    · split at h
      · cases h
      · split at h
        · cases h
        · rename_i a r1 h1
          have l1 := unit4_len h1
          split at h
          · cases h; simp; omega
          · split at h
            · cases h
            · rename_i r2 h2
              have l2 := takes_len h2
              split at h
              · cases h
              · rename_i b r3 h3
                have l3 := unit4_len h3
                split at h
                · (injection h with h; injection h with _ h; rw [← h]; simp only [List.length_cons]; simp only [List.length_cons, List.length_nil] at l2; omega)
                · cases h
theorem strL_len : ∀ (f : Nat) {acc s x r : Nm}, strL f acc s = some (x, r) → r.length < s.length
  | 0, acc, s, x, r, h => by simp [strL] at h
  | f + 1, acc, [], x, r, h => by simp [strL] at h
  | f + 1, acc, c :: s, x, r, h => by
    simp only [strL] at h
    split at h
    · cases h
    · split at h
      · cases h; simp
      · split at h
        · split at h
          · cases h
          · rename_i y r1 h1
            have := escaped_len h1
            have := strL_len f h
            simp; omega
        · have := strL_len f h
          simp; omega
theorem quoteL_len {s x r : Nm} (h : quoteL s = some (x, r)) : r.length < s.length := by
  unfold quoteL at h
  split at h
  · cases h
  · rename_i r1 h1
    have l1 := takes_len h1
    have l2 := strL_len _ h
    simp only [List.length_cons, List.length_nil] at l1
    omega
theorem strL_fuel : ∀ (f g : Nat) (acc s : Nm), s.length < f → s.length < g → strL f acc s = strL g acc s
  | 0, _, _, _, h, _ => by omega
  | _ + 1, 0, _, _, _, h => by omega
  | f + 1, g + 1, acc, [], _, _ => rfl
  | f + 1, g + 1, acc, c :: s, h, k => by
    simp only [List.length_cons] at h k
    simp only [strL]
    split
    · rfl
    · split
      · rfl
      · split
        · split
          · rfl
          · rename_i y r1 h1
            have := escaped_len h1
            exact strL_fuel f g _ _ (by omega) (by omega)
        · exact strL_fuel f g _ _ (by omega) (by omega)
theorem numRest_len (s : Nm) : (numRest s).length ≤ s.length := by
  have h : ∀ l : Nm, (l.dropWhile isFig).length ≤ l.length := fun l => by
    induction l with
    | nil => exact Nat.le_refl _
    | cons c s ih => rw [List.dropWhile_cons]; split <;> simp <;> omega
  unfold numRest
  split
  · rename_i r h1
    have := takes_len h1
    have := h r
    omega
  · exact h s
theorem keyL_len {s k r : Nm} {ks : List Nm} (h : keyL s ks = some (k, r)) : r.length < s.length := by
  unfold keyL at h
  split at h
  · cases h
  · rename_i x r1 h1
    have := quoteL_len h1
    have := skip_len s
    split at h
    · cases h
    · split at h
      · cases h
      · rename_i r2 h2
        cases h
        have := takes_len h2
        have := skip_len r1
        omega
theorem plainL_len {s r : Nm} {v : V} (h : plainL s = .ok v r) : r.length ≤ s.length := by
  unfold plainL at h
  split at h
  · split at h
    · cases h
    · rename_i t r1 h1; cases h; have := quoteL_len h1; omega
  · split at h
    · split at h
      · cases h
      · rename_i n r1 h1
        cases h
        unfold numL at h1
        split at h1
        · split at h1
          · cases h1; exact numRest_len s
          · cases h1
        · cases h1
    · split at h
      · rename_i h1; cases h; have := takes_len h1; omega
      · split at h
        · rename_i h1; cases h; have := takes_len h1; omega
        · split at h
          · rename_i h1; cases h; have := takes_len h1; omega
          · cases h
theorem plainL_out (s : Nm) : plainL s ≠ .out := by
  unfold plainL
  split
  · split <;> simp
  · split
    · split <;> simp
    · split
      · simp
      · split
        · simp
        · split <;> simp

theorem valL_step (f o : Nat) (s : Nm) : valL (f + 1) o s = match (match takes [123] (skip s) with
      | some r => partsL f o 5 125 r
      | none => match takes [91] (skip s) with
        | some r => partsL f o 4 93 r
        | none => plainL (skip s)) with
    | .ok v r => .ok v (skip r)
    | e => e := by first | (rw [valL]; done) | (rw [valL]; rfl)
theorem partsL_step (f o : Nat) (sort : Int) (e : UInt8) (s : Nm) : partsL (f + 1) o sort e s = if 20 ≤ o then .err 22
    else match takes [e] (skip s) with
      | some r => .ok (.mk sort false 0 [] [] []) r
      | none => loopL f (o + 1) sort e (skip s) [] [] := by first | (rw [partsL]; done) | (rw [partsL]; rfl)
theorem loopL_step (f o : Nat) (sort : Int) (e : UInt8) (s : Nm) (vs : List V) (ks : List Nm) : loopL (f + 1) o sort e s vs ks =
    if sort = 5 then
      match keyL s ks with
      | none => .err 21
      | some (k, r) => elemL f o sort e r vs (ks ++ [k])
    else elemL f o sort e s vs ks := by first | (rw [loopL]; done) | (rw [loopL]; rfl)
theorem elemL_step (f o : Nat) (sort : Int) (e : UInt8) (s : Nm) (vs : List V) (ks : List Nm) : elemL (f + 1) o sort e s vs ks =
    match valL f o s with
    | .ok x r =>
      match takes [e] r with
      | some r => .ok (.mk sort false 0 [] (vs ++ [x]) ks) r
      | none => match takes [44] r with
        | some r => loopL f o sort e r (vs ++ [x]) ks
        | none => .err 21
    | r => r := by first | (rw [elemL]; done) | (rw [elemL]; rfl)

theorem read_len : ∀ f : Nat, (∀ o s v r, valL f o s = .ok v r → r.length ≤ s.length) ∧ (∀ o sort e s v r, partsL f o sort e s = .ok v r → r.length ≤ s.length) ∧
  (∀ o sort e s vs ks v r, loopL f o sort e s vs ks = .ok v r → r.length ≤ s.length) ∧ (∀ o sort e s vs ks v r, elemL f o sort e s vs ks = .ok v r → r.length ≤ s.length)
 | 0 => ⟨fun _ _ _ _ h => by simp [valL] at h, fun _ _ _ _ _ _ h => by simp [partsL] at h, fun _ _ _ _ _ _ _ _ h => by simp [loopL] at h, fun _ _ _ _ _ _ _ _ h => by simp [elemL] at h⟩
 | f + 1 => by
  obtain ⟨h1, h2, h3, h4⟩ := read_len f
  refine ⟨fun o s v r h => ?_, fun o sort e s v r h => ?_, fun o sort e s vs ks v r h => ?_, fun o sort e s vs ks v r h => ?_⟩
  ·
   rw [valL_step] at h
   have hs := skip_len s
   split at h
   ·
    rename_i v1 r1 h5
    cases h
    have h6 := skip_len r1
    split at h5
    ·
     rename_i r2 h7
     have := takes_len h7
     have := h2 _ _ _ _ _ _ h5
     omega
    ·
     split at h5
     ·
      rename_i r2 h7
      have := takes_len h7
      have := h2 _ _ _ _ _ _ h5
      omega
     ·
      have := plainL_len h5
      omega
   ·
    rename_i hne; exact absurd h (hne _ _)
  ·
   rw [partsL_step] at h
   have hs := skip_len s
   split at h
   ·
    cases h
   ·
    split at h
    ·
     rename_i h7; cases h; have := takes_len h7; omega
    ·
     have := h3 _ _ _ _ _ _ _ _ h
     omega
  ·
   rw [loopL_step] at h
   split at h
   ·
    split at h
    ·
     cases h
    ·
     rename_i k r1 h5
     have := keyL_len h5
     have := h4 _ _ _ _ _ _ _ _ h
     omega
   ·
    exact h4 _ _ _ _ _ _ _ _ h
  ·
   rw [elemL_step] at h
   split at h
   ·
    rename_i x r1 h5
    have := h1 _ _ _ _ h5
    split at h
    ·
     rename_i h7; cases h; have := takes_len h7; omega
    ·
     split at h
     ·
      rename_i h7
      have := takes_len h7
      have := h3 _ _ _ _ _ _ _ _ h
      omega
     ·
      cases h
   ·
    rename_i hne; exact absurd h (hne _ _)

theorem read_enough : ∀ f : Nat, (∀ o s, 4 * s.length + 1 ≤ f → valL f o s ≠ .out) ∧ (∀ o sort e s, 4 * s.length + 4 ≤ f → partsL f o sort e s ≠ .out) ∧
  (∀ o sort e s vs ks, 4 * s.length + 3 ≤ f → loopL f o sort e s vs ks ≠ .out) ∧ (∀ o sort e s vs ks, 4 * s.length + 2 ≤ f → elemL f o sort e s vs ks ≠ .out)
 | 0 => ⟨fun _ _ h => by omega, fun _ _ _ _ h => by omega, fun _ _ _ _ _ _ h => by omega, fun _ _ _ _ _ _ h => by omega⟩
 | f + 1 => by
  obtain ⟨h1, h2, h3, h4⟩ := read_enough f
  refine ⟨fun o s hl => ?_, fun o sort e s hl => ?_, fun o sort e s vs ks hl => ?_, fun o sort e s vs ks hl => ?_⟩
  ·
   rw [valL_step]
   have hs := skip_len s
   split
   ·
    simp
   ·
    split
    ·
     rename_i r h7
     have := takes_len h7
     simp at this
     exact h2 _ _ _ _ (by omega)
    ·
     split
     ·
      rename_i r h7
      have := takes_len h7
      simp at this
      exact h2 _ _ _ _ (by omega)
     ·
      exact plainL_out _
  ·
   rw [partsL_step]
   have hs := skip_len s
   split
   ·
    simp
   ·
    split
    ·
     simp
    ·
     exact h3 _ _ _ _ _ _ (by omega)
  ·
   rw [loopL_step]
   split
   ·
    split
    ·
     simp
    ·
     rename_i k r1 h5
     have := keyL_len h5
     exact h4 _ _ _ _ _ _ (by omega)
   ·
    exact h4 _ _ _ _ _ _ (by omega)
  ·
   rw [elemL_step]
   split
   ·
    rename_i x r1 h5
    have := (read_len f).1 _ _ _ _ h5
    split
    ·
     simp
    ·
     split
     ·
      rename_i h7
      have := takes_len h7
      simp at this
      exact h3 _ _ _ _ _ _ (by omega)
     ·
      simp
   ·
    exact h1 _ _ (by omega)

theorem valL_steps (o : Nat) (s : Nm) : valL (steps s) o s ≠ .out := (read_enough _).1 o s (by unfold steps; omega)
end Go.Proofs.YthnbeebilomchaaGreatDoor

namespace Go.Proofs.YthnbeebilomchaaGreatDoor
open Go

def Scalar (n : Nat) : Prop := n < 55296 ∨ (57344 ≤ n ∧ n ≤ 1114111)
theorem u8 {n : Nat} (h : n < 256) : (UInt8.ofNat n).toNat = n := by rw [UInt8.toNat_ofNat', Nat.mod_eq_of_lt (by omega)]
end Go.Proofs.YthnbeebilomchaaGreatDoor

namespace Go.Proofs.YthnbeebilomchaaGreatDoor
open Go

theorem takes_nil (s : Nm) : takes [] s = some s := by simp [takes]
theorem takes_cons (a b : UInt8) (p s : Nm) : takes (a :: p) (b :: s) = if b = a then takes p s else none := by
  unfold takes
  simp only [List.length_cons, List.take_succ_cons, List.drop_succ_cons, List.cons.injEq]
  by_cases h : b = a
  · simp [h]
  · simp [h]
theorem takes_empty (a : UInt8) (p : Nm) : takes (a :: p) [] = none := by simp [takes]
end Go.Proofs.YthnbeebilomchaaGreatDoor

namespace Go.Proofs.YthnbeebilomchaaGreatDoor
open Go

theorem hexVal_some {c : UInt8} {n : Nat} (h : hexVal c = some n) : n < 16 ∧ c.toNat < 128 := by
  unfold hexVal at h
  simp only [UInt8.le_iff_toNat_le, show (48 : UInt8).toNat = 48 from rfl, show (57 : UInt8).toNat = 57 from rfl, show (97 : UInt8).toNat = 97 from rfl, show (102 : UInt8).toNat = 102 from rfl, show (65 : UInt8).toNat = 65 from rfl, show (70 : UInt8).toNat = 70 from rfl] at h
  split at h
  · injection h with h; omega
  · split at h
    · injection h with h; omega
    · split at h
      · injection h with h; omega
      · cases h
theorem unit4_some {s r : Nm} {a : Nat} (h : unit4 s = some (a, r)) : a < 65536 ∧ (Lib.validD s = true → Lib.validD r = true) := by
  unfold unit4 at h
  split at h
  · split at h
    · rename_i c0 c1 c2 c3 q _ _ _ _ n0 n1 n2 n3 h0 h1 h2 h3
      injection h with h
      injection h with ha hr
      subst ha hr
      obtain ⟨a0, b0⟩ := hexVal_some h0
      obtain ⟨a1, b1⟩ := hexVal_some h1
      obtain ⟨a2, b2⟩ := hexVal_some h2
      obtain ⟨a3, b3⟩ := hexVal_some h3
      refine ⟨by omega, fun hv => ?_⟩
      rw [Lib.validD_cons _ _ b0, Lib.validD_cons _ _ b1, Lib.validD_cons _ _ b2, Lib.validD_cons _ _ b3] at hv
      exact hv
    · cases h
  · cases h
end Go.Proofs.YthnbeebilomchaaGreatDoor

namespace Go.Proofs.YthnbeebilomchaaGreatDoor
open Go

section
variable {b : UInt8}
def More (b : UInt8) (s s' : Nm) : Prop := s' = s ++ [b] ∨ (s = [] ∧ s' = [])
theorem More.cons {c : UInt8} {s s' : Nm} (h : More b (c :: s) s') : ∃ t, s' = c :: t ∧ More b s t := by
  rcases h with rfl | ⟨h, -⟩
  · exact ⟨s ++ [b], rfl, .inl rfl⟩
  · cases h
theorem More.nil {s' : Nm} (h : More b [] s') : s' = [b] ∨ s' = [] := by
  rcases h with rfl | ⟨-, rfl⟩
  · exact .inl rfl
  · exact .inr rfl
def finL : Res → Res
  | .ok v r => .ok v (skip r)
  | e => e
def headL (f o : Nat) (s : Nm) : Res :=
  match takes [123] s with
  | some r => partsL f o 5 125 r
  | none => match takes [91] s with
    | some r => partsL f o 4 93 r
    | none => plainL s
theorem valL_fin (f o : Nat) (s : Nm) : valL (f + 1) o s = finL (headL f o (skip s)) := by first | (rw [valL]; done) | (rw [valL]; rfl)
end

end Go.Proofs.YthnbeebilomchaaGreatDoor

namespace Go.Proofs.YthnbeebilomchaaGreatDoor
open Go Go.RowKit

def strV (x : Nm) : Value := .string ⟨x.toArray⟩
theorem strV_data (s : ByteArray) : strV s.data.toList = .string s := rfl

inductive VD
  | mk (sort : Int) (on : Bool) (n : Int) (text : Nm) (a : Option Addr) (c : Nat) (list : List VD) (ka : Option Addr) (kc : Nat) (keys : List Nm)
def VD.sort : VD → Int | .mk s _ _ _ _ _ _ _ _ _ => s
def VD.on : VD → Bool | .mk _ o _ _ _ _ _ _ _ _ => o
def VD.n : VD → Int | .mk _ _ n _ _ _ _ _ _ _ => n
def VD.text : VD → Nm | .mk _ _ _ t _ _ _ _ _ _ => t
def VD.a : VD → Option Addr | .mk _ _ _ _ a _ _ _ _ _ => a
def VD.c : VD → Nat | .mk _ _ _ _ _ c _ _ _ _ => c
def VD.list : VD → List VD | .mk _ _ _ _ _ _ l _ _ _ => l
def VD.ka : VD → Option Addr | .mk _ _ _ _ _ _ _ ka _ _ => ka
def VD.kc : VD → Nat | .mk _ _ _ _ _ _ _ _ kc _ => kc
def VD.keys : VD → List Nm | .mk _ _ _ _ _ _ _ _ _ ks => ks
instance : Inhabited VD := ⟨.mk 0 false 0 [] none 0 [] none 0 []⟩
def VD.cells : VD → List Value | .mk s o n t a c l ka kc ks => [.int .i64 s, .bool o, .int .i64 n, strV t, .slice a l.length c, .slice ka ks.length kc]
theorem VD.len (d : VD) : d.cells.length = 6 := by cases d; rfl
def VD.val (d : VD) : Value := .agg d.cells.toArray
mutual
def VD.v : VD → V | .mk s o n t _ _ l _ _ ks => .mk s o n t (vsOf l) ks
def vsOf : List VD → List V
  | [] => []
  | d :: l => d.v :: vsOf l
end
theorem vsOf_map : ∀ l : List VD, vsOf l = l.map VD.v
  | [] => rfl
  | d :: l => by first | (rw [vsOf, vsOf_map l]; done) | (rw [vsOf, vsOf_map l]; rfl)
theorem VD.v_eq (d : VD) : d.v = .mk d.sort d.on d.n d.text (d.list.map VD.v) d.keys := by cases d; rw [VD.v, vsOf_map]; rfl
mutual
theorem VD.ind_go {P : VD → Prop} (h : ∀ s o n t a c l ka kc ks, (∀ x ∈ l, P x) → P (.mk s o n t a c l ka kc ks)) : ∀ v, P v
  | .mk s o n t a c l ka kc ks => h s o n t a c l ka kc ks (VD.ind_all h l)
theorem VD.ind_all {P : VD → Prop} (h : ∀ s o n t a c l ka kc ks, (∀ x ∈ l, P x) → P (.mk s o n t a c l ka kc ks)) : ∀ l : List VD, ∀ x ∈ l, P x
  | [] => fun x hx => by cases hx
  | y :: l => List.forall_mem_cons.2 ⟨VD.ind_go h y, VD.ind_all h l⟩
end
theorem VD.ind {P : VD → Prop} (h : ∀ s o n t a c l ka kc ks, (∀ x ∈ l, P x) → P (.mk s o n t a c l ka kc ks)) (v : VD) : P v := VD.ind_go h v

theorem Row.congr {w w' : World} {sz n : Nat} {a : Option Addr} {xs : List Value} (h : Row w sz a n xs) (hb : ∀ g, 0 < n * sz → blockOf a = some g → g < w.heap.size → w'.heap[g]? = w.heap[g]?) : Row w' sz a n xs := by
  refine ⟨h.1, fun h0 => ?_⟩
  obtain ⟨b, off, rfl, hc⟩ := h.2 h0
  refine ⟨b, off, rfl, fun j hj => ?_⟩
  have e := hc j hj
  rw [List.getElem?_eq_getElem (by rw [h.1]; exact hj)] at e
  have hlt : b < w.heap.size := cell_lt (a := ⟨b, off + j, none⟩) e
  rw [World.cell?_of_block (w := w) (a := ⟨b, off + j, none⟩) (hb b h0 rfl hlt)]
  exact hc j hj

inductive ValAt (w : World) (p : Nat → Prop) : VD → Prop
  | mk {s : Int} {o : Bool} {n : Int} {t : Nm} {a : Option Addr} {c : Nat} {l : List VD} {ka : Option Addr} {kc : Nat} {ks : List Nm}
      (h : Row w 6 a l.length (l.flatMap VD.cells)) (hk : Row w 1 ka ks.length (ks.map strV)) (ha : ∀ g, 0 < l.length → blockOf a = some g → p g) (hka : ∀ g, 0 < ks.length → blockOf ka = some g → p g)
      (hl : ∀ x ∈ l, ValAt w p x) : ValAt w p (.mk s o n t a c l ka kc ks)
theorem ValAt.row {w : World} {p : Nat → Prop} {d : VD} (h : ValAt w p d) : Row w 6 d.a d.list.length (d.list.flatMap VD.cells) := by cases h; assumption
theorem ValAt.krow {w : World} {p : Nat → Prop} {d : VD} (h : ValAt w p d) : Row w 1 d.ka d.keys.length (d.keys.map strV) := by cases h; assumption
theorem ValAt.kid {w : World} {p : Nat → Prop} {d : VD} (h : ValAt w p d) : ∀ x ∈ d.list, ValAt w p x := by cases h; assumption
theorem ValAt.blk {w : World} {p : Nat → Prop} {d : VD} (h : ValAt w p d) : ∀ g, 0 < d.list.length → blockOf d.a = some g → p g := by cases h; assumption
theorem ValAt.kblk {w : World} {p : Nat → Prop} {d : VD} (h : ValAt w p d) : ∀ g, 0 < d.keys.length → blockOf d.ka = some g → p g := by cases h; assumption
theorem ValAt.congr {w w' : World} {p : Nat → Prop} {d : VD} (h : ValAt w p d) (hb : ∀ g, p g → g < w.heap.size → w'.heap[g]? = w.heap[g]?) : ValAt w' p d := by
  induction h with
  | mk h hk ha hka _ ih =>
    exact .mk (h.congr fun g h0 hg hlt => hb g (ha g (Nat.pos_of_mul_pos_right h0) hg) hlt) (hk.congr fun g h0 hg hlt => hb g (hka g (by omega) hg) hlt) ha hka ih
theorem ValAt.ext {w w' : World} {p : Nat → Prop} {d : VD} (h : ValAt w p d) (hb : Below w.heap.size w w') : ValAt w' p d := h.congr fun g _ hg => hb.block g hg
theorem ValAt.mono {w : World} {p q : Nat → Prop} {d : VD} (h : ValAt w p d) (hp : ∀ g, p g → g < w.heap.size → q g) : ValAt w q d := by
  induction h with
  | mk h hk ha hka _ ih =>
    exact .mk h hk (fun g h0 hg => hp g (ha g h0 hg) (h.lt (by omega) hg)) (fun g h0 hg => hp g (hka g h0 hg) (hk.lt (by omega) hg)) ih
theorem ValAt.leaf {w : World} {p : Nat → Prop} {s : Int} {o : Bool} {n : Int} {t : Nm} {a ka : Option Addr} {c kc : Nat} : ValAt w p (.mk s o n t a c [] ka kc []) :=
  .mk (Row.nil _ _ _) (Row.nil _ _ _) (fun _ h => by simp at h) (fun _ h => by simp at h) (fun x hx => by cases hx)

theorem val_at {w : World} {a : Option Addr} {l : List VD} (h : Row w 6 a l.length (l.flatMap VD.cells)) {i : Nat} {x : VD} (hx : l[i]? = some x) :
    ∃ b off, a = some ⟨b, off, none⟩ ∧ w.cell? ⟨b, off + i * 6, none⟩ = some (.int .i64 x.sort) ∧ w.cell? ⟨b, off + i * 6 + 1, none⟩ = some (.bool x.on) ∧ w.cell? ⟨b, off + i * 6 + 2, none⟩ = some (.int .i64 x.n) ∧
      w.cell? ⟨b, off + i * 6 + 3, none⟩ = some (strV x.text) ∧ w.cell? ⟨b, off + i * 6 + 4, none⟩ = some (.slice x.a x.list.length x.c) ∧ w.cell? ⟨b, off + i * 6 + 5, none⟩ = some (.slice x.ka x.keys.length x.kc) := by
  obtain ⟨b, off, ha, hc⟩ := Row.elem VD.len (by decide) h hx
  obtain ⟨s, o, n, t, va, vc, l2, ka, kc, ks⟩ := x
  exact ⟨b, off, ha, hc 0 (by decide), hc 1 (by decide), hc 2 (by decide), hc 3 (by decide), hc 4 (by decide), hc 5 (by decide)⟩
end Go.Proofs.YthnbeebilomchaaGreatDoor

namespace Go.Proofs.YthnbeebilomchaaGreatDoor
open Go

end Go.Proofs.YthnbeebilomchaaGreatDoor

namespace Go.Proofs.YthnbeebilomchaaGreatDoor
open Go Go.RowKit

def Ret (w : World) (R : Value → World → Prop) (e : Ending) (w' : World) : Prop := ∃ v, e = .returned v ∧ Below w.heap.size w w' ∧ R v w'
theorem below_a1 (w : World) (o : Obj) : Below w.heap.size w (w.alloc o) := (Below.refl _ _).alloc (Nat.le_refl _) _
theorem below_drew {B : Nat} {a w : World} (h : Below B a w) (n : Nat) : Below B a (w.drewN n) := ⟨h.os, h.tape, h.output, h.size, h.block⟩
end Go.Proofs.YthnbeebilomchaaGreatDoor

namespace Go.Proofs
open Go.Shelf
def Tryz.lays169_ren : Go.Shelf.Ren := ⟨fun | 169 => 92 | n => n, fun | 70 => 143 | 9 => 9 | 0 => 0 | 72 => 146 | 37 => 144 | 127 => 173 | 3 => 3 | 5 => 5 | n => n, fun | n => n⟩
theorem Tryz.lays169 : Go.Proofs.Lays.n169 Tryz.prog Tryz.lays169_ren := {
  mixed := by kernel_rfl
  f169 := Tryz.func92.trans (congrArg some (by kernel_rfl))
  t0 := Tryz.underlying0
  a0 := Tryz.isAgg0
  z0 := Tryz.sizeOf0
  v0 := Tryz.zeroValue0
  t3 := Tryz.underlying3
  a3 := Tryz.isAgg3
  z3 := Tryz.sizeOf3
  v3 := Tryz.zeroValue3
  t9 := Tryz.underlying9
  a9 := Tryz.isAgg9
  z9 := Tryz.sizeOf9
  v9 := Tryz.zeroValue9
  t37 := Tryz.underlying144
  a37 := Tryz.isAgg144
  z37 := Tryz.sizeOf144
  v37 := Tryz.zeroValue144
  t70 := Tryz.underlying143
  a70 := Tryz.isAgg143
  z70 := Tryz.sizeOf143
  v70 := Tryz.zeroValue143
  t72 := Tryz.underlying146
  a72 := Tryz.isAgg146
  z72 := Tryz.sizeOf146
  v72 := Tryz.zeroValue146
  t127 := Tryz.underlying173
  a127 := Tryz.isAgg173
  z127 := Tryz.sizeOf173
  v127 := Tryz.zeroValue173 }
theorem Tryz.Builder_Extra_169 : Builder.Extra Tryz.prog Tryz.lays169_ren := {
  sizeBuilder := by kernel_rfl
  liesBuilder := by kernel_rfl
  t5 := Tryz.underlying5
  a5 := Tryz.isAgg5
  z5 := Tryz.sizeOf5
  v5 := Tryz.zeroValue5
  infoByte := by kernel_rfl
  cellsByte := by kernel_rfl
  sizeByte := by kernel_rfl
  neB5 := by decide }
open Go.RowKit in
theorem Tryz.Builder_String_any (B b : Nat) (l : List UInt8) (w : World) (h : Lib.IsBuilder 146 5 B b (Lib.byteCells l) w) (hBw : B ≤ w.heap.size) :
    Calls Tryz.prog 92 #[.pointer (some ⟨b, 0, none⟩)] w fun e w' => e = .returned (.string ⟨l.toArray⟩) ∧ Below B w w' := Any.Builder_String_any Tryz.lays169 Tryz.Builder_Extra_169 B b l w h hBw
def Tryz.lays161_ren : Go.Shelf.Ren := ⟨fun | 161 => 95 | 231 => 108 | 227 => 109 | 233 => 110 | 235 => 111 | 228 => 124 | 197 => 125 | 151 => 126 | 260 => 139 | 152 => 140 | 137 => 114 | 119 => 151 | 224 => 152 | 225 => 153 | 217 => 128 | 266 => 141 | n => n, fun | 9 => 9 | 4 => 4 | 3 => 3 | 5 => 5 | 117 => 179 | 116 => 178 | 0 => 0 | 124 => 182 | 105 => 193 | 21 => 21 | 119 => 156 | 46 => 152 | 139 => 159 | 138 => 158 | n => n, fun | 3 => 0 | 4 => 1 | n => n⟩
theorem Tryz.lays161 : Go.Proofs.Lays.n161 Tryz.prog Tryz.lays161_ren := {
 mixed := by kernel_rfl
 f119 := Tryz.func151.trans (congrArg some (by kernel_rfl))
 f137 := Tryz.func114.trans (congrArg some (by kernel_rfl))
 f151 := Tryz.func126.trans (congrArg some (by kernel_rfl))
 f152 := Tryz.func140.trans (congrArg some (by kernel_rfl))
 f161 := Tryz.func95.trans (congrArg some (by kernel_rfl))
 f197 := Tryz.func125.trans (congrArg some (by kernel_rfl))
 f217 := Tryz.func128.trans (congrArg some (by kernel_rfl))
 f224 := Tryz.func152.trans (congrArg some (by kernel_rfl))
 f225 := Tryz.func153.trans (congrArg some (by kernel_rfl))
 f227 := Tryz.func109.trans (congrArg some (by kernel_rfl))
 f228 := Tryz.func124.trans (congrArg some (by kernel_rfl))
 f231 := Tryz.func108.trans (congrArg some (by kernel_rfl))
 f233 := Tryz.func110.trans (congrArg some (by kernel_rfl))
 f235 := Tryz.func111.trans (congrArg some (by kernel_rfl))
 f260 := Tryz.func139.trans (congrArg some (by kernel_rfl))
 f266 := Tryz.func141.trans (congrArg some (by kernel_rfl))
 t0 := Tryz.underlying0
 a0 := Tryz.isAgg0
 z0 := Tryz.sizeOf0
 v0 := Tryz.zeroValue0
 t3 := Tryz.underlying3
 a3 := Tryz.isAgg3
 z3 := Tryz.sizeOf3
 v3 := Tryz.zeroValue3
 t4 := Tryz.underlying4
 a4 := Tryz.isAgg4
 z4 := Tryz.sizeOf4
 v4 := Tryz.zeroValue4
 t5 := Tryz.underlying5
 a5 := Tryz.isAgg5
 z5 := Tryz.sizeOf5
 v5 := Tryz.zeroValue5
 t9 := Tryz.underlying9
 a9 := Tryz.isAgg9
 z9 := Tryz.sizeOf9
 v9 := Tryz.zeroValue9
 t21 := Tryz.underlying21
 a21 := Tryz.isAgg21
 z21 := Tryz.sizeOf21
 v21 := Tryz.zeroValue21
 t46 := Tryz.underlying152
 a46 := Tryz.isAgg152
 z46 := Tryz.sizeOf152
 v46 := Tryz.zeroValue152
 t105 := Tryz.underlying193
 a105 := Tryz.isAgg193
 z105 := Tryz.sizeOf193
 v105 := Tryz.zeroValue193
 t116 := Tryz.underlying178
 a116 := Tryz.isAgg178
 z116 := Tryz.sizeOf178
 t117 := Tryz.underlying179
 a117 := Tryz.isAgg179
 z117 := Tryz.sizeOf179
 v117 := Tryz.zeroValue179
 t119 := Tryz.underlying156
 a119 := Tryz.isAgg156
 z119 := Tryz.sizeOf156
 t124 := Tryz.underlying182
 a124 := Tryz.isAgg182
 z124 := Tryz.sizeOf182
 v124 := Tryz.zeroValue182
 t138 := Tryz.underlying158
 a138 := Tryz.isAgg158
 z138 := Tryz.sizeOf158
 v138 := Tryz.zeroValue158
 t139 := Tryz.underlying159
 a139 := Tryz.isAgg159
 z139 := Tryz.sizeOf159
 v139 := Tryz.zeroValue159
 g3 := by kernel_rfl
 g4 := by kernel_rfl }
def Tryz.lays160_ren : Go.Shelf.Ren := ⟨fun | 160 => 142 | 232 => 154 | 231 => 108 | 227 => 109 | 234 => 155 | 233 => 110 | 236 => 156 | 235 => 111 | 228 => 124 | 271 => 160 | 151 => 126 | 197 => 125 | 120 => 163 | 152 => 140 | 260 => 139 | 137 => 114 | 119 => 151 | 224 => 152 | 225 => 153 | 217 => 128 | 266 => 141 | n => n, fun | 9 => 9 | 4 => 4 | 3 => 3 | 5 => 5 | 117 => 179 | 116 => 178 | 0 => 0 | 124 => 182 | 21 => 21 | 105 => 193 | 46 => 152 | 119 => 156 | 139 => 159 | 138 => 158 | n => n, fun | 3 => 0 | 4 => 1 | n => n⟩
theorem Tryz.lays160 : Go.Proofs.Lays.n160 Tryz.prog Tryz.lays160_ren := {
 mixed := by kernel_rfl
 f119 := Tryz.func151.trans (congrArg some (by kernel_rfl))
 f120 := Tryz.func163.trans (congrArg some (by kernel_rfl))
 f137 := Tryz.func114.trans (congrArg some (by kernel_rfl))
 f151 := Tryz.func126.trans (congrArg some (by kernel_rfl))
 f152 := Tryz.func140.trans (congrArg some (by kernel_rfl))
 f160 := Tryz.func142.trans (congrArg some (by kernel_rfl))
 f197 := Tryz.func125.trans (congrArg some (by kernel_rfl))
 f217 := Tryz.func128.trans (congrArg some (by kernel_rfl))
 f224 := Tryz.func152.trans (congrArg some (by kernel_rfl))
 f225 := Tryz.func153.trans (congrArg some (by kernel_rfl))
 f227 := Tryz.func109.trans (congrArg some (by kernel_rfl))
 f228 := Tryz.func124.trans (congrArg some (by kernel_rfl))
 f231 := Tryz.func108.trans (congrArg some (by kernel_rfl))
 f232 := Tryz.func154.trans (congrArg some (by kernel_rfl))
 f233 := Tryz.func110.trans (congrArg some (by kernel_rfl))
 f234 := Tryz.func155.trans (congrArg some (by kernel_rfl))
 f235 := Tryz.func111.trans (congrArg some (by kernel_rfl))
 f236 := Tryz.func156.trans (congrArg some (by kernel_rfl))
 f260 := Tryz.func139.trans (congrArg some (by kernel_rfl))
 f266 := Tryz.func141.trans (congrArg some (by kernel_rfl))
 f271 := Tryz.func160.trans (congrArg some (by kernel_rfl))
 t0 := Tryz.underlying0
 a0 := Tryz.isAgg0
 z0 := Tryz.sizeOf0
 v0 := Tryz.zeroValue0
 t3 := Tryz.underlying3
 a3 := Tryz.isAgg3
 z3 := Tryz.sizeOf3
 v3 := Tryz.zeroValue3
 t4 := Tryz.underlying4
 a4 := Tryz.isAgg4
 z4 := Tryz.sizeOf4
 v4 := Tryz.zeroValue4
 t5 := Tryz.underlying5
 a5 := Tryz.isAgg5
 z5 := Tryz.sizeOf5
 v5 := Tryz.zeroValue5
 t9 := Tryz.underlying9
 a9 := Tryz.isAgg9
 z9 := Tryz.sizeOf9
 v9 := Tryz.zeroValue9
 t21 := Tryz.underlying21
 a21 := Tryz.isAgg21
 z21 := Tryz.sizeOf21
 v21 := Tryz.zeroValue21
 t46 := Tryz.underlying152
 a46 := Tryz.isAgg152
 z46 := Tryz.sizeOf152
 v46 := Tryz.zeroValue152
 t105 := Tryz.underlying193
 a105 := Tryz.isAgg193
 z105 := Tryz.sizeOf193
 v105 := Tryz.zeroValue193
 t116 := Tryz.underlying178
 a116 := Tryz.isAgg178
 z116 := Tryz.sizeOf178
 t117 := Tryz.underlying179
 a117 := Tryz.isAgg179
 z117 := Tryz.sizeOf179
 v117 := Tryz.zeroValue179
 t119 := Tryz.underlying156
 a119 := Tryz.isAgg156
 z119 := Tryz.sizeOf156
 t124 := Tryz.underlying182
 a124 := Tryz.isAgg182
 z124 := Tryz.sizeOf182
 v124 := Tryz.zeroValue182
 t138 := Tryz.underlying158
 a138 := Tryz.isAgg158
 z138 := Tryz.sizeOf158
 v138 := Tryz.zeroValue158
 t139 := Tryz.underlying159
 a139 := Tryz.isAgg159
 z139 := Tryz.sizeOf159
 v139 := Tryz.zeroValue159
 g3 := by kernel_rfl
 g4 := by kernel_rfl }
def Tryz.lays137_ren : Go.Shelf.Ren := ⟨fun | 137 => 114 | 217 => 128 | 266 => 141 | n => n, fun | 9 => 9 | 5 => 5 | 3 => 3 | n => n, fun | n => n⟩
theorem Tryz.lays137 : Go.Proofs.Lays.n137 Tryz.prog Tryz.lays137_ren := {
  mixed := by kernel_rfl
  f137 := Tryz.func114.trans (congrArg some (by kernel_rfl))
  f217 := Tryz.func128.trans (congrArg some (by kernel_rfl))
  f266 := Tryz.func141.trans (congrArg some (by kernel_rfl))
  t3 := Tryz.underlying3
  a3 := Tryz.isAgg3
  z3 := Tryz.sizeOf3
  v3 := Tryz.zeroValue3
  t5 := Tryz.underlying5
  a5 := Tryz.isAgg5
  z5 := Tryz.sizeOf5
  v5 := Tryz.zeroValue5
  t9 := Tryz.underlying9
  a9 := Tryz.isAgg9
  z9 := Tryz.sizeOf9
  v9 := Tryz.zeroValue9 }
open Go.RowKit in
theorem Tryz.strings_IndexByte (s : ByteArray) (c : Int) (w : World) :
    Calls Tryz.prog 114 #[.string s, .int .u8 c] w fun e w' => e = .returned (.int .i64 (Lib.indexByte s.data.toList c.toNat.toUInt8)) ∧ w' = w := Any.strings_IndexByte Tryz.lays137 s c w
def Tryz.lays103_ren : Go.Shelf.Ren := ⟨fun | 103 => 96 | 210 => 112 | 206 => 127 | n => n, fun | 9 => 9 | 4 => 4 | 24 => 115 | 3 => 3 | n => n, fun | n => n⟩
theorem Tryz.lays103 : Go.Proofs.Lays.n103 Tryz.prog Tryz.lays103_ren := {
  mixed := by kernel_rfl
  f103 := Tryz.func96.trans (congrArg some (by kernel_rfl))
  f206 := Tryz.func127.trans (congrArg some (by kernel_rfl))
  f210 := Tryz.func112.trans (congrArg some (by kernel_rfl))
  t3 := Tryz.underlying3
  a3 := Tryz.isAgg3
  z3 := Tryz.sizeOf3
  v3 := Tryz.zeroValue3
  t4 := Tryz.underlying4
  a4 := Tryz.isAgg4
  z4 := Tryz.sizeOf4
  v4 := Tryz.zeroValue4
  t9 := Tryz.underlying9
  a9 := Tryz.isAgg9
  z9 := Tryz.sizeOf9
  v9 := Tryz.zeroValue9
  t24 := Tryz.underlying115
  a24 := Tryz.isAgg115
  z24 := Tryz.sizeOf115
  v24 := Tryz.zeroValue115 }
open Go.RowKit in
theorem Tryz.strings_CutPrefix (s p : ByteArray) (w : World) :
    Calls Tryz.prog 96 #[.string s, .string p] w fun e w' => e = .returned (.tuple #[.string ⟨(Lib.trimPrefix s.data.toList p.data.toList).toArray⟩, .bool (Lib.hasPrefix s.data.toList p.data.toList)]) ∧ w' = w := Any.strings_CutPrefix Tryz.lays103 s p w
def Tryz.laysM171_ren : Go.Shelf.Ren := ⟨fun | 171 => 70 | 243 => 89 | 246 => 105 | 283 => 118 | 284 => 119 | 285 => 120 | 286 => 121 | 129 => 134 | 317 => 133 | 318 => 135 | 319 => 136 | 320 => 137 | 337 => 149 | 338 => 150 | n => n, fun | 3 => 3 | 9 => 9 | 2 => 2 | 4 => 4 | 171 => 185 | 0 => 0 | 53 => 175 | 37 => 144 | 5 => 5 | 173 => 188 | 212 => 202 | 51 => 203 | 20 => 20 | 213 => 204 | 46 => 152 | 232 => 222 | 233 => 223 | n => n, fun | 17 => 2 | 18 => 6 | 19 => 7 | n => n⟩
theorem Tryz.laysM171 : Go.Proofs.LaysM.n171 Tryz.prog Tryz.laysM171_ren := {
 mixed := by kernel_rfl
 f129 := Tryz.func134.trans (congrArg some (by kernel_rfl))
 f171 := Tryz.func70.trans (congrArg some (by kernel_rfl))
 f243 := Tryz.func89.trans (congrArg some (by kernel_rfl))
 f246 := Tryz.func105.trans (congrArg some (by kernel_rfl))
 f283 := Tryz.func118.trans (congrArg some (by kernel_rfl))
 f284 := Tryz.func119.trans (congrArg some (by kernel_rfl))
 f285 := Tryz.func120.trans (congrArg some (by kernel_rfl))
 f286 := Tryz.func121.trans (congrArg some (by kernel_rfl))
 f317 := Tryz.func133.trans (congrArg some (by kernel_rfl))
 f318 := Tryz.func135.trans (congrArg some (by kernel_rfl))
 f319 := Tryz.func136.trans (congrArg some (by kernel_rfl))
 f320 := Tryz.func137.trans (congrArg some (by kernel_rfl))
 f337 := Tryz.func149.trans (congrArg some (by kernel_rfl))
 f338 := Tryz.func150.trans (congrArg some (by kernel_rfl))
 t0 := Tryz.underlying0
 a0 := Tryz.isAgg0
 z0 := Tryz.sizeOf0
 v0 := Tryz.zeroValue0
 t2 := Tryz.underlying2
 a2 := Tryz.isAgg2
 z2 := Tryz.sizeOf2
 v2 := Tryz.zeroValue2
 t3 := Tryz.underlying3
 a3 := Tryz.isAgg3
 z3 := Tryz.sizeOf3
 v3 := Tryz.zeroValue3
 t4 := Tryz.underlying4
 a4 := Tryz.isAgg4
 z4 := Tryz.sizeOf4
 v4 := Tryz.zeroValue4
 t5 := Tryz.underlying5
 a5 := Tryz.isAgg5
 z5 := Tryz.sizeOf5
 v5 := Tryz.zeroValue5
 t9 := Tryz.underlying9
 a9 := Tryz.isAgg9
 z9 := Tryz.sizeOf9
 v9 := Tryz.zeroValue9
 t20 := Tryz.underlying20
 a20 := Tryz.isAgg20
 z20 := Tryz.sizeOf20
 v20 := Tryz.zeroValue20
 t37 := Tryz.underlying144
 a37 := Tryz.isAgg144
 z37 := Tryz.sizeOf144
 v37 := Tryz.zeroValue144
 t46 := Tryz.underlying152
 a46 := Tryz.isAgg152
 z46 := Tryz.sizeOf152
 v46 := Tryz.zeroValue152
 t51 := Tryz.underlying203
 a51 := Tryz.isAgg203
 z51 := Tryz.sizeOf203
 v51 := Tryz.zeroValue203
 t53 := Tryz.underlying175
 a53 := Tryz.isAgg175
 z53 := Tryz.sizeOf175
 v53 := Tryz.zeroValue175
 t171 := Tryz.underlying185
 a171 := Tryz.isAgg185
 z171 := Tryz.sizeOf185
 v171 := Tryz.zeroValue185
 t173 := Tryz.underlying188
 a173 := Tryz.isAgg188
 z173 := Tryz.sizeOf188
 v173 := Tryz.zeroValue188
 t212 := Tryz.underlying202
 a212 := Tryz.isAgg202
 z212 := Tryz.sizeOf202
 v212 := Tryz.zeroValue202
 t213 := Tryz.underlying204
 a213 := Tryz.isAgg204
 z213 := Tryz.sizeOf204
 t232 := Tryz.underlying222
 a232 := Tryz.isAgg222
 z232 := Tryz.sizeOf222
 v232 := Tryz.zeroValue222
 t233 := Tryz.underlying223
 a233 := Tryz.isAgg223
 z233 := Tryz.sizeOf223
 v233 := Tryz.zeroValue223
 g17 := by kernel_rfl
 g18 := by kernel_rfl
 g19 := by kernel_rfl
 i0 := by kernel_rfl
 i2 := by kernel_rfl
 i3 := by kernel_rfl
 i4 := by kernel_rfl
 i5 := by kernel_rfl
 i9 := by kernel_rfl
 i20 := by kernel_rfl
 i37 := by kernel_rfl
 i46 := by kernel_rfl
 i51 := by kernel_rfl
 i53 := by kernel_rfl
 i171 := by kernel_rfl
 i173 := by kernel_rfl
 i212 := by kernel_rfl
 i232 := by kernel_rfl
 i233 := by kernel_rfl
 m17 := by kernel_rfl
 m18 := by kernel_rfl
 m19 := by kernel_rfl }
open Go.RowKit Go.Sort Go.Lib in
theorem Tryz.strconv_Itoa (n : Int) (h0 : -9223372036854775808 ≤ n) (h1 : n ≤ 9223372036854775807) (w : World) (htab : Lib.TabIs Tryz.prog w "internal/strconv.uint64pow10" .u64 Lib.pow10Tab) :
    Calls Tryz.prog 70 #[.int .i64 n] w fun e w' => e = .returned (.string ⟨(Lib.itoa n).toArray⟩) ∧ ∃ k os, w' = grow (w.drewN k) os := Any.strconv_Itoa Tryz.laysM171 n h0 h1 w htab
def Tryz.lays321_ren : Go.Shelf.Ren := ⟨fun | 321 => 161 | n => n, fun | 5 => 5 | n => n, fun | n => n⟩
theorem Tryz.lays321 : Go.Proofs.Lays.n321 Tryz.prog Tryz.lays321_ren := {
  mixed := by kernel_rfl
  f321 := Tryz.func161.trans (congrArg some (by kernel_rfl))
  t5 := Tryz.underlying5
  a5 := Tryz.isAgg5
  z5 := Tryz.sizeOf5
  v5 := Tryz.zeroValue5 }
open Go.RowKit in
theorem Tryz.internal_strconv_lower (c : Int) (w : World) :
    Calls Tryz.prog 161 #[.int .u8 c] w fun e w' => e = .returned (.int .u8 (bits .or .u8 c 32)) ∧ w' = w := Any.internal_strconv_lower Tryz.lays321 c w
def Tryz.laysC172_ren : Go.Shelf.Ren := ⟨fun | 172 => 117 | 244 => 131 | 245 => 132 | 247 => 144 | 279 => 145 | 280 => 146 | 281 => 147 | 282 => 148 | 287 => 157 | 316 => 158 | 171 => 70 | 205 => 159 | 321 => 161 | 322 => 162 | 243 => 89 | 246 => 105 | 283 => 118 | 284 => 119 | 285 => 120 | 286 => 121 | 129 => 134 | 317 => 133 | 318 => 135 | 319 => 136 | 320 => 137 | 337 => 149 | 338 => 150 | n => n, fun | 9 => 9 | 3 => 3 | 75 => 148 | 76 => 150 | 4 => 4 | 5 => 5 | 167 => 210 | 37 => 144 | 0 => 0 | 85 => 211 | 2 => 2 | 168 => 213 | 53 => 175 | 175 => 208 | 46 => 152 | 210 => 220 | 127 => 173 | 145 => 227 | 143 => 225 | 21 => 21 | 171 => 185 | 173 => 188 | 212 => 202 | 51 => 203 | 20 => 20 | 213 => 204 | 232 => 222 | 233 => 223 | 80 => 153 | n => n, fun | 15 => 4 | 16 => 5 | 17 => 2 | 18 => 6 | 19 => 7 | n => n⟩
theorem Tryz.laysC172 : Go.Proofs.LaysC.n172 Tryz.prog Tryz.laysC172_ren := {
 mixed := by kernel_rfl
 f129 := Tryz.func134.trans (congrArg some (by kernel_rfl))
 f171 := Tryz.func70.trans (congrArg some (by kernel_rfl))
 f172 := Tryz.func117.trans (congrArg some (by kernel_rfl))
 f205 := Tryz.func159.trans (congrArg some (by kernel_rfl))
 f243 := Tryz.func89.trans (congrArg some (by kernel_rfl))
 f244 := Tryz.func131.trans (congrArg some (by kernel_rfl))
 f245 := Tryz.func132.trans (congrArg some (by kernel_rfl))
 f246 := Tryz.func105.trans (congrArg some (by kernel_rfl))
 f247 := Tryz.func144.trans (congrArg some (by kernel_rfl))
 f279 := Tryz.func145.trans (congrArg some (by kernel_rfl))
 f280 := Tryz.func146.trans (congrArg some (by kernel_rfl))
 f281 := Tryz.func147.trans (congrArg some (by kernel_rfl))
 f282 := Tryz.func148.trans (congrArg some (by kernel_rfl))
 f283 := Tryz.func118.trans (congrArg some (by kernel_rfl))
 f284 := Tryz.func119.trans (congrArg some (by kernel_rfl))
 f285 := Tryz.func120.trans (congrArg some (by kernel_rfl))
 f286 := Tryz.func121.trans (congrArg some (by kernel_rfl))
 f287 := Tryz.func157.trans (congrArg some (by kernel_rfl))
 f316 := Tryz.func158.trans (congrArg some (by kernel_rfl))
 f317 := Tryz.func133.trans (congrArg some (by kernel_rfl))
 f318 := Tryz.func135.trans (congrArg some (by kernel_rfl))
 f319 := Tryz.func136.trans (congrArg some (by kernel_rfl))
 f320 := Tryz.func137.trans (congrArg some (by kernel_rfl))
 f321 := Tryz.func161.trans (congrArg some (by kernel_rfl))
 f322 := Tryz.func162.trans (congrArg some (by kernel_rfl))
 f337 := Tryz.func149.trans (congrArg some (by kernel_rfl))
 f338 := Tryz.func150.trans (congrArg some (by kernel_rfl))
 t0 := Tryz.underlying0
 a0 := Tryz.isAgg0
 z0 := Tryz.sizeOf0
 v0 := Tryz.zeroValue0
 t2 := Tryz.underlying2
 a2 := Tryz.isAgg2
 z2 := Tryz.sizeOf2
 v2 := Tryz.zeroValue2
 t3 := Tryz.underlying3
 a3 := Tryz.isAgg3
 z3 := Tryz.sizeOf3
 v3 := Tryz.zeroValue3
 t4 := Tryz.underlying4
 a4 := Tryz.isAgg4
 z4 := Tryz.sizeOf4
 v4 := Tryz.zeroValue4
 t5 := Tryz.underlying5
 a5 := Tryz.isAgg5
 z5 := Tryz.sizeOf5
 v5 := Tryz.zeroValue5
 t9 := Tryz.underlying9
 a9 := Tryz.isAgg9
 z9 := Tryz.sizeOf9
 v9 := Tryz.zeroValue9
 t20 := Tryz.underlying20
 a20 := Tryz.isAgg20
 z20 := Tryz.sizeOf20
 v20 := Tryz.zeroValue20
 t21 := Tryz.underlying21
 a21 := Tryz.isAgg21
 z21 := Tryz.sizeOf21
 v21 := Tryz.zeroValue21
 t37 := Tryz.underlying144
 a37 := Tryz.isAgg144
 z37 := Tryz.sizeOf144
 v37 := Tryz.zeroValue144
 t46 := Tryz.underlying152
 a46 := Tryz.isAgg152
 z46 := Tryz.sizeOf152
 v46 := Tryz.zeroValue152
 t51 := Tryz.underlying203
 a51 := Tryz.isAgg203
 z51 := Tryz.sizeOf203
 v51 := Tryz.zeroValue203
 t53 := Tryz.underlying175
 a53 := Tryz.isAgg175
 z53 := Tryz.sizeOf175
 v53 := Tryz.zeroValue175
 t75 := Tryz.underlying148
 a75 := Tryz.isAgg148
 z75 := Tryz.sizeOf148
 v75 := Tryz.zeroValue148
 t76 := Tryz.underlying150
 a76 := Tryz.isAgg150
 z76 := Tryz.sizeOf150
 v76 := Tryz.zeroValue150
 t85 := Tryz.underlying211
 a85 := Tryz.isAgg211
 z85 := Tryz.sizeOf211
 v85 := Tryz.zeroValue211
 t127 := Tryz.underlying173
 a127 := Tryz.isAgg173
 z127 := Tryz.sizeOf173
 v127 := Tryz.zeroValue173
 t143 := Tryz.underlying225
 a143 := Tryz.isAgg225
 z143 := Tryz.sizeOf225
 v143 := Tryz.zeroValue225
 t145 := Tryz.underlying227
 a145 := Tryz.isAgg227
 z145 := Tryz.sizeOf227
 v145 := Tryz.zeroValue227
 t167 := Tryz.underlying210
 a167 := Tryz.isAgg210
 z167 := Tryz.sizeOf210
 v167 := Tryz.zeroValue210
 t168 := Tryz.underlying213
 a168 := Tryz.isAgg213
 z168 := Tryz.sizeOf213
 v168 := Tryz.zeroValue213
 t171 := Tryz.underlying185
 a171 := Tryz.isAgg185
 z171 := Tryz.sizeOf185
 v171 := Tryz.zeroValue185
 t173 := Tryz.underlying188
 a173 := Tryz.isAgg188
 z173 := Tryz.sizeOf188
 v173 := Tryz.zeroValue188
 t175 := Tryz.underlying208
 a175 := Tryz.isAgg208
 z175 := Tryz.sizeOf208
 v175 := Tryz.zeroValue208
 t210 := Tryz.underlying220
 a210 := Tryz.isAgg220
 z210 := Tryz.sizeOf220
 v210 := Tryz.zeroValue220
 t212 := Tryz.underlying202
 a212 := Tryz.isAgg202
 z212 := Tryz.sizeOf202
 v212 := Tryz.zeroValue202
 t213 := Tryz.underlying204
 a213 := Tryz.isAgg204
 z213 := Tryz.sizeOf204
 t232 := Tryz.underlying222
 a232 := Tryz.isAgg222
 z232 := Tryz.sizeOf222
 v232 := Tryz.zeroValue222
 t233 := Tryz.underlying223
 a233 := Tryz.isAgg223
 z233 := Tryz.sizeOf223
 v233 := Tryz.zeroValue223
 g15 := by kernel_rfl
 g16 := by kernel_rfl
 g17 := by kernel_rfl
 g18 := by kernel_rfl
 g19 := by kernel_rfl
 t80 := Tryz.underlying153
 a80 := Tryz.isAgg153
 z80 := Tryz.sizeOf153
 v80 := Tryz.zeroValue153
 i0 := by kernel_rfl
 i2 := by kernel_rfl
 i3 := by kernel_rfl
 i4 := by kernel_rfl
 i5 := by kernel_rfl
 i9 := by kernel_rfl
 i20 := by kernel_rfl
 i21 := by kernel_rfl
 i37 := by kernel_rfl
 i46 := by kernel_rfl
 i51 := by kernel_rfl
 i53 := by kernel_rfl
 i75 := by kernel_rfl
 i76 := by kernel_rfl
 i80 := by kernel_rfl
 i85 := by kernel_rfl
 i127 := by kernel_rfl
 i143 := by kernel_rfl
 i145 := by kernel_rfl
 i167 := by kernel_rfl
 i168 := by kernel_rfl
 i171 := by kernel_rfl
 i173 := by kernel_rfl
 i175 := by kernel_rfl
 i210 := by kernel_rfl
 i212 := by kernel_rfl
 i232 := by kernel_rfl
 i233 := by kernel_rfl
 m15 := by kernel_rfl
 m16 := by kernel_rfl
 m17 := by kernel_rfl
 m18 := by kernel_rfl
 m19 := by kernel_rfl
 c0 := by kernel_rfl
 c2 := by kernel_rfl
 c3 := by kernel_rfl
 c4 := by kernel_rfl
 c5 := by kernel_rfl
 c9 := by kernel_rfl
 c20 := by kernel_rfl
 c21 := by kernel_rfl
 c37 := by kernel_rfl
 c46 := by kernel_rfl
 c51 := by kernel_rfl
 c53 := by kernel_rfl
 c75 := by kernel_rfl
 c76 := by kernel_rfl
 c80 := by kernel_rfl
 c85 := by kernel_rfl
 c127 := by kernel_rfl
 c143 := by kernel_rfl
 c145 := by kernel_rfl
 c167 := by kernel_rfl
 c168 := by kernel_rfl
 c171 := by kernel_rfl
 c173 := by kernel_rfl
 c175 := by kernel_rfl
 c210 := by kernel_rfl
 c212 := by kernel_rfl
 c213 := by kernel_rfl
 c232 := by kernel_rfl
 c233 := by kernel_rfl }
open Go.RowKit in
theorem Tryz.strconv_Atoi_ok (s : ByteArray) (hmax : s.size ≤ 9223372036854775806) (v : Int) (h : Lib.atoiAll s.data.toList = .ok v) (w : World) :
    Calls Tryz.prog 117 #[.string s] w fun e w' => e = .returned (.tuple #[.int .i64 v, .nilIface]) ∧ (w' = w ∨ ∃ t, w' = Lib.bytesWorld w 5 t) := Any.strconv_Atoi_ok Tryz.laysC172 s hmax v h w
open Go.RowKit in
theorem Tryz.strconv_Atoi_range_var (s : ByteArray) (hlim : s.size ≤ 281474976710656) (h : Lib.atoiAll s.data.toList = .range) (tp : TypeId) (p : Value) (w : World) (hvar : w.var? Tryz.prog "strconv.ErrRange" = some #[.iface tp p]) :
    Calls Tryz.prog 117 #[.string s] w fun e w' => ∃ N, e = .returned (.tuple #[.int .i64 (Lib.atoiSat s.data.toList), .iface 213 (.pointer (some ⟨N, 0, none⟩))]) ∧ w.heap.size ≤ N ∧ w'.heap[N]? = some (.cells #[.string ⟨#[65, 116, 111, 105]⟩, .string s, .iface tp p] 220 (0, 0)) ∧ Below w.heap.size w w' := Any.strconv_Atoi_range_var Tryz.laysC172 s hlim h tp p w hvar
def Tryz.lays101_ren : Go.Shelf.Ren := ⟨fun | 101 => 116 | 208 => 130 | 206 => 127 | n => n, fun | 9 => 9 | 4 => 4 | 3 => 3 | n => n, fun | n => n⟩
theorem Tryz.lays101 : Go.Proofs.Lays.n101 Tryz.prog Tryz.lays101_ren := {
  mixed := by kernel_rfl
  f101 := Tryz.func116.trans (congrArg some (by kernel_rfl))
  f206 := Tryz.func127.trans (congrArg some (by kernel_rfl))
  f208 := Tryz.func130.trans (congrArg some (by kernel_rfl))
  t3 := Tryz.underlying3
  a3 := Tryz.isAgg3
  z3 := Tryz.sizeOf3
  v3 := Tryz.zeroValue3
  t4 := Tryz.underlying4
  a4 := Tryz.isAgg4
  z4 := Tryz.sizeOf4
  v4 := Tryz.zeroValue4
  t9 := Tryz.underlying9
  a9 := Tryz.isAgg9
  z9 := Tryz.sizeOf9
  v9 := Tryz.zeroValue9 }
open Go.RowKit Go.Lib in
theorem Tryz.strings_TrimPrefix (s p : ByteArray) (w : World) :
    Calls Tryz.prog 116 #[.string s, .string p] w fun e w' => e = .returned (.string ⟨(Lib.trimPrefix s.data.toList p.data.toList).toArray⟩) ∧ w' = w := Any.strings_TrimPrefix Tryz.lays101 s p w
def Tryz.lays110_ren : Go.Shelf.Ren := ⟨fun | 110 => 113 | 109 => 46 | n => n, fun | 31 => 24 | 9 => 9 | 4 => 4 | 3 => 3 | 0 => 0 | n => n, fun | n => n⟩
theorem Tryz.lays110 : Go.Proofs.Lays.n110 Tryz.prog Tryz.lays110_ren := {
  mixed := by kernel_rfl
  f109 := Tryz.func46.trans (congrArg some (by kernel_rfl))
  f110 := Tryz.func113.trans (congrArg some (by kernel_rfl))
  t0 := Tryz.underlying0
  a0 := Tryz.isAgg0
  z0 := Tryz.sizeOf0
  v0 := Tryz.zeroValue0
  t3 := Tryz.underlying3
  a3 := Tryz.isAgg3
  z3 := Tryz.sizeOf3
  v3 := Tryz.zeroValue3
  t4 := Tryz.underlying4
  a4 := Tryz.isAgg4
  z4 := Tryz.sizeOf4
  v4 := Tryz.zeroValue4
  t9 := Tryz.underlying9
  a9 := Tryz.isAgg9
  z9 := Tryz.sizeOf9
  v9 := Tryz.zeroValue9
  t31 := Tryz.underlying24
  a31 := Tryz.isAgg24
  z31 := Tryz.sizeOf24
  v31 := Tryz.zeroValue24 }
open Go.Lib in
theorem Tryz.slices_Contains_string (b off n c : Nat) (zs : List ByteArray) (x : ByteArray) (w : World) (hz : n ≤ zs.length) (hbig : n ≤ 9223372036854775807) (hc : ∀ j, j < zs.length → w.cell? ⟨b, off + j, none⟩ = some (.string (zs.getD j ByteArray.empty))) :
    Calls Tryz.prog 113 #[.slice (some ⟨b, off, none⟩) n c, .string x] w fun e w' => e = .returned (.bool (Lib.containsS (zs.take n) x)) ∧ w' = w := Any.slices_Contains_string Tryz.lays110 b off n c zs x w hz hbig hc
open Go.Lib in
theorem Tryz.slices_Contains_string_empty (a : Option Addr) (c : Nat) (x : ByteArray) (w : World) :
    Calls Tryz.prog 113 #[.slice a 0 c, .string x] w fun e w' => e = .returned (.bool false) ∧ w' = w := Any.slices_Contains_string_empty Tryz.lays110 a c x w
end Go.Proofs

namespace Go.Proofs.YthnbeebilomchaaGreatDoor
open Go Go.RowKit Go.Shelf

def Tryz.laysW_ren : Go.Shelf.Ren := ⟨fun | 166 => 91 | 240 => 106 | 276 => 122 | n => n,
  fun | 0 => 0 | 3 => 3 | 4 => 4 | 5 => 5 | 9 => 9 | 20 => 20 | 37 => 144 | 70 => 143 | 72 => 146 | 75 => 148 | 80 => 153 | 164 => 190 | n => n, fun | n => n⟩
theorem Tryz.laysW : Go.Proofs.Lays.n166 Tryz.prog Tryz.laysW_ren := {
 mixed := by kernel_rfl
 f166 := Tryz.func91.trans (congrArg some (by kernel_rfl))
 f240 := Tryz.func106.trans (congrArg some (by kernel_rfl))
 f276 := Tryz.func122.trans (congrArg some (by kernel_rfl))
 t0 := Tryz.underlying0
 a0 := Tryz.isAgg0
 z0 := Tryz.sizeOf0
 v0 := Tryz.zeroValue0
 t3 := Tryz.underlying3
 a3 := Tryz.isAgg3
 z3 := Tryz.sizeOf3
 v3 := Tryz.zeroValue3
 t4 := Tryz.underlying4
 a4 := Tryz.isAgg4
 z4 := Tryz.sizeOf4
 v4 := Tryz.zeroValue4
 t9 := Tryz.underlying9
 a9 := Tryz.isAgg9
 z9 := Tryz.sizeOf9
 v9 := Tryz.zeroValue9
 t20 := Tryz.underlying20
 a20 := Tryz.isAgg20
 z20 := Tryz.sizeOf20
 v20 := Tryz.zeroValue20
 t37 := Tryz.underlying144
 a37 := Tryz.isAgg144
 z37 := Tryz.sizeOf144
 v37 := Tryz.zeroValue144
 t70 := Tryz.underlying143
 a70 := Tryz.isAgg143
 z70 := Tryz.sizeOf143
 v70 := Tryz.zeroValue143
 t72 := Tryz.underlying146
 a72 := Tryz.isAgg146
 z72 := Tryz.sizeOf146
 v72 := Tryz.zeroValue146
 t75 := Tryz.underlying148
 a75 := Tryz.isAgg148
 z75 := Tryz.sizeOf148
 v75 := Tryz.zeroValue148
 t164 := Tryz.underlying190
 a164 := Tryz.isAgg190
 z164 := Tryz.sizeOf190
 v164 := Tryz.zeroValue190 }
theorem Tryz.laysW_extra : Builder.Extra Tryz.prog Tryz.laysW_ren := {
  sizeBuilder := by kernel_rfl
  liesBuilder := by kernel_rfl
  t5 := Tryz.underlying5
  a5 := Tryz.isAgg5
  z5 := Tryz.sizeOf5
  v5 := Tryz.zeroValue5
  infoByte := by kernel_rfl
  cellsByte := by kernel_rfl
  sizeByte := by kernel_rfl
  neB5 := by decide }
def Tryz.laysB_ren : Go.Shelf.Ren := ⟨fun | 167 => 90 | 240 => 106 | 276 => 122 | n => n,
  fun | 0 => 0 | 3 => 3 | 4 => 4 | 5 => 5 | 9 => 9 | 20 => 20 | 37 => 144 | 70 => 143 | 72 => 146 | 75 => 148 | 80 => 153 | 164 => 190 | n => n, fun | n => n⟩
theorem Tryz.laysB : Go.Proofs.Lays.n167 Tryz.prog Tryz.laysB_ren := {
 mixed := by kernel_rfl
 f167 := Tryz.func90.trans (congrArg some (by kernel_rfl))
 f240 := Tryz.func106.trans (congrArg some (by kernel_rfl))
 f276 := Tryz.func122.trans (congrArg some (by kernel_rfl))
 t0 := Tryz.underlying0
 a0 := Tryz.isAgg0
 z0 := Tryz.sizeOf0
 v0 := Tryz.zeroValue0
 t4 := Tryz.underlying4
 a4 := Tryz.isAgg4
 z4 := Tryz.sizeOf4
 v4 := Tryz.zeroValue4
 t5 := Tryz.underlying5
 a5 := Tryz.isAgg5
 z5 := Tryz.sizeOf5
 v5 := Tryz.zeroValue5
 t9 := Tryz.underlying9
 a9 := Tryz.isAgg9
 z9 := Tryz.sizeOf9
 v9 := Tryz.zeroValue9
 t20 := Tryz.underlying20
 a20 := Tryz.isAgg20
 z20 := Tryz.sizeOf20
 v20 := Tryz.zeroValue20
 t37 := Tryz.underlying144
 a37 := Tryz.isAgg144
 z37 := Tryz.sizeOf144
 v37 := Tryz.zeroValue144
 t70 := Tryz.underlying143
 a70 := Tryz.isAgg143
 z70 := Tryz.sizeOf143
 v70 := Tryz.zeroValue143
 t72 := Tryz.underlying146
 a72 := Tryz.isAgg146
 z72 := Tryz.sizeOf146
 v72 := Tryz.zeroValue146
 t75 := Tryz.underlying148
 a75 := Tryz.isAgg148
 z75 := Tryz.sizeOf148
 v75 := Tryz.zeroValue148
 t164 := Tryz.underlying190
 a164 := Tryz.isAgg190
 z164 := Tryz.sizeOf190
 v164 := Tryz.zeroValue190 }
theorem Tryz.laysB_extra : Builder.Extra Tryz.prog Tryz.laysB_ren := {
  sizeBuilder := by kernel_rfl
  liesBuilder := by kernel_rfl
  t5 := Tryz.underlying5
  a5 := Tryz.isAgg5
  z5 := Tryz.sizeOf5
  v5 := Tryz.zeroValue5
  infoByte := by kernel_rfl
  cellsByte := by kernel_rfl
  sizeByte := by kernel_rfl
  neB5 := by decide }
theorem write_any (B b : Nat) (bs : List Value) (s : ByteArray) (w : World) (h : Lib.IsBuilder 146 5 B b bs w) (hlen : bs.length + s.size ≤ 140737488355328) (hBw : B ≤ w.heap.size) :
    Calls Tryz.prog 91 #[.pointer (some ⟨b, 0, none⟩), .string s] w fun e w' => e = .returned (.tuple #[.int .i64 s.size, .nilIface]) ∧ (Lib.BuilderAt 146 5 B b (.pointer (some ⟨b, 0, none⟩)) (bs ++ Lib.strCells s) w' ∧ Below B w w') :=
  Any.Builder_WriteString Tryz.laysW Tryz.laysW_extra B b bs s w h hlen hBw
theorem writeB_any (B b : Nat) (bs : List Value) (c : Int) (w : World) (h : Lib.IsBuilder 146 5 B b bs w) (hlen : bs.length + 1 ≤ 140737488355328) (hBw : B ≤ w.heap.size) :
    Calls Tryz.prog 90 #[.pointer (some ⟨b, 0, none⟩), .int .u8 c] w fun e w' => e = .returned .nilIface ∧ (Lib.BuilderAt 146 5 B b (.pointer (some ⟨b, 0, none⟩)) (bs ++ [.int .u8 c]) w' ∧ Below B w w') :=
  Any.Builder_WriteByte Tryz.laysB Tryz.laysB_extra B b bs c w h hlen hBw
end Go.Proofs.YthnbeebilomchaaGreatDoor

namespace Go.Proofs
open Go.Shelf
def Tryz.laysValid_ren : Go.Shelf.Ren := ⟨fun | 196 => 73 | 259 => 94 | n => n, fun | 9 => 9 | 4 => 4 | 3 => 3 | 5 => 5 | 12 => 12 | 119 => 156 | 0 => 0 | 46 => 152 | 139 => 159 | 138 => 158 | 53 => 175 | n => n, fun | 3 => 0 | 4 => 1 | n => n⟩
theorem Tryz.laysValid : Go.Proofs.Lays.n196 Tryz.prog Tryz.laysValid_ren := {
 mixed := by kernel_rfl
 f196 := Tryz.func73.trans (congrArg some (by kernel_rfl))
 f259 := Tryz.func94.trans (congrArg some (by kernel_rfl))
 t0 := Tryz.underlying0
 a0 := Tryz.isAgg0
 z0 := Tryz.sizeOf0
 v0 := Tryz.zeroValue0
 t3 := Tryz.underlying3
 a3 := Tryz.isAgg3
 z3 := Tryz.sizeOf3
 v3 := Tryz.zeroValue3
 t4 := Tryz.underlying4
 a4 := Tryz.isAgg4
 z4 := Tryz.sizeOf4
 v4 := Tryz.zeroValue4
 t5 := Tryz.underlying5
 a5 := Tryz.isAgg5
 z5 := Tryz.sizeOf5
 v5 := Tryz.zeroValue5
 t9 := Tryz.underlying9
 a9 := Tryz.isAgg9
 z9 := Tryz.sizeOf9
 v9 := Tryz.zeroValue9
 t12 := Tryz.underlying12
 a12 := Tryz.isAgg12
 z12 := Tryz.sizeOf12
 v12 := Tryz.zeroValue12
 t46 := Tryz.underlying152
 a46 := Tryz.isAgg152
 z46 := Tryz.sizeOf152
 v46 := Tryz.zeroValue152
 t53 := Tryz.underlying175
 a53 := Tryz.isAgg175
 z53 := Tryz.sizeOf175
 v53 := Tryz.zeroValue175
 t119 := Tryz.underlying156
 a119 := Tryz.isAgg156
 z119 := Tryz.sizeOf156
 t138 := Tryz.underlying158
 a138 := Tryz.isAgg158
 z138 := Tryz.sizeOf158
 v138 := Tryz.zeroValue158
 t139 := Tryz.underlying159
 a139 := Tryz.isAgg159
 z139 := Tryz.sizeOf159
 v139 := Tryz.zeroValue159
 g3 := by kernel_rfl
 g4 := by kernel_rfl }
end Go.Proofs

namespace Go.Proofs.YthnbeebilomchaaGreatDoor
open Go Go.RowKit

structure Glob (w : World) : Prop where
  syn : ∃ tp p, w.var? Tryz.prog "strconv.ErrSyntax" = some #[.iface tp p]
  rng : ∃ tp p, w.var? Tryz.prog "strconv.ErrRange" = some #[.iface tp p]
  tab : Lib.TabIs Tryz.prog w "internal/strconv.uint64pow10" .u64 Lib.pow10Tab
  utf : Lib.Utf8Tabs 0 1 w
  size : 8 ≤ w.heap.size
theorem Tryz.gSyn : Tryz.prog.globalNamed "strconv.ErrSyntax" = some 4 := by kernel_rfl
theorem Tryz.gRng : Tryz.prog.globalNamed "strconv.ErrRange" = some 5 := by kernel_rfl
theorem Tryz.gTab : Tryz.prog.globalNamed "internal/strconv.uint64pow10" = some 2 := by kernel_rfl
theorem utf_below {B : Nat} {w w' : World} (h : Lib.Utf8Tabs 0 1 w) (hb : Below B w w') (hB : 8 ≤ B) : Lib.Utf8Tabs 0 1 w' :=
  ⟨fun c hc => by rw [hb.cell (p := ⟨0, c, none⟩) (by show 0 < B; omega)]; exact h.1 c hc, fun i hi => by
    rw [hb.cell (p := ⟨1, 2 * i, none⟩) (by show 1 < B; omega), hb.cell (p := ⟨1, 2 * i + 1, none⟩) (by show 1 < B; omega)]; exact h.2 i hi⟩
theorem Glob.below {B : Nat} {w w' : World} (h : Glob w) (hb : Below B w w') (hB : 8 ≤ B) : Glob w' := by
  obtain ⟨t1, p1, h1⟩ := h.syn
  obtain ⟨t2, p2, h2⟩ := h.rng
  exact ⟨⟨t1, p1, var?_below hb Tryz.gSyn (by omega) h1⟩, ⟨t2, p2, var?_below hb Tryz.gRng (by omega) h2⟩, var?_below hb Tryz.gTab (by omega) h.tab, utf_below h.utf hb hB, Nat.le_trans h.size hb.size⟩
theorem Glob.ext {w w' : World} (h : Glob w) (hb : Below w.heap.size w w') : Glob w' := h.below hb h.size

def Keep (b : Nat) (w w' : World) : Prop := Below 0 w w' ∧ But w.heap.size b w w'
theorem Keep.below {b B : Nat} {a w w' : World} (h : Keep b w w') (k : Below B a w) (hb : B ≤ b) (hB : B ≤ w.heap.size) : Below B a w' :=
  ⟨h.1.os.trans k.os, h.1.tape.trans k.tape, h.1.output.trans k.output, Nat.le_trans k.size h.1.size, fun j hj => (h.2 j (by omega) (by omega)).trans (k.block j hj)⟩
theorem Keep.refl (b : Nat) (w : World) : Keep b w w := ⟨Below.refl _ _, But.refl _ _ _⟩
theorem Keep.size {b : Nat} {w w' : World} (h : Keep b w w') : w.heap.size ≤ w'.heap.size := h.1.size
theorem Keep.ext {b : Nat} {w w1 w' : World} (h : Keep b w w1) (k : Below w1.heap.size w1 w') : Keep b w w' :=
  ⟨h.1.trans (k.mono (Nat.zero_le _)), h.2.trans (But.of (k.mono h.1.size))⟩
theorem Keep.trans {b : Nat} {w w1 w' : World} (h : Keep b w w1) (k : Keep b w1 w') : Keep b w w' :=
  ⟨h.1.trans k.1, fun j hj hne => (k.2 j (Nat.lt_of_lt_of_le hj h.1.size) hne).trans (h.2 j hj hne)⟩
theorem Keep.set {b : Nat} {w w1 : World} (h : Keep b w w1) (j : Nat) (u : Value) : Keep b w (w1.setCell ⟨b, j, none⟩ u) :=
  ⟨h.1.setCell (Nat.zero_le _) _, h.2.trans (But.set _ _)⟩
theorem Keep.block {b : Nat} {w w' : World} (h : Keep b w w') {k : Nat} (hk : k < w.heap.size) (hb : k ≠ b) : w'.heap[k]? = w.heap[k]? := h.2 k hk hb
theorem Keep.own {b : Nat} {w w' : World} (h : Keep b w w') {base : Nat} {e : TypeId} {sz : Nat} {a : Option Addr} {n cap : Nat} {xs : List Value} (o : Own w base e sz a n cap xs) (hb : blockOf a ≠ some b) : Own w' base e sz a n cap xs :=
  o.congr fun g hg hlt => h.2 g hlt (fun he => hb (by rw [hg, he]))
theorem Keep.grown {b : Nat} {w w1 w' : World} (h : Keep b w w1) {row : Option Nat} (hg : w1.grownBy w' row) (hr : ∀ k, row = some k → w.heap.size ≤ k) : Keep b w w' :=
  ⟨h.1.grown hg (Nat.zero_le _) (fun _ _ => Nat.zero_le _), h.2.trans (But.grown hg h.size hr)⟩
theorem Keep.alloc {b : Nat} {w w1 : World} (h : Keep b w w1) (o : Obj) : Keep b w (w1.alloc o) := h.ext (below_a1 _ _)
theorem Keep.drew {b : Nat} {w w1 : World} (h : Keep b w w1) (n : Nat) : Keep b w (w1.drewN n) := h.ext (below_drew (Below.refl _ _) n)
theorem Keep.glob {b : Nat} {w w' : World} (h : Keep b w w') (g : Glob w) (hb : 8 ≤ b) : Glob w' := g.below (h.below (Below.refl 8 w) hb g.size) (Nat.le_refl _)

def RdAt (w : World) (b : Nat) (s : Nm) (o : Int) : Prop := Blk w b #[strV s, .int .i64 o] 110
theorem RdAt.ext {w w' : World} {b : Nat} {s : Nm} {o : Int} (h : RdAt w b s o) (k : Below w.heap.size w w') : RdAt w' b s o := Blk.ext h k
theorem RdAt.c0 {w : World} {b : Nat} {s : Nm} {o : Int} (h : RdAt w b s o) : w.cell? ⟨b, 0, none⟩ = some (.string ⟨s.toArray⟩) := Blk.cell h 0
theorem RdAt.c1 {w : World} {b : Nat} {s : Nm} {o : Int} (h : RdAt w b s o) : w.cell? ⟨b, 1, none⟩ = some (.int .i64 o) := Blk.cell h 1
theorem RdAt.put {w : World} {b : Nat} {s : Nm} {o : Int} (h : RdAt w b s o) (t : Nm) : RdAt (w.setCell ⟨b, 0, none⟩ (.string ⟨t.toArray⟩)) b t o := Blk.set h 0 _
theorem data_nm (s : Nm) : (⟨s.toArray⟩ : ByteArray).data.toList = s := by simp
theorem size_nm (s : Nm) : (⟨s.toArray⟩ : ByteArray).size = s.length := by simp [ByteArray.size]

def ScE (w : World) (b : Nat) (o : Int) (v : Value) (t : Nm) (e : Ending) (w' : World) : Prop := e = .returned v ∧ Keep b w w' ∧ RdAt w' b t o

theorem trim_any (s c : Nm) (w : World) (hl : c.length ≤ 100) (hc : ∀ x ∈ c, x.toNat < 128) : Calls Tryz.prog 95 #[.string ⟨s.toArray⟩, .string ⟨c.toArray⟩] w (Ret w (fun v _ => v = strV (s.dropWhile fun x => c.contains x))) := by
  refine (Any.strings_TrimLeft_laid Tryz.lays161 (by kernel_rfl) ⟨s.toArray⟩ ⟨c.toArray⟩ w (by rw [size_nm]; omega) ?_).mono ?_
  · intro j b hb
    rw [data_nm] at hb
    exact hc b (List.mem_of_getElem? hb)
  · rintro e w' ⟨rfl, hb⟩
    refine ⟨_, rfl, hb, ?_⟩
    rw [data_nm, data_nm]; rfl
theorem blanks_eq (s : Nm) : (s.dropWhile fun x => ([32, 9, 10, 13] : Nm).contains x) = skip s := by
  unfold skip
  congr 1
  funext c
  unfold isBlank
  rw [Bool.eq_iff_iff]
  simp [or_assoc]

theorem skip_any (b : Nat) (s : Nm) (o : Int) (w : World) (h : RdAt w b s o) : Calls Tryz.prog 74 #[.pointer (some ⟨b, 0, none⟩)] w (ScE w b o (.tuple #[]) (skip s)) := by
  have c0 := h.c0
  have H := Lib.hid h
  have ht : Hid (∀ w : World, Calls Tryz.prog 95 #[.string ⟨s.toArray⟩, .string { data := #[32, 9, 10, 13] }] w (Ret w (fun v _ => v = strV (skip s)))) := Lib.hid fun w => by
    have := trim_any s [32, 9, 10, 13] w (by decide) (by decide)
    rw [blanks_eq] at this; exact this
  clear h
  go_enter Tryz.func74, Tryz.ntmps74
  go_wp2_with fail
  refine (ht.out _).mono ?_
  rintro e w1 ⟨_, rfl, hb1, rfl⟩
  have h1 := H.out.ext hb1
  have c1 := h1.c0
  have f1 := Blk.free h1 0
  have H1 := Lib.hid h1
  have Hb := Lib.hid hb1
  unfold strV
  clear h1 hb1 ht
  go_wp2
  refine bodyPost_ret (results_none rfl _ _ _) rfl ?_
  exact ⟨rfl, ((Keep.refl b w).ext Hb.out).set 0 _, H1.out.put _⟩

theorem hasPrefix_iff (p s : Nm) : Lib.hasPrefix s p = (takes p s).isSome := by
  unfold Lib.hasPrefix
  induction p generalizing s with
  | nil => simp [takes_nil]
  | cons a p ih =>
    cases s with
    | nil => simp [takes_empty]
    | cons c s =>
      rw [takes_cons, List.isPrefixOf, ih s]
      by_cases h : c = a
      · simp [h]
      · have h2 : ¬ a = c := fun e => h e.symm
        simp [h, h2]
theorem cut_some {p s r : Nm} (h : takes p s = some r) : Lib.hasPrefix s p = true ∧ Lib.trimPrefix s p = r := by
  have h1 : Lib.hasPrefix s p = true := by first | (rw [hasPrefix_iff, h]; done) | (rw [hasPrefix_iff, h]; rfl)
  refine ⟨h1, ?_⟩
  unfold Lib.trimPrefix
  rw [if_pos h1]
  rw [takes_some h, List.drop_left' rfl]
theorem cut_none {p s : Nm} (h : takes p s = none) : Lib.hasPrefix s p = false ∧ Lib.trimPrefix s p = s := by
  have h1 : Lib.hasPrefix s p = false := by first | (rw [hasPrefix_iff, h]; done) | (rw [hasPrefix_iff, h]; rfl)
  refine ⟨h1, ?_⟩
  unfold Lib.trimPrefix
  rw [if_neg (by rw [h1]; decide)]

theorem takes_yes (b : Nat) (s p r : Nm) (o : Int) (w : World) (h : RdAt w b s o) (ht : takes p s = some r) : Calls Tryz.prog 75 #[.pointer (some ⟨b, 0, none⟩), .string ⟨p.toArray⟩] w (ScE w b o (.bool true) r) := by
  have c0 := h.c0
  have f0 := Blk.free h 0
  have H := Lib.hid h
  have hc : Hid (∀ w : World, Calls Tryz.prog 96 #[.string ⟨s.toArray⟩, .string ⟨p.toArray⟩] w fun e w' => e = .returned (.tuple #[.string ⟨r.toArray⟩, .bool true]) ∧ w' = w) := Lib.hid fun w => by
    have h1 := Tryz.strings_CutPrefix ⟨s.toArray⟩ ⟨p.toArray⟩ w
    rw [data_nm, data_nm, (cut_some ht).1, (cut_some ht).2] at h1
    exact h1
  clear h ht
  go_enter Tryz.func75, Tryz.ntmps75
  go_wp2_with fail
  refine (hc.out _).mono ?_
  rintro e w1 ⟨rfl, rfl⟩
  go_wp2
  go_ret
  exact ⟨rfl, (Keep.refl b _).set 0 _, H.out.put _⟩
theorem takes_no (b : Nat) (s p : Nm) (o : Int) (w : World) (h : RdAt w b s o) (ht : takes p s = none) : Calls Tryz.prog 75 #[.pointer (some ⟨b, 0, none⟩), .string ⟨p.toArray⟩] w (ScE w b o (.bool false) s) := by
  have c0 := h.c0
  have f0 := Blk.free h 0
  have H := Lib.hid h
  have hc : Hid (∀ w : World, Calls Tryz.prog 96 #[.string ⟨s.toArray⟩, .string ⟨p.toArray⟩] w fun e w' => e = .returned (.tuple #[.string ⟨s.toArray⟩, .bool false]) ∧ w' = w) := Lib.hid fun w => by
    have h1 := Tryz.strings_CutPrefix ⟨s.toArray⟩ ⟨p.toArray⟩ w
    rw [data_nm, data_nm, (cut_none ht).1, (cut_none ht).2] at h1
    exact h1
  clear h ht
  go_enter Tryz.func75, Tryz.ntmps75
  go_wp2_with fail
  refine (hc.out _).mono ?_
  rintro e w1 ⟨rfl, rfl⟩
  go_wp2
  go_ret
  exact ⟨rfl, (Keep.refl b _).set 0 _, H.out.put _⟩

theorem open_cons (c : UInt8) (r : Nm) : ∃ (z : ByteArray) (h : 0 < z.size), z = ⟨(c :: r).toArray⟩ ∧ z.size = r.length + 1 ∧ z[0] = c ∧ z.extract 1 z.size = ⟨r.toArray⟩ ∧ z.toList.isEmpty = false ∧ (z.toList = []) = False := by
  have hs : (⟨(c :: r).toArray⟩ : ByteArray).size = r.length + 1 := by first | (rw [size_nm]; done) | (rw [size_nm]; rfl)
  have hl : (⟨(c :: r).toArray⟩ : ByteArray).toList = c :: r := by rw [Lib.toList_data]
  refine ⟨⟨(c :: r).toArray⟩, by rw [hs]; omega, rfl, hs, rfl, ?_, by rw [hl]; rfl, by rw [hl]; simp⟩
  have := Lib.extract_to_end (⟨(c :: r).toArray⟩ : ByteArray) 1
  rw [data_nm] at this
  have e : ∀ a b : ByteArray, a.data.toList = b.data.toList → a = b := fun a b h => by
    cases a; cases b; simp at h; rw [h]
  exact e _ _ (by rw [this, data_nm]; rfl)
theorem indexByte_mem (l : Nm) (c : UInt8) : (0 ≤ Lib.indexByte l c) = (c ∈ l) := by
  induction l with
  | nil => simp [Lib.indexByte]
  | cons x l ih =>
    unfold Lib.indexByte
    by_cases h : x = c
    · simp [h]
    · have h2 : ¬ c = x := fun e => h e.symm
      have h3 : (x == c) = false := by simpa using h
      rw [h3]
      simp only [Bool.false_eq_true, if_false, List.mem_cons, h2, false_or]
      rw [← ih]
      have hge : -1 ≤ Lib.indexByte l c := by
        clear ih
        induction l with
        | nil => simp [Lib.indexByte]
        | cons y l ih2 =>
          unfold Lib.indexByte
          split
          · omega
          · split <;> omega
      by_cases h4 : Lib.indexByte l c = -1
      · simp [h4]
      · have h5 : (Lib.indexByte l c == -1) = false := by simpa using h4
        rw [h5]
        simp only [Bool.false_eq_true, if_false]
        apply propext; constructor <;> intro <;> omega

theorem comes_any (b : Nat) (s l : Nm) (o : Int) (w : World) (h : RdAt w b s o) : Calls Tryz.prog 99 #[.pointer (some ⟨b, 0, none⟩), .string ⟨l.toArray⟩] w (ScE w b o (.bool (comes (fun c => l.contains c) s)) s) := by
 have c0 := h.c0
 have H := Lib.hid h
 clear h
 cases s with
 | nil =>
  go_enter Tryz.func99, Tryz.ntmps99
  go_wp2
  go_ret
  exact ⟨rfl, Keep.refl b _, H.out⟩
 | cons c r =>
  obtain ⟨z, hz0, hz, hzs, hzc, hze, hzl, hzl2⟩ := open_cons c r
  rw [← hz] at c0
  have hzn : (0 : Int) < z.size := by omega
  have hcc : ((z[0].toNat : Nat) : Int) = (c.toNat : Int) := by rw [hzc]
  have hix : Hid (∀ w : World, Calls Tryz.prog 114 #[.string ⟨l.toArray⟩, .int .u8 c.toNat] w fun e w' => e = .returned (.int .i64 (Lib.indexByte l c)) ∧ w' = w) := Lib.hid fun w => by
   have h1 := Tryz.strings_IndexByte ⟨l.toArray⟩ c.toNat w
   rw [data_nm] at h1
   have e : (c.toNat : Int).toNat.toUInt8 = c := by simp
   rw [e] at h1
   exact h1
  have hm : decide (0 ≤ Lib.indexByte l c) = comes (fun c => l.contains c) (c :: r) := by
   rw [Bool.eq_iff_iff, decide_eq_true_eq, indexByte_mem]
   simp [comes]
  have Hm := Lib.hid hm
  clear hm hz hzs hzc hze
  go_enter Tryz.func99, Tryz.ntmps99
  go_wp2_with fail
  refine (hix.out _).mono ?_
  rintro e w1 ⟨rfl, rfl⟩
  go_wp2
  go_ret
  refine ⟨?_, Keep.refl b _, H.out⟩
  exact congrArg (fun x => Ending.returned (.bool x)) Hm.out
end Go.Proofs.YthnbeebilomchaaGreatDoor

namespace Go.Proofs.YthnbeebilomchaaGreatDoor
open Go Go.RowKit

def hx (acc : Nat) : Nm → Nat
  | [] => acc
  | x :: r => hx (acc * 16 + (hexVal x).getD 0) r
set_option maxRecDepth 100000 in
theorem or_lower : ∀ x : Fin 256, 97 ≤ x.val → x.val ≤ 102 → bits .or .u8 ((x.val : Nat) : Int) 32 = ((x.val : Nat) : Int) := by decide
set_option maxRecDepth 100000 in
theorem or_upper : ∀ x : Fin 256, 65 ≤ x.val → x.val ≤ 70 → bits .or .u8 ((x.val : Nat) : Int) 32 = ((x.val + 32 : Nat) : Int) := by decide
theorem hexVal_cases {c : UInt8} {n : Nat} (h : hexVal c = some n) : (48 ≤ c.toNat ∧ c.toNat ≤ 57 ∧ n = c.toNat - 48) ∨ (97 ≤ c.toNat ∧ c.toNat ≤ 102 ∧ n = c.toNat - 87) ∨ (65 ≤ c.toNat ∧ c.toNat ≤ 70 ∧ n = c.toNat - 55) := by
  unfold hexVal at h
  simp only [UInt8.le_iff_toNat_le, show (48 : UInt8).toNat = 48 from rfl, show (57 : UInt8).toNat = 57 from rfl, show (97 : UInt8).toNat = 97 from rfl, show (102 : UInt8).toNat = 102 from rfl, show (65 : UInt8).toNat = 65 from rfl, show (70 : UInt8).toNat = 70 from rfl] at h
  split at h
  · rename_i h1; injection h with h; exact .inl ⟨h1.1, h1.2, h.symm⟩
  · split at h
    · rename_i h1; injection h with h; exact .inr (.inl ⟨h1.1, h1.2, h.symm⟩)
    · split at h
      · rename_i h1; injection h with h; exact .inr (.inr ⟨h1.1, h1.2, h.symm⟩)
      · cases h

set_option maxHeartbeats 4000000 in
set_option maxRecDepth 100000 in
theorem hexIn_any (bs : Nm) (hl : bs.length = 4) (hx4 : ∀ x ∈ bs, ∃ n, hexVal x = some n) (w : World) :
  Calls Tryz.prog 157 #[.string ⟨bs.toArray⟩, .int .i64 16, .int .i64 16] w (Ret w fun v _ => v = .tuple #[.int .u64 (hx 0 bs), .nilIface]) := by
 obtain ⟨t, ht⟩ : ∃ t : ByteArray, t = ⟨bs.toArray⟩ := ⟨_, rfl⟩
 have hsz : t.size = 4 := by rw [ht, size_nm, hl]
 have hdat : t.data.toList = bs := by rw [ht, data_nm]
 rw [← ht]
 clear ht
 have hemp : t.toList.isEmpty = false := by
  rw [← decide_eq_emptyBytes]
  exact decide_eq_false (fun h => by rw [h] at hsz; exact absurd hsz (by decide))
 have hcv := Lib.run_convert_string_bytes (P := Tryz.prog) w 9 144 5 t (u := .string) Tryz.underlying9 Tryz.underlying144 Tryz.underlying5
 have hB : ∀ j, j < 4 → (Lib.bytesWorld w 5 t).cell? ⟨w.heap.size, j, none⟩ = some (.int .u8 (bs.getD j 0).toNat) := fun j hj => by
  have := Lib.bytesWorld_cell w 5 t j (by omega)
  rw [hdat] at this; exact this
 have hbw : Below w.heap.size w (Lib.bytesWorld w 5 t) := Lib.bytesWorld_below _ _ _
 obtain ⟨W1, hW1⟩ : ∃ W1, W1 = Lib.bytesWorld w 5 t := ⟨_, rfl⟩
 rw [← hW1] at hcv hB hbw
 have Hbw := Lib.hid hbw
 have HX := Lib.hid hx4
 have HB := Lib.hid hB
 have Hl := Lib.hid hl
 have Hsz := Lib.hid hsz
 have hmax : t.size ≤ 9223372036854775806 := by omega
 clear hW1 hbw hx4 hdat hB hl hsz
 have hmv : IntKind.u64.wrap (IntKind.u64.wrap 65536 - 1) = 65535 := by
  rw [IntKind.wrap_u64, IntKind.wrap_u64]
  decide
 go_enter Tryz.func157, Tryz.ntmps157
 go_wp2
 go_loop [12, 13, 101] (fun vu vn vi => ∃ (k acc : Nat) (a : Int), vu = .bool false ∧ vn = .int .u64 a ∧ vi = .int .i64 k ∧ k ≤ t.size ∧ Hid ((k = 0 ∧ acc = 0) ∨ (k = 1 ∧ acc ≤ 15) ∨ (k = 2 ∧ acc ≤ 255) ∨ (k = 3 ∧ acc ≤ 4095) ∨ (k = 4 ∧ acc ≤ 65535)) ∧ Hid (a = (acc : Int) ∧ acc ≤ 65535) ∧ Hid (hx 0 bs = hx acc (bs.drop k)))
  (fun _ _ vi => t.size - (intOf vi).toNat)
 case atStart => exact ⟨0, 0, 0, rfl, rfl, rfl, by omega, Lib.hid (by omega), Lib.hid (by omega), Lib.hid rfl⟩
 case round =>
  obtain ⟨k, acc, a, rfl, rfl, rfl, hk, Hacc, Ha, hh⟩ := hrel
  obtain ⟨ha, hac⟩ := Ha.out
  have a0 : 0 ≤ a := by omega
  have a1 : a ≤ 65535 := by omega
  by_cases hkn : k < t.size
  ·
   have hk4 : k < 4 := by rw [← Hsz.out]; exact hkn
   have hc := HB.out k hk4
   have hacc := Hacc.out
   have hlen := Hl.out
   have hdrop : bs.drop k = bs[k]'(by omega) :: bs.drop (k + 1) := List.drop_eq_getElem_cons (by omega)
   have hget : bs.getD k 0 = bs[k]'(by omega) := by simp [List.getD, List.getElem?_eq_getElem (show k < bs.length by omega)]
   obtain ⟨n, hn⟩ := HX.out (bs[k]'(by omega)) (List.getElem_mem _)
   have hnext : hx 0 bs = hx (acc * 16 + n) (bs.drop (k + 1)) := by first | (rw [hh.out, hdrop, hx, hn]; done) | (rw [hh.out, hdrop, hx, hn]; rfl)
   rw [hget] at hc
   generalize bs[k]'(by omega) = c at hc hn
   have hc256 : c.toNat < 256 := c.toNat_lt
   have Hn := Lib.hid hnext
   clear hdrop hget hnext hlen hh
   have hcas := hexVal_cases hn
   clear hn
   rcases hcas with ⟨d0, d1, hnv⟩ | ⟨d0, d1, hnv⟩ | ⟨d0, d1, hnv⟩
   ·
    have hn15 : n ≤ 15 := by omega
    have HK : Hid ((k + 1 = 0 ∧ acc * 16 + n = 0) ∨ (k + 1 = 1 ∧ acc * 16 + n ≤ 15) ∨ (k + 1 = 2 ∧ acc * 16 + n ≤ 255) ∨ (k + 1 = 3 ∧ acc * 16 + n ≤ 4095) ∨ (k + 1 = 4 ∧ acc * 16 + n ≤ 65535)) := Lib.hid (by omega)
    have HN : Hid (a * 16 + ((c.toNat : Int) - 48) = ((acc * 16 + n : Nat) : Int) ∧ acc * 16 + n ≤ 65535) := Lib.hid ⟨by omega, by omega⟩
    have h1 : a * 16 + ((c.toNat : Int) - 48) ≤ 65535 := by omega
    clear hnv hacc hk4 hac ha hn15
    go_wp2
    exact ⟨⟨k + 1, acc * 16 + n, _, rfl, rfl, by go_num, by omega, HK, HN, Hn⟩, by simp [intOf]; omega⟩
   ·
    have hn15 : n ≤ 15 := by omega
    have HK : Hid ((k + 1 = 0 ∧ acc * 16 + n = 0) ∨ (k + 1 = 1 ∧ acc * 16 + n ≤ 15) ∨ (k + 1 = 2 ∧ acc * 16 + n ≤ 255) ∨ (k + 1 = 3 ∧ acc * 16 + n ≤ 4095) ∨ (k + 1 = 4 ∧ acc * 16 + n ≤ 65535)) := Lib.hid (by omega)
    have HN : Hid (a * 16 + ((c.toNat : Int) - 97 + 10) = ((acc * 16 + n : Nat) : Int) ∧ acc * 16 + n ≤ 65535) := Lib.hid ⟨by omega, by omega⟩
    have h1 : a * 16 + ((c.toNat : Int) - 97 + 10) ≤ 65535 := by omega
    have hv := or_lower ⟨c.toNat, hc256⟩ d0 d1
    simp only at hv
    clear hnv hacc hk4 hac ha hn15
    go_wp2_with (first | (go_at_call 161; refine (Tryz.internal_strconv_lower _ _).mono ?_; rintro e w' ⟨rfl, rfl⟩))
    exact ⟨⟨k + 1, acc * 16 + n, _, rfl, rfl, by go_num, by omega, HK, HN, Hn⟩, by simp [intOf]; omega⟩
   ·
    have hn15 : n ≤ 15 := by omega
    have HK : Hid ((k + 1 = 0 ∧ acc * 16 + n = 0) ∨ (k + 1 = 1 ∧ acc * 16 + n ≤ 15) ∨ (k + 1 = 2 ∧ acc * 16 + n ≤ 255) ∨ (k + 1 = 3 ∧ acc * 16 + n ≤ 4095) ∨ (k + 1 = 4 ∧ acc * 16 + n ≤ 65535)) := Lib.hid (by omega)
    have HN : Hid (a * 16 + ((c.toNat : Int) + 32 - 97 + 10) = ((acc * 16 + n : Nat) : Int) ∧ acc * 16 + n ≤ 65535) := Lib.hid ⟨by omega, by omega⟩
    have h1 : a * 16 + ((c.toNat : Int) + 32 - 97 + 10) ≤ 65535 := by omega
    have hv := or_upper ⟨c.toNat, hc256⟩ d0 d1
    simp only at hv
    have hv2 : ((c.toNat + 32 : Nat) : Int) = (c.toNat : Int) + 32 := by omega
    rw [hv2] at hv
    clear hv2
    clear hnv hacc hk4 hac ha hn15
    go_wp2_with (first | (go_at_call 161; refine (Tryz.internal_strconv_lower _ _).mono ?_; rintro e w' ⟨rfl, rfl⟩))
    exact ⟨⟨k + 1, acc * 16 + n, _, rfl, rfl, by go_num, by omega, HK, HN, Hn⟩, by simp [intOf]; omega⟩
  ·
   have hk4 : k = 4 := by have := Hsz.out; omega
   have hkk : k = t.size := by omega
   have hfin : hx 0 bs = acc := by rw [hh.out, List.drop_eq_nil_of_le (by rw [Hl.out]; omega)]; rfl
   have Hf := Lib.hid hfin
   clear hfin hh hk4
   subst hkk
   subst ha
   clear a0 a1
   go_wp2
   go_ret2
   exact ⟨_, rfl, Hbw.out, by rw [Hf.out]; rfl⟩

theorem hex_any (bs : Nm) (hl : bs.length = 4) (hx4 : ∀ x ∈ bs, ∃ n, hexVal x = some n) (w : World) :
    Calls Tryz.prog 143 #[.string ⟨bs.toArray⟩, .int .i64 16, .int .i64 16] w (Ret w fun v _ => v = .tuple #[.int .u64 (hx 0 bs), .nilIface]) := by
  have hc := hexIn_any bs hl hx4
  have Hc := Lib.hid hc
  clear hc hl hx4
  go_enter Tryz.func143, Tryz.ntmps143
  go_wp2_with fail
  refine (Hc.out _).mono ?_
  rintro e w1 ⟨_, rfl, hb1, rfl⟩
  go_wp2
  go_ret2
  exact ⟨_, rfl, hb1, rfl⟩
end Go.Proofs.YthnbeebilomchaaGreatDoor

namespace Go.Proofs.YthnbeebilomchaaGreatDoor
open Go Go.RowKit

theorem ba_eq {a b : ByteArray} (h : a.data.toList = b.data.toList) : a = b := by
  cases a; cases b; simp at h; rw [h]
theorem ext_from (s : Nm) (k : Nat) : (⟨s.toArray⟩ : ByteArray).extract k (⟨s.toArray⟩ : ByteArray).size = ⟨(s.drop k).toArray⟩ := by
  apply ba_eq
  rw [Lib.extract_to_end, data_nm, data_nm]
theorem ext_to (s : Nm) (k : Nat) : (⟨s.toArray⟩ : ByteArray).extract 0 k = ⟨(s.take k).toArray⟩ := by
  apply ba_eq
  rw [Lib.extract_data, data_nm, data_nm]; simp
def hexSet : Nm := [48, 49, 50, 51, 52, 53, 54, 55, 56, 57, 97, 98, 99, 100, 101, 102, 65, 66, 67, 68, 69, 70]
set_option maxRecDepth 100000 in
theorem hexSet_fin : ∀ x : Fin 256, hexSet.contains (UInt8.ofNat x.val) = (hexVal (UInt8.ofNat x.val)).isSome := by decide
theorem hexSet_val (c : UInt8) : hexSet.contains c = (hexVal c).isSome := by
  have := hexSet_fin ⟨c.toNat, c.toNat_lt⟩
  simpa using this
theorem drop_nil {p : UInt8 → Bool} : ∀ {l : Nm}, l.dropWhile p = [] ↔ ∀ x ∈ l, p x = true
  | [] => by simp
  | c :: l => by
    rw [List.dropWhile_cons]
    by_cases h : p c = true
    · rw [if_pos h, drop_nil]; simp [h]
    · rw [if_neg h]; simp [h]
theorem drop_head {p : UInt8 → Bool} : ∀ {l : Nm} {y : UInt8} {r : Nm}, l.dropWhile p = y :: r → p y = false
  | [], y, r, h => by simp at h
  | c :: l, y, r, h => by
    rw [List.dropWhile_cons] at h
    by_cases hc : p c = true
    · rw [if_pos hc] at h; exact drop_head h
    · rw [if_neg hc] at h
      injection h with h1 h2
      rw [← h1]; simpa using hc
theorem trimS_nil (l cs : Nm) : Lib.trimS l cs = [] ↔ ∀ x ∈ l, cs.contains x = true := by
  unfold Lib.trimS Lib.trimLeftS Lib.trimRightS
  rw [drop_nil]
  constructor
  · intro h x hx
    have key : (l.reverse.dropWhile (cs.contains ·)) = [] := by
      cases hd : l.reverse.dropWhile (cs.contains ·) with
      | nil => rfl
      | cons y r =>
        have hy := drop_head hd
        have := h y (by rw [hd]; simp)
        rw [hy] at this; cases this
    rw [drop_nil] at key
    exact key x (by simpa using hx)
  · intro h x hx
    have h1 : x ∈ l.reverse := (List.dropWhile_sublist _).subset (by simpa using hx)
    exact h x (by simpa using h1)
theorem trim2_any (s : Nm) (w : World) (hs : s.length ≤ 1048576) : Calls Tryz.prog 142 #[.string ⟨s.toArray⟩, .string ⟨hexSet.toArray⟩] w (Ret w (fun v _ => v = strV (Lib.trimS s hexSet))) := by
  refine (Any.strings_Trim_laid Tryz.lays160 (by kernel_rfl) ⟨s.toArray⟩ ⟨hexSet.toArray⟩ w (by rw [size_nm]; omega) (by decide) ?_).mono ?_
  · intro j b hb
    rw [data_nm] at hb
    have : ∀ x ∈ hexSet, x.toNat < 128 := by decide
    exact this b (List.mem_of_getElem? hb)
  · rintro e w' ⟨rfl, hb⟩
    refine ⟨_, rfl, hb, ?_⟩
    rw [data_nm, data_nm]; rfl
theorem unit4_cons (a b c d : UInt8) (r : Nm) : unit4 (a :: b :: c :: d :: r) = match hexVal a, hexVal b, hexVal c, hexVal d with
    | some a, some b, some c, some d => some (((a * 16 + b) * 16 + c) * 16 + d, r)
    | _, _, _, _ => none := rfl
theorem unit4_hx {a b c d : UInt8} {r : Nm} {n : Nat} {q : Nm} (h : unit4 (a :: b :: c :: d :: r) = some (n, q)) : n = hx 0 [a, b, c, d] ∧ q = r ∧ ∀ x ∈ [a, b, c, d], ∃ m, hexVal x = some m := by
 rw [unit4_cons] at h
 cases ha : hexVal a with
 | none => simp [ha] at h
 | some a1 =>
  cases hb : hexVal b with
  | none => simp [ha, hb] at h
  | some b1 =>
   cases hc : hexVal c with
   | none => simp [ha, hb, hc] at h
   | some c1 =>
    cases hd : hexVal d with
    | none => simp [ha, hb, hc, hd] at h
    | some d1 =>
     simp only [ha, hb, hc, hd] at h
     injection h with h
     injection h with h1 h2
     refine ⟨?_, h2.symm, ?_⟩
     ·
      rw [← h1]; simp [hx, ha, hb, hc, hd]
     ·
      intro x hx
      simp only [List.mem_cons, List.not_mem_nil, or_false] at hx
      rcases hx with rfl | rfl | rfl | rfl
      ·
       exact ⟨_, ha⟩
      ·
       exact ⟨_, hb⟩
      ·
       exact ⟨_, hc⟩
      ·
       exact ⟨_, hd⟩
theorem unit4_short {s : Nm} (h : s.length < 4) : unit4 s = none := by
  match s, h with
  | [], _ => rfl
  | [_], _ => rfl
  | [_, _], _ => rfl
  | [_, _, _], _ => rfl
theorem unit4_no {s : Nm} (h : 4 ≤ s.length) (hn : unit4 s = none) : ∃ x ∈ s.take 4, hexVal x = none := by
  match s, h with
  | a :: b :: c :: d :: r, _ =>
    rw [unit4_cons] at hn
    cases ha : hexVal a with
    | none => exact ⟨a, by simp, ha⟩
    | some a1 =>
      cases hb : hexVal b with
      | none => exact ⟨b, by simp, hb⟩
      | some b1 =>
        cases hc : hexVal c with
        | none => exact ⟨c, by simp, hc⟩
        | some c1 =>
          cases hd : hexVal d with
          | none => exact ⟨d, by simp, hd⟩
          | some d1 => simp [ha, hb, hc, hd] at hn
theorem take4 {s : Nm} (h : 4 ≤ s.length) : ∃ a b c d r, s = a :: b :: c :: d :: r := by
  match s, h with
  | a :: b :: c :: d :: r, _ => exact ⟨a, b, c, d, r, rfl⟩

set_option maxHeartbeats 1000000 in
theorem unit_no (b : Nat) (s : Nm) (o : Int) (w : World) (h : RdAt w b s o) (hs : s.length ≤ 1048576) (hu : unit4 s = none) : Calls Tryz.prog 129 #[.pointer (some ⟨b, 0, none⟩)] w (ScE w b o (.tuple #[.int .i32 0, .bool false]) s) := by
 have c0 := h.c0
 have H := Lib.hid h
 have e1 := size_nm s
 have et := ext_to s 4
 have Et := Lib.hid et
 clear h
 obtain ⟨z, hz⟩ : ∃ z : ByteArray, z = ⟨s.toArray⟩ := ⟨_, rfl⟩
 rw [← hz] at c0 e1 et
 have E1 := Lib.hid e1
 by_cases hl : s.length < 4
 ·
  have hzl : (z.size : Int) < 4 := by omega
  clear hz e1 et
  go_enter Tryz.func129, Tryz.ntmps129
  go_wp2
  go_ret2
  exact ⟨rfl, Keep.refl b _, H.out⟩
 ·
  have hzl : (4 : Int) ≤ (z.size : Int) := by omega
  obtain ⟨x, hx, hxn⟩ := unit4_no (by omega) hu
  have hne : Lib.trimS (s.take 4) hexSet ≠ [] := fun he => by
   have := (trimS_nil _ _).1 he x hx
   rw [hexSet_val, hxn] at this; cases this
  have ht : Hid (∀ w : World, Calls Tryz.prog 142 #[.string ⟨(s.take 4).toArray⟩, .string { data := #[48, 49, 50, 51, 52, 53, 54, 55, 56, 57, 97, 98, 99, 100, 101, 102, 65, 66, 67, 68, 69, 70] }] w (Ret w (fun v _ => v = strV (Lib.trimS (s.take 4) hexSet)))) := Lib.hid fun w => trim2_any (s.take 4) w (by rw [List.length_take]; omega)
  obtain ⟨y, hy⟩ : ∃ y, y = Lib.trimS (s.take 4) hexSet := ⟨_, rfl⟩
  rw [← hy] at ht hne
  clear hz e1 hl hu hx hy hxn
  obtain ⟨yh, yt, rfl⟩ := List.exists_cons_of_ne_nil hne
  clear hne
  go_enter Tryz.func129, Tryz.ntmps129
  go_wp2_with fail
  refine (ht.out _).mono ?_
  rintro e w1 ⟨_, rfl, hb1, rfl⟩
  have Hb := Lib.hid hb1
  unfold strV
  clear ht hb1
  go_wp2
  go_ret2
  exact ⟨rfl, (Keep.refl b _).ext Hb.out, H.out.ext Hb.out⟩
set_option maxHeartbeats 1000000 in
theorem unit_yes (b : Nat) (s r : Nm) (n : Nat) (o : Int) (w : World) (h : RdAt w b s o) (hs : s.length ≤ 1048576) (hu : unit4 s = some (n, r)) : Calls Tryz.prog 129 #[.pointer (some ⟨b, 0, none⟩)] w (ScE w b o (.tuple #[.int .i32 n, .bool true]) r) := by
 have hlen : 4 ≤ s.length := by
  apply Nat.le_of_not_lt
  intro hl
  rw [unit4_short hl] at hu; cases hu
 obtain ⟨n1, n2⟩ := unit4_some hu
 clear n2
 obtain ⟨xa, xb, xc, xd, q, rfl⟩ := take4 hlen
 obtain ⟨rfl, rfl, hx4⟩ := unit4_hx hu
 have c0 := h.c0
 have H := Lib.hid h
 have e1 := size_nm (xa :: xb :: xc :: xd :: r)
 have et := ext_to (xa :: xb :: xc :: xd :: r) 4
 have ef := ext_from (xa :: xb :: xc :: xd :: r) 4
 simp only [List.take_succ_cons, List.take_zero] at et
 simp only [List.drop_succ_cons, List.drop_zero] at ef
 have ht : Hid (∀ w : World, Calls Tryz.prog 142 #[.string ⟨#[xa, xb, xc, xd]⟩, .string { data := #[48, 49, 50, 51, 52, 53, 54, 55, 56, 57, 97, 98, 99, 100, 101, 102, 65, 66, 67, 68, 69, 70] }] w (Ret w (fun v _ => v = .string { data := #[] }))) := Lib.hid fun w => by
  have h1 := trim2_any [xa, xb, xc, xd] w (by simp)
  rw [(trimS_nil _ _).2 (fun x hx => by rw [hexSet_val]; obtain ⟨m, hm⟩ := hx4 x hx; rw [hm]; rfl)] at h1
  exact h1
 have hp : Hid (∀ w : World, Calls Tryz.prog 143 #[.string ⟨#[xa, xb, xc, xd]⟩, .int .i64 16, .int .i64 16] w (Ret w fun v _ => v = .tuple #[.int .u64 (hx 0 [xa, xb, xc, xd]), .nilIface])) := Lib.hid fun w => hex_any [xa, xb, xc, xd] rfl hx4 w
 clear h hu hlen hx4
 generalize hx 0 [xa, xb, xc, xd] = n at *
 obtain ⟨z, hz⟩ : ∃ z : ByteArray, z = ⟨(xa :: xb :: xc :: xd :: r).toArray⟩ := ⟨_, rfl⟩
 have hb' : Hid (∀ w', Below w.heap.size w w' → w'.cell? ⟨b, 0, none⟩ = some (.string z) ∧ w'.frozen? ⟨b, 0, none⟩ = false) := Lib.hid fun w' hb => by
  rw [hz]; exact ⟨(H.out.ext hb).c0, Blk.free (H.out.ext hb) 0⟩
 rw [← hz] at c0 e1 et ef
 simp only [List.length_cons] at e1 hs
 have hzl : (4 : Int) ≤ (z.size : Int) := by omega
 have hzm : (z.size : Int) ≤ 1048576 := by omega
 have Hn : (n : Int) ≤ 65535 := by omega
 have Ef := Lib.hid ef
 have Et := Lib.hid et
 clear hz e1 ef
 go_enter Tryz.func129, Tryz.ntmps129
 go_wp2_with fail
 refine (ht.out _).mono ?_
 rintro e w1 ⟨_, rfl, hb1, rfl⟩
 obtain ⟨c1, f1⟩ := hb'.out w1 hb1
 have Hb1 := Lib.hid hb1
 clear c0 hb1
 go_wp2_with fail
 refine (hp.out _).mono ?_
 rintro e w2 ⟨_, rfl, hb2, rfl⟩
 have Hb2 := Lib.hid (Hb1.out.trans (hb2.mono Hb1.out.size))
 obtain ⟨c2, f2⟩ := hb'.out w2 Hb2.out
 have ef := Ef.out
 clear c1 f1 hb2
 go_wp2_with fail
 go_quiet (fail)
 go_wp2
 go_ret2
 exact ⟨rfl, (((Keep.refl b _).ext Hb2.out).set 0 _).drew _, ((H.out.ext Hb2.out).put _).drewN _⟩
end Go.Proofs.YthnbeebilomchaaGreatDoor

namespace Go.Proofs.YthnbeebilomchaaGreatDoor
open Go Go.RowKit

theorem encode_scalar {n : Nat} (h : Scalar n) : Utf8.encode (n : Int) = ⟨(scalarB n).toArray⟩ := by
  unfold Scalar at h
  unfold Utf8.encode scalarB
  have hv : Utf8.valid (n : Int) = true := by
    unfold Utf8.valid
    simp only [Bool.and_eq_true, Bool.or_eq_true, decide_eq_true_eq]
    omega
  rw [if_pos hv]
  simp only [Int.toNat_natCast]
  repeat' split
  all_goals rfl
def escSet : Nm := [34, 92, 47, 98, 102, 110, 114, 116]
theorem esc_idx {c x : UInt8} (h : escB c = some x) : ∃ i : Nat, i < 8 ∧ Lib.indexByte escSet c = i ∧ (⟨#[34, 92, 47, 8, 12, 10, 13, 9]⟩ : ByteArray).extract i (i + 1) = ⟨#[x]⟩ := by
  unfold escB at h
  repeat' split at h
  all_goals first
    | (cases h; done)
    | (rename_i he; subst he; injection h with h; subst h; first | exact ⟨0, by decide, by decide, rfl⟩ | exact ⟨1, by decide, by decide, rfl⟩ | exact ⟨2, by decide, by decide, rfl⟩ | exact ⟨3, by decide, by decide, rfl⟩ | exact ⟨4, by decide, by decide, rfl⟩ | exact ⟨5, by decide, by decide, rfl⟩ | exact ⟨6, by decide, by decide, rfl⟩ | exact ⟨7, by decide, by decide, rfl⟩)
theorem esc_none {c : UInt8} (h : escB c = none) : Lib.indexByte escSet c < 0 := by
  have hm := indexByte_mem escSet c
  have : ¬ c ∈ escSet := by
    intro hc
    unfold escSet at hc
    simp only [List.mem_cons, List.not_mem_nil, or_false] at hc
    rcases hc with rfl | rfl | rfl | rfl | rfl | rfl | rfl | rfl <;> (revert h; decide)
  rw [← hm] at this
  omega

def ScN (w : World) (b : Nat) (o : Int) (e : Ending) (w' : World) : Prop := ∃ (x t : Nm), e = .returned (.tuple #[strV x, .bool false]) ∧ Keep b w w' ∧ RdAt w' b t o
theorem scN_nil {w w' : World} {b : Nat} {o : Int} {t : Nm} (h : Keep b w w') (k : RdAt w' b t o) : ScN w b o (.returned (.tuple #[.string { data := #[] }, .bool false])) w' := ⟨[], t, rfl, h, k⟩
theorem scN_ba {w w' : World} {b : Nat} {o : Int} {t : Nm} (z : ByteArray) (h : Keep b w w') (k : RdAt w' b t o) : ScN w b o (.returned (.tuple #[.string z, .bool false])) w' := ⟨z.data.toList, t, by rw [strV_data], h, k⟩

theorem index_any (c : UInt8) (w : World) : Calls Tryz.prog 114 #[.string { data := #[34, 92, 47, 98, 102, 110, 114, 116] }, .int .u8 c.toNat] w fun e w' => e = .returned (.int .i64 (Lib.indexByte escSet c)) ∧ w' = w := by
  have h1 := Tryz.strings_IndexByte ⟨escSet.toArray⟩ c.toNat w
  rw [data_nm] at h1
  have e : (c.toNat : Int).toNat.toUInt8 = c := by simp
  rw [e] at h1
  exact h1

theorem escaped_nil (b : Nat) (o : Int) (w : World) (h : RdAt w b [] o) : Calls Tryz.prog 115 #[.pointer (some ⟨b, 0, none⟩)] w (ScN w b o) := by
  have c0 := h.c0
  have H := Lib.hid h
  clear h
  go_enter Tryz.func115, Tryz.ntmps115
  go_wp2
  go_ret2
  exact scN_nil (Keep.refl b _) H.out

set_option maxHeartbeats 1000000 in
theorem escaped_one (b : Nat) (c x : UInt8) (r : Nm) (o : Int) (w : World) (h : RdAt w b (c :: r) o) (hx : escB c = some x) : Calls Tryz.prog 115 #[.pointer (some ⟨b, 0, none⟩)] w (ScE w b o (.tuple #[strV [x], .bool true]) r) := by
  have c0 := h.c0
  have f0 := Blk.free h 0
  have H := Lib.hid h
  obtain ⟨i, hi, hix, hie⟩ := esc_idx hx
  have hc := index_any c
  rw [hix] at hc
  have Hc := Lib.hid hc
  obtain ⟨z, hz0, hz, hzs, hzc, hze, hzl, hzl2⟩ := open_cons c r
  rw [← hz] at c0
  have hzn : (0 : Int) < z.size := by omega
  have hzn1 : (1 : Int) ≤ z.size := by omega
  have hcc : ((z[0].toNat : Nat) : Int) = (c.toNat : Int) := by rw [hzc]
  have hii : (i : Int) < 8 := by omega
  clear h hx hix hc hz hzs hzc
  go_enter Tryz.func115, Tryz.ntmps115
  go_wp2_with fail
  refine (Hc.out _).mono ?_
  rintro e w1 ⟨rfl, rfl⟩
  go_wp2
  go_ret2
  exact ⟨rfl, (Keep.refl b _).set 0 _, H.out.put _⟩

set_option maxHeartbeats 1000000 in
theorem escaped_not (b : Nat) (c : UInt8) (r : Nm) (o : Int) (w : World) (h : RdAt w b (c :: r) o) (hx : escB c = none) (hu : c ≠ 117) : Calls Tryz.prog 115 #[.pointer (some ⟨b, 0, none⟩)] w (ScN w b o) := by
 have c0 := h.c0
 have f0 := Blk.free h 0
 have H := Lib.hid h
 have hi := esc_none hx
 have hc := index_any c
 generalize Lib.indexByte escSet c = i at hi hc
 have Hc := Lib.hid hc
 obtain ⟨z, hz0, hz, hzs, hzc, hze, hzl, hzl2⟩ := open_cons c r
 rw [← hz] at c0
 have hzn : (0 : Int) < z.size := by omega
 have hzn1 : (1 : Int) ≤ z.size := by omega
 have hcc : ((z[0].toNat : Nat) : Int) = (c.toNat : Int) := by rw [hzc]
 have h117 : ((c.toNat : Int) != 117) = true := by
  rw [bne_iff_ne]; intro he; exact hu (UInt8.toNat_inj.1 (by have : (117 : UInt8).toNat = 117 := rfl; omega))
 clear h hx hc hz hzs hzc hu
 go_enter Tryz.func115, Tryz.ntmps115
 go_wp2_with fail
 refine (Hc.out _).mono ?_
 rintro e w1 ⟨rfl, rfl⟩
 go_wp2
 go_ret2
 exact scN_nil ((Keep.refl b _).set 0 _) (H.out.put _)

set_option maxHeartbeats 1000000 in
theorem escaped_u0 (b : Nat) (r : Nm) (o : Int) (w : World) (h : RdAt w b (117 :: r) o) (hs : (117 :: r).length ≤ 1048576) (hu : unit4 r = none) : Calls Tryz.prog 115 #[.pointer (some ⟨b, 0, none⟩)] w (ScN w b o) := by
 have c0 := h.c0
 have f0 := Blk.free h 0
 have hs' : r.length ≤ 1048576 := by simp at hs; omega
 have hp := h.put r
 have H := Lib.hid hp
 have HK1 := Lib.hid ((Keep.refl b w).set 0 (.string ⟨r.toArray⟩))
 have hc := index_any 117
 have hcn : Lib.indexByte escSet 117 = -1 := by decide
 rw [hcn] at hc
 have Hc := Lib.hid hc
 obtain ⟨z, hz0, hz, hzs, hzc, hze, hzl, hzl2⟩ := open_cons 117 r
 rw [← hz] at c0
 have hzn : (0 : Int) < z.size := by omega
 have hzn1 : (1 : Int) ≤ z.size := by omega
 have hcc : ((z[0].toNat : Nat) : Int) = 117 := by first | (rw [hzc]; done) | (rw [hzc]; rfl)
 clear h hp hcn hc hz hzs hzc
 go_enter Tryz.func115, Tryz.ntmps115
 go_wp2_with fail
 refine (Hc.out _).mono ?_
 rintro e w1 ⟨rfl, rfl⟩
 clear Hc
 go_wp2_with fail
 refine (unit_no b r o _ H.out hs' hu).mono ?_
 rintro e w2 ⟨rfl, hk, hr⟩
 have HK := Lib.hid (HK1.out.trans hk)
 have HR := Lib.hid hr
 clear hk hr
 go_wp2
 go_ret2
 exact scN_ba _ HK.out HR.out

set_option maxHeartbeats 1000000 in
theorem escaped_u1 (b : Nat) (r q : Nm) (n : Nat) (o : Int) (w : World) (h : RdAt w b (117 :: r) o) (hs : (117 :: r).length ≤ 1048576) (hu : unit4 r = some (n, q)) (hn : n < 55296 ∨ 57344 ≤ n) : Calls Tryz.prog 115 #[.pointer (some ⟨b, 0, none⟩)] w (ScE w b o (.tuple #[strV (scalarB n), .bool true]) q) := by
 have hn1 := (unit4_some hu).1
 have hen : Utf8.encode (n : Int) = ⟨(scalarB n).toArray⟩ := encode_scalar (by unfold Scalar; omega)
 have Hen := Lib.hid hen
 clear hen
 have c0 := h.c0
 have f0 := Blk.free h 0
 have hs' : r.length ≤ 1048576 := by simp at hs; omega
 have hp := h.put r
 have H := Lib.hid hp
 have HK1 := Lib.hid ((Keep.refl b w).set 0 (.string ⟨r.toArray⟩))
 have hc := index_any 117
 have hcn : Lib.indexByte escSet 117 = -1 := by decide
 rw [hcn] at hc
 have Hc := Lib.hid hc
 obtain ⟨z, hz0, hz, hzs, hzc, hze, hzl, hzl2⟩ := open_cons 117 r
 rw [← hz] at c0
 have hzn : (0 : Int) < z.size := by omega
 have hzn1 : (1 : Int) ≤ z.size := by omega
 have hcc : ((z[0].toNat : Nat) : Int) = 117 := by first | (rw [hzc]; done) | (rw [hzc]; rfl)
 clear h hp hcn hc hz hzs hzc
 go_enter Tryz.func115, Tryz.ntmps115
 go_wp2_with fail
 refine (Hc.out _).mono ?_
 rintro e w1 ⟨rfl, rfl⟩
 clear Hc
 go_wp2_with fail
 refine (unit_yes b r q n o _ H.out hs' hu).mono ?_
 rintro e w2 ⟨rfl, hk, hr⟩
 have HK := Lib.hid (HK1.out.trans hk)
 have HR := Lib.hid hr
 clear hk hr hu
 have HN := Lib.hid hn
 obtain ⟨m, hm⟩ : ∃ m : Int, m = (n : Int) := ⟨_, rfl⟩
 rw [← hm]
 have Hen2 : Hid (Utf8.encode m = ⟨(scalarB n).toArray⟩) := Lib.hid (by rw [hm]; exact Hen.out)
 have hmn : (m < 55296) ∨ (57344 ≤ m) := by omega
 clear hm hn1 hn Hen HN
 rcases hmn with hn | hn
 ·
  go_wp2
  go_ret2
  refine ⟨?_, HK.out, HR.out⟩
  unfold strV
  rw [← Hen2.out]
  rfl
 ·
  have hni2 : 55296 ≤ m := by omega
  go_wp2
  go_ret2
  refine ⟨?_, HK.out, HR.out⟩
  unfold strV
  rw [← Hen2.out]
  rfl

set_option maxHeartbeats 1000000 in
theorem escaped_u2 (b : Nat) (r q : Nm) (n : Nat) (o : Int) (w : World) (h : RdAt w b (117 :: r) o) (hs : (117 :: r).length ≤ 1048576) (hu : unit4 r = some (n, q)) (hn : 55296 ≤ n) (hn2 : n < 57344) (ht : takes [92, 117] q = none) : Calls Tryz.prog 115 #[.pointer (some ⟨b, 0, none⟩)] w (ScN w b o) := by
 have c0 := h.c0
 have f0 := Blk.free h 0
 have hs' : r.length ≤ 1048576 := by simp at hs; omega
 have hp := h.put r
 have H := Lib.hid hp
 have HK1 := Lib.hid ((Keep.refl b w).set 0 (.string ⟨r.toArray⟩))
 have hc := index_any 117
 have hcn : Lib.indexByte escSet 117 = -1 := by decide
 rw [hcn] at hc
 have Hc := Lib.hid hc
 obtain ⟨z, hz0, hz, hzs, hzc, hze, hzl, hzl2⟩ := open_cons 117 r
 rw [← hz] at c0
 have hzn : (0 : Int) < z.size := by omega
 have hzn1 : (1 : Int) ≤ z.size := by omega
 have hcc : ((z[0].toNat : Nat) : Int) = 117 := by first | (rw [hzc]; done) | (rw [hzc]; rfl)
 clear h hp hcn hc hz hzs hzc
 go_enter Tryz.func115, Tryz.ntmps115
 go_wp2_with fail
 refine (Hc.out _).mono ?_
 rintro e w1 ⟨rfl, rfl⟩
 clear Hc
 go_wp2_with fail
 refine (unit_yes b r q n o _ H.out hs' hu).mono ?_
 rintro e w2 ⟨rfl, hk, hr⟩
 have HK := Lib.hid (HK1.out.trans hk)
 have HR := Lib.hid hr
 have HT := Lib.hid ht
 obtain ⟨m, hm⟩ : ∃ m : Int, m = (n : Int) := ⟨_, rfl⟩
 rw [← hm]
 have hni : 55296 ≤ m := by omega
 have hni2 : m < 57344 := by omega
 clear hk hr hu ht hm hn hn2
 go_wp2_with fail
 refine (takes_no b q [92, 117] o _ HR.out HT.out).mono ?_
 rintro e w3 ⟨rfl, hk, hr⟩
 have HK3 := Lib.hid (HK.out.trans hk)
 have HR3 := Lib.hid hr
 clear hk hr
 go_wp2
 go_ret2
 exact scN_ba _ HK3.out HR3.out

set_option maxHeartbeats 1000000 in
theorem escaped_u3 (b : Nat) (r q q2 : Nm) (n : Nat) (o : Int) (w : World) (h : RdAt w b (117 :: r) o) (hs : (117 :: r).length ≤ 1048576) (hu : unit4 r = some (n, q)) (hn : 55296 ≤ n) (hn2 : n < 57344) (ht : takes [92, 117] q = some q2) (hu2 : unit4 q2 = none) : Calls Tryz.prog 115 #[.pointer (some ⟨b, 0, none⟩)] w (ScN w b o) := by
 have hq2 : q2.length ≤ 1048576 := by
  have := unit4_len hu
  have := takes_len ht
  simp at hs; omega
 have c0 := h.c0
 have f0 := Blk.free h 0
 have hs' : r.length ≤ 1048576 := by simp at hs; omega
 have hp := h.put r
 have H := Lib.hid hp
 have HK1 := Lib.hid ((Keep.refl b w).set 0 (.string ⟨r.toArray⟩))
 have hc := index_any 117
 have hcn : Lib.indexByte escSet 117 = -1 := by decide
 rw [hcn] at hc
 have Hc := Lib.hid hc
 obtain ⟨z, hz0, hz, hzs, hzc, hze, hzl, hzl2⟩ := open_cons 117 r
 rw [← hz] at c0
 have hzn : (0 : Int) < z.size := by omega
 have hzn1 : (1 : Int) ≤ z.size := by omega
 have hcc : ((z[0].toNat : Nat) : Int) = 117 := by first | (rw [hzc]; done) | (rw [hzc]; rfl)
 clear h hp hcn hc hz hzs hzc
 go_enter Tryz.func115, Tryz.ntmps115
 go_wp2_with fail
 refine (Hc.out _).mono ?_
 rintro e w1 ⟨rfl, rfl⟩
 clear Hc
 go_wp2_with fail
 refine (unit_yes b r q n o _ H.out hs' hu).mono ?_
 rintro e w2 ⟨rfl, hk, hr⟩
 have HK := Lib.hid (HK1.out.trans hk)
 have HR := Lib.hid hr
 have HT := Lib.hid ht
 have HU2 := Lib.hid hu2
 obtain ⟨m, hm⟩ : ∃ m : Int, m = (n : Int) := ⟨_, rfl⟩
 rw [← hm]
 have hni : 55296 ≤ m := by omega
 have hni2 : m < 57344 := by omega
 clear hk hr hu ht hu2 hm hn hn2
 go_wp2_with fail
 refine (takes_yes b q [92, 117] q2 o _ HR.out HT.out).mono ?_
 rintro e w3 ⟨rfl, hk, hr⟩
 have HK3 := Lib.hid (HK.out.trans hk)
 have HR3 := Lib.hid hr
 clear hk hr
 go_wp2_with fail
 refine (unit_no b q2 o _ HR3.out hq2 HU2.out).mono ?_
 rintro e w4 ⟨rfl, hk, hr⟩
 have HK4 := Lib.hid (HK3.out.trans hk)
 have HR4 := Lib.hid hr
 clear hk hr
 go_wp2
 go_ret2
 exact scN_ba _ HK4.out HR4.out

set_option maxHeartbeats 2000000 in
theorem escaped_u4 (b : Nat) (r q q2 q3 : Nm) (n n2 : Nat) (o : Int) (w : World) (h : RdAt w b (117 :: r) o) (hs : (117 :: r).length ≤ 1048576) (hu : unit4 r = some (n, q)) (hn : 55296 ≤ n) (hn2 : n < 57344) (ht : takes [92, 117] q = some q2) (hu2 : unit4 q2 = some (n2, q3)) (hbad : ¬ (n < 56320 ∧ 56320 ≤ n2 ∧ n2 < 57344)) : Calls Tryz.prog 115 #[.pointer (some ⟨b, 0, none⟩)] w (ScN w b o) := by
 have hq2 : q2.length ≤ 1048576 := by
  have := unit4_len hu
  have := takes_len ht
  simp at hs; omega
 have hn65 := (unit4_some hu2).1
 have HB := Lib.hid hbad
 clear hbad
 have c0 := h.c0
 have f0 := Blk.free h 0
 have hs' : r.length ≤ 1048576 := by simp at hs; omega
 have hp := h.put r
 have H := Lib.hid hp
 have HK1 := Lib.hid ((Keep.refl b w).set 0 (.string ⟨r.toArray⟩))
 have hc := index_any 117
 have hcn : Lib.indexByte escSet 117 = -1 := by decide
 rw [hcn] at hc
 have Hc := Lib.hid hc
 obtain ⟨z, hz0, hz, hzs, hzc, hze, hzl, hzl2⟩ := open_cons 117 r
 rw [← hz] at c0
 have hzn : (0 : Int) < z.size := by omega
 have hzn1 : (1 : Int) ≤ z.size := by omega
 have hcc : ((z[0].toNat : Nat) : Int) = 117 := by first | (rw [hzc]; done) | (rw [hzc]; rfl)
 clear h hp hcn hc hz hzs hzc
 go_enter Tryz.func115, Tryz.ntmps115
 go_wp2_with fail
 refine (Hc.out _).mono ?_
 rintro e w1 ⟨rfl, rfl⟩
 clear Hc
 go_wp2_with fail
 refine (unit_yes b r q n o _ H.out hs' hu).mono ?_
 rintro e w2 ⟨rfl, hk, hr⟩
 have HK := Lib.hid (HK1.out.trans hk)
 have HR := Lib.hid hr
 have HT := Lib.hid ht
 have HU2 := Lib.hid hu2
 obtain ⟨m, hm⟩ : ∃ m : Int, m = (n : Int) := ⟨_, rfl⟩
 rw [← hm]
 have hni : 55296 ≤ m := by omega
 have hni2 : m < 57344 := by omega
 have Hm := Lib.hid hm
 clear hk hr hu ht hu2 hm hn hn2
 go_wp2_with fail
 refine (takes_yes b q [92, 117] q2 o _ HR.out HT.out).mono ?_
 rintro e w3 ⟨rfl, hk, hr⟩
 have HK3 := Lib.hid (HK.out.trans hk)
 have HR3 := Lib.hid hr
 clear hk hr
 go_wp2_with fail
 refine (unit_yes b q2 q3 n2 o _ HR3.out hq2 HU2.out).mono ?_
 rintro e w4 ⟨rfl, hk, hr⟩
 have HK4 := Lib.hid (HK3.out.trans hk)
 have HR4 := Lib.hid hr
 obtain ⟨m2, hm2⟩ : ∃ m2 : Int, m2 = (n2 : Int) := ⟨_, rfl⟩
 rw [← hm2]
 have hm0 : 0 ≤ m2 := by omega
 have hm1 : m2 ≤ 65535 := by omega
 have hcas : 56320 ≤ m ∨ (m < 56320 ∧ m2 < 56320) ∨ (m < 56320 ∧ 57344 ≤ m2) := by
  have h1 := HB.out
  have h2 := Hm.out
  rw [hm2, h2]
  omega
 clear hk hr hm2 hn65
 rcases hcas with hcas | ⟨hc1, hc2⟩ | ⟨hc1, hc2⟩
 ·
  go_wp2
  all_goals go_ret2
  all_goals exact scN_ba _ HK4.out HR4.out
 ·
  go_wp2
  all_goals go_ret2
  all_goals exact scN_ba _ HK4.out HR4.out
 ·
  have hc3 : 56320 ≤ m2 := by omega
  have hc4 : decide (m2 < 57344) = false := decide_eq_false (by omega)
  go_wp2
  all_goals go_ret2
  all_goals exact scN_ba _ HK4.out HR4.out

def PairOk (n n2 : Nat) : Prop := 55296 ≤ n ∧ n < 56320 ∧ 56320 ≤ n2 ∧ n2 < 57344
set_option maxHeartbeats 2000000 in
theorem escaped_u5 (b : Nat) (r q q2 q3 : Nm) (n n2 : Nat) (o : Int) (w : World) (h : RdAt w b (117 :: r) o) (hs : (117 :: r).length ≤ 1048576) (hu : unit4 r = some (n, q)) (hn : 55296 ≤ n) (hn3 : n < 56320) (ht : takes [92, 117] q = some q2) (hu2 : unit4 q2 = some (n2, q3)) (hg1 : 56320 ≤ n2) (hg2 : n2 < 57344) : Calls Tryz.prog 115 #[.pointer (some ⟨b, 0, none⟩)] w (ScE w b o (.tuple #[strV (scalarB (pairN n n2)), .bool true]) q3) := by
 have hn2 : n < 57344 := by omega
 have hq2 : q2.length ≤ 1048576 := by
  have := unit4_len hu
  have := takes_len ht
  simp at hs; omega
 have hok : PairOk n n2 := ⟨hn, hn3, hg1, hg2⟩
 clear hg1 hg2 hn3
 have c0 := h.c0
 have f0 := Blk.free h 0
 have hs' : r.length ≤ 1048576 := by simp at hs; omega
 have hp := h.put r
 have H := Lib.hid hp
 have HK1 := Lib.hid ((Keep.refl b w).set 0 (.string ⟨r.toArray⟩))
 have hc := index_any 117
 have hcn : Lib.indexByte escSet 117 = -1 := by decide
 rw [hcn] at hc
 have Hc := Lib.hid hc
 obtain ⟨z, hz0, hz, hzs, hzc, hze, hzl, hzl2⟩ := open_cons 117 r
 rw [← hz] at c0
 have hzn : (0 : Int) < z.size := by omega
 have hzn1 : (1 : Int) ≤ z.size := by omega
 have hcc : ((z[0].toNat : Nat) : Int) = 117 := by first | (rw [hzc]; done) | (rw [hzc]; rfl)
 clear h hp hcn hc hz hzs hzc
 go_enter Tryz.func115, Tryz.ntmps115
 go_wp2_with fail
 refine (Hc.out _).mono ?_
 rintro e w1 ⟨rfl, rfl⟩
 clear Hc
 go_wp2_with fail
 refine (unit_yes b r q n o _ H.out hs' hu).mono ?_
 rintro e w2 ⟨rfl, hk, hr⟩
 have HK := Lib.hid (HK1.out.trans hk)
 have HR := Lib.hid hr
 have HT := Lib.hid ht
 have HU2 := Lib.hid hu2
 obtain ⟨m, hm⟩ : ∃ m : Int, m = (n : Int) := ⟨_, rfl⟩
 rw [← hm]
 have hni : 55296 ≤ m := by omega
 have hni2 : m < 57344 := by omega
 have Hm := Lib.hid hm
 clear hk hr hu ht hu2 hm hn hn2
 go_wp2_with fail
 refine (takes_yes b q [92, 117] q2 o _ HR.out HT.out).mono ?_
 rintro e w3 ⟨rfl, hk, hr⟩
 have HK3 := Lib.hid (HK.out.trans hk)
 have HR3 := Lib.hid hr
 clear hk hr
 go_wp2_with fail
 refine (unit_yes b q2 q3 n2 o _ HR3.out hq2 HU2.out).mono ?_
 rintro e w4 ⟨rfl, hk, hr⟩
 have HK4 := Lib.hid (HK3.out.trans hk)
 have HR4 := Lib.hid hr
 obtain ⟨m2, hm2⟩ : ∃ m2 : Int, m2 = (n2 : Int) := ⟨_, rfl⟩
 rw [← hm2]
 obtain ⟨hn, hn3, hg1, hg2⟩ := hok
 have hm0 : 56320 ≤ m2 := by omega
 have hm1 : m2 < 57344 := by omega
 have hni3 : m < 56320 := by have := Hm.out; omega
 have HP : Hid (strV (scalarB (pairN n n2)) = .string (Utf8.encode ((m - 55296) * 1024 + m2 - 56320 + 65536))) := Lib.hid (by
  have e : (m - 55296) * 1024 + m2 - 56320 + 65536 = (pairN n n2 : Nat) := by
   rw [Hm.out, hm2]; unfold pairN; omega
  rw [e, encode_scalar (by unfold Scalar pairN; omega)]; rfl)
 have hd : decide (m2 < 57344) = true := decide_eq_true hm1
 clear hk hr hm2 hg1 hg2 hn hn3
 go_wp2
 go_ret2
 refine ⟨?_, HK4.out, HR4.out⟩
 rw [HP.out]
 rfl

theorem escaped_no (b : Nat) (s : Nm) (o : Int) (w : World) (h : RdAt w b s o) (hs : s.length ≤ 1048576) (he : escaped s = none) : Calls Tryz.prog 115 #[.pointer (some ⟨b, 0, none⟩)] w (ScN w b o) := by
 cases s with
 | nil => exact escaped_nil b o w h
 | cons c r =>
  simp only [escaped] at he
  cases hc : escB c with
  | some x => rw [hc] at he; cases he
  | none =>
   rw [hc] at he
   simp only at he
   by_cases hu : c ≠ 117
   ·
    exact escaped_not b c r o w h hc hu
   ·
    rw [if_neg hu] at he
    obtain rfl : c = 117 := by simpa using hu
    cases h1 : unit4 r with
    | none => exact escaped_u0 b r o w h hs h1
    | some p =>
     obtain ⟨n, q⟩ := p
     rw [h1] at he
     simp only at he
     by_cases hn : n < 55296 ∨ 57344 ≤ n
     ·
      rw [if_pos hn] at he; cases he
     ·
      rw [if_neg hn] at he
      cases h2 : takes [92, 117] q with
      | none => exact escaped_u2 b r q n o w h hs h1 (by omega) (by omega) h2
      | some q2 =>
       rw [h2] at he
       simp only at he
       cases h3 : unit4 q2 with
       | none => exact escaped_u3 b r q q2 n o w h hs h1 (by omega) (by omega) h2 h3
       | some p3 =>
        obtain ⟨n2, q3⟩ := p3
        rw [h3] at he
        simp only at he
        by_cases hg : n < 56320 ∧ 56320 ≤ n2 ∧ n2 < 57344
        ·
         rw [if_pos hg] at he; cases he
        ·
         exact escaped_u4 b r q q2 q3 n n2 o w h hs h1 (by omega) (by omega) h2 h3 hg
theorem escaped_yes (b : Nat) (s x t : Nm) (o : Int) (w : World) (h : RdAt w b s o) (hs : s.length ≤ 1048576) (he : escaped s = some (x, t)) : Calls Tryz.prog 115 #[.pointer (some ⟨b, 0, none⟩)] w (ScE w b o (.tuple #[strV x, .bool true]) t) := by
 cases s with
 | nil => cases he
 | cons c r =>
  simp only [escaped] at he
  cases hc : escB c with
  | some y =>
   rw [hc] at he
   simp only [Option.some.injEq, Prod.mk.injEq] at he
   obtain ⟨rfl, rfl⟩ := he
   exact escaped_one b c y r o w h hc
  | none =>
   rw [hc] at he
   simp only at he
   by_cases hu : c ≠ 117
   ·
    rw [if_pos hu] at he; cases he
   ·
    rw [if_neg hu] at he
    obtain rfl : c = 117 := by simpa using hu
    cases h1 : unit4 r with
    | none => rw [h1] at he; cases he
    | some p =>
     obtain ⟨n, q⟩ := p
     rw [h1] at he
     simp only at he
     by_cases hn : n < 55296 ∨ 57344 ≤ n
     ·
      rw [if_pos hn] at he
      simp only [Option.some.injEq, Prod.mk.injEq] at he
      obtain ⟨e1, e2⟩ := he
      rw [← e1, ← e2]
      exact escaped_u1 b r q n o w h hs h1 hn
     ·
      rw [if_neg hn] at he
      cases h2 : takes [92, 117] q with
      | none => rw [h2] at he; cases he
      | some q2 =>
       rw [h2] at he
       simp only at he
       cases h3 : unit4 q2 with
       | none => rw [h3] at he; cases he
       | some p3 =>
        obtain ⟨n2, q3⟩ := p3
        rw [h3] at he
        simp only at he
        by_cases hg : n < 56320 ∧ 56320 ≤ n2 ∧ n2 < 57344
        ·
         rw [if_pos hg] at he
         simp only [Option.some.injEq, Prod.mk.injEq] at he
         obtain ⟨e1, e2⟩ := he
         rw [← e1, ← e2]
         exact escaped_u5 b r q q2 q3 n n2 o w h hs h1 (by omega) hg.1 h2 h3 hg.2.1 hg.2.2
        ·
         rw [if_neg hg] at he; cases he
end Go.Proofs.YthnbeebilomchaaGreatDoor

namespace Go.Proofs.YthnbeebilomchaaGreatDoor
open Go Go.RowKit

theorem builderAt_congr {T e : TypeId} {B b : Nat} {p : Value} {bs : List Value} {w w' : World} (h : Lib.BuilderAt T e B b p bs w) (hb : ∀ k, B ≤ k → k < w.heap.size → w'.heap[k]? = w.heap[k]?) : Lib.BuilderAt T e B b p bs w' := by
  obtain ⟨h1, v, h2, h3, h4⟩ := h
  refine ⟨h1, v, (hb b h1 (Array.getElem?_eq_some_iff.1 h2).1).trans h2, ⟨h3.1, ?_⟩, h4⟩
  rcases h3.2 with h5 | ⟨g, cap, cur, r1, r2, r3, r4⟩
  · exact .inl h5
  · exact .inr ⟨g, cap, cur, r1, r2, (hb g r2 (Array.getElem?_eq_some_iff.1 r3).1).trans r3, r4⟩
theorem builder_congr {T e : TypeId} {B b : Nat} {bs : List Value} {w w' : World} (h : Lib.IsBuilder T e B b bs w) (hb : ∀ k, B ≤ k → k < w.heap.size → w'.heap[k]? = w.heap[k]?) : Lib.IsBuilder T e B b bs w' :=
  h.elim (fun k => .inl (builderAt_congr k hb)) (fun k => .inr (builderAt_congr k hb))
theorem builder_ext {T e : TypeId} {B b : Nat} {bs : List Value} {w w' : World} (h : Lib.IsBuilder T e B b bs w) (hb : Below w.heap.size w w') : Lib.IsBuilder T e B b bs w' := builder_congr h fun k _ hk => hb.block k hk
theorem builder_keep {T e : TypeId} {B b r : Nat} {bs : List Value} {w w' : World} (h : Lib.IsBuilder T e B b bs w) (hb : Keep r w w') (hr : r < B) : Lib.IsBuilder T e B b bs w' := builder_congr h fun k hk hl => hb.2 k hl (by omega)
theorem scalarB_len (n : Nat) : (scalarB n).length ≤ 4 := by
  unfold scalarB
  repeat' split
  all_goals simp
theorem unit4_len4 {s r : Nm} {a : Nat} (h : unit4 s = some (a, r)) : r.length + 4 = s.length := by
  unfold unit4 at h
  split at h
  · split at h
    · cases h; simp only [List.length_cons]
    · cases h
  · cases h
theorem escaped_sum {s x r : Nm} (h : escaped s = some (x, r)) : x.length + r.length ≤ s.length := by
 cases s with
 | nil => cases h
 | cons c s =>
  simp only [escaped] at h
  split at h
  ·
   injection h with h
   injection h with e1 e2
   rw [← e1, ← e2]; simp only [List.length_cons, List.length_nil]; omega
  ·
   split at h
   ·
    cases h
   ·
    split at h
    ·
     cases h
    ·
     rename_i a r1 h1
     have l1 := unit4_len4 h1
     split at h
     ·
      injection h with h
      injection h with e1 e2
      have := scalarB_len a
      rw [← e1, ← e2]; simp only [List.length_cons]; omega
     ·
      split at h
      ·
       cases h
      ·
       rename_i r2 h2
       have l2 := takes_len h2
       split at h
       ·
        cases h
       ·
        rename_i b r3 h3
        have l3 := unit4_len4 h3
        split at h
        ·
         injection h with h
         injection h with e1 e2
         have := scalarB_len (pairN a b)
         rw [← e1, ← e2]; simp only [List.length_cons]; omega
        ·
         cases h
theorem Keep.low {b B : Nat} {w w1 w' : World} (h : Keep b w w1) (k : Below B w1 w') (hB : w.heap.size ≤ B) : Keep b w w' :=
  ⟨h.1.trans (k.mono (Nat.zero_le _)), h.2.trans (But.of (k.mono hB))⟩
theorem RdAt.low {w w' : World} {b B : Nat} {s : Nm} {o : Int} (h : RdAt w b s o) (k : Below B w w') (hb : b < B) : RdAt w' b s o := Blk.below h k hb
def leftAt (w : World) (b : Nat) : Nat := match w.cell? ⟨b, 0, none⟩ with | some (.string z) => z.size | _ => 0
theorem leftAt_of {w : World} {b : Nat} {s : Nm} {o : Int} (h : RdAt w b s o) : leftAt w b = s.length := by unfold leftAt; rw [h.c0]; simp only; exact size_nm s
theorem strL_cons (f : Nat) (acc : Nm) (c : UInt8) (r : Nm) : strL (f + 1) acc (c :: r) = if c < 32 then none
    else if c = 34 then some (acc, r)
    else if c = 92 then (match escaped r with | none => none | some (x, r) => strL f (acc ++ x) r)
    else strL f (acc ++ [c]) r := by first | (rw [strL]; done) | (rw [strL]; rfl)

def QuE (w : World) (b : Nat) (o : Int) (res : Option (Nm × Nm)) (e : Ending) (w' : World) : Prop :=
  match res with
  | none => ScN w b o e w'
  | some (x, t) => ScE w b o (.tuple #[strV x, .bool true]) t e w'
theorem quE_none {w : World} {b : Nat} {o : Int} {res : Option (Nm × Nm)} {e : Ending} {w' : World} (h : res = none) (k : ScN w b o e w') : QuE w b o res e w' := by rw [h]; exact k
theorem quE_some {w : World} {b : Nat} {o : Int} {res : Option (Nm × Nm)} {e : Ending} {w' : World} {x t : Nm} (h : res = some (x, t)) (k : ScE w b o (.tuple #[strV x, .bool true]) t e w') : QuE w b o res e w' := by rw [h]; exact k
theorem quote_none (b : Nat) (s : Nm) (o : Int) (w : World) (h : RdAt w b s o) (ht : takes [34] s = none) : Calls Tryz.prog 100 #[.pointer (some ⟨b, 0, none⟩)] w (QuE w b o (quoteL s)) := by
  have hq : quoteL s = none := by unfold quoteL; rw [ht]
  have hc := takes_no b s [34] o w h ht
  have Hc := Lib.hid hc
  have Hq := Lib.hid hq
  clear h ht hc hq
  go_enter Tryz.func100, Tryz.ntmps100
  go_wp2_with fail
  refine Hc.out.mono ?_
  rintro e w1 ⟨rfl, hk, hr⟩
  have HK := Lib.hid hk
  have HR := Lib.hid hr
  clear hk hr Hc
  go_wp2
  go_ret2
  exact quE_none Hq.out (scN_nil HK.out HR.out)

set_option maxHeartbeats 4000000 in
theorem quote_some (b : Nat) (s s1 : Nm) (o : Int) (w : World) (h : RdAt w b s o) (hs : s.length ≤ 1048576) (ht : takes [34] s = some s1) : Calls Tryz.prog 100 #[.pointer (some ⟨b, 0, none⟩)] w (QuE w b o (quoteL s)) := by
 have hq : quoteL s = strL (s1.length + 1) [] s1 := by unfold quoteL; rw [ht]
 have hs1 : s1.length ≤ 1048576 := by have := takes_len ht; omega
 have hc := takes_yes b s [34] s1 o w h ht
 have Hc := Lib.hid hc
 have hbl := Blk.lt h
 rw [hq]
 obtain ⟨res, hres⟩ : ∃ res, res = strL (s1.length + 1) [] s1 := ⟨_, rfl⟩
 rw [← hres]
 have Hres := Lib.hid hres
 clear h ht hc hq hres
 go_enter Tryz.func100, Tryz.ntmps100
 go_wp2_with fail
 refine Hc.out.mono ?_
 rintro e w1 ⟨rfl, hk, hr⟩
 have HK := Lib.hid hk
 have HR := Lib.hid hr
 have hb1 : b < w1.heap.size := Nat.lt_of_lt_of_le hbl hk.size
 have hz1 := hk.size
 clear hk hr Hc
 go_wp2_with fail
 go_loopw [2, 3] (fun _ _ wr => ∃ (acc t : Nm), acc.length + t.length ≤ 1048576 ∧ Hid (res = strL (t.length + 1) acc t) ∧ Hid (RdAt wr b t o) ∧ Hid (Lib.IsBuilder 146 5 w1.heap.size w1.heap.size (Lib.byteCells acc) wr) ∧ Hid (Keep b w wr) ∧ w1.heap.size ≤ wr.heap.size) (fun _ _ wr => leftAt wr b)
 case atStart => exact ⟨[], s1, by simpa using hs1, Hres, Lib.hid (HR.out.ext (below_a1 _ _)), Lib.hid (Lib.fresh_isBuilder _ _ _), Lib.hid (HK.out.alloc _), by simp⟩
 case round =>
  obtain ⟨acc, t, hl, hq, hr, hbu, hk, hz⟩ := hrel
  have c0 := hr.out.c0
  have f0 := Blk.free hr.out 0
  cases t with
  | nil =>
   have hnone : res = none := by rw [hq.out, strL]
   have Hn := Lib.hid hnone
   clear hnone
   go_wp2
   all_goals go_ret2
   all_goals exact quE_none Hn.out (scN_nil hk.out hr.out)
  | cons c r =>
   obtain ⟨z, hz0, hz', hzs, hzc, hze, hzl, hzl2⟩ := open_cons c r
   rw [← hz'] at c0
   have hzn : (0 : Int) < z.size := by omega
   have hzn1 : (1 : Int) ≤ z.size := by omega
   have hcc : ((z[0].toNat : Nat) : Int) = (c.toNat : Int) := by rw [hzc]
   have hq2 := hq.out
   rw [List.length_cons, strL_cons] at hq2
   simp only [List.length_cons] at hl
   have hlt32 : c < 32 ↔ c.toNat < 32 := UInt8.lt_iff_toNat_lt
   clear hz' hzs hzc hq
   by_cases h32 : c < 32
   ·
    rw [if_pos h32] at hq2
    have Hn := Lib.hid hq2
    have hc32 : (c.toNat : Int) < 32 := by have := hlt32.1 h32; omega
    clear hq2 hlt32 h32
    go_wp2
    all_goals go_ret2
    all_goals exact quE_none Hn.out (scN_nil hk.out hr.out)
   ·
    rw [if_neg h32] at hq2
    have hc32 : (32 : Int) ≤ (c.toNat : Int) := by have : ¬ c.toNat < 32 := fun h => h32 (hlt32.2 h); omega
    have hrp := hr.out.put r
    have HRp := Lib.hid hrp
    have hkp := hk.out.set 0 (.string ⟨r.toArray⟩)
    have HKp := Lib.hid hkp
    have hbp : Lib.IsBuilder 146 5 w1.heap.size w1.heap.size (Lib.byteCells acc) (wr.setCell ⟨b, 0, none⟩ (.string ⟨r.toArray⟩)) := builder_keep hbu.out ((Keep.refl b wr).set 0 _) hb1
    have HBp := Lib.hid hbp
    clear hrp hkp hbp hlt32 h32
    by_cases h34 : c = 34
    ·
     rw [if_pos h34] at hq2
     have Hn := Lib.hid hq2
     have hc34 : ((c.toNat : Int) == 34) = true := by first | (rw [h34]; done) | (rw [h34]; rfl)
     clear hq2 h34
     go_wp2_with fail
     refine (Tryz.Builder_String_any w1.heap.size w1.heap.size acc _ HBp.out (by simpa using hz)).mono ?_
     rintro e w2 ⟨rfl, hb2⟩
     have HK2 := Lib.hid (HKp.out.low hb2 hz1)
     have HR2 := Lib.hid (HRp.out.low hb2 hb1)
     clear hb2
     go_wp2
     go_ret2
     exact quE_some Hn.out ⟨rfl, HK2.out, HR2.out⟩
    ·
     rw [if_neg h34] at hq2
     have hn34 : ¬ (c.toNat : Int) = 34 := fun he => h34 (UInt8.toNat_inj.1 (by have : (34 : UInt8).toNat = 34 := rfl; omega))
     have hc34 : ((c.toNat : Int) == 34) = false := by simpa using hn34
     by_cases h92 : c = 92
     ·
      rw [if_pos h92] at hq2
      have hc92 : ((c.toNat : Int) == 92) = true := by first | (rw [h92]; done) | (rw [h92]; rfl)
      clear h34 h92 hn34
      cases he : escaped r with
      | none =>
       rw [he] at hq2
       simp only at hq2
       have Hn := Lib.hid hq2
       have He := Lib.hid he
       clear hq2 he
       go_wp2_with fail
       refine (escaped_no b r o _ HRp.out (by omega) He.out).mono ?_
       rintro e w2 ⟨x2, t2, rfl, hk2, hr2⟩
       have HK2 := Lib.hid (HKp.out.trans hk2)
       have HR2 := Lib.hid hr2
       clear hk2 hr2
       unfold strV
       go_wp2
       go_ret2
       exact quE_none Hn.out (scN_nil HK2.out HR2.out)
      | some p =>
       obtain ⟨x, t2⟩ := p
       rw [he] at hq2
       simp only at hq2
       have hsum := escaped_sum he
       have hlen2 := escaped_len he
       have hq3 : res = strL (t2.length + 1) (acc ++ x) t2 := by rw [hq2]; exact strL_fuel _ _ _ _ (by omega) (by omega)
       have Hn := Lib.hid hq3
       have He := Lib.hid he
       clear hq2 he hq3
       go_wp2_with fail
       refine (escaped_yes b r x t2 o _ HRp.out (by omega) He.out).mono ?_
       rintro e w2 ⟨rfl, hk2, hr2⟩
       have hz2 : w1.heap.size ≤ w2.heap.size := Nat.le_trans (by simpa using hz) hk2.size
       have HB2 := Lib.hid (builder_keep HBp.out hk2 hb1)
       have HK2 := Lib.hid (HKp.out.trans hk2)
       have HR2 := Lib.hid hr2
       have hxs := size_nm x
       clear hk2 hr2
       unfold strV
       obtain ⟨y, hy⟩ : ∃ y : ByteArray, y = ⟨x.toArray⟩ := ⟨_, rfl⟩
       rw [← hy] at hxs ⊢
       have hcells : Lib.byteCells acc ++ Lib.strCells y = Lib.byteCells (acc ++ x) := by rw [hy]; simp [Lib.byteCells, Lib.strCells]
       have Hcells := Lib.hid hcells
       have hys : (Lib.byteCells acc).length + y.size ≤ 140737488355328 := by rw [Lib.byteCells_length]; omega
       clear hy hcells
       go_wp2_with fail
       refine (write_any w1.heap.size w1.heap.size (Lib.byteCells acc) y w2 HB2.out hys hz2).mono ?_
       rintro e w3 ⟨rfl, hat, hb3⟩
       rw [Hcells.out] at hat
       have HK3 := Lib.hid (HK2.out.low hb3 hz1)
       have HR3 := Lib.hid (HR2.out.low hb3 hb1)
       have HB3 : Hid (Lib.IsBuilder 146 5 w1.heap.size w1.heap.size (Lib.byteCells (acc ++ x)) w3) := Lib.hid (.inr hat)
       have hz3 : w1.heap.size ≤ w3.heap.size := Nat.le_trans hz2 hb3.size
       have Hm : Hid (leftAt w3 b < leftAt wr b) := Lib.hid (by rw [leftAt_of HR3.out, leftAt_of hr.out, List.length_cons]; omega)
       have hl3 : (acc ++ x).length + t2.length ≤ 1048576 := by rw [List.length_append]; omega
       clear hat hb3 hxs hys
       go_wp2
       go_roundw
       case rel => exact ⟨acc ++ x, t2, hl3, Hn, HR3, HB3, HK3, hz3⟩
       case measure => exact Hm.out
     ·
      rw [if_neg h92] at hq2
      have hn92 : ¬ (c.toNat : Int) = 92 := fun he => h92 (UInt8.toNat_inj.1 (by have : (92 : UInt8).toNat = 92 := rfl; omega))
      have hc92 : ((c.toNat : Int) == 92) = false := by simpa using hn92
      have Hn := Lib.hid hq2
      have hcells : Lib.byteCells acc ++ [Value.int .u8 c.toNat] = Lib.byteCells (acc ++ [c]) := by simp [Lib.byteCells]
      have Hcells := Lib.hid hcells
      have hys : (Lib.byteCells acc).length + 1 ≤ 140737488355328 := by rw [Lib.byteCells_length]; omega
      clear h34 h92 hn34 hn92 hq2 hcells
      go_wp2_with fail
      refine (writeB_any w1.heap.size w1.heap.size (Lib.byteCells acc) c.toNat _ HBp.out hys (by simpa using hz)).mono ?_
      rintro e w3 ⟨rfl, hat, hb3⟩
      rw [Hcells.out] at hat
      have HK3 := Lib.hid (HKp.out.low hb3 hz1)
      have HR3 := Lib.hid (HRp.out.low hb3 hb1)
      have HB3 : Hid (Lib.IsBuilder 146 5 w1.heap.size w1.heap.size (Lib.byteCells (acc ++ [c])) w3) := Lib.hid (.inr hat)
      have hz3 : w1.heap.size ≤ w3.heap.size := Nat.le_trans (by simpa using hz) hb3.size
      have Hm : Hid (leftAt w3 b < leftAt wr b) := Lib.hid (by rw [leftAt_of HR3.out, leftAt_of hr.out, List.length_cons]; omega)
      have hl3 : (acc ++ [c]).length + r.length ≤ 1048576 := by rw [List.length_append, List.length_cons, List.length_nil]; omega
      clear hat hb3 hys
      go_wp2
      go_roundw
      case rel => exact ⟨acc ++ [c], r, hl3, Hn, HR3, HB3, HK3, hz3⟩
      case measure => exact Hm.out
theorem quote_any (b : Nat) (s : Nm) (o : Int) (w : World) (h : RdAt w b s o) (hs : s.length ≤ 1048576) : Calls Tryz.prog 100 #[.pointer (some ⟨b, 0, none⟩)] w (QuE w b o (quoteL s)) := by
  cases ht : takes [34] s with
  | none => exact quote_none b s o w h ht
  | some s1 => exact quote_some b s s1 o w h hs ht
end Go.Proofs.YthnbeebilomchaaGreatDoor

namespace Go.Proofs.YthnbeebilomchaaGreatDoor
open Go Go.RowKit

theorem atoi_range {l : Nm} {n : Int} (h : Lib.atoiAll l = .ok n) : -9223372036854775808 ≤ n ∧ n ≤ 9223372036854775807 := by
  cases l with
  | nil => simp [Lib.atoiAll] at h
  | cons c r =>
    simp only [Lib.atoiAll] at h
    split at h
    · cases h
    · cases h
    · rename_i u hu
      split at h
      · cases h
      · rename_i h1
        split at h
        · cases h
        · rename_i h2
          injection h with h
          split at h
          · rename_i h3
            have : ¬ 9223372036854775808 < u := fun h4 => h2 ⟨h3, h4⟩
            omega
          · rename_i h3
            have : ¬ 9223372036854775808 ≤ u := fun h4 => h1 ⟨h3, h4⟩
            omega
def AtoiBad (w : World) (e : Ending) (w' : World) : Prop := ∃ (m : Int) (N : Nat), e = .returned (.tuple #[.int .i64 m, .iface 213 (.pointer (some ⟨N, 0, none⟩))]) ∧ Below w.heap.size w w'
theorem atoi_bad (s : ByteArray) (w : World) (hG : Glob w) (hs : s.size ≤ 1048576) (h : ∀ n, Lib.atoiAll s.data.toList ≠ .ok n) : Calls Tryz.prog 117 #[.string s] w (AtoiBad w) := by
  cases ha : Lib.atoiAll s.data.toList with
  | ok n => exact absurd ha (h n)
  | range =>
    obtain ⟨tp, p, hv⟩ := hG.rng
    refine (Tryz.strconv_Atoi_range_var s (by omega) ha tp p w hv).mono ?_
    rintro e w' ⟨N, rfl, -, -, hb⟩
    exact ⟨_, N, rfl, hb⟩
  | _ =>
    obtain ⟨tp, p, hv⟩ := hG.syn
    refine (Any.strconv_Atoi_syntax_var Tryz.laysC172 s (by omega) ha tp p w hv).mono ?_
    rintro e w' ⟨N, rfl, -, -, hb⟩
    exact ⟨_, N, rfl, hb⟩
theorem atoi_good (s : ByteArray) (w : World) (hs : s.size ≤ 1048576) (n : Int) (h : Lib.atoiAll s.data.toList = .ok n) : Calls Tryz.prog 117 #[.string s] w (fun e w' => e = .returned (.tuple #[.int .i64 n, .nilIface]) ∧ Below w.heap.size w w') := by
  refine (Tryz.strconv_Atoi_ok s (by omega) n h w).mono ?_
  rintro e w' ⟨rfl, hw⟩
  refine ⟨rfl, ?_⟩
  rcases hw with rfl | ⟨t', rfl⟩
  · exact Below.refl _ _
  · exact Lib.bytesWorld_below _ _ _
theorem itoa_any (n : Int) (w : World) (hG : Glob w) (h : -9223372036854775808 ≤ n ∧ n ≤ 9223372036854775807) : Calls Tryz.prog 70 #[.int .i64 n] w (fun e w' => e = .returned (.string ⟨(Lib.itoa n).toArray⟩) ∧ Below w.heap.size w w') := by
  refine (Tryz.strconv_Itoa n h.1 h.2 w hG.tab).mono ?_
  rintro e w' ⟨rfl, k, os, hw⟩
  exact ⟨rfl, by rw [hw]; exact Lib.below_grow _ _ (Nat.le_refl _) _ _⟩
theorem figs_eq (s : Nm) : (s.dropWhile fun x => ([48, 49, 50, 51, 52, 53, 54, 55, 56, 57] : Nm).contains x) = s.dropWhile isFig := by
  congr 1
  funext c
  rw [Bool.eq_iff_iff, isFig_iff]
  simp only [List.contains_cons, List.contains_nil, Bool.or_false, Bool.or_eq_true, beq_iff_eq, ← UInt8.toNat_inj]
  have h0 : (48 : UInt8).toNat = 48 := rfl
  have h1 : (49 : UInt8).toNat = 49 := rfl
  have h2 : (50 : UInt8).toNat = 50 := rfl
  have h3 : (51 : UInt8).toNat = 51 := rfl
  have h4 : (52 : UInt8).toNat = 52 := rfl
  have h5 : (53 : UInt8).toNat = 53 := rfl
  have h6 : (54 : UInt8).toNat = 54 := rfl
  have h7 : (55 : UInt8).toNat = 55 := rfl
  have h8 : (56 : UInt8).toNat = 56 := rfl
  have h9 : (57 : UInt8).toNat = 57 := rfl
  omega
def noMinus (s : Nm) : Nm := match takes [45] s with | some r => r | none => s
theorem minus_any (s : Nm) (w : World) : Calls Tryz.prog 116 #[.string ⟨s.toArray⟩, .string { data := #[45] }] w fun e w' => e = .returned (.string ⟨(noMinus s).toArray⟩) ∧ w' = w := by
  have h1 := Tryz.strings_TrimPrefix ⟨s.toArray⟩ ⟨([45] : Nm).toArray⟩ w
  rw [data_nm, data_nm] at h1
  have e : Lib.trimPrefix s [45] = noMinus s := by
    unfold noMinus
    cases h : takes [45] s with
    | none => exact (cut_none h).2
    | some r => exact (cut_some h).2
  rw [e] at h1
  exact h1
theorem figs_any (s : Nm) (w : World) : Calls Tryz.prog 95 #[.string ⟨s.toArray⟩, .string { data := #[48, 49, 50, 51, 52, 53, 54, 55, 56, 57] }] w (Ret w (fun v _ => v = .string ⟨(s.dropWhile isFig).toArray⟩)) := by
  have := trim_any s [48, 49, 50, 51, 52, 53, 54, 55, 56, 57] w (by decide) (by decide)
  rw [figs_eq] at this
  exact this

def NuE (w : World) (b : Nat) (o : Int) (res : Option (Int × Nm)) (e : Ending) (w' : World) : Prop :=
  match res with
  | none => ∃ (m : Int) (t : Nm), e = .returned (.tuple #[.int .i64 m, .bool false]) ∧ Keep b w w' ∧ RdAt w' b t o
  | some (n, t) => ScE w b o (.tuple #[.int .i64 n, .bool true]) t e w'
theorem nuE_none {w : World} {b : Nat} {o : Int} {res : Option (Int × Nm)} {w' : World} {m : Int} {t : Nm} (h : res = none) (h1 : Keep b w w') (h2 : RdAt w' b t o) : NuE w b o res (.returned (.tuple #[.int .i64 m, .bool false])) w' := by rw [h]; exact ⟨m, t, rfl, h1, h2⟩
theorem nuE_some {w : World} {b : Nat} {o : Int} {res : Option (Int × Nm)} {w' : World} {n : Int} {t : Nm} (h : res = some (n, t)) (h1 : Keep b w w') (h2 : RdAt w' b t o) : NuE w b o res (.returned (.tuple #[.int .i64 n, .bool true])) w' := by rw [h]; exact ⟨rfl, h1, h2⟩
theorem numRest_eq (s : Nm) : numRest s = (noMinus s).dropWhile isFig := by unfold numRest noMinus; rfl

set_option maxHeartbeats 2000000 in
theorem number_any (b : Nat) (s : Nm) (o : Int) (w : World) (hG : Glob w) (hb : 8 ≤ b) (h : RdAt w b s o) (hs : s.length ≤ 1048576) : Calls Tryz.prog 102 #[.pointer (some ⟨b, 0, none⟩)] w (NuE w b o (numL s)) := by
 have c0 := h.c0
 have H := Lib.hid h
 have HG := Lib.hid hG
 have hz := size_nm s
 have hy := size_nm (numRest s)
 have hle := numRest_len s
 have het := ext_to s (s.length - (numRest s).length)
 have Hm := Lib.hid (minus_any s)
 have Hf := Lib.hid (figs_any (noMinus s))
 rw [← numRest_eq] at Hf
 have hnum : numL s = match Lib.atoiAll (numHead s) with
  | .ok n => if Lib.itoa n = numHead s ∧ -9007199254740992 ≤ n ∧ n ≤ 9007199254740992 then some (n, numRest s) else none
  | _ => none := rfl
 have hhd : s.take (s.length - (numRest s).length) = numHead s := rfl
 rw [hhd] at het
 have hqs : (numHead s).length ≤ 1048576 := by unfold numHead; rw [List.length_take]; omega
 have hq := size_nm (numHead s)
 obtain ⟨res, hres⟩ : ∃ res, res = numL s := ⟨_, rfl⟩
 rw [← hres] at hnum ⊢
 clear hres hhd h hG
 have hRd : Hid (∀ w', Below w.heap.size w w' → RdAt w' b s o) := Lib.hid fun w' hw => H.out.ext hw
 generalize numRest s = t at *
 generalize numHead s = hd at *
 generalize noMinus s = nm at *
 obtain ⟨z, hze⟩ : ∃ z : ByteArray, z = ⟨s.toArray⟩ := ⟨_, rfl⟩
 obtain ⟨y, hye⟩ : ∃ y : ByteArray, y = ⟨t.toArray⟩ := ⟨_, rfl⟩
 obtain ⟨q, hqe⟩ : ∃ q : ByteArray, q = ⟨hd.toArray⟩ := ⟨_, rfl⟩
 rw [← hze] at c0 hz het Hm
 rw [← hye] at hy Hf
 rw [← hqe] at het hq
 have het2 : z.extract 0 (z.size - y.size) = q := by rw [hz, hy]; exact het
 have hyz : y.size ≤ z.size := by omega
 have hzs : z.size ≤ 1048576 := by omega
 have hqd : q.data.toList = hd := by rw [hqe, data_nm]
 have hqz : q.size ≤ 1048576 := by omega
 have Hye := Lib.hid hye
 have Hqe := Lib.hid hqe
 have hC : Hid (∀ w', Below w.heap.size w w' → w'.cell? ⟨b, 0, none⟩ = some (.string z) ∧ w'.frozen? ⟨b, 0, none⟩ = false) := Lib.hid fun w' hw => by
  rw [hze]; exact ⟨(hRd.out w' hw).c0, Blk.free (hRd.out w' hw) 0⟩
 have Het := Lib.hid het2
 have Hnum := Lib.hid hnum
 have Hqd := Lib.hid hqd
 clear hz hy hle het hq hye hqe hze het2 hnum hqd
 go_enter Tryz.func102, Tryz.ntmps102
 go_wp2_with fail
 refine (Hm.out _).mono ?_
 rintro e w1 ⟨rfl, rfl⟩
 go_wp2_with fail
 refine (Hf.out _).mono ?_
 rintro e w2 ⟨_, rfl, hb2, rfl⟩
 obtain ⟨c2, f2⟩ := hC.out w2 hb2
 have Hb2 := Lib.hid hb2
 have het2 := Het.out
 have HG2 := Lib.hid (HG.out.ext hb2)
 clear hb2 c0
 go_wp2_with fail
 go_quiet (fail)
 go_wp2_with fail
 generalize hW : w2.drewN _ = W
 have hbW : Below w1.heap.size w1 W := by rw [← hW]; exact below_drew Hb2.out _
 have HbW := Lib.hid hbW
 have HGW := Lib.hid (HG.out.ext hbW)
 clear hW hbW c2 f2 Hb2 HG2 het2
 cases ha : Lib.atoiAll q.data.toList with
 | ok n =>
  obtain ⟨r1, r2⟩ := atoi_range ha
  have hR : Hid (-9223372036854775808 ≤ n ∧ n ≤ 9223372036854775807) := Lib.hid ⟨r1, r2⟩
  have hres : res = if Lib.itoa n = q.data.toList ∧ -9007199254740992 ≤ n ∧ n ≤ 9007199254740992 then some (n, t) else none := by rw [Hnum.out, ← Hqd.out, ha]
  have Hres := Lib.hid hres
  have Ha := Lib.hid ha
  clear hres r1 r2 ha
  refine (atoi_good q W hqz n Ha.out).mono ?_
  rintro e w3 ⟨rfl, hb3⟩
  have hb3' := HbW.out.trans (hb3.mono HbW.out.size)
  have Hb3 := Lib.hid hb3'
  have HG3 := Lib.hid (HGW.out.ext hb3)
  obtain ⟨c3, f3⟩ := hC.out w3 hb3'
  have hr3 := (hRd.out w3 hb3').put t
  rw [← Hye.out] at hr3
  have hk3 := (((Keep.refl b w1).ext Hb3.out).set 0 (.string y))
  have HR3 := Lib.hid hr3
  have HK3 := Lib.hid hk3
  have HG4 := Lib.hid (hk3.glob HG.out hb)
  clear hb3 hb3' hr3 hk3
  go_wp2_with fail
  refine (itoa_any n _ HG4.out hR.out).mono ?_
  rintro e w4 ⟨rfl, hb4⟩
  have HR4 := Lib.hid (HR3.out.ext hb4)
  have HK4 := Lib.hid (HK3.out.ext hb4)
  obtain ⟨x, hx⟩ : ∃ x : ByteArray, x = ⟨(Lib.itoa n).toArray⟩ := ⟨_, rfl⟩
  rw [← hx]
  by_cases he : Lib.itoa n = q.data.toList
  ·
   have hze : (x.toList == q.toList) = true := by
    rw [hx, Lib.toList_data, Lib.toList_data]; simpa using he
   have He := Lib.hid he
   clear hb4 hx he
   by_cases h1 : -9007199254740992 ≤ n
   ·
    by_cases h2 : n ≤ 9007199254740992
    ·
     have hs : res = some (n, t) := by rw [Hres.out, if_pos ⟨He.out, h1, h2⟩]
     have Hs := Lib.hid hs
     clear hs
     go_wp2
     go_ret2
     exact nuE_some Hs.out HK4.out HR4.out
    ·
     have hs : res = none := by rw [Hres.out, if_neg (fun h => h2 h.2.2)]
     have Hs := Lib.hid hs
     have h3 : 9007199254740992 < n := by omega
     have h4 : decide (n ≤ 9007199254740992) = false := decide_eq_false h2
     clear hs
     go_wp2
     go_ret2
     exact nuE_none Hs.out HK4.out HR4.out
   ·
    have hs : res = none := by rw [Hres.out, if_neg (fun h => h1 h.2.1)]
    have Hs := Lib.hid hs
    have h3 : n < -9007199254740992 := by omega
    clear hs
    go_wp2
    go_ret2
    exact nuE_none Hs.out HK4.out HR4.out
  ·
   have hze : (x.toList == q.toList) = false := by
    rw [hx, Lib.toList_data, Lib.toList_data]; simpa using he
   have hs : res = none := by rw [Hres.out, if_neg (fun h => he h.1)]
   have Hs := Lib.hid hs
   clear hb4 hx he hs
   go_wp2
   go_ret2
   exact nuE_none Hs.out HK4.out HR4.out
 | _ =>
  have hres : res = none := by rw [Hnum.out, ← Hqd.out, ha]
  have Hres := Lib.hid hres
  have Ha := Lib.hid ha
  clear hres ha
  refine (atoi_bad q W HGW.out hqz (fun n h => by rw [Ha.out] at h; cases h)).mono ?_
  rintro e w3 ⟨m, N, rfl, hb3⟩
  have hb3' := HbW.out.trans (hb3.mono HbW.out.size)
  have Hb3 := Lib.hid hb3'
  obtain ⟨c3, f3⟩ := hC.out w3 hb3'
  have hr3 := (hRd.out w3 hb3').put t
  rw [← Hye.out] at hr3
  have HR3 := Lib.hid hr3
  have HK3 := Lib.hid (((Keep.refl b w1).ext Hb3.out).set 0 (.string y))
  clear hb3 hb3' hr3
  go_wp2
  go_ret2
  exact nuE_none Hres.out HK3.out HR3.out
end Go.Proofs.YthnbeebilomchaaGreatDoor

namespace Go.Proofs.YthnbeebilomchaaGreatDoor
open Go Go.RowKit

def leafD (s : Int) (o : Bool) (n : Int) (t : Nm) : VD := .mk s o n t none 0 [] none 0 []
theorem leaf_v (s : Int) (o : Bool) (n : Int) (t : Nm) : (leafD s o n t).v = .mk s o n t [] [] := by simp [leafD, VD.v, vsOf]

def VaE (w : World) (b : Nat) (o : Int) (res : Res) (e : Ending) (w' : World) : Prop :=
  match res with
  | .out => True
  | .err k => ∃ (d : VD) (t : Nm) (o' : Int), e = .returned (.tuple #[d.val, .int .i64 k]) ∧ Keep b w w' ∧ RdAt w' b t o' ∧ o ≤ o' ∧ o' ≤ o + 1
  | .ok v t => ∃ d : VD, e = .returned (.tuple #[d.val, .int .i64 0]) ∧ d.v = v ∧ ValAt w' (fun k => w.heap.size ≤ k) d ∧ Keep b w w' ∧ RdAt w' b t o
theorem vaE_err {w : World} {b : Nat} {o : Int} {res : Res} {w' : World} {k : Int} {t : Nm} {o' : Int} (h : res = .err k) (h1 : Keep b w w') (h2 : RdAt w' b t o') (hlo : o ≤ o' := by omega) (hhi : o' ≤ o + 1 := by omega) :
    VaE w b o res (.returned (.tuple #[.agg #[.int .i64 0, .bool false, .int .i64 0, .string { data := #[] }, .slice none 0 0, .slice none 0 0], .int .i64 k])) w' := by rw [h]; exact ⟨leafD 0 false 0 [], t, o', rfl, h1, h2, hlo, hhi⟩
theorem vaE_leaf {w : World} {b : Nat} {o : Int} {res : Res} {w' : World} {s : Int} {f : Bool} {n : Int} {x t : Nm} (h : res = .ok (.mk s f n x [] []) t) (h1 : Keep b w w') (h2 : RdAt w' b t o) :
    VaE w b o res (.returned (.tuple #[.agg #[.int .i64 s, .bool f, .int .i64 n, .string ⟨x.toArray⟩, .slice none 0 0, .slice none 0 0], .int .i64 0])) w' := by
  rw [h]; exact ⟨leafD s f n x, rfl, leaf_v _ _ _ _, .leaf, h1, h2⟩

theorem made_no (v0 v1 v2 v3 v4 v5 : Value) (w : World) : Calls Tryz.prog 101 #[.agg #[v0, v1, v2, v3, v4, v5], .bool false] w (Ret w fun v _ => v = .tuple #[.agg #[.int .i64 0, .bool false, .int .i64 0, .string { data := #[] }, .slice none 0 0, .slice none 0 0], .int .i64 21]) := by
  go_enter Tryz.func101, Tryz.ntmps101
  go_wp2
  refine bodyPost_ret (v := .tuple #[.agg #[.int .i64 0, .bool false, .int .i64 0, .string { data := #[] }, .slice none 0 0, .slice none 0 0], .int .i64 21]) (by simp [results, Tryz.results101, go_sem]) rfl ?_
  exact ⟨_, rfl, (below_a1 w _).alloc (by simp) _, rfl⟩
theorem made_yes (s : Int) (f : Bool) (n : Int) (x : ByteArray) (w : World) : Calls Tryz.prog 101 #[.agg #[.int .i64 s, .bool f, .int .i64 n, .string x, .slice none 0 0, .slice none 0 0], .bool true] w (Ret w fun v _ => v = .tuple #[.agg #[.int .i64 s, .bool f, .int .i64 n, .string x, .slice none 0 0, .slice none 0 0], .int .i64 0]) := by
  go_enter Tryz.func101, Tryz.ntmps101
  go_wp2
  refine bodyPost_ret (v := .tuple #[.agg #[.int .i64 s, .bool f, .int .i64 n, .string x, .slice none 0 0, .slice none 0 0], .int .i64 0]) (by simp [results, Tryz.results101, go_sem]) rfl ?_
  exact ⟨_, rfl, (below_a1 w _).alloc (by simp) _, rfl⟩

def zeroV : Array Value := #[.int .i64 0, .bool false, .int .i64 0, .string { data := #[] }, .slice none 0 0, .slice none 0 0]
theorem comes_one (s : Nm) : comes (fun c => ([34] : Nm).contains c) s = comes (· == 34) s := by
  cases s with
  | nil => rfl
  | cons c s =>
    simp only [comes]
    rw [Bool.eq_iff_iff]; simp
theorem comes_num (s : Nm) : comes (fun c => ([45, 48, 49, 50, 51, 52, 53, 54, 55, 56, 57] : Nm).contains c) s = comes (fun c => c == 45 || isFig c) s := by
  cases s with
  | nil => rfl
  | cons c s =>
    simp only [comes]
    rw [Bool.eq_iff_iff, Bool.or_eq_true, isFig_iff]
    simp only [List.contains_cons, List.contains_nil, Bool.or_false, Bool.or_eq_true, beq_iff_eq, ← UInt8.toNat_inj]
    have h45 : (45 : UInt8).toNat = 45 := rfl
    have h0 : (48 : UInt8).toNat = 48 := rfl
    have h1 : (49 : UInt8).toNat = 49 := rfl
    have h2 : (50 : UInt8).toNat = 50 := rfl
    have h3 : (51 : UInt8).toNat = 51 := rfl
    have h4 : (52 : UInt8).toNat = 52 := rfl
    have h5 : (53 : UInt8).toNat = 53 := rfl
    have h6 : (54 : UInt8).toNat = 54 := rfl
    have h7 : (55 : UInt8).toNat = 55 := rfl
    have h8 : (56 : UInt8).toNat = 56 := rfl
    have h9 : (57 : UInt8).toNat = 57 := rfl
    omega
theorem Keep.blk {b : Nat} {w w' : World} (h : Keep b w w') {g : Nat} {cs : Array Value} {T : TypeId} (k : Blk w g cs T) (hg : g ≠ b) : Blk w' g cs T := (h.block k.lt hg).trans k
theorem Keep.since {b : Nat} {w w' : World} {o : Obj} (h : Keep b (w.alloc o) w') : Keep b w w' := (((Keep.refl b w).alloc o).trans h)
theorem Keep.put {b : Nat} {w w' : World} (h : Keep b w w') {g : Nat} (hg : w.heap.size ≤ g) (j : Nat) (u : Value) : Keep b w (w'.setCell ⟨g, j, none⟩ u) :=
  ⟨h.1.setCell (Nat.zero_le _) _, fun k hk hne => (Below.heap_setCell w' ⟨g, j, none⟩ u k (by show k ≠ g; omega)).trans (h.2 k hk hne)⟩

theorem store6 {w : World} {g : Nat} {v0 v1 v2 v3 v4 v5 u0 u1 u2 u3 u4 u5 : Value} {T : TypeId} (h : Blk w g #[v0, v1, v2, v3, v4, v5] T) :
    Blk ((((((w.setCell ⟨g, 0, none⟩ u0).setCell ⟨g, 1, none⟩ u1).setCell ⟨g, 2, none⟩ u2).setCell ⟨g, 3, none⟩ u3).setCell ⟨g, 4, none⟩ u4).setCell ⟨g, 5, none⟩ u5) g #[u0, u1, u2, u3, u4, u5] T :=
  ((((((h.set 0 u0).set 1 u1).set 2 u2).set 3 u3).set 4 u4).set 5 u5)
theorem Keep.put6 {b : Nat} {w w' : World} (h : Keep b w w') {g : Nat} (hg : w.heap.size ≤ g) (u0 u1 u2 u3 u4 u5 : Value) :
    Keep b w ((((((w'.setCell ⟨g, 0, none⟩ u0).setCell ⟨g, 1, none⟩ u1).setCell ⟨g, 2, none⟩ u2).setCell ⟨g, 3, none⟩ u3).setCell ⟨g, 4, none⟩ u4).setCell ⟨g, 5, none⟩ u5) :=
  ((((((h.put hg 0 u0).put hg 1 u1).put hg 2 u2).put hg 3 u3).put hg 4 u4).put hg 5 u5)
theorem RdAt.put6 {b : Nat} {w : World} {s : Nm} {o : Int} (h : RdAt w b s o) {g : Nat} (hg : b ≠ g) (u0 u1 u2 u3 u4 u5 : Value) :
    RdAt ((((((w.setCell ⟨g, 0, none⟩ u0).setCell ⟨g, 1, none⟩ u1).setCell ⟨g, 2, none⟩ u2).setCell ⟨g, 3, none⟩ u3).setCell ⟨g, 4, none⟩ u4).setCell ⟨g, 5, none⟩ u5) b s o :=
  ((((((Blk.other h (p := ⟨g, 0, none⟩) hg u0).other (p := ⟨g, 1, none⟩) hg u1).other (p := ⟨g, 2, none⟩) hg u2).other (p := ⟨g, 3, none⟩) hg u3).other (p := ⟨g, 4, none⟩) hg u4).other (p := ⟨g, 5, none⟩) hg u5)
set_option maxHeartbeats 2000000 in
theorem plain_text (b : Nat) (s : Nm) (o : Int) (w : World) (hG : Glob w) (_hb8 : 8 ≤ b) (h : RdAt w b s o) (hs : s.length ≤ 1048576) (hc : comes (· == 34) s = true) : Calls Tryz.prog 77 #[.pointer (some ⟨b, 0, none⟩)] w (VaE w b o (plainL s)) := by
 have hpl : plainL s = match quoteL s with | none => .err 21 | some (t, r) => .ok (.mk 3 false 0 t [] []) r := by unfold plainL; rw [hc]; rfl
 have Hpl := Lib.hid hpl
 have HG := Lib.hid hG
 obtain ⟨res, hres⟩ : ∃ res, res = plainL s := ⟨_, rfl⟩
 rw [← hres] at Hpl ⊢
 have hbl := Blk.lt h
 have h1 := comes_any b s [34] o (w.alloc (.cells zeroV 36)) (h.ext (below_a1 _ _))
 rw [comes_one, hc] at h1
 have H1 := Lib.hid h1
 have hg : w.heap.size ≠ b := by omega
 have hz0 : Blk (w.alloc (.cells zeroV 36)) w.heap.size zeroV 36 := Blk.new rfl
 have HZ0 := Lib.hid hz0
 unfold zeroV at H1
 clear hpl hres h1 hc h hz0 hG
 go_enter Tryz.func77, Tryz.ntmps77
 go_wp2_with fail
 refine H1.out.mono ?_
 rintro e w1 ⟨rfl, hk1, hr1⟩
 have HZ1 := Lib.hid (hk1.blk HZ0.out hg)
 have HK1 := Lib.hid hk1.since
 have HR1 := Lib.hid hr1
 clear hk1 hr1
 go_wp2_with fail
 refine (quote_any b s o w1 HR1.out hs).mono ?_
 cases hq : quoteL s with
 | none =>
  rintro e w2 ⟨x, t, rfl, hk2, hr2⟩
  have HZ2 := Lib.hid (hk2.blk HZ1.out hg)
  have HK2 := Lib.hid (HK1.out.trans hk2)
  have HR2 := Lib.hid hr2
  have hE : res = .err 21 := by rw [Hpl.out, hq]
  have HE := Lib.hid hE
  clear hk2 hr2 hE hq
  unfold strV
  go_wp2_with fail
  refine (made_no _ _ _ _ _ _ _).mono ?_
  rintro e w3 ⟨_, rfl, hb3, rfl⟩
  have hz3 := HZ2.out.ext hb3
  have HK3 := Lib.hid (HK2.out.ext hb3)
  have HR3 := Lib.hid (HR2.out.ext hb3)
  clear hb3
  have c0 := hz3.cell 0
  have c1 := hz3.cell 1
  have c2 := hz3.cell 2
  have c3 := hz3.cell 3
  have c4 := hz3.cell 4
  have c5 := hz3.cell 5
  have f0 := hz3.free 0
  have f1 := hz3.free 1
  have f2 := hz3.free 2
  have f3 := hz3.free 3
  have f4 := hz3.free 4
  have f5 := hz3.free 5
  unfold zeroV at c0 c1 c2 c3 c4 c5
  simp only [List.getElem?_toArray, List.getElem?_cons_zero, List.getElem?_cons_succ] at c0 c1 c2 c3 c4 c5
  have hlt := hz3.lt
  unfold zeroV at hz3
  have hst := store6 (u0 := .int .i64 0) (u1 := .bool false) (u2 := .int .i64 0) (u3 := .string { data := #[] }) (u4 := .slice none 0 0) (u5 := .slice none 0 0) hz3
  have hkp := HK3.out.put6 (Nat.le_refl w.heap.size) (.int .i64 0) (.bool false) (.int .i64 0) (.string { data := #[] }) (.slice none 0 0) (.slice none 0 0)
  have hrp := HR3.out.put6 hg.symm (.int .i64 0) (.bool false) (.int .i64 0) (.string { data := #[] }) (.slice none 0 0) (.slice none 0 0)
  have HST := Lib.hid hst
  have HKP := Lib.hid hkp
  have HRP := Lib.hid hrp
  clear hst hkp hrp hz3
  go_wp2
  generalize hW : ((((((w3.setCell ⟨w.heap.size, 0, none⟩ (.int .i64 0)).setCell ⟨w.heap.size, 1, none⟩ (.bool false)).setCell ⟨w.heap.size, 2, none⟩ (.int .i64 0)).setCell ⟨w.heap.size, 3, none⟩ (.string { data := #[] })).setCell ⟨w.heap.size, 4, none⟩ (.slice none 0 0)).setCell ⟨w.heap.size, 5, none⟩ (.slice none 0 0)) = W at *
  have d0 := HST.out.cell 0
  have d1 := HST.out.cell 1
  have d2 := HST.out.cell 2
  have d3 := HST.out.cell 3
  have d4 := HST.out.cell 4
  have d5 := HST.out.cell 5
  simp only [List.getElem?_toArray, List.getElem?_cons_zero, List.getElem?_cons_succ] at d0 d1 d2 d3 d4 d5
  refine bodyPost_ret (v := .tuple #[.agg #[.int .i64 0, .bool false, .int .i64 0, .string { data := #[] }, .slice none 0 0, .slice none 0 0], .int .i64 21]) (by simp [results, Tryz.results77, go_sem, d0, d1, d2, d3, d4, d5]) rfl ?_
  exact vaE_err HE.out HKP.out HRP.out
 | some p =>
  obtain ⟨x, t⟩ := p
  rintro e w2 ⟨rfl, hk2, hr2⟩
  have HZ2 := Lib.hid (hk2.blk HZ1.out hg)
  have HK2 := Lib.hid (HK1.out.trans hk2)
  have HR2 := Lib.hid hr2
  have hE : res = .ok (.mk 3 false 0 x [] []) t := by rw [Hpl.out, hq]
  have HE := Lib.hid hE
  clear hk2 hr2 hE hq
  unfold strV
  go_wp2_with fail
  refine (made_yes _ _ _ _ _).mono ?_
  rintro e w3 ⟨_, rfl, hb3, rfl⟩
  have hz3 := HZ2.out.ext hb3
  have HK3 := Lib.hid (HK2.out.ext hb3)
  have HR3 := Lib.hid (HR2.out.ext hb3)
  clear hb3
  have c0 := hz3.cell 0
  have c1 := hz3.cell 1
  have c2 := hz3.cell 2
  have c3 := hz3.cell 3
  have c4 := hz3.cell 4
  have c5 := hz3.cell 5
  have f0 := hz3.free 0
  have f1 := hz3.free 1
  have f2 := hz3.free 2
  have f3 := hz3.free 3
  have f4 := hz3.free 4
  have f5 := hz3.free 5
  unfold zeroV at c0 c1 c2 c3 c4 c5
  simp only [List.getElem?_toArray, List.getElem?_cons_zero, List.getElem?_cons_succ] at c0 c1 c2 c3 c4 c5
  have hlt := hz3.lt
  unfold zeroV at hz3
  have hst := store6 (u0 := .int .i64 3) (u1 := .bool false) (u2 := .int .i64 0) (u3 := .string ⟨x.toArray⟩) (u4 := .slice none 0 0) (u5 := .slice none 0 0) hz3
  have hkp := HK3.out.put6 (Nat.le_refl w.heap.size) (.int .i64 3) (.bool false) (.int .i64 0) (.string ⟨x.toArray⟩) (.slice none 0 0) (.slice none 0 0)
  have hrp := HR3.out.put6 hg.symm (.int .i64 3) (.bool false) (.int .i64 0) (.string ⟨x.toArray⟩) (.slice none 0 0) (.slice none 0 0)
  have HST := Lib.hid hst
  have HKP := Lib.hid hkp
  have HRP := Lib.hid hrp
  clear hst hkp hrp hz3
  go_wp2
  generalize hW : ((((((w3.setCell ⟨w.heap.size, 0, none⟩ (.int .i64 3)).setCell ⟨w.heap.size, 1, none⟩ (.bool false)).setCell ⟨w.heap.size, 2, none⟩ (.int .i64 0)).setCell ⟨w.heap.size, 3, none⟩ (.string ⟨x.toArray⟩)).setCell ⟨w.heap.size, 4, none⟩ (.slice none 0 0)).setCell ⟨w.heap.size, 5, none⟩ (.slice none 0 0)) = W at *
  have d0 := HST.out.cell 0
  have d1 := HST.out.cell 1
  have d2 := HST.out.cell 2
  have d3 := HST.out.cell 3
  have d4 := HST.out.cell 4
  have d5 := HST.out.cell 5
  simp only [List.getElem?_toArray, List.getElem?_cons_zero, List.getElem?_cons_succ] at d0 d1 d2 d3 d4 d5
  refine bodyPost_ret (v := .tuple #[.agg #[.int .i64 3, .bool false, .int .i64 0, .string ⟨x.toArray⟩, .slice none 0 0, .slice none 0 0], .int .i64 0]) (by simp [results, Tryz.results77, go_sem, d0, d1, d2, d3, d4, d5]) rfl ?_
  exact vaE_leaf HE.out HKP.out HRP.out
set_option maxHeartbeats 2000000 in
theorem plain_num (b : Nat) (s : Nm) (o : Int) (w : World) (hG : Glob w) (hb8 : 8 ≤ b) (h : RdAt w b s o) (hs : s.length ≤ 1048576) (hc : comes (· == 34) s = false) (hd : comes (fun c => c == 45 || isFig c) s = true) : Calls Tryz.prog 77 #[.pointer (some ⟨b, 0, none⟩)] w (VaE w b o (plainL s)) := by
 have hpl : plainL s = match numL s with | none => .err 21 | some (n, r) => .ok (.mk 2 false n [] [] []) r := by unfold plainL; rw [hc, hd]; rfl
 have Hpl := Lib.hid hpl
 have HG := Lib.hid hG
 obtain ⟨res, hres⟩ : ∃ res, res = plainL s := ⟨_, rfl⟩
 rw [← hres] at Hpl ⊢
 have hbl := Blk.lt h
 have h1 := comes_any b s [34] o (w.alloc (.cells zeroV 36)) (h.ext (below_a1 _ _))
 rw [comes_one, hc] at h1
 have H1 := Lib.hid h1
 have hg : w.heap.size ≠ b := by omega
 have hz0 : Blk (w.alloc (.cells zeroV 36)) w.heap.size zeroV 36 := Blk.new rfl
 have HZ0 := Lib.hid hz0
 unfold zeroV at H1
 have h2 : Hid (∀ w, RdAt w b s o → Calls Tryz.prog 99 #[.pointer (some ⟨b, 0, none⟩), .string { data := #[45, 48, 49, 50, 51, 52, 53, 54, 55, 56, 57] }] w (ScE w b o (.bool true) s)) := Lib.hid fun w hw => by
  have := comes_any b s [45, 48, 49, 50, 51, 52, 53, 54, 55, 56, 57] o w hw
  rw [comes_num, hd] at this; exact this
 clear hpl hres h1 hc h hz0 hG hd
 go_enter Tryz.func77, Tryz.ntmps77
 go_wp2_with fail
 refine H1.out.mono ?_
 rintro e w1 ⟨rfl, hk1, hr1⟩
 have HZ1 := Lib.hid (hk1.blk HZ0.out hg)
 have HK1 := Lib.hid hk1.since
 have HR1 := Lib.hid hr1
 clear hk1 hr1
 go_wp2_with fail
 refine (h2.out w1 HR1.out).mono ?_
 rintro e w9 ⟨rfl, hk, hr⟩
 have HZ9 := Lib.hid (hk.blk HZ1.out hg)
 have HK9 := Lib.hid (HK1.out.trans hk)
 have HR9 := Lib.hid hr
 clear hk hr
 have HG9 := Lib.hid (HK9.out.glob HG.out hb8)
 go_wp2_with fail
 refine (number_any b s o w9 HG9.out hb8 HR9.out hs).mono ?_
 cases hq : numL s with
 | none =>
  rintro e w2 ⟨m, t, rfl, hk2, hr2⟩
  have HZ2 := Lib.hid (hk2.blk HZ9.out hg)
  have HK2 := Lib.hid (HK9.out.trans hk2)
  have HR2 := Lib.hid hr2
  have hE : res = .err 21 := by rw [Hpl.out, hq]
  have HE := Lib.hid hE
  clear hk2 hr2 hE hq
  go_wp2_with fail
  refine (made_no _ _ _ _ _ _ _).mono ?_
  rintro e w3 ⟨_, rfl, hb3, rfl⟩
  have hz3 := HZ2.out.ext hb3
  have HK3 := Lib.hid (HK2.out.ext hb3)
  have HR3 := Lib.hid (HR2.out.ext hb3)
  clear hb3
  have c0 := hz3.cell 0
  have c1 := hz3.cell 1
  have c2 := hz3.cell 2
  have c3 := hz3.cell 3
  have c4 := hz3.cell 4
  have c5 := hz3.cell 5
  have f0 := hz3.free 0
  have f1 := hz3.free 1
  have f2 := hz3.free 2
  have f3 := hz3.free 3
  have f4 := hz3.free 4
  have f5 := hz3.free 5
  unfold zeroV at c0 c1 c2 c3 c4 c5
  simp only [List.getElem?_toArray, List.getElem?_cons_zero, List.getElem?_cons_succ] at c0 c1 c2 c3 c4 c5
  have hlt := hz3.lt
  unfold zeroV at hz3
  have hst := store6 (u0 := .int .i64 0) (u1 := .bool false) (u2 := .int .i64 0) (u3 := .string { data := #[] }) (u4 := .slice none 0 0) (u5 := .slice none 0 0) hz3
  have hkp := HK3.out.put6 (Nat.le_refl w.heap.size) (.int .i64 0) (.bool false) (.int .i64 0) (.string { data := #[] }) (.slice none 0 0) (.slice none 0 0)
  have hrp := HR3.out.put6 hg.symm (.int .i64 0) (.bool false) (.int .i64 0) (.string { data := #[] }) (.slice none 0 0) (.slice none 0 0)
  have HST := Lib.hid hst
  have HKP := Lib.hid hkp
  have HRP := Lib.hid hrp
  clear hst hkp hrp hz3
  go_wp2
  generalize hW : ((((((w3.setCell ⟨w.heap.size, 0, none⟩ (.int .i64 0)).setCell ⟨w.heap.size, 1, none⟩ (.bool false)).setCell ⟨w.heap.size, 2, none⟩ (.int .i64 0)).setCell ⟨w.heap.size, 3, none⟩ (.string { data := #[] })).setCell ⟨w.heap.size, 4, none⟩ (.slice none 0 0)).setCell ⟨w.heap.size, 5, none⟩ (.slice none 0 0)) = W at *
  have d0 := HST.out.cell 0
  have d1 := HST.out.cell 1
  have d2 := HST.out.cell 2
  have d3 := HST.out.cell 3
  have d4 := HST.out.cell 4
  have d5 := HST.out.cell 5
  simp only [List.getElem?_toArray, List.getElem?_cons_zero, List.getElem?_cons_succ] at d0 d1 d2 d3 d4 d5
  refine bodyPost_ret (v := .tuple #[.agg #[.int .i64 0, .bool false, .int .i64 0, .string { data := #[] }, .slice none 0 0, .slice none 0 0], .int .i64 21]) (by simp [results, Tryz.results77, go_sem, d0, d1, d2, d3, d4, d5]) rfl ?_
  exact vaE_err HE.out HKP.out HRP.out
 | some p =>
  obtain ⟨n, t⟩ := p
  rintro e w2 ⟨rfl, hk2, hr2⟩
  have HZ2 := Lib.hid (hk2.blk HZ9.out hg)
  have HK2 := Lib.hid (HK9.out.trans hk2)
  have HR2 := Lib.hid hr2
  have hE : res = .ok (.mk 2 false n [] [] []) t := by rw [Hpl.out, hq]
  have HE := Lib.hid hE
  clear hk2 hr2 hE hq
  go_wp2_with fail
  refine (made_yes _ _ _ _ _).mono ?_
  rintro e w3 ⟨_, rfl, hb3, rfl⟩
  have hz3 := HZ2.out.ext hb3
  have HK3 := Lib.hid (HK2.out.ext hb3)
  have HR3 := Lib.hid (HR2.out.ext hb3)
  clear hb3
  have c0 := hz3.cell 0
  have c1 := hz3.cell 1
  have c2 := hz3.cell 2
  have c3 := hz3.cell 3
  have c4 := hz3.cell 4
  have c5 := hz3.cell 5
  have f0 := hz3.free 0
  have f1 := hz3.free 1
  have f2 := hz3.free 2
  have f3 := hz3.free 3
  have f4 := hz3.free 4
  have f5 := hz3.free 5
  unfold zeroV at c0 c1 c2 c3 c4 c5
  simp only [List.getElem?_toArray, List.getElem?_cons_zero, List.getElem?_cons_succ] at c0 c1 c2 c3 c4 c5
  have hlt := hz3.lt
  unfold zeroV at hz3
  have hst := store6 (u0 := .int .i64 2) (u1 := .bool false) (u2 := .int .i64 n) (u3 := .string { data := #[] }) (u4 := .slice none 0 0) (u5 := .slice none 0 0) hz3
  have hkp := HK3.out.put6 (Nat.le_refl w.heap.size) (.int .i64 2) (.bool false) (.int .i64 n) (.string { data := #[] }) (.slice none 0 0) (.slice none 0 0)
  have hrp := HR3.out.put6 hg.symm (.int .i64 2) (.bool false) (.int .i64 n) (.string { data := #[] }) (.slice none 0 0) (.slice none 0 0)
  have HST := Lib.hid hst
  have HKP := Lib.hid hkp
  have HRP := Lib.hid hrp
  clear hst hkp hrp hz3
  go_wp2
  generalize hW : ((((((w3.setCell ⟨w.heap.size, 0, none⟩ (.int .i64 2)).setCell ⟨w.heap.size, 1, none⟩ (.bool false)).setCell ⟨w.heap.size, 2, none⟩ (.int .i64 n)).setCell ⟨w.heap.size, 3, none⟩ (.string { data := #[] })).setCell ⟨w.heap.size, 4, none⟩ (.slice none 0 0)).setCell ⟨w.heap.size, 5, none⟩ (.slice none 0 0)) = W at *
  have d0 := HST.out.cell 0
  have d1 := HST.out.cell 1
  have d2 := HST.out.cell 2
  have d3 := HST.out.cell 3
  have d4 := HST.out.cell 4
  have d5 := HST.out.cell 5
  simp only [List.getElem?_toArray, List.getElem?_cons_zero, List.getElem?_cons_succ] at d0 d1 d2 d3 d4 d5
  refine bodyPost_ret (v := .tuple #[.agg #[.int .i64 2, .bool false, .int .i64 n, .string { data := #[] }, .slice none 0 0, .slice none 0 0], .int .i64 0]) (by simp [results, Tryz.results77, go_sem, d0, d1, d2, d3, d4, d5]) rfl ?_
  exact vaE_leaf HE.out HKP.out HRP.out
set_option maxHeartbeats 2000000 in
theorem plain_true (b : Nat) (s : Nm) (o : Int) (w : World) (hG : Glob w) (_hb8 : 8 ≤ b) (h : RdAt w b s o) (_hs : s.length ≤ 1048576) (hc : comes (· == 34) s = false) (hd : comes (fun c => c == 45 || isFig c) s = false) (r : Nm) (t1 : takes trueL s = some r) : Calls Tryz.prog 77 #[.pointer (some ⟨b, 0, none⟩)] w (VaE w b o (plainL s)) := by
 have hpl : plainL s = .ok (.mk 1 true 0 [] [] []) r := by unfold plainL; rw [hc, hd]; simp only [Bool.false_eq_true, if_false]; rw [t1]
 have Hpl := Lib.hid hpl
 have HG := Lib.hid hG
 obtain ⟨res, hres⟩ : ∃ res, res = plainL s := ⟨_, rfl⟩
 rw [← hres] at Hpl ⊢
 have hbl := Blk.lt h
 have h1 := comes_any b s [34] o (w.alloc (.cells zeroV 36)) (h.ext (below_a1 _ _))
 rw [comes_one, hc] at h1
 have H1 := Lib.hid h1
 have hg : w.heap.size ≠ b := by omega
 have hz0 : Blk (w.alloc (.cells zeroV 36)) w.heap.size zeroV 36 := Blk.new rfl
 have HZ0 := Lib.hid hz0
 unfold zeroV at H1
 have h2 : Hid (∀ w, RdAt w b s o → Calls Tryz.prog 99 #[.pointer (some ⟨b, 0, none⟩), .string { data := #[45, 48, 49, 50, 51, 52, 53, 54, 55, 56, 57] }] w (ScE w b o (.bool false) s)) := Lib.hid fun w hw => by
  have := comes_any b s [45, 48, 49, 50, 51, 52, 53, 54, 55, 56, 57] o w hw
  rw [comes_num, hd] at this; exact this
 have T1 := Lib.hid t1
 have hE := Hpl.out
 have HE := Lib.hid hE
 clear hpl hres h1 hc h hz0 hG hd t1 hE
 go_enter Tryz.func77, Tryz.ntmps77
 go_wp2_with fail
 refine H1.out.mono ?_
 rintro e w1 ⟨rfl, hk1, hr1⟩
 have HZ1 := Lib.hid (hk1.blk HZ0.out hg)
 have HK1 := Lib.hid hk1.since
 have HR1 := Lib.hid hr1
 clear hk1 hr1
 go_wp2_with fail
 refine (h2.out w1 HR1.out).mono ?_
 rintro e w2 ⟨rfl, hk, hr⟩
 have HZ2 := Lib.hid (hk.blk HZ1.out hg)
 have HK2 := Lib.hid (HK1.out.trans hk)
 have HR2 := Lib.hid hr
 clear hk hr
 go_wp2_with fail
 refine (takes_yes b s trueL r o w2 HR2.out T1.out).mono ?_
 rintro e w3 ⟨rfl, hk, hr⟩
 have HZ3 := Lib.hid (hk.blk HZ2.out hg)
 have HK3 := Lib.hid (HK2.out.trans hk)
 have HR3 := Lib.hid hr
 clear hk hr
 have hz3 := HZ3.out
 have c0 := hz3.cell 0
 have c1 := hz3.cell 1
 have c2 := hz3.cell 2
 have c3 := hz3.cell 3
 have c4 := hz3.cell 4
 have c5 := hz3.cell 5
 have f0 := hz3.free 0
 have f1 := hz3.free 1
 have f2 := hz3.free 2
 have f3 := hz3.free 3
 have f4 := hz3.free 4
 have f5 := hz3.free 5
 unfold zeroV at c0 c1 c2 c3 c4 c5
 simp only [List.getElem?_toArray, List.getElem?_cons_zero, List.getElem?_cons_succ] at c0 c1 c2 c3 c4 c5
 have hlt := hz3.lt
 unfold zeroV at hz3
 have hst := store6 (u0 := .int .i64 1) (u1 := .bool true) (u2 := .int .i64 0) (u3 := .string { data := #[] }) (u4 := .slice none 0 0) (u5 := .slice none 0 0) hz3
 have hkp := HK3.out.put6 (Nat.le_refl w.heap.size) (.int .i64 1) (.bool true) (.int .i64 0) (.string { data := #[] }) (.slice none 0 0) (.slice none 0 0)
 have hrp := HR3.out.put6 hg.symm (.int .i64 1) (.bool true) (.int .i64 0) (.string { data := #[] }) (.slice none 0 0) (.slice none 0 0)
 have HST := Lib.hid hst
 have HKP := Lib.hid hkp
 have HRP := Lib.hid hrp
 clear hst hkp hrp hz3
 go_wp2
 generalize hW : ((((((w3.setCell ⟨w.heap.size, 0, none⟩ (.int .i64 1)).setCell ⟨w.heap.size, 1, none⟩ (.bool true)).setCell ⟨w.heap.size, 2, none⟩ (.int .i64 0)).setCell ⟨w.heap.size, 3, none⟩ (.string { data := #[] })).setCell ⟨w.heap.size, 4, none⟩ (.slice none 0 0)).setCell ⟨w.heap.size, 5, none⟩ (.slice none 0 0)) = W at *
 have d0 := HST.out.cell 0
 have d1 := HST.out.cell 1
 have d2 := HST.out.cell 2
 have d3 := HST.out.cell 3
 have d4 := HST.out.cell 4
 have d5 := HST.out.cell 5
 simp only [List.getElem?_toArray, List.getElem?_cons_zero, List.getElem?_cons_succ] at d0 d1 d2 d3 d4 d5
 refine bodyPost_ret (v := .tuple #[.agg #[.int .i64 1, .bool true, .int .i64 0, .string { data := #[] }, .slice none 0 0, .slice none 0 0], .int .i64 0]) (by simp [results, Tryz.results77, go_sem, d0, d1, d2, d3, d4, d5]) rfl ?_
 exact vaE_leaf HE.out HKP.out HRP.out
set_option maxHeartbeats 2000000 in
theorem plain_false (b : Nat) (s : Nm) (o : Int) (w : World) (hG : Glob w) (_hb8 : 8 ≤ b) (h : RdAt w b s o) (_hs : s.length ≤ 1048576) (hc : comes (· == 34) s = false) (hd : comes (fun c => c == 45 || isFig c) s = false) (r : Nm) (t1 : takes trueL s = none) (t2 : takes falseL s = some r) : Calls Tryz.prog 77 #[.pointer (some ⟨b, 0, none⟩)] w (VaE w b o (plainL s)) := by
 have hpl : plainL s = .ok (.mk 1 false 0 [] [] []) r := by unfold plainL; rw [hc, hd]; simp only [Bool.false_eq_true, if_false]; rw [t1, t2]
 have Hpl := Lib.hid hpl
 have HG := Lib.hid hG
 obtain ⟨res, hres⟩ : ∃ res, res = plainL s := ⟨_, rfl⟩
 rw [← hres] at Hpl ⊢
 have hbl := Blk.lt h
 have h1 := comes_any b s [34] o (w.alloc (.cells zeroV 36)) (h.ext (below_a1 _ _))
 rw [comes_one, hc] at h1
 have H1 := Lib.hid h1
 have hg : w.heap.size ≠ b := by omega
 have hz0 : Blk (w.alloc (.cells zeroV 36)) w.heap.size zeroV 36 := Blk.new rfl
 have HZ0 := Lib.hid hz0
 unfold zeroV at H1
 have h2 : Hid (∀ w, RdAt w b s o → Calls Tryz.prog 99 #[.pointer (some ⟨b, 0, none⟩), .string { data := #[45, 48, 49, 50, 51, 52, 53, 54, 55, 56, 57] }] w (ScE w b o (.bool false) s)) := Lib.hid fun w hw => by
  have := comes_any b s [45, 48, 49, 50, 51, 52, 53, 54, 55, 56, 57] o w hw
  rw [comes_num, hd] at this; exact this
 have T1 := Lib.hid t1
 have T2 := Lib.hid t2
 have hE := Hpl.out
 have HE := Lib.hid hE
 clear hpl hres h1 hc h hz0 hG hd t1 t2 hE
 go_enter Tryz.func77, Tryz.ntmps77
 go_wp2_with fail
 refine H1.out.mono ?_
 rintro e w1 ⟨rfl, hk1, hr1⟩
 have HZ1 := Lib.hid (hk1.blk HZ0.out hg)
 have HK1 := Lib.hid hk1.since
 have HR1 := Lib.hid hr1
 clear hk1 hr1
 go_wp2_with fail
 refine (h2.out w1 HR1.out).mono ?_
 rintro e w2 ⟨rfl, hk, hr⟩
 have HZ2 := Lib.hid (hk.blk HZ1.out hg)
 have HK2 := Lib.hid (HK1.out.trans hk)
 have HR2 := Lib.hid hr
 clear hk hr
 go_wp2_with fail
 refine (takes_no b s trueL o w2 HR2.out T1.out).mono ?_
 rintro e w3 ⟨rfl, hk, hr⟩
 have HZ3 := Lib.hid (hk.blk HZ2.out hg)
 have HK3 := Lib.hid (HK2.out.trans hk)
 have HR3 := Lib.hid hr
 clear hk hr
 go_wp2_with fail
 refine (takes_yes b s falseL r o w3 HR3.out T2.out).mono ?_
 rintro e w4 ⟨rfl, hk, hr⟩
 have HZ4 := Lib.hid (hk.blk HZ3.out hg)
 have HK4 := Lib.hid (HK3.out.trans hk)
 have HR4 := Lib.hid hr
 clear hk hr
 have hz3 := HZ4.out
 have c0 := hz3.cell 0
 have c1 := hz3.cell 1
 have c2 := hz3.cell 2
 have c3 := hz3.cell 3
 have c4 := hz3.cell 4
 have c5 := hz3.cell 5
 have f0 := hz3.free 0
 have f1 := hz3.free 1
 have f2 := hz3.free 2
 have f3 := hz3.free 3
 have f4 := hz3.free 4
 have f5 := hz3.free 5
 unfold zeroV at c0 c1 c2 c3 c4 c5
 simp only [List.getElem?_toArray, List.getElem?_cons_zero, List.getElem?_cons_succ] at c0 c1 c2 c3 c4 c5
 have hlt := hz3.lt
 unfold zeroV at hz3
 have hst := store6 (u0 := .int .i64 1) (u1 := .bool false) (u2 := .int .i64 0) (u3 := .string { data := #[] }) (u4 := .slice none 0 0) (u5 := .slice none 0 0) hz3
 have hkp := HK4.out.put6 (Nat.le_refl w.heap.size) (.int .i64 1) (.bool false) (.int .i64 0) (.string { data := #[] }) (.slice none 0 0) (.slice none 0 0)
 have hrp := HR4.out.put6 hg.symm (.int .i64 1) (.bool false) (.int .i64 0) (.string { data := #[] }) (.slice none 0 0) (.slice none 0 0)
 have HST := Lib.hid hst
 have HKP := Lib.hid hkp
 have HRP := Lib.hid hrp
 clear hst hkp hrp hz3
 go_wp2
 generalize hW : ((((((w4.setCell ⟨w.heap.size, 0, none⟩ (.int .i64 1)).setCell ⟨w.heap.size, 1, none⟩ (.bool false)).setCell ⟨w.heap.size, 2, none⟩ (.int .i64 0)).setCell ⟨w.heap.size, 3, none⟩ (.string { data := #[] })).setCell ⟨w.heap.size, 4, none⟩ (.slice none 0 0)).setCell ⟨w.heap.size, 5, none⟩ (.slice none 0 0)) = W at *
 have d0 := HST.out.cell 0
 have d1 := HST.out.cell 1
 have d2 := HST.out.cell 2
 have d3 := HST.out.cell 3
 have d4 := HST.out.cell 4
 have d5 := HST.out.cell 5
 simp only [List.getElem?_toArray, List.getElem?_cons_zero, List.getElem?_cons_succ] at d0 d1 d2 d3 d4 d5
 refine bodyPost_ret (v := .tuple #[.agg #[.int .i64 1, .bool false, .int .i64 0, .string { data := #[] }, .slice none 0 0, .slice none 0 0], .int .i64 0]) (by simp [results, Tryz.results77, go_sem, d0, d1, d2, d3, d4, d5]) rfl ?_
 exact vaE_leaf HE.out HKP.out HRP.out
set_option maxHeartbeats 2000000 in
theorem plain_null (b : Nat) (s : Nm) (o : Int) (w : World) (hG : Glob w) (_hb8 : 8 ≤ b) (h : RdAt w b s o) (_hs : s.length ≤ 1048576) (hc : comes (· == 34) s = false) (hd : comes (fun c => c == 45 || isFig c) s = false) (r : Nm) (t1 : takes trueL s = none) (t2 : takes falseL s = none) (t3 : takes nullL s = some r) : Calls Tryz.prog 77 #[.pointer (some ⟨b, 0, none⟩)] w (VaE w b o (plainL s)) := by
 have hpl : plainL s = .ok (.mk 0 false 0 [] [] []) r := by unfold plainL; rw [hc, hd]; simp only [Bool.false_eq_true, if_false]; rw [t1, t2, t3]; rfl
 have Hpl := Lib.hid hpl
 have HG := Lib.hid hG
 obtain ⟨res, hres⟩ : ∃ res, res = plainL s := ⟨_, rfl⟩
 rw [← hres] at Hpl ⊢
 have hbl := Blk.lt h
 have h1 := comes_any b s [34] o (w.alloc (.cells zeroV 36)) (h.ext (below_a1 _ _))
 rw [comes_one, hc] at h1
 have H1 := Lib.hid h1
 have hg : w.heap.size ≠ b := by omega
 have hz0 : Blk (w.alloc (.cells zeroV 36)) w.heap.size zeroV 36 := Blk.new rfl
 have HZ0 := Lib.hid hz0
 unfold zeroV at H1
 have h2 : Hid (∀ w, RdAt w b s o → Calls Tryz.prog 99 #[.pointer (some ⟨b, 0, none⟩), .string { data := #[45, 48, 49, 50, 51, 52, 53, 54, 55, 56, 57] }] w (ScE w b o (.bool false) s)) := Lib.hid fun w hw => by
  have := comes_any b s [45, 48, 49, 50, 51, 52, 53, 54, 55, 56, 57] o w hw
  rw [comes_num, hd] at this; exact this
 have T1 := Lib.hid t1
 have T2 := Lib.hid t2
 have T3 := Lib.hid t3
 have hE := Hpl.out
 have HE := Lib.hid hE
 clear hpl hres h1 hc h hz0 hG hd t1 t2 t3 hE
 go_enter Tryz.func77, Tryz.ntmps77
 go_wp2_with fail
 refine H1.out.mono ?_
 rintro e w1 ⟨rfl, hk1, hr1⟩
 have HZ1 := Lib.hid (hk1.blk HZ0.out hg)
 have HK1 := Lib.hid hk1.since
 have HR1 := Lib.hid hr1
 clear hk1 hr1
 go_wp2_with fail
 refine (h2.out w1 HR1.out).mono ?_
 rintro e w2 ⟨rfl, hk, hr⟩
 have HZ2 := Lib.hid (hk.blk HZ1.out hg)
 have HK2 := Lib.hid (HK1.out.trans hk)
 have HR2 := Lib.hid hr
 clear hk hr
 go_wp2_with fail
 refine (takes_no b s trueL o w2 HR2.out T1.out).mono ?_
 rintro e w3 ⟨rfl, hk, hr⟩
 have HZ3 := Lib.hid (hk.blk HZ2.out hg)
 have HK3 := Lib.hid (HK2.out.trans hk)
 have HR3 := Lib.hid hr
 clear hk hr
 go_wp2_with fail
 refine (takes_no b s falseL o w3 HR3.out T2.out).mono ?_
 rintro e w4 ⟨rfl, hk, hr⟩
 have HZ4 := Lib.hid (hk.blk HZ3.out hg)
 have HK4 := Lib.hid (HK3.out.trans hk)
 have HR4 := Lib.hid hr
 clear hk hr
 go_wp2_with fail
 refine (takes_yes b s nullL r o w4 HR4.out T3.out).mono ?_
 rintro e w5 ⟨rfl, hk, hr⟩
 have HZ5 := Lib.hid (hk.blk HZ4.out hg)
 have HK5 := Lib.hid (HK4.out.trans hk)
 have HR5 := Lib.hid hr
 clear hk hr
 go_wp2_with fail
 refine (made_yes _ _ _ _ _).mono ?_
 rintro e w9 ⟨_, rfl, hb3, rfl⟩
 have hz3 := HZ5.out.ext hb3
 have HK9 := Lib.hid (HK5.out.ext hb3)
 have HR9 := Lib.hid (HR5.out.ext hb3)
 clear hb3
 have c0 := hz3.cell 0
 have c1 := hz3.cell 1
 have c2 := hz3.cell 2
 have c3 := hz3.cell 3
 have c4 := hz3.cell 4
 have c5 := hz3.cell 5
 have f0 := hz3.free 0
 have f1 := hz3.free 1
 have f2 := hz3.free 2
 have f3 := hz3.free 3
 have f4 := hz3.free 4
 have f5 := hz3.free 5
 unfold zeroV at c0 c1 c2 c3 c4 c5
 simp only [List.getElem?_toArray, List.getElem?_cons_zero, List.getElem?_cons_succ] at c0 c1 c2 c3 c4 c5
 have hlt := hz3.lt
 unfold zeroV at hz3
 have hst := store6 (u0 := .int .i64 0) (u1 := .bool false) (u2 := .int .i64 0) (u3 := .string { data := #[] }) (u4 := .slice none 0 0) (u5 := .slice none 0 0) hz3
 have hkp := HK9.out.put6 (Nat.le_refl w.heap.size) (.int .i64 0) (.bool false) (.int .i64 0) (.string { data := #[] }) (.slice none 0 0) (.slice none 0 0)
 have hrp := HR9.out.put6 hg.symm (.int .i64 0) (.bool false) (.int .i64 0) (.string { data := #[] }) (.slice none 0 0) (.slice none 0 0)
 have HST := Lib.hid hst
 have HKP := Lib.hid hkp
 have HRP := Lib.hid hrp
 clear hst hkp hrp hz3
 go_wp2
 generalize hW : ((((((w9.setCell ⟨w.heap.size, 0, none⟩ (.int .i64 0)).setCell ⟨w.heap.size, 1, none⟩ (.bool false)).setCell ⟨w.heap.size, 2, none⟩ (.int .i64 0)).setCell ⟨w.heap.size, 3, none⟩ (.string { data := #[] })).setCell ⟨w.heap.size, 4, none⟩ (.slice none 0 0)).setCell ⟨w.heap.size, 5, none⟩ (.slice none 0 0)) = W at *
 have d0 := HST.out.cell 0
 have d1 := HST.out.cell 1
 have d2 := HST.out.cell 2
 have d3 := HST.out.cell 3
 have d4 := HST.out.cell 4
 have d5 := HST.out.cell 5
 simp only [List.getElem?_toArray, List.getElem?_cons_zero, List.getElem?_cons_succ] at d0 d1 d2 d3 d4 d5
 refine bodyPost_ret (v := .tuple #[.agg #[.int .i64 0, .bool false, .int .i64 0, .string { data := #[] }, .slice none 0 0, .slice none 0 0], .int .i64 0]) (by simp [results, Tryz.results77, go_sem, d0, d1, d2, d3, d4, d5]) rfl ?_
 exact vaE_leaf HE.out HKP.out HRP.out
set_option maxHeartbeats 2000000 in
theorem plain_none (b : Nat) (s : Nm) (o : Int) (w : World) (hG : Glob w) (_hb8 : 8 ≤ b) (h : RdAt w b s o) (_hs : s.length ≤ 1048576) (hc : comes (· == 34) s = false) (hd : comes (fun c => c == 45 || isFig c) s = false) (t1 : takes trueL s = none) (t2 : takes falseL s = none) (t3 : takes nullL s = none) : Calls Tryz.prog 77 #[.pointer (some ⟨b, 0, none⟩)] w (VaE w b o (plainL s)) := by
 have hpl : plainL s = .err 21 := by unfold plainL; rw [hc, hd]; simp only [Bool.false_eq_true, if_false]; rw [t1, t2, t3]
 have Hpl := Lib.hid hpl
 have HG := Lib.hid hG
 obtain ⟨res, hres⟩ : ∃ res, res = plainL s := ⟨_, rfl⟩
 rw [← hres] at Hpl ⊢
 have hbl := Blk.lt h
 have h1 := comes_any b s [34] o (w.alloc (.cells zeroV 36)) (h.ext (below_a1 _ _))
 rw [comes_one, hc] at h1
 have H1 := Lib.hid h1
 have hg : w.heap.size ≠ b := by omega
 have hz0 : Blk (w.alloc (.cells zeroV 36)) w.heap.size zeroV 36 := Blk.new rfl
 have HZ0 := Lib.hid hz0
 unfold zeroV at H1
 have h2 : Hid (∀ w, RdAt w b s o → Calls Tryz.prog 99 #[.pointer (some ⟨b, 0, none⟩), .string { data := #[45, 48, 49, 50, 51, 52, 53, 54, 55, 56, 57] }] w (ScE w b o (.bool false) s)) := Lib.hid fun w hw => by
  have := comes_any b s [45, 48, 49, 50, 51, 52, 53, 54, 55, 56, 57] o w hw
  rw [comes_num, hd] at this; exact this
 have T1 := Lib.hid t1
 have T2 := Lib.hid t2
 have T3 := Lib.hid t3
 have hE := Hpl.out
 have HE := Lib.hid hE
 clear hpl hres h1 hc h hz0 hG hd t1 t2 t3 hE
 go_enter Tryz.func77, Tryz.ntmps77
 go_wp2_with fail
 refine H1.out.mono ?_
 rintro e w1 ⟨rfl, hk1, hr1⟩
 have HZ1 := Lib.hid (hk1.blk HZ0.out hg)
 have HK1 := Lib.hid hk1.since
 have HR1 := Lib.hid hr1
 clear hk1 hr1
 go_wp2_with fail
 refine (h2.out w1 HR1.out).mono ?_
 rintro e w2 ⟨rfl, hk, hr⟩
 have HZ2 := Lib.hid (hk.blk HZ1.out hg)
 have HK2 := Lib.hid (HK1.out.trans hk)
 have HR2 := Lib.hid hr
 clear hk hr
 go_wp2_with fail
 refine (takes_no b s trueL o w2 HR2.out T1.out).mono ?_
 rintro e w3 ⟨rfl, hk, hr⟩
 have HZ3 := Lib.hid (hk.blk HZ2.out hg)
 have HK3 := Lib.hid (HK2.out.trans hk)
 have HR3 := Lib.hid hr
 clear hk hr
 go_wp2_with fail
 refine (takes_no b s falseL o w3 HR3.out T2.out).mono ?_
 rintro e w4 ⟨rfl, hk, hr⟩
 have HZ4 := Lib.hid (hk.blk HZ3.out hg)
 have HK4 := Lib.hid (HK3.out.trans hk)
 have HR4 := Lib.hid hr
 clear hk hr
 go_wp2_with fail
 refine (takes_no b s nullL o w4 HR4.out T3.out).mono ?_
 rintro e w5 ⟨rfl, hk, hr⟩
 have HZ5 := Lib.hid (hk.blk HZ4.out hg)
 have HK5 := Lib.hid (HK4.out.trans hk)
 have HR5 := Lib.hid hr
 clear hk hr
 go_wp2_with fail
 refine (made_no _ _ _ _ _ _ _).mono ?_
 rintro e w9 ⟨_, rfl, hb3, rfl⟩
 have hz3 := HZ5.out.ext hb3
 have HK9 := Lib.hid (HK5.out.ext hb3)
 have HR9 := Lib.hid (HR5.out.ext hb3)
 clear hb3
 have c0 := hz3.cell 0
 have c1 := hz3.cell 1
 have c2 := hz3.cell 2
 have c3 := hz3.cell 3
 have c4 := hz3.cell 4
 have c5 := hz3.cell 5
 have f0 := hz3.free 0
 have f1 := hz3.free 1
 have f2 := hz3.free 2
 have f3 := hz3.free 3
 have f4 := hz3.free 4
 have f5 := hz3.free 5
 unfold zeroV at c0 c1 c2 c3 c4 c5
 simp only [List.getElem?_toArray, List.getElem?_cons_zero, List.getElem?_cons_succ] at c0 c1 c2 c3 c4 c5
 have hlt := hz3.lt
 unfold zeroV at hz3
 have hst := store6 (u0 := .int .i64 0) (u1 := .bool false) (u2 := .int .i64 0) (u3 := .string { data := #[] }) (u4 := .slice none 0 0) (u5 := .slice none 0 0) hz3
 have hkp := HK9.out.put6 (Nat.le_refl w.heap.size) (.int .i64 0) (.bool false) (.int .i64 0) (.string { data := #[] }) (.slice none 0 0) (.slice none 0 0)
 have hrp := HR9.out.put6 hg.symm (.int .i64 0) (.bool false) (.int .i64 0) (.string { data := #[] }) (.slice none 0 0) (.slice none 0 0)
 have HST := Lib.hid hst
 have HKP := Lib.hid hkp
 have HRP := Lib.hid hrp
 clear hst hkp hrp hz3
 go_wp2
 generalize hW : ((((((w9.setCell ⟨w.heap.size, 0, none⟩ (.int .i64 0)).setCell ⟨w.heap.size, 1, none⟩ (.bool false)).setCell ⟨w.heap.size, 2, none⟩ (.int .i64 0)).setCell ⟨w.heap.size, 3, none⟩ (.string { data := #[] })).setCell ⟨w.heap.size, 4, none⟩ (.slice none 0 0)).setCell ⟨w.heap.size, 5, none⟩ (.slice none 0 0)) = W at *
 have d0 := HST.out.cell 0
 have d1 := HST.out.cell 1
 have d2 := HST.out.cell 2
 have d3 := HST.out.cell 3
 have d4 := HST.out.cell 4
 have d5 := HST.out.cell 5
 simp only [List.getElem?_toArray, List.getElem?_cons_zero, List.getElem?_cons_succ] at d0 d1 d2 d3 d4 d5
 refine bodyPost_ret (v := .tuple #[.agg #[.int .i64 0, .bool false, .int .i64 0, .string { data := #[] }, .slice none 0 0, .slice none 0 0], .int .i64 21]) (by simp [results, Tryz.results77, go_sem, d0, d1, d2, d3, d4, d5]) rfl ?_
 exact vaE_err HE.out HKP.out HRP.out
theorem plain_any (b : Nat) (s : Nm) (o : Int) (w : World) (hG : Glob w) (hb8 : 8 ≤ b) (h : RdAt w b s o) (hs : s.length ≤ 1048576) : Calls Tryz.prog 77 #[.pointer (some ⟨b, 0, none⟩)] w (VaE w b o (plainL s)) := by
  cases hc : comes (· == 34) s with
  | true => exact plain_text b s o w hG hb8 h hs hc
  | false =>
    cases hd : comes (fun c => c == 45 || isFig c) s with
    | true => exact plain_num b s o w hG hb8 h hs hc hd
    | false =>
      cases t1 : takes trueL s with
      | some r => exact plain_true b s o w hG hb8 h hs hc hd r t1
      | none =>
        cases t2 : takes falseL s with
        | some r => exact plain_false b s o w hG hb8 h hs hc hd r t1 t2
        | none =>
          cases t3 : takes nullL s with
          | some r => exact plain_null b s o w hG hb8 h hs hc hd r t1 t2 t3
          | none => exact plain_none b s o w hG hb8 h hs hc hd t1 t2 t3
end Go.Proofs.YthnbeebilomchaaGreatDoor

namespace Go.Proofs.YthnbeebilomchaaGreatDoor
open Go Go.RowKit

theorem Tryz.infoVal : (Tryz.prog.info? 36).map (fun i => (i.zero, i.size, i.bytes)) = some (some (.agg #[.int .i64 0, .bool false, .int .i64 0, .string ByteArray.empty, .slice none 0 0, .slice none 0 0]), 6, 88) := by kernel_rfl
theorem Tryz.infoStr : (Tryz.prog.info? 9).map (fun i => (i.zero, i.size, i.bytes)) = some (some (.string ByteArray.empty), 1, 16) := by kernel_rfl
theorem ne_types : 9 ≠ 36 := by decide

structure PV (w0 wr : World) (b : Nat) (sort : Int) (vs : List VD) (la : Option Addr) (lc : Nat) (ks : List Nm) (ka : Option Addr) (kc : Nat) : Prop where
  box : Blk wr w0.heap.size #[.pointer (some ⟨b, 0, none⟩)] 106
  res : Blk wr (w0.heap.size + 1) zeroV 36
  blk : Blk wr (w0.heap.size + 2) #[.int .i64 sort, .bool false, .int .i64 0, .string { data := #[] }, .slice la vs.length lc, .slice ka ks.length kc] 36
  own : Own wr (w0.heap.size + 3) 36 6 la vs.length lc (vs.flatMap VD.cells)
  kown : Own wr (w0.heap.size + 3) 9 1 ka ks.length kc (ks.map strV)
  at' : ∀ x ∈ vs, ValAt wr (fun k => w0.heap.size + 3 ≤ k ∧ rowOf la lc ≠ some k ∧ rowOf ka kc ≠ some k) x
  keep : Keep b w0 wr
theorem blockOf_ne {w : World} {base : Nat} {e : TypeId} {sz : Nat} {a : Option Addr} {n cap : Nat} {xs : List Value} (h : Own w base e sz a n cap xs) {b : Nat} (hb : b < base) : blockOf a ≠ some b := fun he => by have := h.base he; omega
section
variable {w0 wr w' : World} {b : Nat} {sort : Int} {vs : List VD} {la : Option Addr} {lc : Nat} {ks : List Nm} {ka : Option Addr} {kc : Nat}
theorem PV.turn (h : PV w0 wr b sort vs la lc ks ka kc) (hb : b < w0.heap.size) (k : Keep b wr w') : PV w0 w' b sort vs la lc ks ka kc :=
  ⟨k.blk h.box (by omega), k.blk h.res (by omega), k.blk h.blk (by omega), k.own h.own (blockOf_ne h.own (by omega)), k.own h.kown (blockOf_ne h.kown (by omega)),
    fun x hx => (h.at' x hx).congr fun g hg hlt => k.block hlt (by omega), h.keep.trans k⟩
theorem PV.ext (h : PV w0 wr b sort vs la lc ks ka kc) (hb : b < w0.heap.size) (k : Below wr.heap.size wr w') : PV w0 w' b sort vs la lc ks ka kc := h.turn hb ((Keep.refl b wr).ext k)
theorem PV.pushKey {ka' : Option Addr} {kc' : Nat} {k : Nm} (h : PV w0 wr b sort vs la lc ks ka kc) (ho : Own w' (w0.heap.size + 3) 9 1 ka' (ks.length + 1) kc' ((ks ++ [k]).map strV)) (hg : wr.grownBy w' (rowOf ka kc)) (hr : rowOf ka' kc' = rowOf ka kc ∨ ∃ j, rowOf ka' kc' = some j ∧ wr.heap.size ≤ j) :
  PV w0 (w'.setCell ⟨w0.heap.size + 2, 5, none⟩ (.slice ka' (ks.length + 1) kc')) b sort vs la lc (ks ++ [k]) ka' kc' := by
 have hap : ∀ j, j < w0.heap.size + 3 → some j ≠ rowOf ka kc := fun j hj => h.kown.apart hj
 have hsz : wr.heap.size ≤ w'.heap.size := hg.size
 have hbl := h.blk.lt
 have hl := (h.own.keptType h.kown ne_types.symm hg)
 refine ⟨(h.box.grown hg (hap _ (by omega))).other (p := ⟨w0.heap.size + 2, 5, none⟩) (by show w0.heap.size ≠ w0.heap.size + 2; omega) _, (h.res.grown hg (hap _ (by omega))).other (p := ⟨w0.heap.size + 2, 5, none⟩) (by show w0.heap.size + 1 ≠ w0.heap.size + 2; omega) _, ?_, ?_, ?_, ?_, ?_⟩
 ·
  have := (h.blk.grown hg (hap _ (by omega))).set 5 (.slice ka' (ks.length + 1) kc')
  simpa using this
 ·
  exact hl.setCell_other (p := ⟨w0.heap.size + 2, 5, none⟩) (blockOf_ne (b := w0.heap.size + 2) hl (by omega)) _
 ·
  have := ho.setCell_other (p := ⟨w0.heap.size + 2, 5, none⟩) (blockOf_ne (b := w0.heap.size + 2) ho (by omega)) (.slice ka' (ks.length + 1) kc')
  simpa using this
 ·
  intro x hx
  have h2 := (h.at' x hx).mono (q := fun k => (w0.heap.size + 3 ≤ k ∧ rowOf la lc ≠ some k ∧ rowOf ka kc ≠ some k) ∧ rowOf ka' kc' ≠ some k) fun g hp hlt => ⟨hp, by
   rcases hr with hr | ⟨j, hr, hj⟩
   ·
    rw [hr]; exact hp.2.2
   ·
    rw [hr]; intro e; injection e; omega⟩
  have h3 := h2.congr (w' := w'.setCell ⟨w0.heap.size + 2, 5, none⟩ (.slice ka' (ks.length + 1) kc')) fun g hp hlt => by
   rw [Below.heap_setCell w' ⟨w0.heap.size + 2, 5, none⟩ _ g (by show g ≠ w0.heap.size + 2; omega)]
   exact hg.block g hlt (fun e => hp.1.2.2 e.symm)
  exact h3.mono fun g hp _ => ⟨hp.1.1, hp.1.2.1, hp.2⟩
 ·
  exact (h.keep.grown hg (h.kown.rowBase (by omega))).put (by omega) _ _
theorem PV.pushVal {la' : Option Addr} {lc' : Nat} {x : VD} (h : PV w0 wr b sort vs la lc ks ka kc) (hx : ValAt wr (fun k => w0.heap.size + 3 ≤ k ∧ rowOf la lc ≠ some k ∧ rowOf ka kc ≠ some k) x) (ho : Own w' (w0.heap.size + 3) 36 6 la' (vs.length + 1) lc' ((vs ++ [x]).flatMap VD.cells))
  (hk : ∀ j, j < wr.heap.size → some j ≠ rowOf la lc → some j ≠ rowOf la' lc' → w'.heap[j]? = wr.heap[j]?) (hK : Below 0 wr w') (hr : rowOf la' lc' = rowOf la lc ∨ ∃ j, rowOf la' lc' = some j ∧ wr.heap.size ≤ j) :
  PV w0 (w'.setCell ⟨w0.heap.size + 2, 4, none⟩ (.slice la' (vs.length + 1) lc')) b sort (vs ++ [x]) la' lc' ks ka kc := by
 have hap : ∀ j, j < w0.heap.size + 3 → some j ≠ rowOf la lc := fun j hj => h.own.apart hj
 have hap2 : ∀ j, j < w0.heap.size + 3 → some j ≠ rowOf la' lc' := fun j hj => ho.apart hj
 have hbl := h.blk.lt
 have hkk : ∀ j, j < w0.heap.size + 3 → w'.heap[j]? = wr.heap[j]? := fun j hj => hk j (by omega) (hap j hj) (hap2 j hj)
 have hko : Own w' (w0.heap.size + 3) 9 1 ka ks.length kc (ks.map strV) := by
  refine ⟨h.kown.1, ?_⟩
  rcases h.kown.2 with h1 | ⟨g, off, cur, rfl, k2, k3, r⟩
  ·
   exact .inl h1
  ·
   refine .inr ⟨g, off, cur, rfl, k2, ?_, r⟩
   have hlt := (Array.getElem?_eq_some_iff.1 k3).1
   have hne : ∀ {a : Option Addr} {n c : Nat} {xs : List Value} {W : World}, Own W (w0.heap.size + 3) 36 6 a n c xs → W.heap[g]? = wr.heap[g]? → some g ≠ rowOf a c := fun {a n c xs W} o hW he => by
    unfold rowOf at he
    split at he
    ·
     cases he
    ·
     rename_i hc
     rcases o.2 with ⟨_, q, _⟩ | ⟨g', off', cur', rfl, _, q3, _⟩
     ·
      exact hc q
     ·
      simp [blockOf] at he; subst he
      rw [hW, k3] at q3
      simp only [Option.some.injEq, Obj.cells.injEq] at q3
      exact ne_types q3.2.1
   have h1 := hne h.own rfl
   have h2 : some g ≠ rowOf la' lc' := by
    rcases hr with hr | ⟨j, hr, hj⟩
    ·
     rw [hr]; exact h1
    ·
     rw [hr]; intro e; injection e; omega
   rw [hk g hlt h1 h2]; exact k3
 refine ⟨?_, ?_, ?_, ?_, ?_, ?_, ?_⟩
 ·
  exact Blk.other (p := ⟨w0.heap.size + 2, 4, none⟩) ((hkk _ (by omega)).trans h.box) (by show w0.heap.size ≠ w0.heap.size + 2; omega) _
 ·
  exact Blk.other (p := ⟨w0.heap.size + 2, 4, none⟩) ((hkk _ (by omega)).trans h.res) (by show w0.heap.size + 1 ≠ w0.heap.size + 2; omega) _
 ·
  have := Blk.set (w := w') (g := w0.heap.size + 2) ((hkk _ (by omega)).trans h.blk) 4 (.slice la' (vs.length + 1) lc')
  simpa using this
 ·
  have := ho.setCell_other (p := ⟨w0.heap.size + 2, 4, none⟩) (blockOf_ne (b := w0.heap.size + 2) ho (by omega)) (.slice la' (vs.length + 1) lc')
  simpa using this
 ·
  exact hko.setCell_other (p := ⟨w0.heap.size + 2, 4, none⟩) (blockOf_ne (b := w0.heap.size + 2) hko (by omega)) _
 ·
  intro y hy
  have hy2 : ValAt wr (fun k => w0.heap.size + 3 ≤ k ∧ rowOf la lc ≠ some k ∧ rowOf ka kc ≠ some k) y := by
   rcases List.mem_append.1 hy with hy | hy
   ·
    exact h.at' y hy
   ·
    rw [List.mem_singleton] at hy; rw [hy]; exact hx
  have h2 := hy2.mono (q := fun k => (w0.heap.size + 3 ≤ k ∧ rowOf la lc ≠ some k ∧ rowOf ka kc ≠ some k) ∧ rowOf la' lc' ≠ some k) fun g hp hlt => ⟨hp, by
   rcases hr with hr | ⟨j, hr, hj⟩
   ·
    rw [hr]; exact hp.2.1
   ·
    rw [hr]; intro e; injection e; omega⟩
  have h3 := h2.congr (w' := w'.setCell ⟨w0.heap.size + 2, 4, none⟩ (.slice la' (vs.length + 1) lc')) fun g hp hlt => by
   rw [Below.heap_setCell w' ⟨w0.heap.size + 2, 4, none⟩ _ g (by show g ≠ w0.heap.size + 2; omega)]
   exact hk g hlt (fun e => hp.1.2.1 e.symm) (fun e => hp.2 e.symm)
  exact h3.mono fun g hp _ => ⟨hp.1.1, hp.2, hp.1.2.2⟩
 ·
  refine Keep.put ⟨h.keep.1.trans hK, fun j hj hne => ?_⟩ (by omega) _ _
  have := h.keep.size
  exact (hkk j (by omega)).trans (h.keep.2 j hj hne)
end

theorem mem_ba (k : Nm) (ks : List Nm) : ((⟨k.toArray⟩ : ByteArray) ∈ ks.map fun x => (⟨x.toArray⟩ : ByteArray)) ↔ k ∈ ks := by
  rw [List.mem_map]
  constructor
  · rintro ⟨x, hx, he⟩
    have : x = k := by
      have h1 := congrArg (fun z : ByteArray => z.data.toList) he
      simpa using h1
    rw [← this]; exact hx
  · intro h; exact ⟨k, h, rfl⟩
theorem contains_any (a : Option Addr) (c : Nat) (ks : List Nm) (k : Nm) (w : World) (h : Row w 1 a ks.length (ks.map strV)) (hl : ks.length ≤ 1048576) : Calls Tryz.prog 113 #[.slice a ks.length c, .string ⟨k.toArray⟩] w fun e w' => e = .returned (.bool (decide (k ∈ ks))) ∧ w' = w := by
 cases ks with
 | nil => exact Tryz.slices_Contains_string_empty a c ⟨k.toArray⟩ w
 | cons x l =>
  obtain ⟨b, off, rfl, hc⟩ := h.2 (by simp)
  have h1 := Tryz.slices_Contains_string b off (x :: l).length c ((x :: l).map fun x => (⟨x.toArray⟩ : ByteArray)) ⟨k.toArray⟩ w (by simp) (by omega) (fun j hj => by
   rw [List.length_map] at hj
   have := hc j (by omega)
   rw [this]
   generalize x :: l = L at *
   rw [List.getElem?_map, List.getD_eq_getElem?_getD, List.getElem?_map, List.getElem?_eq_getElem hj]
   rfl)
  have e : Lib.containsS (((x :: l).map fun x => (⟨x.toArray⟩ : ByteArray)).take (x :: l).length) ⟨k.toArray⟩ = decide (k ∈ x :: l) := by
   rw [List.take_of_length_le (by simp), Bool.eq_iff_iff, Lib.containsS_iff, mem_ba, decide_eq_true_eq]
  rw [e] at h1
  exact h1
end Go.Proofs.YthnbeebilomchaaGreatDoor

namespace Go.Proofs.YthnbeebilomchaaGreatDoor
open Go Go.RowKit

def KyE (w0 : World) (b : Nat) (o : Int) (sort : Int) (vs : List VD) (la : Option Addr) (lc : Nat) (ks : List Nm) (res : Option (Nm × Nm)) (e : Ending) (w' : World) : Prop :=
  match res with
  | none => e = .returned (.int .i64 21) ∧ ∃ (t : Nm) (ks' : List Nm) (ka' : Option Addr) (kc' : Nat), RdAt w' b t o ∧ PV w0 w' b sort vs la lc ks' ka' kc'
  | some (k, t) => e = .returned (.int .i64 0) ∧ ∃ (ka' : Option Addr) (kc' : Nat), RdAt w' b t o ∧ PV w0 w' b sort vs la lc (ks ++ [k]) ka' kc'
theorem kyE_none {w0 : World} {b : Nat} {o sort : Int} {vs : List VD} {la : Option Addr} {lc : Nat} {ks : List Nm} {res : Option (Nm × Nm)} {w' : World} {t : Nm} {ks' : List Nm} {ka' : Option Addr} {kc' : Nat} (h : res = none) (h1 : RdAt w' b t o) (h2 : PV w0 w' b sort vs la lc ks' ka' kc') : KyE w0 b o sort vs la lc ks res (.returned (.int .i64 21)) w' := by
  rw [h]; exact ⟨rfl, t, ks', ka', kc', h1, h2⟩
theorem kyE_some {w0 : World} {b : Nat} {o sort : Int} {vs : List VD} {la : Option Addr} {lc : Nat} {ks : List Nm} {res : Option (Nm × Nm)} {w' : World} {k t : Nm} {ka' : Option Addr} {kc' : Nat} (h : res = some (k, t)) (h1 : RdAt w' b t o) (h2 : PV w0 w' b sort vs la lc (ks ++ [k]) ka' kc') : KyE w0 b o sort vs la lc ks res (.returned (.int .i64 0)) w' := by
  rw [h]; exact ⟨rfl, ka', kc', h1, h2⟩

set_option maxHeartbeats 4000000 in
theorem key_any (b : Nat) (s : Nm) (o : Int) (sort : Int) (w0 w : World) (vs : List VD) (la : Option Addr) (lc : Nat) (ks : List Nm) (ka : Option Addr) (kc : Nat) (hb : b < w0.heap.size) (h : RdAt w b s o) (hs : s.length ≤ 1048576) (hks : ks.length ≤ 1048576) (hP : PV w0 w b sort vs la lc ks ka kc) :
  Calls Tryz.prog 98 #[.pointer (some ⟨b, 0, none⟩), .pointer (some ⟨w0.heap.size + 2, 0, none⟩)] w (KyE w0 b o sort vs la lc ks (keyL s ks)) := by
 have hkl : keyL s ks = match quoteL (skip s) with | none => none | some (k, r) => if k ∈ ks then none else match takes [58] (skip r) with | none => none | some r => some (k, r) := rfl
 have Hkl := Lib.hid hkl
 obtain ⟨res, hres⟩ : ∃ res, res = keyL s ks := ⟨_, rfl⟩
 rw [← hres] at Hkl ⊢
 have h1 := skip_any b s o w h
 have H1 := Lib.hid h1
 have HP := Lib.hid hP
 have hsk := skip_len s
 clear hkl hres h1 h hP
 go_enter Tryz.func98, Tryz.ntmps98
 go_wp2_with fail
 refine H1.out.mono ?_
 rintro e w1 ⟨rfl, hk1, hr1⟩
 have HP1 := Lib.hid (HP.out.turn hb hk1)
 have HR1 := Lib.hid hr1
 clear hk1 hr1 H1 HP
 go_wp2_with fail
 refine (quote_any b (skip s) o w1 HR1.out (by omega)).mono ?_
 cases hq : quoteL (skip s) with
 | none =>
  rintro e w2 ⟨x, t, rfl, hk2, hr2⟩
  have HP2 := Lib.hid (HP1.out.turn hb hk2)
  have HR2 := Lib.hid hr2
  have hn : res = none := by rw [Hkl.out, hq]
  have Hn := Lib.hid hn
  clear hk2 hr2 hq hn
  unfold strV
  go_wp2
  go_ret
  exact kyE_none Hn.out HR2.out HP2.out
 | some p =>
  obtain ⟨k, r⟩ := p
  rintro e w2 ⟨rfl, hk2, hr2⟩
  have hp2 := HP1.out.turn hb hk2
  have HR2 := Lib.hid hr2
  have hlen := quoteL_len hq
  have hn : res = if k ∈ ks then none else match takes [58] (skip r) with | none => none | some r => some (k, r) := by rw [Hkl.out, hq]
  have hcon := contains_any ka kc ks k w2 hp2.kown.row hks
  have c5 := hp2.blk.cell 5
  have f5 := hp2.blk.free 5
  simp only [List.getElem?_toArray, List.getElem?_cons_zero, List.getElem?_cons_succ] at c5
  have HP2 := Lib.hid hp2
  have Hcon := Lib.hid hcon
  have HN := Lib.hid hn
  clear hk2 hr2 hq hn hcon hp2
  unfold strV
  go_wp2_with fail
  refine Hcon.out.mono ?_
  rintro e w3 ⟨rfl, rfl⟩
  by_cases hm : k ∈ ks
  ·
   have hn : res = none := by rw [HN.out, if_pos hm]
   have Hn := Lib.hid hn
   have hd : decide (k ∈ ks) = true := decide_eq_true hm
   rw [hd]
   clear hn hm hd Hcon
   go_wp2
   go_ret
   exact kyE_none Hn.out HR2.out HP2.out
  ·
   have hn : res = match takes [58] (skip r) with | none => none | some r => some (k, r) := by rw [HN.out, if_neg hm]
   have Hn := Lib.hid hn
   have hd : decide (k ∈ ks) = false := decide_eq_false hm
   rw [hd]
   have hg2 : w0.heap.size + 2 < w3.heap.size := HP2.out.blk.lt
   have hcap := HP2.out.kown.le
   clear hn hm hd Hcon
   go_wp2_with (at_builtin; refine wpList_append_Own rfl _ _ 24 rfl (w0.heap.size + 3) 9 _ 1 16 Tryz.underlying24 Tryz.infoStr rfl (by decide) ka ks.length kc _ rfl (by exact HP2.out.kown.alloc _) _ 1 1 [strV k] rfl (Row.new1 (by simp) rfl rfl) (by intro u hu; simp at hu; subst hu; rfl) (by unfold maxLen; omega) (by omega) (by simp; omega) ?_; intro a5 c5' w5 hown5 hg5 hbk5; have q5 : Blk w5 _ _ _ := (HP2.out.blk.alloc _).grown hg5 (HP2.out.kown.apart (by omega)); have q5c := q5.cell 5; have q5f := q5.free 5; clear q5; simp only [List.getElem?_toArray, List.getElem?_cons_zero, List.getElem?_cons_succ] at q5c)
   have HP5 : Hid (PV w0 (w5.setCell ⟨w0.heap.size + 2, 5, none⟩ (.slice a5 (ks.length + 1) c5')) b sort vs la lc (ks ++ [k]) a5 c5') := Lib.hid ((HP2.out.ext hb (below_a1 _ _)).pushKey (by rw [List.map_append]; exact hown5) hg5 (by
    rcases hbk5 with h | h
    ·
     exact .inl h
    ·
     exact .inr ⟨_, h, Nat.le_refl _⟩))
   have hrd5 : RdAt (w5.setCell ⟨w0.heap.size + 2, 5, none⟩ (.slice a5 (ks.length + 1) c5')) b r o := Blk.other (p := ⟨w0.heap.size + 2, 5, none⟩) (Blk.grown (Blk.alloc HR2.out _) hg5 (HP2.out.kown.apart (by omega))) (by show b ≠ w0.heap.size + 2; omega) _
   have HR5 := Lib.hid hrd5
   clear hown5 hg5 hbk5 q5c q5f hrd5 HP2 HR2 c5 f5
   generalize w5.setCell ⟨w0.heap.size + 2, 5, none⟩ (.slice a5 (ks.length + 1) c5') = w6 at *
   refine (skip_any b r o w6 HR5.out).mono ?_
   rintro e w7 ⟨rfl, hk7, hr7⟩
   have HP7 := Lib.hid (HP5.out.turn hb hk7)
   have HR7 := Lib.hid hr7
   clear hk7 hr7 HP5 HR5
   cases ht : takes [58] (skip r) with
   | none =>
    have hn : res = none := by rw [Hn.out, ht]
    have HN2 := Lib.hid hn
    have HT := Lib.hid ht
    clear hn ht
    go_wp2_with fail
    refine (takes_no b (skip r) [58] o w7 HR7.out HT.out).mono ?_
    rintro e w8 ⟨rfl, hk8, hr8⟩
    have HP8 := Lib.hid (HP7.out.turn hb hk8)
    have HR8 := Lib.hid hr8
    clear hk8 hr8
    go_wp2
    go_ret
    exact kyE_none HN2.out HR8.out HP8.out
   | some r2 =>
    have hn : res = some (k, r2) := by rw [Hn.out, ht]
    have HN2 := Lib.hid hn
    have HT := Lib.hid ht
    clear hn ht
    go_wp2_with fail
    refine (takes_yes b (skip r) [58] r2 o w7 HR7.out HT.out).mono ?_
    rintro e w8 ⟨rfl, hk8, hr8⟩
    have HP8 := Lib.hid (HP7.out.turn hb hk8)
    have HR8 := Lib.hid hr8
    clear hk8 hr8
    go_wp2
    go_ret
    exact kyE_some HN2.out HR8.out HP8.out
end Go.Proofs.YthnbeebilomchaaGreatDoor

namespace Go.Proofs.YthnbeebilomchaaGreatDoor
open Go Go.RowKit

theorem setCell_comm {w : World} {p q : Addr} {u v : Value} (h : p.block ≠ q.block) : (w.setCell p u).setCell q v = (w.setCell q v).setCell p u := by
  unfold World.setCell
  simp only [World.mk.injEq, and_true]
  apply Array.ext
  · simp
  · intro i h1 h2
    simp only [Array.getElem_modify]
    by_cases a : p.block = i
    · have b : ¬ q.block = i := fun b => h (a.trans b.symm)
      simp [a, b]
    · by_cases b : q.block = i
      · simp [a, b]
      · simp [a, b]
def put6 (w : World) (g o : Nat) (u0 u1 u2 u3 u4 u5 : Value) : World :=
  (((((w.setCell ⟨g, o, none⟩ u0).setCell ⟨g, o + 1, none⟩ u1).setCell ⟨g, o + 2, none⟩ u2).setCell ⟨g, o + 3, none⟩ u3).setCell ⟨g, o + 4, none⟩ u4).setCell ⟨g, o + 5, none⟩ u5
theorem put6_comm {w : World} {g o : Nat} {u0 u1 u2 u3 u4 u5 : Value} {q : Addr} {v : Value} (h : g ≠ q.block) : put6 (w.setCell q v) g o u0 u1 u2 u3 u4 u5 = (put6 w g o u0 u1 u2 u3 u4 u5).setCell q v := by
  have h' : ∀ j, (⟨g, j, none⟩ : Addr).block ≠ q.block := fun j => h
  unfold put6
  rw [setCell_comm (p := ⟨g, o + 5, none⟩) (h' _), setCell_comm (p := ⟨g, o + 4, none⟩) (h' _), setCell_comm (p := ⟨g, o + 3, none⟩) (h' _), setCell_comm (p := ⟨g, o + 2, none⟩) (h' _), setCell_comm (p := ⟨g, o + 1, none⟩) (h' _), setCell_comm (p := ⟨g, o, none⟩) (h' _)]

theorem dec_any (b n0 : Nat) (s : Nm) (o : Int) (u : FrameMode) (w : World) (hbox : Blk w n0 #[.pointer (some ⟨b, 0, none⟩)] 106) (h : RdAt w b s (o + 1)) (ho : 0 ≤ o) (ho2 : o ≤ 1000) :
    CallsD Tryz.prog 97 #[.pointer (some ⟨n0, 0, none⟩)] u w fun e u' w' => u' = u ∧ (e = .returned (.tuple #[]) ∧ w' = w.setCell ⟨b, 1, none⟩ (.int .i64 o)) := by
  have c0 := hbox.cell 0
  have c1 := h.c1
  have f1 := Blk.free h 1
  simp only [List.getElem?_toArray, List.getElem?_cons_zero] at c0
  go_enter_d Tryz.func97, Tryz.ntmps97
  go_wp2
  go_end0
  exact ⟨rfl, by simp⟩
theorem RdAt.open {w : World} {b : Nat} {s : Nm} {o : Int} (h : RdAt w b s o) (o' : Int) : RdAt (w.setCell ⟨b, 1, none⟩ (.int .i64 o')) b s o' := Blk.set h 1 _
theorem rowOf_pos {a : Option Addr} {c : Nat} (h : 0 < c) : rowOf a c = blockOf a := by unfold rowOf; rw [if_neg (by omega)]
theorem Own.put6 {w : World} {base : Nat} {e : TypeId} {g off cap : Nat} {vs : List VD} {z0 z1 z2 z3 z4 z5 : Value} (x : VD) (h : Own w base e 6 (some ⟨g, off, none⟩) (vs.length + 1) cap (vs.flatMap VD.cells ++ [z0, z1, z2, z3, z4, z5])) :
  Own (put6 w g (off + vs.length * 6) (.int .i64 x.sort) (.bool x.on) (.int .i64 x.n) (.string ⟨x.text.toArray⟩) (.slice x.a x.list.length x.c) (.slice x.ka x.keys.length x.kc)) base e 6 (some ⟨g, off, none⟩) (vs.length + 1) cap ((vs ++ [x]).flatMap VD.cells) := by
 have h0 := (h.store (j := vs.length * 6) (by omega) (.int .i64 x.sort)).2.1
 have h1 := (h0.store (j := vs.length * 6 + 1) (by omega) (.bool x.on)).2.1
 have h2 := (h1.store (j := vs.length * 6 + 2) (by omega) (.int .i64 x.n)).2.1
 have h3 := (h2.store (j := vs.length * 6 + 3) (by omega) (.string ⟨x.text.toArray⟩)).2.1
 have h4 := (h3.store (j := vs.length * 6 + 4) (by omega) (.slice x.a x.list.length x.c)).2.1
 have h5 := (h4.store (j := vs.length * 6 + 5) (by omega) (.slice x.ka x.keys.length x.kc)).2.1
 have hl : (vs.flatMap VD.cells).length = vs.length * 6 := flat_length VD.cells 6 VD.len vs
 have e : ((((((vs.flatMap VD.cells ++ [z0, z1, z2, z3, z4, z5]).set (vs.length * 6) (.int .i64 x.sort)).set (vs.length * 6 + 1) (.bool x.on)).set (vs.length * 6 + 2) (.int .i64 x.n)).set (vs.length * 6 + 3) (.string ⟨x.text.toArray⟩)).set (vs.length * 6 + 4) (.slice x.a x.list.length x.c)).set (vs.length * 6 + 5) (.slice x.ka x.keys.length x.kc) = (vs ++ [x]).flatMap VD.cells := by
  rw [List.flatMap_append, List.flatMap_singleton, ← hl, show x.cells = [.int .i64 x.sort, .bool x.on, .int .i64 x.n, .string ⟨x.text.toArray⟩, .slice x.a x.list.length x.c, .slice x.ka x.keys.length x.kc] from by cases x; rfl]
  simp
 rw [e] at h5
 simpa [Go.Proofs.YthnbeebilomchaaGreatDoor.put6, Nat.add_assoc] using h5
theorem Own.slots6 {w : World} {base : Nat} {e : TypeId} {g off cap : Nat} {vs : List VD} {z0 z1 z2 z3 z4 z5 : Value} (h : Own w base e 6 (some ⟨g, off, none⟩) (vs.length + 1) cap (vs.flatMap VD.cells ++ [z0, z1, z2, z3, z4, z5])) :
  (w.cell? ⟨g, off + vs.length * 6, none⟩ = some z0 ∧ w.cell? ⟨g, off + vs.length * 6 + 1, none⟩ = some z1 ∧ w.cell? ⟨g, off + vs.length * 6 + 2, none⟩ = some z2 ∧ w.cell? ⟨g, off + vs.length * 6 + 3, none⟩ = some z3 ∧ w.cell? ⟨g, off + vs.length * 6 + 4, none⟩ = some z4 ∧ w.cell? ⟨g, off + vs.length * 6 + 5, none⟩ = some z5) ∧
  (w.frozen? ⟨g, off + vs.length * 6, none⟩ = false ∧ w.frozen? ⟨g, off + vs.length * 6 + 1, none⟩ = false ∧ w.frozen? ⟨g, off + vs.length * 6 + 2, none⟩ = false ∧ w.frozen? ⟨g, off + vs.length * 6 + 3, none⟩ = false ∧ w.frozen? ⟨g, off + vs.length * 6 + 4, none⟩ = false ∧ w.frozen? ⟨g, off + vs.length * 6 + 5, none⟩ = false) ∧ base ≤ g := by
 have hl : (vs.flatMap VD.cells).length = vs.length * 6 := flat_length VD.cells 6 VD.len vs
 obtain ⟨b, o, he, hc⟩ := h.row.2 (by omega)
 cases he
 have hc' : ∀ i, i < 6 → w.cell? ⟨g, off + vs.length * 6 + i, none⟩ = [z0, z1, z2, z3, z4, z5][i]? := fun i hi => by
  rw [Nat.add_assoc, hc (vs.length * 6 + i) (by omega), List.getElem?_append_right (by omega), hl]
  congr 1
  omega
 have hf : ∀ i, i < 6 → w.frozen? ⟨g, off + vs.length * 6 + i, none⟩ = false := fun i hi => by
  rw [Nat.add_assoc]; exact (h.store (j := vs.length * 6 + i) (by omega) (.int .i64 0)).1
 exact ⟨⟨hc' 0 (by omega), hc' 1 (by omega), hc' 2 (by omega), hc' 3 (by omega), hc' 4 (by omega), hc' 5 (by omega)⟩, ⟨hf 0 (by omega), hf 1 (by omega), hf 2 (by omega), hf 3 (by omega), hf 4 (by omega), hf 5 (by omega)⟩, h.base rfl⟩
theorem put6_other {w : World} {g o : Nat} {u0 u1 u2 u3 u4 u5 : Value} {k : Nat} (h : k ≠ g) : (put6 w g o u0 u1 u2 u3 u4 u5).heap[k]? = w.heap[k]? := by
  have h' : ∀ j, k ≠ (⟨g, j, none⟩ : Addr).block := fun j => h
  unfold put6
  rw [Below.heap_setCell _ _ _ k (h' _), Below.heap_setCell _ _ _ k (h' _), Below.heap_setCell _ _ _ k (h' _), Below.heap_setCell _ _ _ k (h' _), Below.heap_setCell _ _ _ k (h' _), Below.heap_setCell _ _ _ k (h' _)]
theorem put6_below {w w' : World} {B g o : Nat} {u0 u1 u2 u3 u4 u5 : Value} (h : Below B w w') (hg : B ≤ g) : Below B w (put6 w' g o u0 u1 u2 u3 u4 u5) := by
  unfold put6
  exact (((((h.setCell (p := ⟨g, o, none⟩) hg _).setCell (p := ⟨g, o + 1, none⟩) hg _).setCell (p := ⟨g, o + 2, none⟩) hg _).setCell (p := ⟨g, o + 3, none⟩) hg _).setCell (p := ⟨g, o + 4, none⟩) hg _).setCell (p := ⟨g, o + 5, none⟩) hg _
end Go.Proofs.YthnbeebilomchaaGreatDoor
